/- Chapter 20: what the walks of its statements share. -/
import Derived.Test.YtncdkbhkjamdpaaT11
import Derived.Test.YtncdkbhkjamdpaaT12
import Derived.Test.YtncdkbhkjamdpaaT13
namespace Go.Proofs.Ytncdkbhkjamdpaa
open Go.RowKit Go.Maps

theorem PE.b {w0 w : World} {tb mb rb k : Nat} (h : PE w0 tb mb rb k w) : Below w0.heap.size w0 w := by
  obtain ⟨_, _, _, _, _, _, _, _, hp, _⟩ := h.ex
  exact hp.b
theorem pe_new {w0 w1 w2 : World} {tb mb : Nat} (ht : TxT w2 tb mb 0 (.slice none 0 0) (.slice none 0 0) newT) (hb1 : Below w0.heap.size w0 w1) (hb : Below w1.heap.size w1 w2) (h1 : w1.heap.size ≤ tb) (h2 : w1.heap.size ≤ mb) :
    PE w0 tb mb w2.heap.size 0 (w2.alloc (.cells #[.int .i64 0, .bool false, .slice none 0 0, .slice none 0 0, .slice none 0 0, .int .i64 0, .bool false] 47)) := by
  have s1 := hb1.size
  have s2 := hb.size
  refine PE.of (n := 0) (wv := .slice none 0 0) (gv := .slice none 0 0) (rwv := .slice none 0 0) (rfv := .slice none 0 0) (rgv := .slice none 0 0) ⟨⟨ht.mono (balloc' _ _), ⟨heap_alloc_new w2 _, World.ownsRow_nil _ _ _ _, World.ownsRow_nil _ _ _ _, World.ownsRow_nil _ _ _ _⟩, (fun g hg => by cases hg), (fun g hg => by cases hg)⟩, (fun g hg => by cases hg), (fun g hg => by cases hg), (fun g hg => by cases hg), by omega, by omega, by omega, balloc (btr hb1 hb) _⟩ al_new
end Go.Proofs.Ytncdkbhkjamdpaa
