/- The walks of span.gaps and span.Covers. -/
import Derived.Test.YtncdkbhkjamdpaaS9
namespace Go.Proofs.Ytncdkbhkjamdpaa
open Go.RowKit

attribute [local go_sem] Oper.semAt_some

set_option maxHeartbeats 400000 in
theorem gaps_c (A : Option Addr) (n c : Nat) (s : Sp) (w : World) :
    Calls Try.prog 83 #[.slice A n c, .agg #[.int .i64 s.f, .int .i64 s.m]] w fun e w' => e = .returned (.func (.func 120) #[] #[.pointer (some ⟨w.heap.size + 1, 0, none⟩), .pointer (some ⟨w.heap.size, 0, none⟩)]) ∧
      (w.alloc (.cells #[.slice A n c] 22)).alloc (.cells #[.int .i64 s.f, .int .i64 s.m] 25) = w' := by
  go_enter Try.func83, Try.ntmps83
  go_wp2
  go_ret
  exact ⟨rfl, rfl⟩

def coversB (l : List Sp) (s : Sp) : Bool := decide (gapsL l s = [])

set_option maxHeartbeats 4000000 in
set_option maxRecDepth 100000 in
theorem covers_c (l : List Sp) (s : Sp) (v : Value) (w : World) (hv : RdS w v l) (hb : BdL l) (hs : s.Bd) :
    Calls Try.prog 31 #[v, .agg #[.int .i64 s.f, .int .i64 s.m]] w fun e w' => e = .returned (.bool (coversB l s)) ∧ Below w.heap.size w w' := by
  have HV := hid_ hv
  obtain ⟨A, c, rfl, hl, hl', _⟩ := hv
  refine (callsIn_wide (n := 3)).1 ?_
  refine callsIn_of_wp_marks Try.func31 rfl trivial ?_ rfl
  simp only [Try.ntmps31, List.size_toArray, List.length_cons, List.length_nil, Nat.reduceAdd, Nat.reduceSub, Array.replicate_succ, Array.replicate_zero, List.push_toArray, List.append_toArray, List.nil_append, List.cons_append]
  have hf83 : Fence.wide.fn 83 := trivial
  gi_wp2_with (gi_at_call 83; refine (callsIn_wide.2 (gaps_c _ _ _ s _)).mono ?_; rintro e w' ⟨rfl, rfl⟩)
  obtain ⟨Wc, hWc⟩ : ∃ Wc, Wc = (((w.alloc (.cells #[.int .i64 s.f, .int .i64 s.m] 25)).alloc (.cells #[.bool false] 4)).alloc (.cells #[.slice A l.length c] 22)).alloc (.cells #[.int .i64 s.f, .int .i64 s.m] 25) := ⟨_, rfl⟩
  have hsz : Wc.heap.size = w.heap.size + 4 := by rw [hWc]; simp
  have hB0 : Below w.heap.size w Wc := by rw [hWc]; exact balloc (balloc (balloc (balloc' _ _) _) _) _
  have hR : Wc.heap[w.heap.size + 1]? = some (.cells #[.bool false] 4) := by
    rw [hWc, Below.heap_alloc _ _ _ (by simp), Below.heap_alloc _ _ _ (by simp)]
    have := heap_alloc_new (w.alloc (.cells #[.int .i64 s.f, .int .i64 s.m] 25)) (.cells #[.bool false] 4)
    rwa [World.size_alloc] at this
  have hL : Wc.heap[w.heap.size + 2]? = some (.cells #[.slice A l.length c] 22) := by
    rw [hWc, Below.heap_alloc _ _ _ (by simp)]
    have := heap_alloc_new ((w.alloc (.cells #[.int .i64 s.f, .int .i64 s.m] 25)).alloc (.cells #[.bool false] 4)) (.cells #[.slice A l.length c] 22)
    rwa [World.size_alloc, World.size_alloc] at this
  have hS : Wc.heap[w.heap.size + 3]? = some (.cells #[.int .i64 s.f, .int .i64 s.m] 25) := by
    rw [hWc]
    have := heap_alloc_new (((w.alloc (.cells #[.int .i64 s.f, .int .i64 s.m] 25)).alloc (.cells #[.bool false] 4)).alloc (.cells #[.slice A l.length c] 22)) (.cells #[.int .i64 s.f, .int .i64 s.m] 25)
    rwa [World.size_alloc, World.size_alloc, World.size_alloc] at this
  have hrow : rowOf (w.heap.size + 1) Wc = none := by
    unfold rowOf; rw [cell_blk hR (j := 0) rfl]; rfl
  rw [← hWc]
  clear hWc
  refine wpIn_rangeFunc_ownF (F := Fence.wide) rfl (by omega) (gf := 120) (lb := #[.pointer (some ⟨w.heap.size + 3, 0, none⟩), .pointer (some ⟨w.heap.size + 2, 0, none⟩)]) rfl trivial (enters_of Try.func120 (by kernel_rfl) rfl)
    (gaps_stops l s (.slice A l.length c) w Wc HV.out hb hs hB0 (w.heap.size + 2) (w.heap.size + 3) (w.heap.size + 1) hL hS (by omega) (by rw [hrow]; simp)) KpA.trans (kpA_b (by omega) (by omega)) (Below.refl _ _) (fun _ => rfl)
    (fun pre W => (pre = [] ∧ W.cell? ⟨w.heap.size + 1, 0, none⟩ = some (.bool false) ∧ W.frozen? ⟨w.heap.size + 1, 0, none⟩ = false) ∧ Below w.heap.size w W)
    (fun c pre W => (c = .ret ∧ pre ≠ [] ∧ W.cell? ⟨w.heap.size + 1, 0, none⟩ = some (.bool false)) ∧ Below w.heap.size w W)
    (OwnFrom.and (Own.from (fun s A B row hs hg hr => ⟨hs.1, cell_kept hs.2.1 hg hr, (frozen_kept hs.2.1 hg hr).trans hs.2.2⟩) _) (ownFrom_below (Nat.le_refl _) (by omega)))
    (fun c => OwnFrom.and (Own.from (fun s A B row hs hg hr => ⟨hs.1, hs.2.1, cell_kept hs.2.2 hg hr⟩) _) (ownFrom_below (Nat.le_refl _) (by omega)))
    ⟨⟨rfl, cell_blk hR (j := 0) rfl, frozen_blk hR⟩, hB0⟩
    (fun x => { tmps := #[.slice A l.length c, .agg #[.int .i64 s.f, .int .i64 s.m], undef, .pointer (some ⟨w.heap.size, 0, none⟩), .pointer (some ⟨w.heap.size + 1, 0, none⟩), .slice A l.length c, .agg #[.int .i64 s.f, .int .i64 s.m], .func (.func 120) #[] #[.pointer (some ⟨w.heap.size + 3, 0, none⟩), .pointer (some ⟨w.heap.size + 2, 0, none⟩)], .agg #[.int .i64 x.f, .int .i64 x.m]], defers := [] }) ?assign ?body ?done ?stop
  case assign =>
    intro l x W K hK
    simp only [encV]
    gi_wp2
    simpa using hK
  case body =>
    rintro L pre x W ⟨⟨rfl, hcr, hfr⟩, hB⟩ _
    gi_wp2
    exact ⟨KeepsOthers.setCell _ _ _, ⟨rfl, by simp, World.cell?_setCell_same' _ _ _ (by rw [hcr]; rfl)⟩, hB.setCell (p := ⟨w.heap.size + 1, 0, none⟩) (by simp) _⟩
  case done =>
    rintro D ys W hD hys ⟨⟨h0, hcr, hfr⟩, hB⟩ hK
    gi_wp2
    have hK' := (KeepsOthers.setCell W ⟨w.heap.size + 1, 0, none⟩ (.bool true)).same D _ hK rfl
    refine ⟨by simp, .inl ⟨_, _, rfl, run_takeDeferred hK', ?_⟩⟩
    have hc5 := cell_kept (World.cell?_setCell_same' W ⟨w.heap.size + 1, 0, none⟩ (.bool true) (by rw [hcr]; rfl)) (grownBy_putObj' _ D (.deferred none)) (fun r e => by cases e; exact ⟨_, hK', rfl⟩)
    refine ⟨.bool true, ?_, by rw [coversB, decide_eq_true (hys ▸ h0)], (hB.setCell (p := ⟨w.heap.size + 1, 0, none⟩) (by simp) _).trans (belowK_b (w := w) (Nat.le_refl _) _ D _ _ (by omega) hK' rfl rfl)⟩
    simp [results, Try.f31, go_sem, hc5]
  case stop =>
    rintro D c pre W hD hpre ⟨⟨rfl, hin, hcr⟩, hB⟩ hK
    gi_wp2
    refine ⟨by simp, .inl ⟨_, _, rfl, run_takeDeferred hK, ?_⟩⟩
    have hc5 := cell_kept hcr (grownBy_putObj' _ D (.deferred none)) (fun r e => by cases e; exact ⟨_, hK, rfl⟩)
    refine ⟨.bool false, ?_, by rw [coversB, decide_eq_false (fun h => by rw [h] at hpre; exact hin (List.prefix_nil.1 hpre))], hB.trans (belowK_b (w := w) (Nat.le_refl _) W D _ _ (by omega) hK rfl rfl)⟩
    simp [results, Try.f31, go_sem, hc5]
end Go.Proofs.Ytncdkbhkjamdpaa
