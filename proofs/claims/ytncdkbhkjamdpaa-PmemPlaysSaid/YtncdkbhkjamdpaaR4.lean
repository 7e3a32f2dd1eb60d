/- Arguments of a statement: lists of operations of chapter 03 (each with a list of bytes). -/
import Derived.Test.YtncdkbhkjamdpaaR3
import Derived.Test.YtncdkbhkjamdpaaE5
namespace Go.Proofs.Ytncdkbhkjamdpaa
open Go.ChangeShapes Go.WideShapes Go.ChangeAt Go.RowKit Go.Deep

section
variable {H : Type} {enc : TypeId × Value → H} {base : Nat} {spare : Nat → Bool} {held : Bool}
set_option maxRecDepth 100000 in
theorem dec_op03 (w : World) : ∀ n cs y, DataW.trod enc Try.prog w base spare held n 110 cs = some y → cs.length = 5 → ∃ x : O3, x.Ok w ∧ cs = x.enc := by
  intro n cs y h hl
  match cs, hl with
  | [a, b, c, d, e], _ =>
    have hc3 : Try.prog.cellsOf 3 = 1 := by kernel_rfl
    have hc5 : Try.prog.cellsOf 5 = 1 := by kernel_rfl
    have hc51 : Try.prog.cellsOf 51 = 1 := by kernel_rfl
    have hc29 : Try.prog.cellsOf 29 = 1 := by kernel_rfl
    obtain ⟨ys, m, hm, hy, hlen, hyl, hf⟩ := DataW.trod_struct Try.underlying110 h
    have h0 := hf 0 _ rfl
    have h1 := hf 1 _ rfl
    have h2 := hf 2 _ rfl
    have h3 := hf 3 _ rfl
    have h4 := hf 4 _ rfl
    have hyl' : ys.length = 5 := hyl
    change DataW.trod enc Try.prog w base spare held m 5 (([a, b, c, d, e].drop 0).take (Try.prog.cellsOf 5)) = ys[0]? at h0
    change DataW.trod enc Try.prog w base spare held m 3 (([a, b, c, d, e].drop 1).take (Try.prog.cellsOf 3)) = ys[1]? at h1
    change DataW.trod enc Try.prog w base spare held m 3 (([a, b, c, d, e].drop 2).take (Try.prog.cellsOf 3)) = ys[2]? at h2
    change DataW.trod enc Try.prog w base spare held m 51 (([a, b, c, d, e].drop 3).take (Try.prog.cellsOf 51)) = ys[3]? at h3
    change DataW.trod enc Try.prog w base spare held m 29 (([a, b, c, d, e].drop 4).take (Try.prog.cellsOf 29)) = ys[4]? at h4
    rw [hc5] at h0
    rw [hc3] at h1 h2
    rw [hc51] at h3
    rw [hc29] at h4
    rw [List.getElem?_eq_getElem (by omega)] at h0 h1 h2 h3 h4
    obtain ⟨x0, e0, _, w0⟩ := DataW.trod_int Try.underlying5 h0
    obtain ⟨x1, e1, _, w1⟩ := DataW.trod_int Try.underlying3 h1
    obtain ⟨x2, e2, _, w2⟩ := DataW.trod_int Try.underlying3 h2
    obtain ⟨x3, e3, _, w3⟩ := DataW.trod_int Try.underlying51 h3
    simp at e0 e1 e2 e3
    subst e0 e1 e2 e3
    have hkv : ∃ p q r, e = .slice p q r := by
      rcases open_slice Try.underlying29 h4 with ⟨hcs, _⟩ | ⟨p, q, r, _, _, _, _, hcs, _⟩
      · simp at hcs; exact ⟨none, 0, 0, hcs⟩
      · simp at hcs; exact ⟨some p, q, r, hcs⟩
    obtain ⟨p, q, r, rfl⟩ := hkv
    obtain ⟨kl, hk, hb⟩ := rd_of_trod 1 (fun x => [Value.int .u8 x]) (fun x => 0 ≤ x ∧ x ≤ 255) (by decide) Try.underlying29 (by kernel_rfl) (dec_byte w) ⟨p, q, r, rfl⟩ (v := .slice p q r) (by simpa [Value.cells] using h4)
    exact ⟨⟨x0, x1, x2, x3, .slice p q r, kl⟩, ⟨bounds_u8 w0, hk, hb, bounds_i64 w1, bounds_i64 w2⟩, rfl⟩
end
end Go.Proofs.Ytncdkbhkjamdpaa
