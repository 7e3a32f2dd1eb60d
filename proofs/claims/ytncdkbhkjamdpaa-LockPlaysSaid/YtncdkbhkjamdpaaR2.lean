/- Arguments of a statement: lists of operations of chapter 18. -/
import Derived.Test.YtncdkbhkjamdpaaR0
import Derived.Test.YtncdkbhkjamdpaaK3
namespace Go.Proofs.Ytncdkbhkjamdpaa
open Go.ChangeShapes Go.WideShapes Go.ChangeAt Go.RowKit Go.Deep

section
variable {H : Type} {enc : TypeId × Value → H} {base : Nat} {spare : Nat → Bool} {held : Bool}
set_option maxRecDepth 100000 in
theorem dec_op18 (w : World) : ∀ n cs y, DataW.trod enc Try.prog w base spare held n 82 cs = some y → cs.length = 3 → ∃ x : O18, x.Ok ∧ cs = x.enc := by
  intro n cs y h hl
  match cs, hl with
  | [a, b, c], _ =>
    have hc3 : Try.prog.cellsOf 3 = 1 := by kernel_rfl
    have hc5 : Try.prog.cellsOf 5 = 1 := by kernel_rfl
    obtain ⟨ys, m, hm, hy, hlen, hyl, hf⟩ := DataW.trod_struct Try.underlying82 h
    have h0 := hf 0 _ rfl
    have h1 := hf 1 _ rfl
    have h2 := hf 2 _ rfl
    have hyl' : ys.length = 3 := hyl
    change DataW.trod enc Try.prog w base spare held m 5 (([a, b, c].drop 0).take (Try.prog.cellsOf 5)) = ys[0]? at h0
    change DataW.trod enc Try.prog w base spare held m 3 (([a, b, c].drop 1).take (Try.prog.cellsOf 3)) = ys[1]? at h1
    change DataW.trod enc Try.prog w base spare held m 3 (([a, b, c].drop 2).take (Try.prog.cellsOf 3)) = ys[2]? at h2
    rw [hc5] at h0
    rw [hc3] at h1 h2
    rw [List.getElem?_eq_getElem (by omega)] at h0 h1 h2
    obtain ⟨x0, e0, _, w0⟩ := DataW.trod_int Try.underlying5 h0
    obtain ⟨x1, e1, _, w1⟩ := DataW.trod_int Try.underlying3 h1
    obtain ⟨x2, e2, _, w2⟩ := DataW.trod_int Try.underlying3 h2
    simp at e0 e1 e2
    subst e0 e1 e2
    exact ⟨⟨x0, x1, x2⟩, ⟨bounds_u8 w0, bounds_i64 w1, bounds_i64 w2⟩, rfl⟩
end
end Go.Proofs.Ytncdkbhkjamdpaa
