/- Arguments of a statement: lists of words. -/
import Derived.Test.YtncdkbhkjamdpaaR0
import Derived.Test.YtncdkbhkjamdpaaD3
namespace Go.Proofs.Ytncdkbhkjamdpaa
open Go.ChangeShapes Go.WideShapes Go.ChangeAt Go.RowKit Go.Deep

section
variable {H : Type} {enc : TypeId × Value → H} {base : Nat} {spare : Nat → Bool} {held : Bool}
theorem dec_u64 (w : World) : ∀ n cs y, DataW.trod enc Try.prog w base spare held n 51 cs = some y → cs.length = 1 → ∃ x : Int, (0 ≤ x ∧ x ≤ 18446744073709551615) ∧ cs = encU x := by
  intro n cs y h hl
  match cs, hl with
  | [a], _ =>
    obtain ⟨x, hx, _, hw⟩ := DataW.trod_int Try.underlying51 h
    simp at hx
    subst hx
    exact ⟨x, bounds_u64 hw, rfl⟩
end
end Go.Proofs.Ytncdkbhkjamdpaa
