/- Arguments of a statement: lists of bools. -/
import Derived.Test.YtncdkbhkjamdpaaR0
import Derived.Test.YtncdkbhkjamdpaaL19
import Derived.ChangeArms
namespace Go.Proofs.Ytncdkbhkjamdpaa
open Go.ChangeShapes Go.WideShapes Go.ChangeAt Go.RowKit Go.Deep

section
variable {H : Type} {enc : TypeId × Value → H} {base : Nat} {spare : Nat → Bool} {held : Bool}
theorem dec_bool (w : World) : ∀ n cs y, DataW.trod enc Try.prog w base spare held n 4 cs = some y → cs.length = 1 → ∃ x : Bool, True ∧ cs = encBo x := by
  intro n cs y h _
  obtain ⟨b, hb, _⟩ := DataW.trod_bool Try.underlying4 h
  exact ⟨b, trivial, hb⟩
end
end Go.Proofs.Ytncdkbhkjamdpaa
