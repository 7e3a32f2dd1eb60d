/- Arguments of a statement: a span by value. -/
import Derived.Test.YtncdkbhkjamdpaaR0
namespace Go.Proofs.Ytncdkbhkjamdpaa
open Go.ChangeShapes Go.WideShapes Go.ChangeAt Go.RowKit Go.Deep

section
variable {H : Type} {enc : TypeId × Value → H} {base : Nat} {spare : Nat → Bool} {held : Bool}
set_option maxRecDepth 100000 in
theorem open_span (w : World) {r : Reach} {b0 : Nat} {v : Value} {d : DataW H} {ps : List MemPlace} (hv : Value.okWide Try.prog w r b0 25 v) (h : DataW.Trod enc Try.prog w base spare held 25 v d ps) :
    ∃ s : Sp, v = .agg #[.int .i64 s.f, .int .i64 s.m] ∧ True := by
  obtain ⟨cs, rfl, hc⟩ := okWide_struct Try.underlying25 hv
  obtain ⟨n, h⟩ := h
  have hc2 : Try.prog.cellsOf 25 = 2 := by kernel_rfl
  rw [hc2] at hc
  obtain ⟨x, _, e⟩ := dec_span w n _ _ h (by simpa [Value.cells] using hc)
  refine ⟨x, ?_, trivial⟩
  have e' : cs.toList = x.enc := by simpa [Value.cells] using e
  have : cs = x.enc.toArray := by rw [← e']
  rw [this]
  rfl
end
end Go.Proofs.Ytncdkbhkjamdpaa
