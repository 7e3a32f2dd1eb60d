/- Facts of the whole program that each row asks for: reckoned once. -/
import Derived.Test.YtncdkbhkjamdpaaR0
namespace Go.Proofs.Ytncdkbhkjamdpaa
open Go.ChangeShapes Go.WideShapes Go.ChangeAt Go.RowKit Go.Deep

theorem p_laid : laidOutB Try.pinned.checked.prog = true := by kernel_rfl
theorem p_rowed : mapsRowed Try.pinned.checked.prog = true := by kernel_rfl
theorem p_stops : (Try.pinned.checked.prog.stops == []) = true := by kernel_rfl
theorem p_knobs : (Try.pinned.checked.prog.stopKnobs == []) = true := by kernel_rfl
theorem p_keys : (Rows.spanRightRow.plainKeys == Try.pinned.checked.prog.plainKeys) = true := by kernel_rfl
theorem p_heard : Try.pinned.checked.prog.stopsHeard = true := by kernel_rfl
theorem p_enter : Try.pinned.checked.prog.mayEnter = true := by kernel_rfl
theorem p_lift : (Rows.spanRightRow.lifted == Try.pinned.checked.prog.liftsFinal) = true := by kernel_rfl
end Go.Proofs.Ytncdkbhkjamdpaa
