/- The given statement of SpanRight, out of its walk. -/
import Derived.Test.YtncdkbhkjamdpaaR0
import Derived.Test.YtncdkbhkjamdpaaL3
namespace Go.Proofs.Ytncdkbhkjamdpaa.lawSpanRight
open Go.ChangeShapes Go.WideShapes Go.ChangeAt Go.RowKit Go.Deep

set_option maxHeartbeats 1000000 in
set_option maxRecDepth 100000 in
theorem lifted (os : Os) (started : os.Started) (H : Type) (enc : TypeId × Value → H) :
    ReturnsInHanded {} Try.checked os 3 .any (Rows.spanRightSpec.pre6 enc Try.prog Try.f3 Rows.spanRightRow.domain false) (Rows.spanRightSpec.post enc Try.prog Try.f3 false true false false) := by
  refine returnsInHanded_of_change_sized (C := Try.checked) own started (by kernel_rfl) Try.func3
    (ChangeSpec.witness6 (enc := enc) (C := Try.checked) false ⟨#[], #[.slice none 0 0], []⟩ 8 (by kernel_rfl) (by kernel_rfl) (by kernel_rfl) (by kernel_rfl)) ?_
  intro W base args ds gs before hval0 hW hcnd hsz0 _
  have hsz : (DataW.weightsEach Try.prog (Try.f3.params.toList ++ Rows.spanRightSpec.plain.varTypes Try.prog) (ds ++ gs)).all (· ≤ reachBytes) = true := hsz0
  have hval : ∀ (j : Nat) t v, Try.f3.params[j]? = some t → args[j]? = some v → Value.okWide Try.prog W .any base t v := hval0
  have hW' := hW
  obtain ⟨p, q, hA0, hV, rfl, hfz, hnd⟩ := hW
  have hA : DataW.TrodAll enc Try.prog W 0 (fun _ => true) true Try.f3.params.toList args.toList ds p := hA0
  rw [Try.params3] at hA hval hsz
  obtain ⟨v0, vs0, d0, ds0, p0, q0, hargs, rfl, rfl, h0, r0⟩ := trodAll_cons hA
  obtain ⟨rfl, rfl, rfl⟩ := trodAll_nil r0
  obtain rfl : args = #[v0] := by cases args; simp_all
  obtain ⟨rfl, rfl⟩ := trodVars_none hV
  have k0 := h0
  have lt0 : ∀ x ∈ p0, x.block < W.heap.size := by obtain ⟨m, hm⟩ := k0; exact DataW.trod_lt m _ _ _ hm
  obtain ⟨l0, r0', q0'⟩ : ∃ l, Rd 2 Sp.enc W v0 l ∧ ∀ x ∈ l, True := by
    obtain ⟨fuel, hf⟩ := h0
    exact rd_of_trod 2 Sp.enc (fun x => True) (by decide) Try.underlying22 (by kernel_rfl) (dec_span W) (okWide_slice Try.underlying22 (hval 0 22 v0 rfl rfl)) hf
  have y0 : l0.length * 16 ≤ 140737488351232 := by
    obtain ⟨a, c, e, _⟩ := r0'
    subst e
    exact len_of_trod (j := 0) hsz rfl rfl Try.underlying22 (by kernel_rfl) k0
  clear hA0 hval0 hsz0 hsz
  refine (spanRight_walk l0 _ W r0').mono fun e W' ⟨he, bel⟩ => ?_
  subst he
  exact ⟨_, rfl, _, _, _, [], _, [], hW', trodAll_mk1 (shut_bool Try.underlying4 _), (trodAll_cons_mk (Below.trod laidOut (by kernel_rfl) (of_decide_eq_true (by kernel_rfl)) k0 bel lt0) trodAll_mk0), rfl, bel.frame _, fun h => by cases h⟩
theorem over : Rows.spanRightRow.holds Try.pinned (OpenSpec.ofChange Rows.spanRightSpec) :=
  OpenClaim.holds_of_wide 3 Try.f3 rfl rfl rfl rfl rfl rfl rfl ⟨rfl, rfl, rfl, rfl, rfl⟩ rfl rfl rfl rfl rfl (by kernel_rfl) Try.func3 (by kernel_rfl)
    (of_decide_eq_true (by kernel_rfl)) (by unfold Func.isWrapper; first | (rw [if_pos (by decide +kernel)]; kernel_rfl) | (rw [if_neg (by decide +kernel)]; exact ⟨rfl, rfl⟩))
    (fun os started H enc _ => lifted os started H enc)
theorem proved : Rows.SpanRightSaid := over
#print axioms proved
end Go.Proofs.Ytncdkbhkjamdpaa.lawSpanRight
namespace Go.Proofs.Ytncdkbhkjamdpaa
/-- The given statement. -/
theorem spanRight_holds : Rows.SpanRightSaid := lawSpanRight.proved
end Go.Proofs.Ytncdkbhkjamdpaa
