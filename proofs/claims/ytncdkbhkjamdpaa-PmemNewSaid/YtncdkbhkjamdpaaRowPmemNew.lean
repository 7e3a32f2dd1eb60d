/- The given statement of PmemNew, out of its walk. -/
import Derived.Test.YtncdkbhkjamdpaaP0
import Derived.Test.YtncdkbhkjamdpaaR3
import Derived.Test.YtncdkbhkjamdpaaL17
namespace Go.Proofs.Ytncdkbhkjamdpaa.lawPmemNew
open Go.ChangeShapes Go.WideShapes Go.ChangeAt Go.RowKit Go.Deep

set_option maxHeartbeats 1000000 in
set_option maxRecDepth 100000 in
theorem lifted (os : Os) (started : os.Started) (H : Type) (enc : TypeId × Value → H) :
    ReturnsInHanded {} Try.checked os 17 .any (Rows.pmemNewSpec.pre6 enc Try.prog Try.f17 Rows.pmemNewRow.domain false) (Rows.pmemNewSpec.post enc Try.prog Try.f17 false true false false) := by
  refine returnsInHanded_of_change_sized (C := Try.checked) own started (by kernel_rfl) Try.func17
    (ChangeSpec.witness6 (enc := enc) (C := Try.checked) false ⟨#[], #[.int .i64 0, .slice none 0 0], []⟩ 8 (by kernel_rfl) (by kernel_rfl) (by kernel_rfl) (by kernel_rfl)) ?_
  intro W base args ds gs before hval0 hW hcnd hsz0 _
  have hsz : (DataW.weightsEach Try.prog (Try.f17.params.toList ++ Rows.pmemNewSpec.plain.varTypes Try.prog) (ds ++ gs)).all (· ≤ reachBytes) = true := hsz0
  have hval : ∀ (j : Nat) t v, Try.f17.params[j]? = some t → args[j]? = some v → Value.okWide Try.prog W .any base t v := hval0
  have hW' := hW
  obtain ⟨p, q, hA0, hV, rfl, hfz, hnd⟩ := hW
  have hA : DataW.TrodAll enc Try.prog W 0 (fun _ => true) true Try.f17.params.toList args.toList ds p := hA0
  rw [Try.params17] at hA hval hsz
  obtain ⟨v0, vs0, d0, ds0, p0, q0, hargs, rfl, rfl, h0, r0⟩ := trodAll_cons hA
  obtain ⟨v1, vs1, d1, ds1, p1, q1, rfl, rfl, rfl, h1, r1⟩ := trodAll_cons r0
  obtain ⟨rfl, rfl, rfl⟩ := trodAll_nil r1
  obtain rfl : args = #[v0, v1] := by cases args; simp_all
  obtain ⟨rfl, rfl⟩ := trodVars_none hV
  have k0 := h0
  have lt0 : ∀ x ∈ p0, x.block < W.heap.size := by obtain ⟨m, hm⟩ := k0; exact DataW.trod_lt m _ _ _ hm
  obtain ⟨n0, rfl, rfl, rfl, w0⟩ := open_int Try.underlying3 (hval 0 3 v0 rfl rfl) h0
  obtain ⟨n0l, n0h⟩ := bounds_i64 w0
  have k1 := h1
  have lt1 : ∀ x ∈ p1, x.block < W.heap.size := by obtain ⟨m, hm⟩ := k1; exact DataW.trod_lt m _ _ _ hm
  obtain ⟨l1, r1', q1'⟩ : ∃ l, Rd 1 encU W v1 l ∧ ∀ x ∈ l, 0 ≤ x ∧ x ≤ 18446744073709551615 := by
    obtain ⟨fuel, hf⟩ := h1
    exact rd_of_trod 1 encU (fun x => 0 ≤ x ∧ x ≤ 18446744073709551615) (by decide) Try.underlying92 (by kernel_rfl) (dec_u64 W) (okWide_slice Try.underlying92 (hval 1 92 v1 rfl rfl)) hf
  have y1 : l1.length * 8 ≤ 140737488351232 := by
    obtain ⟨a, c, e, _⟩ := r1'
    subst e
    exact len_of_trod (j := 1) hsz rfl rfl Try.underlying92 (by kernel_rfl) k1
  clear hA0 hval0 hsz0 hsz
  refine (pmemNew_walk n0 l1 _ W r1').mono fun e W' ⟨he, bel⟩ => ?_
  subst he
  exact ⟨_, rfl, _, _, _, [], _, [], hW', trodAll_mk1 (shut_bool Try.underlying4 _), (trodAll_cons_mk (Below.trod laidOut (by kernel_rfl) (of_decide_eq_true (by kernel_rfl)) k0 bel lt0) (trodAll_cons_mk (Below.trod laidOut (by kernel_rfl) (of_decide_eq_true (by kernel_rfl)) k1 bel lt1) trodAll_mk0)), rfl, bel.frame _, fun h => by cases h⟩
theorem named : Try.pinned.checked.prog.funcNamed Rows.pmemNewRow.func = some 17 := by kernel_rfl
theorem a3 : (Rows.pmemNewRow.inPlace == Try.pinned.checked.prog.inPlace 17) = true := by kernel_rfl
theorem a4 : (Rows.pmemNewRow.unfollowed == Try.pinned.checked.prog.unfollowed 17) = true := by kernel_rfl
theorem a5 : (Rows.pmemNewRow.recurses == Try.pinned.checked.prog.recurses 17) = true := by kernel_rfl
theorem a6 : (Rows.pmemNewRow.named == Try.pinned.checked.prog.varsNamed 17) = true := by kernel_rfl
theorem closed : joinedFacts Try.pinned.checked.prog 17 Try.f17 Rows.pmemNewSpec Rows.pmemNewRow = true := by
  unfold joinedFacts
  rw [show Rows.pmemNewRow.lifted = Rows.spanRightRow.lifted from rfl, show Rows.pmemNewRow.plainKeys = Rows.spanRightRow.plainKeys from rfl, p_laid, p_rowed, p_stops, p_knobs, p_keys, p_heard, p_enter, p_lift, a3, a4, a5, a6]
  kernel_rfl
theorem inst : Try.f17.isInstance Try.pinned.checked.prog Rows.pmemNewRow.origin Rows.pmemNewRow.targs := of_decide_eq_true (by kernel_rfl)
theorem wrap : Try.f17.isWrapper Try.pinned.checked.prog Rows.pmemNewRow.wrapper Rows.pmemNewRow.mainSum := by unfold Func.isWrapper; first | (rw [if_pos (by decide +kernel)]; kernel_rfl) | (rw [if_neg (by decide +kernel)]; exact ⟨rfl, rfl⟩)
theorem over : Rows.pmemNewRow.holds Try.pinned (OpenSpec.ofChange Rows.pmemNewSpec) :=
  OpenClaim.holds_of_wide 17 Try.f17 rfl rfl rfl rfl rfl rfl rfl ⟨rfl, rfl, rfl, rfl, rfl⟩ rfl rfl rfl rfl rfl named Try.func17 closed inst wrap
    (fun os started H enc _ => lifted os started H enc)
theorem proved : Rows.PmemNewSaid := over
#print axioms proved
end Go.Proofs.Ytncdkbhkjamdpaa.lawPmemNew
namespace Go.Proofs.Ytncdkbhkjamdpaa
/-- The given statement. -/
theorem pmemNew_holds : Rows.PmemNewSaid := lawPmemNew.proved
end Go.Proofs.Ytncdkbhkjamdpaa
