/- The given statement of PmemPlays, out of its walk. -/
import Derived.Test.YtncdkbhkjamdpaaP0
import Derived.Test.YtncdkbhkjamdpaaR4
import Derived.Test.YtncdkbhkjamdpaaL18
namespace Go.Proofs.Ytncdkbhkjamdpaa.lawPmemPlays
open Go.ChangeShapes Go.WideShapes Go.ChangeAt Go.RowKit Go.Deep

set_option maxHeartbeats 1000000 in
set_option maxRecDepth 100000 in
theorem lifted (os : Os) (started : os.Started) (H : Type) (enc : TypeId × Value → H) :
    ReturnsInHanded {} Try.checked os 18 .any (Rows.pmemPlaysSpec.pre6 enc Try.prog Try.f18 Rows.pmemPlaysRow.domain false) (Rows.pmemPlaysSpec.post enc Try.prog Try.f18 false true false false) := by
  refine returnsInHanded_of_change_sized (C := Try.checked) own started (by kernel_rfl) Try.func18
    (ChangeSpec.witness6 (enc := enc) (C := Try.checked) false ⟨#[], #[.slice none 0 0, .slice none 0 0], []⟩ 8 (by kernel_rfl) (by kernel_rfl) (by kernel_rfl) (by kernel_rfl)) ?_
  intro W base args ds gs before hval0 hW hcnd hsz0 _
  have hsz : (DataW.weightsEach Try.prog (Try.f18.params.toList ++ Rows.pmemPlaysSpec.plain.varTypes Try.prog) (ds ++ gs)).all (· ≤ reachBytes) = true := hsz0
  have hval : ∀ (j : Nat) t v, Try.f18.params[j]? = some t → args[j]? = some v → Value.okWide Try.prog W .any base t v := hval0
  have hW' := hW
  obtain ⟨p, q, hA0, hV, rfl, hfz, hnd⟩ := hW
  have hA : DataW.TrodAll enc Try.prog W 0 (fun _ => true) true Try.f18.params.toList args.toList ds p := hA0
  rw [Try.params18] at hA hval hsz
  obtain ⟨v0, vs0, d0, ds0, p0, q0, hargs, rfl, rfl, h0, r0⟩ := trodAll_cons hA
  obtain ⟨v1, vs1, d1, ds1, p1, q1, rfl, rfl, rfl, h1, r1⟩ := trodAll_cons r0
  obtain ⟨rfl, rfl, rfl⟩ := trodAll_nil r1
  obtain rfl : args = #[v0, v1] := by cases args; simp_all
  obtain ⟨rfl, rfl⟩ := trodVars_none hV
  have k0 := h0
  have lt0 : ∀ x ∈ p0, x.block < W.heap.size := by obtain ⟨m, hm⟩ := k0; exact DataW.trod_lt m _ _ _ hm
  obtain ⟨l0, r0', q0'⟩ : ∃ l, Rd 1 encU W v0 l ∧ ∀ x ∈ l, 0 ≤ x ∧ x ≤ 18446744073709551615 := by
    obtain ⟨fuel, hf⟩ := h0
    exact rd_of_trod 1 encU (fun x => 0 ≤ x ∧ x ≤ 18446744073709551615) (by decide) Try.underlying92 (by kernel_rfl) (dec_u64 W) (okWide_slice Try.underlying92 (hval 0 92 v0 rfl rfl)) hf
  have y0 : l0.length * 8 ≤ 140737488351232 := by
    obtain ⟨a, c, e, _⟩ := r0'
    subst e
    exact len_of_trod (j := 0) hsz rfl rfl Try.underlying92 (by kernel_rfl) k0
  have k1 := h1
  have lt1 : ∀ x ∈ p1, x.block < W.heap.size := by obtain ⟨m, hm⟩ := k1; exact DataW.trod_lt m _ _ _ hm
  obtain ⟨l1, r1', q1'⟩ : ∃ l, Rd 5 O3.enc W v1 l ∧ ∀ x ∈ l, x.Ok W := by
    obtain ⟨fuel, hf⟩ := h1
    exact rd_of_trod 5 O3.enc (fun x => x.Ok W) (by decide) Try.underlying104 (by kernel_rfl) (dec_op03 W) (okWide_slice Try.underlying104 (hval 1 104 v1 rfl rfl)) hf
  clear hA0 hval0 hsz0 hsz
  refine (pmemPlays_walk l0 l1 _ _ W r0' r1' q1').mono fun e W' ⟨he, bel⟩ => ?_
  subst he
  exact ⟨_, rfl, _, _, _, [], _, [], hW', trodAll_mk1 (shut_bool Try.underlying4 _), (trodAll_cons_mk (Below.trod laidOut (by kernel_rfl) (of_decide_eq_true (by kernel_rfl)) k0 bel lt0) (trodAll_cons_mk (Below.trod laidOut (by kernel_rfl) (of_decide_eq_true (by kernel_rfl)) k1 bel lt1) trodAll_mk0)), rfl, bel.frame _, fun h => by cases h⟩
theorem named : Try.pinned.checked.prog.funcNamed Rows.pmemPlaysRow.func = some 18 := by kernel_rfl
theorem a3 : (Rows.pmemPlaysRow.inPlace == Try.pinned.checked.prog.inPlace 18) = true := by kernel_rfl
theorem a4 : (Rows.pmemPlaysRow.unfollowed == Try.pinned.checked.prog.unfollowed 18) = true := by kernel_rfl
theorem a5 : (Rows.pmemPlaysRow.recurses == Try.pinned.checked.prog.recurses 18) = true := by kernel_rfl
theorem a6 : (Rows.pmemPlaysRow.named == Try.pinned.checked.prog.varsNamed 18) = true := by kernel_rfl
theorem closed : joinedFacts Try.pinned.checked.prog 18 Try.f18 Rows.pmemPlaysSpec Rows.pmemPlaysRow = true := by
  unfold joinedFacts
  rw [show Rows.pmemPlaysRow.lifted = Rows.spanRightRow.lifted from rfl, show Rows.pmemPlaysRow.plainKeys = Rows.spanRightRow.plainKeys from rfl, p_laid, p_rowed, p_stops, p_knobs, p_keys, p_heard, p_enter, p_lift, a3, a4, a5, a6]
  kernel_rfl
theorem inst : Try.f18.isInstance Try.pinned.checked.prog Rows.pmemPlaysRow.origin Rows.pmemPlaysRow.targs := of_decide_eq_true (by kernel_rfl)
theorem wrap : Try.f18.isWrapper Try.pinned.checked.prog Rows.pmemPlaysRow.wrapper Rows.pmemPlaysRow.mainSum := by unfold Func.isWrapper; first | (rw [if_pos (by decide +kernel)]; kernel_rfl) | (rw [if_neg (by decide +kernel)]; exact ⟨rfl, rfl⟩)
theorem over : Rows.pmemPlaysRow.holds Try.pinned (OpenSpec.ofChange Rows.pmemPlaysSpec) :=
  OpenClaim.holds_of_wide 18 Try.f18 rfl rfl rfl rfl rfl rfl rfl ⟨rfl, rfl, rfl, rfl, rfl⟩ rfl rfl rfl rfl rfl named Try.func18 closed inst wrap
    (fun os started H enc _ => lifted os started H enc)
theorem proved : Rows.PmemPlaysSaid := over
#print axioms proved
end Go.Proofs.Ytncdkbhkjamdpaa.lawPmemPlays
namespace Go.Proofs.Ytncdkbhkjamdpaa
/-- The given statement. -/
theorem pmemPlays_holds : Rows.PmemPlaysSaid := lawPmemPlays.proved
end Go.Proofs.Ytncdkbhkjamdpaa
