/- The given statement of PmemOwn, out of its walk. -/
import Derived.Test.YtncdkbhkjamdpaaP0
import Derived.Test.YtncdkbhkjamdpaaR3
import Derived.Test.YtncdkbhkjamdpaaL16
namespace Go.Proofs.Ytncdkbhkjamdpaa.lawPmemOwn
open Go.ChangeShapes Go.WideShapes Go.ChangeAt Go.RowKit Go.Deep

set_option maxHeartbeats 1000000 in
set_option maxRecDepth 100000 in
theorem lifted (os : Os) (started : os.Started) (H : Type) (enc : TypeId × Value → H) :
    ReturnsInHanded {} Try.checked os 16 .any (Rows.pmemOwnSpec.pre6 enc Try.prog Try.f16 Rows.pmemOwnRow.domain false) (Rows.pmemOwnSpec.post enc Try.prog Try.f16 false true false false) := by
  refine returnsInHanded_of_change_sized (C := Try.checked) own started (by kernel_rfl) Try.func16
    (ChangeSpec.witness6 (enc := enc) (C := Try.checked) false ⟨#[], #[.slice none 0 0, .int .u8 0, .int .u64 0], []⟩ 8 (by kernel_rfl) (by kernel_rfl) (by kernel_rfl) (by kernel_rfl)) ?_
  intro W base args ds gs before hval0 hW hcnd hsz0 _
  have hsz : (DataW.weightsEach Try.prog (Try.f16.params.toList ++ Rows.pmemOwnSpec.plain.varTypes Try.prog) (ds ++ gs)).all (· ≤ reachBytes) = true := hsz0
  have hval : ∀ (j : Nat) t v, Try.f16.params[j]? = some t → args[j]? = some v → Value.okWide Try.prog W .any base t v := hval0
  have hW' := hW
  obtain ⟨p, q, hA0, hV, rfl, hfz, hnd⟩ := hW
  have hA : DataW.TrodAll enc Try.prog W 0 (fun _ => true) true Try.f16.params.toList args.toList ds p := hA0
  rw [Try.params16] at hA hval hsz
  obtain ⟨v0, vs0, d0, ds0, p0, q0, hargs, rfl, rfl, h0, r0⟩ := trodAll_cons hA
  obtain ⟨v1, vs1, d1, ds1, p1, q1, rfl, rfl, rfl, h1, r1⟩ := trodAll_cons r0
  obtain ⟨v2, vs2, d2, ds2, p2, q2, rfl, rfl, rfl, h2, r2⟩ := trodAll_cons r1
  obtain ⟨rfl, rfl, rfl⟩ := trodAll_nil r2
  obtain rfl : args = #[v0, v1, v2] := by cases args; simp_all
  obtain ⟨rfl, rfl⟩ := trodVars_none hV
  have k0 := h0
  have lt0 : ∀ x ∈ p0, x.block < W.heap.size := by obtain ⟨m, hm⟩ := k0; exact DataW.trod_lt m _ _ _ hm
  obtain ⟨l0, r0', q0'⟩ : ∃ l, Rd 1 encU W v0 l ∧ ∀ x ∈ l, 0 ≤ x ∧ x ≤ 18446744073709551615 := by
    obtain ⟨fuel, hf⟩ := h0
    exact rd_of_trod 1 encU (fun x => 0 ≤ x ∧ x ≤ 18446744073709551615) (by decide) Try.underlying92 (by kernel_rfl) (dec_u64 W) (okWide_slice Try.underlying92 (hval 0 92 v0 rfl rfl)) hf
  have y0 : l0.length * 8 ≤ 140737488351232 := by
    obtain ⟨a, c, e, _⟩ := r0'
    subst e
    exact len_of_trod (j := 0) hsz rfl rfl Try.underlying92 (by kernel_rfl) k0
  have k1 := h1
  have lt1 : ∀ x ∈ p1, x.block < W.heap.size := by obtain ⟨m, hm⟩ := k1; exact DataW.trod_lt m _ _ _ hm
  obtain ⟨n1, rfl, rfl, rfl, w1⟩ := open_int Try.underlying5 (hval 1 5 v1 rfl rfl) h1
  obtain ⟨n1l, n1h⟩ := bounds_u8 w1
  have k2 := h2
  have lt2 : ∀ x ∈ p2, x.block < W.heap.size := by obtain ⟨m, hm⟩ := k2; exact DataW.trod_lt m _ _ _ hm
  obtain ⟨n2, rfl, rfl, rfl, w2⟩ := open_int Try.underlying51 (hval 2 51 v2 rfl rfl) h2
  obtain ⟨n2l, n2h⟩ := bounds_u64 w2
  clear hA0 hval0 hsz0 hsz
  refine (pmemOwn_walk l0 _ n1 n2 W r0' n1l n1h).mono fun e W' ⟨he, bel⟩ => ?_
  subst he
  exact ⟨_, rfl, _, _, _, [], _, [], hW', trodAll_mk1 (shut_bool Try.underlying4 _), (trodAll_cons_mk (Below.trod laidOut (by kernel_rfl) (of_decide_eq_true (by kernel_rfl)) k0 bel lt0) (trodAll_cons_mk (Below.trod laidOut (by kernel_rfl) (of_decide_eq_true (by kernel_rfl)) k1 bel lt1) (trodAll_cons_mk (Below.trod laidOut (by kernel_rfl) (of_decide_eq_true (by kernel_rfl)) k2 bel lt2) trodAll_mk0))), rfl, bel.frame _, fun h => by cases h⟩
theorem named : Try.pinned.checked.prog.funcNamed Rows.pmemOwnRow.func = some 16 := by kernel_rfl
theorem a3 : (Rows.pmemOwnRow.inPlace == Try.pinned.checked.prog.inPlace 16) = true := by kernel_rfl
theorem a4 : (Rows.pmemOwnRow.unfollowed == Try.pinned.checked.prog.unfollowed 16) = true := by kernel_rfl
theorem a5 : (Rows.pmemOwnRow.recurses == Try.pinned.checked.prog.recurses 16) = true := by kernel_rfl
theorem a6 : (Rows.pmemOwnRow.named == Try.pinned.checked.prog.varsNamed 16) = true := by kernel_rfl
theorem closed : joinedFacts Try.pinned.checked.prog 16 Try.f16 Rows.pmemOwnSpec Rows.pmemOwnRow = true := by
  unfold joinedFacts
  rw [show Rows.pmemOwnRow.lifted = Rows.spanRightRow.lifted from rfl, show Rows.pmemOwnRow.plainKeys = Rows.spanRightRow.plainKeys from rfl, p_laid, p_rowed, p_stops, p_knobs, p_keys, p_heard, p_enter, p_lift, a3, a4, a5, a6]
  kernel_rfl
theorem inst : Try.f16.isInstance Try.pinned.checked.prog Rows.pmemOwnRow.origin Rows.pmemOwnRow.targs := of_decide_eq_true (by kernel_rfl)
theorem wrap : Try.f16.isWrapper Try.pinned.checked.prog Rows.pmemOwnRow.wrapper Rows.pmemOwnRow.mainSum := by unfold Func.isWrapper; first | (rw [if_pos (by decide +kernel)]; kernel_rfl) | (rw [if_neg (by decide +kernel)]; exact ⟨rfl, rfl⟩)
theorem over : Rows.pmemOwnRow.holds Try.pinned (OpenSpec.ofChange Rows.pmemOwnSpec) :=
  OpenClaim.holds_of_wide 16 Try.f16 rfl rfl rfl rfl rfl rfl rfl ⟨rfl, rfl, rfl, rfl, rfl⟩ rfl rfl rfl rfl rfl named Try.func16 closed inst wrap
    (fun os started H enc _ => lifted os started H enc)
theorem proved : Rows.PmemOwnSaid := over
#print axioms proved
end Go.Proofs.Ytncdkbhkjamdpaa.lawPmemOwn
namespace Go.Proofs.Ytncdkbhkjamdpaa
/-- The given statement. -/
theorem pmemOwn_holds : Rows.PmemOwnSaid := lawPmemOwn.proved
end Go.Proofs.Ytncdkbhkjamdpaa
