/- The given statement of TxFresh, out of its walk. -/
import Derived.Test.YtncdkbhkjamdpaaP0
import Derived.Test.YtncdkbhkjamdpaaR7
import Derived.Test.YtncdkbhkjamdpaaL20
namespace Go.Proofs.Ytncdkbhkjamdpaa.lawTxFresh
open Go.ChangeShapes Go.WideShapes Go.ChangeAt Go.RowKit Go.Deep

set_option maxHeartbeats 1000000 in
set_option maxRecDepth 100000 in
theorem lifted (os : Os) (started : os.Started) (H : Type) (enc : TypeId × Value → H) :
    ReturnsInHanded {} Try.checked os 20 .any (Rows.txFreshSpec.pre6 enc Try.prog Try.f20 Rows.txFreshRow.domain false) (Rows.txFreshSpec.post enc Try.prog Try.f20 false true false false) := by
  refine returnsInHanded_of_change_sized (C := Try.checked) own started (by kernel_rfl) Try.func20
    (ChangeSpec.witness6 (enc := enc) (C := Try.checked) false ⟨#[], #[.slice none 0 0, .agg #[.int .i64 0, .int .i64 0, .int .i64 0, .int .i64 0, .bool false, .int .i64 0, .int .i64 0, .int .i64 0, .int .u64 0]], []⟩ 8 (by kernel_rfl) (by kernel_rfl) (by kernel_rfl) (by kernel_rfl)) ?_
  intro W base args ds gs before hval0 hW hcnd hsz0 _
  have hsz : (DataW.weightsEach Try.prog (Try.f20.params.toList ++ Rows.txFreshSpec.plain.varTypes Try.prog) (ds ++ gs)).all (· ≤ reachBytes) = true := hsz0
  have hval : ∀ (j : Nat) t v, Try.f20.params[j]? = some t → args[j]? = some v → Value.okWide Try.prog W .any base t v := hval0
  have hW' := hW
  obtain ⟨p, q, hA0, hV, rfl, hfz, hnd⟩ := hW
  have hA : DataW.TrodAll enc Try.prog W 0 (fun _ => true) true Try.f20.params.toList args.toList ds p := hA0
  rw [Try.params20] at hA hval hsz
  obtain ⟨v0, vs0, d0, ds0, p0, q0, hargs, rfl, rfl, h0, r0⟩ := trodAll_cons hA
  obtain ⟨v1, vs1, d1, ds1, p1, q1, rfl, rfl, rfl, h1, r1⟩ := trodAll_cons r0
  obtain ⟨rfl, rfl, rfl⟩ := trodAll_nil r1
  obtain rfl : args = #[v0, v1] := by cases args; simp_all
  obtain ⟨rfl, rfl⟩ := trodVars_none hV
  have k0 := h0
  have lt0 : ∀ x ∈ p0, x.block < W.heap.size := by obtain ⟨m, hm⟩ := k0; exact DataW.trod_lt m _ _ _ hm
  obtain ⟨l0, r0', q0'⟩ : ∃ l, Rd 12 O20.enc W v0 l ∧ ∀ x ∈ l, True := by
    obtain ⟨fuel, hf⟩ := h0
    exact rd_of_trod 12 O20.enc (fun x => True) (by decide) Try.underlying39 (by kernel_rfl) (dec_op20 W) (okWide_slice Try.underlying39 (hval 0 39 v0 rfl rfl)) hf
  have z0 := nil_of_trod Try.underlying39 k0
  have y0 : l0.length * 96 ≤ 140737488351232 := by
    obtain ⟨a, c, e, _⟩ := r0'
    subst e
    exact len_of_trod (j := 0) hsz rfl rfl Try.underlying39 (by kernel_rfl) k0
  have k1 := h1
  have lt1 : ∀ x ∈ p1, x.block < W.heap.size := by obtain ⟨m, hm⟩ := k1; exact DataW.trod_lt m _ _ _ hm
  obtain ⟨s1, rfl, b1'⟩ := open_ob W (hval 1 55 v1 rfl rfl) h1
  clear hA0 hval0 hsz0 hsz
  refine (txFresh_walk l0 _ s1 W r0' z0 y0).mono fun e W' ⟨he, bel⟩ => ?_
  subst he
  exact ⟨_, rfl, _, _, _, [], _, [], hW', trodAll_mk1 (shut_bool Try.underlying4 _), (trodAll_cons_mk (Below.trod laidOut (by kernel_rfl) (of_decide_eq_true (by kernel_rfl)) k0 bel lt0) (trodAll_cons_mk (Below.trod laidOut (by kernel_rfl) (of_decide_eq_true (by kernel_rfl)) k1 bel lt1) trodAll_mk0)), rfl, bel.frame _, fun h => by cases h⟩
theorem named : Try.pinned.checked.prog.funcNamed Rows.txFreshRow.func = some 20 := by kernel_rfl
theorem a3 : (Rows.txFreshRow.inPlace == Try.pinned.checked.prog.inPlace 20) = true := by kernel_rfl
theorem a4 : (Rows.txFreshRow.unfollowed == Try.pinned.checked.prog.unfollowed 20) = true := by kernel_rfl
theorem a5 : (Rows.txFreshRow.recurses == Try.pinned.checked.prog.recurses 20) = true := by kernel_rfl
theorem a6 : (Rows.txFreshRow.named == Try.pinned.checked.prog.varsNamed 20) = true := by kernel_rfl
theorem closed : joinedFacts Try.pinned.checked.prog 20 Try.f20 Rows.txFreshSpec Rows.txFreshRow = true := by
  unfold joinedFacts
  rw [show Rows.txFreshRow.lifted = Rows.spanRightRow.lifted from rfl, show Rows.txFreshRow.plainKeys = Rows.spanRightRow.plainKeys from rfl, p_laid, p_rowed, p_stops, p_knobs, p_keys, p_heard, p_enter, p_lift, a3, a4, a5, a6]
  kernel_rfl
theorem inst : Try.f20.isInstance Try.pinned.checked.prog Rows.txFreshRow.origin Rows.txFreshRow.targs := of_decide_eq_true (by kernel_rfl)
theorem wrap : Try.f20.isWrapper Try.pinned.checked.prog Rows.txFreshRow.wrapper Rows.txFreshRow.mainSum := by unfold Func.isWrapper; first | (rw [if_pos (by decide +kernel)]; kernel_rfl) | (rw [if_neg (by decide +kernel)]; exact ⟨rfl, rfl⟩)
theorem over : Rows.txFreshRow.holds Try.pinned (OpenSpec.ofChange Rows.txFreshSpec) :=
  OpenClaim.holds_of_wide 20 Try.f20 rfl rfl rfl rfl rfl rfl rfl ⟨rfl, rfl, rfl, rfl, rfl⟩ rfl rfl rfl rfl rfl named Try.func20 closed inst wrap
    (fun os started H enc _ => lifted os started H enc)
theorem proved : Rows.TxFreshSaid := over
#print axioms proved
end Go.Proofs.Ytncdkbhkjamdpaa.lawTxFresh
namespace Go.Proofs.Ytncdkbhkjamdpaa
/-- The given statement. -/
theorem txFresh_holds : Rows.TxFreshSaid := lawTxFresh.proved
end Go.Proofs.Ytncdkbhkjamdpaa
