/- The given statement of LockOnce, out of its walk. -/
import Derived.Test.YtncdkbhkjamdpaaP0
import Derived.Test.YtncdkbhkjamdpaaR2
import Derived.Test.YtncdkbhkjamdpaaL12
namespace Go.Proofs.Ytncdkbhkjamdpaa.lawLockOnce
open Go.ChangeShapes Go.WideShapes Go.ChangeAt Go.RowKit Go.Deep

set_option maxHeartbeats 1000000 in
set_option maxRecDepth 100000 in
theorem lifted (os : Os) (started : os.Started) (H : Type) (enc : TypeId × Value → H) :
    ReturnsInHanded {} Try.checked os 12 .any (Rows.lockOnceSpec.pre6 enc Try.prog Try.f12 Rows.lockOnceRow.domain false) (Rows.lockOnceSpec.post enc Try.prog Try.f12 false true false false) := by
  refine returnsInHanded_of_change_sized (C := Try.checked) own started (by kernel_rfl) Try.func12
    (ChangeSpec.witness6 (enc := enc) (C := Try.checked) false ⟨#[], #[.slice none 0 0, .int .i64 0, .int .i64 0, .int .i64 0], []⟩ 8 (by kernel_rfl) (by kernel_rfl) (by kernel_rfl) (by kernel_rfl)) ?_
  intro W base args ds gs before hval0 hW hcnd hsz0 _
  have hsz : (DataW.weightsEach Try.prog (Try.f12.params.toList ++ Rows.lockOnceSpec.plain.varTypes Try.prog) (ds ++ gs)).all (· ≤ reachBytes) = true := hsz0
  have hval : ∀ (j : Nat) t v, Try.f12.params[j]? = some t → args[j]? = some v → Value.okWide Try.prog W .any base t v := hval0
  have hW' := hW
  obtain ⟨p, q, hA0, hV, rfl, hfz, hnd⟩ := hW
  have hA : DataW.TrodAll enc Try.prog W 0 (fun _ => true) true Try.f12.params.toList args.toList ds p := hA0
  rw [Try.params12] at hA hval hsz
  obtain ⟨v0, vs0, d0, ds0, p0, q0, hargs, rfl, rfl, h0, r0⟩ := trodAll_cons hA
  obtain ⟨v1, vs1, d1, ds1, p1, q1, rfl, rfl, rfl, h1, r1⟩ := trodAll_cons r0
  obtain ⟨v2, vs2, d2, ds2, p2, q2, rfl, rfl, rfl, h2, r2⟩ := trodAll_cons r1
  obtain ⟨v3, vs3, d3, ds3, p3, q3, rfl, rfl, rfl, h3, r3⟩ := trodAll_cons r2
  obtain ⟨rfl, rfl, rfl⟩ := trodAll_nil r3
  obtain rfl : args = #[v0, v1, v2, v3] := by cases args; simp_all
  obtain ⟨rfl, rfl⟩ := trodVars_none hV
  have k0 := h0
  have lt0 : ∀ x ∈ p0, x.block < W.heap.size := by obtain ⟨m, hm⟩ := k0; exact DataW.trod_lt m _ _ _ hm
  obtain ⟨l0, r0', q0'⟩ : ∃ l, Rd 3 O18.enc W v0 l ∧ ∀ x ∈ l, x.Ok := by
    obtain ⟨fuel, hf⟩ := h0
    exact rd_of_trod 3 O18.enc (fun x => x.Ok) (by decide) Try.underlying74 (by kernel_rfl) (dec_op18 W) (okWide_slice Try.underlying74 (hval 0 74 v0 rfl rfl)) hf
  have y0 : l0.length * 24 ≤ 140737488351232 := by
    obtain ⟨a, c, e, _⟩ := r0'
    subst e
    exact len_of_trod (j := 0) hsz rfl rfl Try.underlying74 (by kernel_rfl) k0
  have k1 := h1
  have lt1 : ∀ x ∈ p1, x.block < W.heap.size := by obtain ⟨m, hm⟩ := k1; exact DataW.trod_lt m _ _ _ hm
  obtain ⟨n1, rfl, rfl, rfl, w1⟩ := open_int Try.underlying3 (hval 1 3 v1 rfl rfl) h1
  obtain ⟨n1l, n1h⟩ := bounds_i64 w1
  have k2 := h2
  have lt2 : ∀ x ∈ p2, x.block < W.heap.size := by obtain ⟨m, hm⟩ := k2; exact DataW.trod_lt m _ _ _ hm
  obtain ⟨n2, rfl, rfl, rfl, w2⟩ := open_int Try.underlying3 (hval 2 3 v2 rfl rfl) h2
  obtain ⟨n2l, n2h⟩ := bounds_i64 w2
  have k3 := h3
  have lt3 : ∀ x ∈ p3, x.block < W.heap.size := by obtain ⟨m, hm⟩ := k3; exact DataW.trod_lt m _ _ _ hm
  obtain ⟨n3, rfl, rfl, rfl, w3⟩ := open_int Try.underlying3 (hval 3 3 v3 rfl rfl) h3
  obtain ⟨n3l, n3h⟩ := bounds_i64 w3
  clear hA0 hval0 hsz0 hsz
  refine (lockOnce_walk l0 _ n1 n2 n3 W r0' q0' y0 ⟨n1l, n1h⟩).mono fun e W' ⟨he, bel⟩ => ?_
  subst he
  exact ⟨_, rfl, _, _, _, [], _, [], hW', trodAll_mk1 (shut_bool Try.underlying4 _), (trodAll_cons_mk (Below.trod laidOut (by kernel_rfl) (of_decide_eq_true (by kernel_rfl)) k0 bel lt0) (trodAll_cons_mk (Below.trod laidOut (by kernel_rfl) (of_decide_eq_true (by kernel_rfl)) k1 bel lt1) (trodAll_cons_mk (Below.trod laidOut (by kernel_rfl) (of_decide_eq_true (by kernel_rfl)) k2 bel lt2) (trodAll_cons_mk (Below.trod laidOut (by kernel_rfl) (of_decide_eq_true (by kernel_rfl)) k3 bel lt3) trodAll_mk0)))), rfl, bel.frame _, fun h => by cases h⟩
theorem named : Try.pinned.checked.prog.funcNamed Rows.lockOnceRow.func = some 12 := by kernel_rfl
theorem a3 : (Rows.lockOnceRow.inPlace == Try.pinned.checked.prog.inPlace 12) = true := by kernel_rfl
theorem a4 : (Rows.lockOnceRow.unfollowed == Try.pinned.checked.prog.unfollowed 12) = true := by kernel_rfl
theorem a5 : (Rows.lockOnceRow.recurses == Try.pinned.checked.prog.recurses 12) = true := by kernel_rfl
theorem a6 : (Rows.lockOnceRow.named == Try.pinned.checked.prog.varsNamed 12) = true := by kernel_rfl
theorem closed : joinedFacts Try.pinned.checked.prog 12 Try.f12 Rows.lockOnceSpec Rows.lockOnceRow = true := by
  unfold joinedFacts
  rw [show Rows.lockOnceRow.lifted = Rows.spanRightRow.lifted from rfl, show Rows.lockOnceRow.plainKeys = Rows.spanRightRow.plainKeys from rfl, p_laid, p_rowed, p_stops, p_knobs, p_keys, p_heard, p_enter, p_lift, a3, a4, a5, a6]
  kernel_rfl
theorem inst : Try.f12.isInstance Try.pinned.checked.prog Rows.lockOnceRow.origin Rows.lockOnceRow.targs := of_decide_eq_true (by kernel_rfl)
theorem wrap : Try.f12.isWrapper Try.pinned.checked.prog Rows.lockOnceRow.wrapper Rows.lockOnceRow.mainSum := by unfold Func.isWrapper; first | (rw [if_pos (by decide +kernel)]; kernel_rfl) | (rw [if_neg (by decide +kernel)]; exact ⟨rfl, rfl⟩)
theorem over : Rows.lockOnceRow.holds Try.pinned (OpenSpec.ofChange Rows.lockOnceSpec) :=
  OpenClaim.holds_of_wide 12 Try.f12 rfl rfl rfl rfl rfl rfl rfl ⟨rfl, rfl, rfl, rfl, rfl⟩ rfl rfl rfl rfl rfl named Try.func12 closed inst wrap
    (fun os started H enc _ => lifted os started H enc)
theorem proved : Rows.LockOnceSaid := over
#print axioms proved
end Go.Proofs.Ytncdkbhkjamdpaa.lawLockOnce
namespace Go.Proofs.Ytncdkbhkjamdpaa
/-- The given statement. -/
theorem lockOnce_holds : Rows.LockOnceSaid := lawLockOnce.proved
end Go.Proofs.Ytncdkbhkjamdpaa
