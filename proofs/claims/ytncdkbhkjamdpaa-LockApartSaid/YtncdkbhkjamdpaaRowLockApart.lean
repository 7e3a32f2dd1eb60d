/- The given statement of LockApart, out of its walk. -/
import Derived.Test.YtncdkbhkjamdpaaP0
import Derived.Test.YtncdkbhkjamdpaaR2
import Derived.Test.YtncdkbhkjamdpaaL13
namespace Go.Proofs.Ytncdkbhkjamdpaa.lawLockApart
open Go.ChangeShapes Go.WideShapes Go.ChangeAt Go.RowKit Go.Deep

set_option maxHeartbeats 1000000 in
set_option maxRecDepth 100000 in
theorem lifted (os : Os) (started : os.Started) (H : Type) (enc : TypeId × Value → H) :
    ReturnsInHanded {} Try.checked os 13 .any (Rows.lockApartSpec.pre6 enc Try.prog Try.f13 Rows.lockApartRow.domain false) (Rows.lockApartSpec.post enc Try.prog Try.f13 false true false false) := by
  refine returnsInHanded_of_change_sized (C := Try.checked) own started (by kernel_rfl) Try.func13
    (ChangeSpec.witness6 (enc := enc) (C := Try.checked) false ⟨#[], #[.slice none 0 0, .slice none 0 0, .int .i64 0], []⟩ 8 (by kernel_rfl) (by kernel_rfl) (by kernel_rfl) (by kernel_rfl)) ?_
  intro W base args ds gs before hval0 hW hcnd hsz0 _
  have hsz : (DataW.weightsEach Try.prog (Try.f13.params.toList ++ Rows.lockApartSpec.plain.varTypes Try.prog) (ds ++ gs)).all (· ≤ reachBytes) = true := hsz0
  have hval : ∀ (j : Nat) t v, Try.f13.params[j]? = some t → args[j]? = some v → Value.okWide Try.prog W .any base t v := hval0
  have hW' := hW
  obtain ⟨p, q, hA0, hV, rfl, hfz, hnd⟩ := hW
  have hA : DataW.TrodAll enc Try.prog W 0 (fun _ => true) true Try.f13.params.toList args.toList ds p := hA0
  rw [Try.params13] at hA hval hsz
  obtain ⟨v0, vs0, d0, ds0, p0, q0, hargs, rfl, rfl, h0, r0⟩ := trodAll_cons hA
  obtain ⟨v1, vs1, d1, ds1, p1, q1, rfl, rfl, rfl, h1, r1⟩ := trodAll_cons r0
  obtain ⟨v2, vs2, d2, ds2, p2, q2, rfl, rfl, rfl, h2, r2⟩ := trodAll_cons r1
  obtain ⟨rfl, rfl, rfl⟩ := trodAll_nil r2
  obtain rfl : args = #[v0, v1, v2] := by cases args; simp_all
  obtain ⟨rfl, rfl⟩ := trodVars_none hV
  have k0 := h0
  have lt0 : ∀ x ∈ p0, x.block < W.heap.size := by obtain ⟨m, hm⟩ := k0; exact DataW.trod_lt m _ _ _ hm
  obtain ⟨l0, r0', q0'⟩ : ∃ l, Rd 3 O18.enc W v0 l ∧ ∀ x ∈ l, x.Ok := by
    obtain ⟨fuel, hf⟩ := h0
    exact rd_of_trod 3 O18.enc (fun x => x.Ok) (by decide) Try.underlying74 (by kernel_rfl) (dec_op18 W) (okWide_slice Try.underlying74 (hval 0 74 v0 rfl rfl)) hf
  have y0 : l0.length * 24 ≤ 140737488351232 := by
    obtain ⟨a, c, e, _⟩ := r0'
    subst e
    exact len_of_trod (j := 0) hsz rfl rfl Try.underlying74 (by kernel_rfl) k0
  have k1 := h1
  have lt1 : ∀ x ∈ p1, x.block < W.heap.size := by obtain ⟨m, hm⟩ := k1; exact DataW.trod_lt m _ _ _ hm
  obtain ⟨l1, r1', q1'⟩ : ∃ l, Rd 3 O18.enc W v1 l ∧ ∀ x ∈ l, x.Ok := by
    obtain ⟨fuel, hf⟩ := h1
    exact rd_of_trod 3 O18.enc (fun x => x.Ok) (by decide) Try.underlying74 (by kernel_rfl) (dec_op18 W) (okWide_slice Try.underlying74 (hval 1 74 v1 rfl rfl)) hf
  have y1 : l1.length * 24 ≤ 140737488351232 := by
    obtain ⟨a, c, e, _⟩ := r1'
    subst e
    exact len_of_trod (j := 1) hsz rfl rfl Try.underlying74 (by kernel_rfl) k1
  have k2 := h2
  have lt2 : ∀ x ∈ p2, x.block < W.heap.size := by obtain ⟨m, hm⟩ := k2; exact DataW.trod_lt m _ _ _ hm
  obtain ⟨n2, rfl, rfl, rfl, w2⟩ := open_int Try.underlying3 (hval 2 3 v2 rfl rfl) h2
  obtain ⟨n2l, n2h⟩ := bounds_i64 w2
  clear hA0 hval0 hsz0 hsz
  refine (lockApart_walk l0 l1 _ _ n2 W r0' r1' q0' q1' y0 y1).mono fun e W' ⟨he, bel⟩ => ?_
  subst he
  exact ⟨_, rfl, _, _, _, [], _, [], hW', trodAll_mk1 (shut_bool Try.underlying4 _), (trodAll_cons_mk (Below.trod laidOut (by kernel_rfl) (of_decide_eq_true (by kernel_rfl)) k0 bel lt0) (trodAll_cons_mk (Below.trod laidOut (by kernel_rfl) (of_decide_eq_true (by kernel_rfl)) k1 bel lt1) (trodAll_cons_mk (Below.trod laidOut (by kernel_rfl) (of_decide_eq_true (by kernel_rfl)) k2 bel lt2) trodAll_mk0))), rfl, bel.frame _, fun h => by cases h⟩
theorem named : Try.pinned.checked.prog.funcNamed Rows.lockApartRow.func = some 13 := by kernel_rfl
theorem a3 : (Rows.lockApartRow.inPlace == Try.pinned.checked.prog.inPlace 13) = true := by kernel_rfl
theorem a4 : (Rows.lockApartRow.unfollowed == Try.pinned.checked.prog.unfollowed 13) = true := by kernel_rfl
theorem a5 : (Rows.lockApartRow.recurses == Try.pinned.checked.prog.recurses 13) = true := by kernel_rfl
theorem a6 : (Rows.lockApartRow.named == Try.pinned.checked.prog.varsNamed 13) = true := by kernel_rfl
theorem closed : joinedFacts Try.pinned.checked.prog 13 Try.f13 Rows.lockApartSpec Rows.lockApartRow = true := by
  unfold joinedFacts
  rw [show Rows.lockApartRow.lifted = Rows.spanRightRow.lifted from rfl, show Rows.lockApartRow.plainKeys = Rows.spanRightRow.plainKeys from rfl, p_laid, p_rowed, p_stops, p_knobs, p_keys, p_heard, p_enter, p_lift, a3, a4, a5, a6]
  kernel_rfl
theorem inst : Try.f13.isInstance Try.pinned.checked.prog Rows.lockApartRow.origin Rows.lockApartRow.targs := of_decide_eq_true (by kernel_rfl)
theorem wrap : Try.f13.isWrapper Try.pinned.checked.prog Rows.lockApartRow.wrapper Rows.lockApartRow.mainSum := by unfold Func.isWrapper; first | (rw [if_pos (by decide +kernel)]; kernel_rfl) | (rw [if_neg (by decide +kernel)]; exact ⟨rfl, rfl⟩)
theorem over : Rows.lockApartRow.holds Try.pinned (OpenSpec.ofChange Rows.lockApartSpec) :=
  OpenClaim.holds_of_wide 13 Try.f13 rfl rfl rfl rfl rfl rfl rfl ⟨rfl, rfl, rfl, rfl, rfl⟩ rfl rfl rfl rfl rfl named Try.func13 closed inst wrap
    (fun os started H enc _ => lifted os started H enc)
theorem proved : Rows.LockApartSaid := over
#print axioms proved
end Go.Proofs.Ytncdkbhkjamdpaa.lawLockApart
namespace Go.Proofs.Ytncdkbhkjamdpaa
/-- The given statement. -/
theorem lockApart_holds : Rows.LockApartSaid := lawLockApart.proved
end Go.Proofs.Ytncdkbhkjamdpaa
