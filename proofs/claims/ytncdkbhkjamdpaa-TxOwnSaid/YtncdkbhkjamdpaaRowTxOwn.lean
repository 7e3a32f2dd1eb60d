/- The given statement of TxOwn, out of its walk. -/
import Derived.Test.YtncdkbhkjamdpaaP0
import Derived.Test.YtncdkbhkjamdpaaR6
import Derived.Test.YtncdkbhkjamdpaaL7
namespace Go.Proofs.Ytncdkbhkjamdpaa.lawTxOwn
open Go.ChangeShapes Go.WideShapes Go.ChangeAt Go.RowKit Go.Deep

set_option maxHeartbeats 1000000 in
set_option maxRecDepth 100000 in
theorem lifted (os : Os) (started : os.Started) (H : Type) (enc : TypeId × Value → H) :
    ReturnsInHanded {} Try.checked os 7 .any (Rows.txOwnSpec.pre6 enc Try.prog Try.f7 Rows.txOwnRow.domain false) (Rows.txOwnSpec.post enc Try.prog Try.f7 false true false false) := by
  refine returnsInHanded_of_change_sized (C := Try.checked) own started (by kernel_rfl) Try.func7
    (ChangeSpec.witness6 (enc := enc) (C := Try.checked) false ⟨#[], #[.slice none 0 0], []⟩ 8 (by kernel_rfl) (by kernel_rfl) (by kernel_rfl) (by kernel_rfl)) ?_
  intro W base args ds gs before hval0 hW hcnd hsz0 _
  have hsz : (DataW.weightsEach Try.prog (Try.f7.params.toList ++ Rows.txOwnSpec.plain.varTypes Try.prog) (ds ++ gs)).all (· ≤ reachBytes) = true := hsz0
  have hval : ∀ (j : Nat) t v, Try.f7.params[j]? = some t → args[j]? = some v → Value.okWide Try.prog W .any base t v := hval0
  have hW' := hW
  obtain ⟨p, q, hA0, hV, rfl, hfz, hnd⟩ := hW
  have hA : DataW.TrodAll enc Try.prog W 0 (fun _ => true) true Try.f7.params.toList args.toList ds p := hA0
  rw [Try.params7] at hA hval hsz
  obtain ⟨v0, vs0, d0, ds0, p0, q0, hargs, rfl, rfl, h0, r0⟩ := trodAll_cons hA
  obtain ⟨rfl, rfl, rfl⟩ := trodAll_nil r0
  obtain rfl : args = #[v0] := by cases args; simp_all
  obtain ⟨rfl, rfl⟩ := trodVars_none hV
  have k0 := h0
  have lt0 : ∀ x ∈ p0, x.block < W.heap.size := by obtain ⟨m, hm⟩ := k0; exact DataW.trod_lt m _ _ _ hm
  obtain ⟨l0, r0', q0'⟩ : ∃ l, Rd 12 O20.enc W v0 l ∧ ∀ x ∈ l, True := by
    obtain ⟨fuel, hf⟩ := h0
    exact rd_of_trod 12 O20.enc (fun x => True) (by decide) Try.underlying39 (by kernel_rfl) (dec_op20 W) (okWide_slice Try.underlying39 (hval 0 39 v0 rfl rfl)) hf
  clear hA0 hval0 hsz0 hsz
  refine (txOwn_walk l0 _ W r0').mono fun e W' ⟨he, bel⟩ => ?_
  subst he
  exact ⟨_, rfl, _, _, _, [], _, [], hW', trodAll_mk1 (shut_bool Try.underlying4 _), (trodAll_cons_mk (Below.trod laidOut (by kernel_rfl) (of_decide_eq_true (by kernel_rfl)) k0 bel lt0) trodAll_mk0), rfl, bel.frame _, fun h => by cases h⟩
theorem named : Try.pinned.checked.prog.funcNamed Rows.txOwnRow.func = some 7 := by kernel_rfl
theorem a3 : (Rows.txOwnRow.inPlace == Try.pinned.checked.prog.inPlace 7) = true := by kernel_rfl
theorem a4 : (Rows.txOwnRow.unfollowed == Try.pinned.checked.prog.unfollowed 7) = true := by kernel_rfl
theorem a5 : (Rows.txOwnRow.recurses == Try.pinned.checked.prog.recurses 7) = true := by kernel_rfl
theorem a6 : (Rows.txOwnRow.named == Try.pinned.checked.prog.varsNamed 7) = true := by kernel_rfl
theorem closed : joinedFacts Try.pinned.checked.prog 7 Try.f7 Rows.txOwnSpec Rows.txOwnRow = true := by
  unfold joinedFacts
  rw [show Rows.txOwnRow.lifted = Rows.spanRightRow.lifted from rfl, show Rows.txOwnRow.plainKeys = Rows.spanRightRow.plainKeys from rfl, p_laid, p_rowed, p_stops, p_knobs, p_keys, p_heard, p_enter, p_lift, a3, a4, a5, a6]
  kernel_rfl
theorem inst : Try.f7.isInstance Try.pinned.checked.prog Rows.txOwnRow.origin Rows.txOwnRow.targs := of_decide_eq_true (by kernel_rfl)
theorem wrap : Try.f7.isWrapper Try.pinned.checked.prog Rows.txOwnRow.wrapper Rows.txOwnRow.mainSum := by unfold Func.isWrapper; first | (rw [if_pos (by decide +kernel)]; kernel_rfl) | (rw [if_neg (by decide +kernel)]; exact ⟨rfl, rfl⟩)
theorem over : Rows.txOwnRow.holds Try.pinned (OpenSpec.ofChange Rows.txOwnSpec) :=
  OpenClaim.holds_of_wide 7 Try.f7 rfl rfl rfl rfl rfl rfl rfl ⟨rfl, rfl, rfl, rfl, rfl⟩ rfl rfl rfl rfl rfl named Try.func7 closed inst wrap
    (fun os started H enc _ => lifted os started H enc)
theorem proved : Rows.TxOwnSaid := over
#print axioms proved
end Go.Proofs.Ytncdkbhkjamdpaa.lawTxOwn
namespace Go.Proofs.Ytncdkbhkjamdpaa
/-- The given statement. -/
theorem txOwn_holds : Rows.TxOwnSaid := lawTxOwn.proved
end Go.Proofs.Ytncdkbhkjamdpaa
