/- The device of chapter 03: Open. -/
import Derived.Test.YtncdkbhkjamdpaaD3
namespace Go.Proofs.Ytncdkbhkjamdpaa
open Go.RowKit Go.Maps

set_option maxHeartbeats 1000000 in
theorem open_no (l : List Int) (v : Value) (w : World) (hv : RdU w v l) (h : l.length < 1 ∨ 65536 < l.length) :
    Calls Try.prog 55 #[v] w fun e w' => e = .returned (.tuple #[.pointer none, vz 1]) ∧ Below w.heap.size w w' := by
  obtain ⟨A, c, rfl, hl, hl', _⟩ := hv
  go_enter Try.func55, Try.ntmps55
  go_wp2_with (go_at_call 59; refine (pnew_no _ _ (by omega)).mono ?_; rintro e w1 ⟨rfl, hb⟩; have HB := hid_ hb; clear hb)
  go_ret2
  exact ⟨rfl, HB.out⟩
set_option maxHeartbeats 1000000 in
set_option maxRecDepth 100000 in
theorem open_c (l : List Int) (v : Value) (w : World) (hv : RdU w v l) (h1 : 1 ≤ l.length) (h2 : l.length ≤ 65536) :
    Calls Try.prog 55 #[v] w fun e w' => ∃ db mb lb cp, e = .returned (.tuple #[.pointer (some ⟨db, 0, none⟩), vz 0]) ∧ NewRes w w' db mb lb cp 0 (newS l) := by
  have HV := hid_ hv
  obtain ⟨A, c, rfl, hl, hl', _⟩ := hv
  obtain ⟨b, o, rfl, _⟩ := RdU.at HV.out (Below.refl _ _) (show 0 < l.length by omega)
  have hsz : (Try.prog.info? 51).map (·.size) = some 1 := by kernel_rfl
  have hfl := flat_length encU_len l
  have HFL := hid_ hfl
  clear hfl
  go_enter Try.func55, Try.ntmps55
  go_upto_region 4 with (go_at_call 59; refine (pnew_c l.length _ h1 h2).mono ?_; rintro e w1 ⟨db, mb, lb, rfl, ht⟩; have HN := hid_ ht; clear ht)
  have hln : (newS (List.replicate l.length 0)).last.length = l.length := by simp [newS]
  have hc0 := HN.out.t.c0
  rw [hln] at hc0
  obtain ⟨cur, hcur, hcs⟩ : ∃ cur : Array Value, w1.heap[lb]? = some (.cells cur 51 (0, 0)) ∧ cur.size = l.length := by
    rcases HN.out.t.own.2 with ⟨e, _⟩ | ⟨g, cap, cur, e, _, hh, _, _, hcs, _⟩
    · cases e
    · injection e with e1 e2 e3
      injection e1 with e1
      injection e1 with e1
      subst e1 e3
      exact ⟨cur, hh, by omega⟩
  have HCUR := hid_ hcur; have HCS := hid_ hcs
  clear hcur hcs hln
  have hrow : (cur.toList.take 0 ++ (flat encU l ++ cur.toList.drop (0 + (flat encU l).length))).toArray = (l.map vu).toArray := by
    rw [flat_encU, List.take_zero, List.nil_append, List.drop_eq_nil_of_le (by simp; have := HCS.out; omega), List.append_nil]
  have hcp : ∀ ty, (Builtin.copy_ #[92, 92] ty #[.slice (some ⟨lb, 0, none⟩) l.length l.length, .slice (some ⟨b, o, none⟩) l.length c]).run Try.prog w1 = .ok (goInt (flat encU l).length) (w1.setRow lb (l.map vu).toArray) := by
    intro ty
    rw [← hrow]
    exact run_copy_row (P := Try.prog) w1 92 92 ty 51 lb 0 l.length l.length ⟨b, o, none⟩ l.length c cur 51 (flat encU l) Try.underlying92 hsz HCUR.out (by rw [HFL.out]; simp) (fun j u hj => cmono HN.out.b (Rd.cells encU_len HV.out j u hj)) (by rw [HFL.out]; have := HCS.out; omega) (by
      intro u hu
      obtain ⟨s, _, hs⟩ := List.mem_flatMap.1 hu
      simp [encU] at hs
      subst hs
      rfl)
  have HCP := hid_ (fun (k : Nat) (hk : k ≠ lb) => setRow_other w1 lb k (l.map vu).toArray hk)
  have HSM := hid_ (setRow_heap w1 lb cur (l.map vu).toArray 51 (0, 0) HCUR.out)
  have HGB : Hid (w1.grownBy (w1.setRow lb (l.map vu).toArray) (some lb)) := ⟨rfl, rfl, rfl, by simp [World.setRow], fun k _ hne => HCP.out k (by simpa using hne)⟩
  have hmlb : mb ≠ lb := by
    intro e
    obtain ⟨es, cc, hbm⟩ := HN.out.t.om.blk
    rw [e, HCUR.out] at hbm
    cases hbm
  clear hrow
  go_wp2
  go_ret2
  refine ⟨db, mb, lb, l.length, rfl, ⟨?_, ?_, ?_, HN.out.t.ne⟩, ?_, HN.out.h1, HN.out.h2, HN.out.h3⟩
  · rw [HCP.out db HN.out.t.ne, HN.out.t.blk]
    simp [DS.row, newS]
  · refine ⟨by simp [newS], .inr ⟨lb, l.length, _, rfl, Nat.zero_le _, HSM.out, Nat.le_refl _, by unfold maxLen; omega, by simp, by simp [newS, List.take_of_length_le]⟩⟩
  · exact HN.out.t.om.kept HGB.out (by simpa using hmlb)
  · exact below_gb HN.out.b HGB.out HN.out.h3
end Go.Proofs.Ytncdkbhkjamdpaa
