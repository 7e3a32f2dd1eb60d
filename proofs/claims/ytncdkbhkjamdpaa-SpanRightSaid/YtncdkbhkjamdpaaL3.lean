/- The walk of the statement SpanRight: it returns true. -/
import Derived.Test.YtncdkbhkjamdpaaS12
namespace Go.Proofs.Ytncdkbhkjamdpaa
open Go.RowKit

set_option maxHeartbeats 4000000 in
set_option maxRecDepth 100000 in
theorem spanRight_walk (l : List Sp) (v : Value) (w : World) (hv : RdS w v l) :
    Calls Try.prog 3 #[v] w fun e w' => e = .returned (.bool true) ∧ Below w.heap.size w w' := by
  have HV := hid_ hv
  obtain ⟨A, c, rfl, hl, hl', _⟩ := hv
  by_cases hlen : 24 < l.length
  · go_enter Try.func3, Try.ntmps3
    go_wp2_with (go_at_call 22; refine (awake_c _).mono ?_; rintro e w1 ⟨rfl, hb⟩; have B1 := hid_ hb; clear hb)
    go_ret
    exact ⟨rfl, B1.out⟩
  · go_enter Try.func3, Try.ntmps3
    go_wp2_with (go_at_call 22; refine (awake_c _).mono ?_; rintro e w1 ⟨rfl, hb⟩; have B1 := hid_ hb; clear hb)
    go_loopw [4, 5] (fun n i wr => ∃ k : Nat, k ≤ l.length ∧ i = .int .i64 k ∧ n = .int .i64 (totW (l.take k)) ∧ Hid (∀ j (hj : j < l.length), j < k → l[j].Bd) ∧ Below w.heap.size w wr) (fun _ i _ => l.length - (intOf i).toNat)
    case atStart => exact ⟨0, Nat.zero_le _, rfl, rfl, by simp [Hid], B1.out⟩
    case round =>
      obtain ⟨k, hk, rfl, rfl, hh, hB⟩ := hrel
      by_cases hlt : k < l.length
      · obtain ⟨b, o, rfl, h1, h2⟩ := RdS.at HV.out hB hlt
        have HT := hid_ (totW_take hlt)
        obtain ⟨s, hs⟩ : ∃ s, l[k] = s := ⟨_, rfl⟩
        rw [hs] at h1 h2 HT
        have HS := hid_ hs
        clear hs
        by_cases hin : -1099511627776 ≤ s.f ∧ s.f ≤ 1099511627776 ∧ -1099511627776 ≤ s.m ∧ s.m ≤ 1099511627776
        · obtain ⟨i1, i2, i3, i4⟩ := hin
          go_wp2
          go_roundw
          case rel =>
            refine ⟨k + 1, by omega, by go_num, by rw [HT.out], fun j hj hjk => ?_, hB⟩
            by_cases hjk' : j < k
            · exact hh.out j hj hjk'
            · obtain rfl : j = k := by omega
              rw [HS.out]
              exact ⟨by omega, by omega, by omega, by omega⟩
          case measure => simp [intOf]; omega
        · rcases Int.lt_or_le s.f (-1099511627776) with c1 | c1
          · go_wp2
            go_ret
            exact ⟨rfl, hB⟩
          rcases Int.lt_or_le 1099511627776 s.f with c2 | c2
          · go_wp2
            go_ret
            exact ⟨rfl, hB⟩
          rcases Int.lt_or_le s.m (-1099511627776) with c3 | c3
          · go_wp2
            go_ret
            exact ⟨rfl, hB⟩
          have c4 : 1099511627776 < s.m := by omega
          clear hin
          go_wp2
          go_ret
          exact ⟨rfl, hB⟩
      · obtain rfl : k = l.length := by omega
        rw [List.take_length] at *
        have HBd : Hid (BdL l) := by
          intro s hs
          obtain ⟨j, hj, rfl⟩ := List.getElem_of_mem hs
          exact hh.out j hj hj
        have HV1 := hid_ (HV.out.mono hB)
        cases hr : rightB l with
        | true =>
          have HR := hid_ hr
          clear hr
          go_wp2_with (first
            | (go_at_call 23; refine (rright_c l _ _ HV1.out HBd.out).mono ?_; rintro e w2 ⟨rfl, hb⟩; rw [HR.out]; have HV2 := hid_ (HV1.out.mono hb); have B2 := hid_ (btr hB hb); clear hb)
            | (go_at_call 24; refine (right_c l _ _ HV2.out HBd.out).mono ?_; rintro e w3 ⟨rfl, hb⟩; rw [HR.out]; have HV3 := hid_ (HV2.out.mono hb); have B3 := hid_ (btr B2.out hb); clear hb)
            | (go_at_call 25; refine (total_c l _ _ HV3.out).mono ?_; rintro e w4 ⟨rfl, hb⟩; have B4 := hid_ (btr B3.out hb); clear hb))
          go_ret
          exact ⟨rfl, B4.out⟩
        | false =>
          have HR := hid_ hr
          clear hr
          go_wp2_with (first
            | (go_at_call 23; refine (rright_c l _ _ HV1.out HBd.out).mono ?_; rintro e w2 ⟨rfl, hb⟩; rw [HR.out]; have HV2 := hid_ (HV1.out.mono hb); have B2 := hid_ (btr hB hb); clear hb)
            | (go_at_call 24; refine (right_c l _ _ HV2.out HBd.out).mono ?_; rintro e w3 ⟨rfl, hb⟩; rw [HR.out]; have HV3 := hid_ (HV2.out.mono hb); have B3 := hid_ (btr B2.out hb); clear hb))
          go_ret
          exact ⟨rfl, B3.out⟩
end Go.Proofs.Ytncdkbhkjamdpaa
