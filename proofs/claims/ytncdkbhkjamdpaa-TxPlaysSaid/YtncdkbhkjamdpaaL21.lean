/- The walk of the statement TxPlays: it returns true. -/
import Derived.Test.YtncdkbhkjamdpaaU0
namespace Go.Proofs.Ytncdkbhkjamdpaa
open Go.RowKit Go.Maps

set_option maxHeartbeats 8000000 in
set_option maxRecDepth 100000 in
theorem txPlays_walk (l : List O20) (v : Value) (w : World) (hv : RdO20 w v l) :
    Calls Try.prog 21 #[v] w fun e w' => e = .returned (.bool true) ∧ Below w.heap.size w w' := by
  have HV := hid_ hv
  obtain ⟨A, c, rfl, hl, hl', _⟩ := hv
  cases hf : fewL20 l with
  | false =>
    have HF := hid_ hf
    clear hf
    go_enter Try.func21, Try.ntmps21
    go_wp2_with (first
      | (go_at_call 32; refine (awake20_c _).mono ?_; rintro e w1 ⟨rfl, hb⟩; have B1 := hid_ hb; have HV1 := hid_ (HV.out.mono hb); clear hb)
      | (go_at_call 33; refine (few20_c l _ _ HV1.out).mono ?_; rintro e w2 ⟨rfl, hb⟩; rw [HF.out]; have B2 := hid_ (btr B1.out hb); clear hb))
    go_ret
    exact ⟨rfl, B2.out⟩
  | true =>
    have HSM := hid_ ((fewL20_iff l).1 hf).1
    have hlen := ((fewL20_iff l).1 hf).2
    have HF := hid_ hf
    clear hf
    go_enter Try.func21, Try.ntmps21
    go_wp2_with (first
      | (go_at_call 32; refine (awake20_c _).mono ?_; rintro e w1 ⟨rfl, hb⟩; have B1 := hid_ hb; have HV1 := hid_ (HV.out.mono hb); clear hb)
      | (go_at_call 33; refine (few20_c l _ _ HV1.out).mono ?_; rintro e w2 ⟨rfl, hb⟩; rw [HF.out]; have B2 := hid_ (btr B1.out hb); clear hb)
      | (go_at_call 34; refine (tnew_c _).mono ?_; rintro e w3 ⟨tb, mb, rfl, ht, hb, h1, h2⟩; have HP0 := hid_ (pe_new ht B2.out hb h1 h2); clear ht hb h1 h2))
    go_loopw [7] (fun i wr => ∃ k : Nat, k ≤ l.length ∧ i = .int .i64 k ∧ Hid (PE w tb mb w3.heap.size k wr)) (fun i _ => l.length - (intOf i).toNat)
    case atStart => exact ⟨0, Nat.zero_le _, rfl, HP0.out⟩
    case round =>
      obtain ⟨k, hk, rfl, HP⟩ := hrel
      by_cases hlt : k < l.length
      · have HC := hid_ (fun (W : World) (hW : Below w.heap.size w W) => RdO20.at HV.out hW hlt)
        have HSO := hid_ (HSM.out _ (List.getElem_mem hlt))
        generalize l[k] = x at HC HSO
        obtain ⟨b, o, rfl, hC⟩ := HC.out wr HP.out.b
        have c0 := hC.c0; have c1 := hC.c1; have c2 := hC.c2; have c3 := hC.c3; have c4 := hC.c4; have c5 := hC.c5; have c6 := hC.c6; have c7 := hC.c7; have c8 := hC.c8; have c9 := hC.c9; have c10 := hC.c10; have c11 := hC.c11
        clear hC
        have HZ : Hid (InZ x.f.at_) := ⟨by have := HSO.out.2.a0; omega, by have := HSO.out.2.a1; omega⟩
        have HK1 : Hid (k ≤ 50) := by show _ ≤ _; omega
        have HK2 : Hid (k + 1 ≤ 100) := by show _ ≤ _; omega
        go_wp2_with (first
          | (go_at_call 35; go_loud (refine (do20_c x _ HP.out HK1.out HSO.out.1 HSO.out.2).mono ?_; rintro e w4 ⟨rfl, hp⟩; obtain ⟨n, wv, gv, rwv, rfv, rgv, T, R, hp2, ha2⟩ := hp.ex; have HX := hid_ hp2; have HA := hid_ ha2; obtain ⟨b', o', hbo, hC⟩ := HC.out w4 hp2.b; injection hbo with hbo; injection hbo with hbo1 hbo2; subst hbo1 hbo2; have d8 := hC.c8; clear hC hp hp2 ha2 c0 c1 c2 c3 c4 c5 c6 c7 c8 c9 c10 c11))
          | (go_at_call 39; go_loud (refine (same20_c x.f.at_ _ HX.out HA.out HK2.out HZ.out).mono ?_; rintro e w5 ⟨rfl, hb⟩; have HP5 := hid_ (PE.of (HX.out.mono hb) HA.out); clear hb)))
        go_roundw
        case rel => exact ⟨k + 1, by omega, by go_num, HP5.out⟩
        case measure => simp [intOf]; omega
      · obtain rfl : k = l.length := by omega
        go_wp2
        go_ret
        exact ⟨rfl, HP.out.b⟩
end Go.Proofs.Ytncdkbhkjamdpaa
