/- The walk of the statement TxDeep: it returns true. -/
import Derived.Test.YtncdkbhkjamdpaaT10
namespace Go.Proofs.Ytncdkbhkjamdpaa
open Go.RowKit Go.Maps

def encBo (x : Bool) : List Value := [.bool x]
abbrev RdBo (w : World) (v : Value) (l : List Bool) : Prop := Rd 1 encBo w v l
theorem RdBo.at {w wr : World} {A : Option Addr} {n c : Nat} {l : List Bool} (h : RdBo w (.slice A n c) l) (hb : Below w.heap.size w wr) {k : Nat} (hk : k < l.length) :
    ∃ b o, A = some ⟨b, o, none⟩ ∧ wr.cell? ⟨b, o + k, none⟩ = some (.bool l[k]) := by
  obtain ⟨A', c', e, _, _, hc⟩ := h
  injection e with e1 e2 e3
  subst e1
  obtain ⟨b, o, ea, hh⟩ := hc k hk
  exact ⟨b, o, ea, cmono hb (by simpa using hh 0 _ rfl)⟩
def deepT (d : Int) : TS := { newT with depth := d }

set_option maxHeartbeats 4000000 in
set_option maxRecDepth 100000 in
theorem txDeep_walk (l : List Bool) (v : Value) (w : World) (hv : RdBo w v l) :
    Calls Try.prog 19 #[v] w fun e w' => e = .returned (.bool true) ∧ Below w.heap.size w w' := by
  have HV := hid_ hv
  obtain ⟨A, c, rfl, hl, hl', _⟩ := hv
  by_cases hlen : 200 < l.length
  · go_enter Try.func19, Try.ntmps19
    go_wp2_with (go_at_call 32; refine (awake20_c _).mono ?_; rintro e w1 ⟨rfl, hb⟩; have B1 := hid_ hb; clear hb)
    go_ret
    exact ⟨rfl, B1.out⟩
  · go_enter Try.func19, Try.ntmps19
    go_wp2_with (first
      | (go_at_call 32; refine (awake20_c _).mono ?_; rintro e w1 ⟨rfl, hb⟩; have B1 := hid_ hb; clear hb)
      | (go_at_call 34; refine (tnew_c _).mono ?_; rintro e w2 ⟨tb, mb, rfl, ht, hb, h1, h2⟩; have HX := hid_ (show TxS w w2 tb mb 0 (deepT 0) from TxS.mk ⟨_, _, ht, (by intro g hg; cases hg)⟩ (Nat.le_trans B1.out.size h1) (Nat.le_trans B1.out.size h2) (btr B1.out hb)); clear ht hb h1 h2))
    go_loopw [5, 6] (fun dv i wr => ∃ (k : Nat) (d : Int), k ≤ l.length ∧ 0 ≤ d ∧ d ≤ k ∧ i = .int .i64 k ∧ dv = .int .i64 d ∧ Hid (TxS w wr tb mb 0 (deepT d))) (fun _ i _ => l.length - (intOf i).toNat)
    case atStart => exact ⟨0, 0, Nat.zero_le _, Int.le_refl _, Int.le_refl _, rfl, rfl, HX.out⟩
    case round =>
      obtain ⟨k, d, hk, hd1, hd2, rfl, rfl, HT⟩ := hrel
      by_cases hlt : k < l.length
      · obtain ⟨b, o, rfl, h1⟩ := RdBo.at HV.out HT.out.b hlt
        cases hb : l[k] with
        | true =>
          rw [hb] at h1
          have hne : (d + 1 != d + 1) = false := by simp
          clear hb
          go_wp2_with (go_at_call 71; refine (sbegin_c HT.out (by show 0 ≤ d ∧ d ≤ 1000000; omega)).mono ?_; rintro e w3 ⟨rfl, hx⟩; rw [show (deepT d).depth + 1 = d + 1 from rfl]; have HT3 := hid_ (show TxS w w3 tb mb 0 (deepT (d + 1)) from hx.s); clear hx)
          go_roundw
          case rel => exact ⟨k + 1, d + 1, by omega, by omega, by omega, by go_num, rfl, HT3.out⟩
          case measure => simp [intOf]; omega
        | false =>
          rw [hb] at h1
          obtain ⟨q, hq⟩ : ∃ q, max 0 (d - 1) = q := ⟨_, rfl⟩
          have hq1 : 0 ≤ q := by omega
          have hq2 : q ≤ k + 1 := by omega
          have hmx : (if (0 : Int) < d - 1 then d - 1 else 0) = q := by rw [← hq, Int.max_def]; split <;> split <;> omega
          have hmx' : (if (1 : Int) < d then d - 1 else 0) = q := by rw [← hq, Int.max_def]; split <;> split <;> omega
          have hne : (q != q) = false := by simp
          have HQ := hid_ hq
          clear hb hq
          go_wp2_with (go_at_call 72; refine (send_c HT.out (by show 0 ≤ d ∧ d ≤ 1000000; omega)).mono ?_; rintro e w3 ⟨rfl, hx⟩; rw [show max 0 ((deepT d).depth - 1) = q from HQ.out]; have HT3 := hid_ (show TxS w w3 tb mb 0 (deepT q) from (by rw [← HQ.out]; exact hx.s)); clear hx)
          go_roundw
          case rel => exact ⟨k + 1, q, by omega, hq1, by omega, by go_num, by first | rfl | rw [HQ.out], HT3.out⟩
          case measure => simp [intOf]; omega
      · obtain rfl : k = l.length := by omega
        obtain ⟨⟨wv, gv, ht, _⟩, _, _, hB⟩ := HT.out
        have HX2 := hid_ ht
        have HB2 := hid_ hB
        clear ht hB
        go_wp2_with (first
          | (go_at_call 73; refine (named_c _ HX2.out).mono ?_; rintro e w4 ⟨rfl, hb⟩; rw [show (deepT d).root = 0 from rfl, show (deepT d).is = false from rfl]; replace HX2 := hid_ (HX2.out.mono hb); replace HB2 := hid_ (btr HB2.out hb); clear hb)
          | (go_at_call 74; refine (spoilt_c _ HX2.out).mono ?_; rintro e w5 ⟨rfl, hb⟩; rw [show (deepT d).bad = false from rfl]; replace HX2 := hid_ (HX2.out.mono hb); replace HB2 := hid_ (btr HB2.out hb); clear hb)
          | (go_at_call 36; go_loud (refine (noted_c _ HX2.out (show (deepT d).words.length ≤ 100000 from Nat.zero_le _)).mono ?_; rintro e w6 ⟨v', rfl, hO, hb⟩; replace hO : w6.ownsRow _ 25 2 v' 0 [] := hO; obtain ⟨An, cn, rfl, _, _, _⟩ := Rd.own (l := ([] : List Sp)) hO; replace HB2 := hid_ (btr HB2.out hb); clear hO hb)))
        go_ret
        exact ⟨rfl, HB2.out⟩
end Go.Proofs.Ytncdkbhkjamdpaa
