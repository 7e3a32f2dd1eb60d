/- The walk of the statement SpanFills: it returns true. -/
import Derived.Test.YtncdkbhkjamdpaaL6
import Derived.Deep.RegionHeld3
namespace Go.Proofs.Ytncdkbhkjamdpaa
open Go.RowKit

structure FillLaw (s : List Sp) (x : Sp) (m : List Sp) (whole : List Sp) : Prop where
  near : -1048576 ≤ x.f ∧ x.f ≤ 1048576 ∧ -1048576 ≤ x.m ∧ x.m ≤ 1048576
  len : m.length ≤ 25
  sbd : BdL s
  slen : s.length ≤ 24
  mbd : BdL m
  wbd : BdL whole
  wlen : whole.length ≤ 25
  no : ∀ y ∈ m, coversB s y = false
  yes : ∀ y ∈ m, coversB [x] y = true
  right : rightB m = true
  same : m.foldl addW s = whole
  add : addW s x = whole
  tot : (totW whole == totW s + totW m) = true
  low : -9223372036854775808 ≤ totW s + totW m
  high : totW s + totW m ≤ 9223372036854775807
  none : gapsL whole x = []
theorem RF.pos {l : List Sp} : ∀ {p : Int}, RF p l → ∀ s ∈ l, 1 ≤ s.m := by
  induction l with
  | nil => intro _ _ s hs; cases hs
  | cons t l ih =>
    intro p h s hs
    rcases List.mem_cons.1 hs with rfl | hs
    · exact h.2.1
    · exact ih h.2.2 s hs
theorem has_of_mem {l : List Sp} {s : Sp} {y : Int} (hs : s ∈ l) (h1 : s.f ≤ y) (h2 : y < s.f + s.m) : Has l y := ⟨s, hs, h1, h2⟩
theorem fill_law {f : Int} {l : List Int} {s : List Sp} (h : SetOk f l s) (hf : -128 ≤ f) (x : Sp) (hx : Near x) : FillLaw s x (gapsL s x) (addW s x) := by
  have hx' := hx
  obtain ⟨x1, x2, x3, x4⟩ := hx
  have hr : RF (-3000000) s := h.rf.mono (by omega)
  have hw : Win (-3000000 + 1) 3000000 s := fun z hz => by have := h.win z hz; omega
  have hws : Win (-3000000) 3000000 s := fun z hz => by have := h.win z hz; omega
  have hsum := sum_le hr hws (by decide)
  have ts := totW_eq hr hws (by decide) (by decide) (by decide)
  by_cases hm : 1 ≤ x.m
  · obtain ⟨g1, g2, g3⟩ := gapsL_ok (s := x) (lo := -3000000 + 1) (hi := 3000000) hr (by omega) (by omega)
    obtain ⟨a1, a2, a3⟩ := addW_ok (s := x) hr hw (by decide) (by decide) (by omega) (by omega) (by decide)
    have g1' : RF (-3000000) (gapsL s x) := g1.mono (by omega)
    have gw : Win (-3000000) 3000000 (gapsL s x) := fun z hz => by have := g2 z hz; omega
    have aw : Win (-3000000) 3000000 (addW s x) := fun z hz => by have := a2 z hz; omega
    have hgs := sum_le g1' gw (by decide)
    have tg := totW_eq g1' gw (by decide) (by decide) (by decide)
    have ta := totW_eq a1 aw (by decide) (by decide) (by decide)
    have hsumadd : sumM (addW s x) = sumM s + sumM (gapsL s x) := by
      rw [addW_rec hr hw (by decide) (by decide) (by omega) (by omega) hm, gapsL_rec, sum_add hr (by omega)]
    obtain ⟨f1, f2, f3⟩ := fold_ok (p := -3000000) (by decide) (by decide) (by decide) (gapsL s x) s hr hw g2
    refine ⟨hx', ?_, h.bd, h.len, g2.bd g1' (by decide) (by decide), a2.bd a1 (by decide) (by decide), ?_, fun y hy => ?_, fun y hy => ?_, g1.rightB, ?_, rfl, ?_, ?_, ?_, ?_⟩
    · have := gapsL_len s x
      have := h.len
      omega
    · have := addW_len s x
      have := h.len
      omega
    · have hp := g1.pos y hy
      cases hc : coversB s y with
      | false => rfl
      | true =>
        have := (coversB_iff hr y).1 hc y.f (Int.le_refl _) (by omega)
        exact absurd this ((g3 y.f).1 (has_of_mem hy (Int.le_refl _) (by omega))).2
    · have hrx : RF (x.f - 1) [x] := ⟨by omega, hm, trivial⟩
      refine (coversB_iff hrx y).2 fun z z1 z2 => ?_
      have := ((g3 z).1 (has_of_mem hy z1 z2)).1
      exact has_of_mem (List.mem_singleton.2 rfl) this.1 this.2
    · refine f1.uniq a1 fun y => ?_
      rw [f3, a3, g3]
      constructor
      · rintro (h | h)
        · exact .inl h
        · exact .inr h.1
      · rintro (h | h)
        · exact .inl h
        · by_cases hy : Has s y
          · exact .inl hy
          · exact .inr ⟨h, hy⟩
    · rw [ts, tg, ta, hsumadd]; simp
    · rw [ts, tg]; omega
    · rw [ts, tg]; omega
    · have := (coversB_iff a1 x).2 fun y y1 y2 => (a3 y).2 (.inr ⟨y1, y2⟩)
      rw [coversB, decide_eq_true_eq] at this
      exact this
  · have hg : gapsL s x = [] := by rw [gapsL_rec]; exact gapsRec_none (by omega)
    have ha : addW s x = s := by rw [addW, if_pos (by omega)]
    rw [hg, ha]
    have t0 : totW [] = 0 := rfl
    refine ⟨hx', by simp, h.bd, h.len, (by intro _ hs; cases hs), h.bd, by have := h.len; omega, (by intro _ hs; cases hs), (by intro _ hs; cases hs), RF.rightB (p := 0) trivial, rfl, ha, ?_, ?_, ?_, hg⟩
    · rw [t0]; simp
    · rw [ts, t0]; omega
    · rw [ts, t0]; omega

set_option maxHeartbeats 4000000 in
set_option maxRecDepth 100000 in
theorem spanFills_walk (f : Int) (l : List Int) (v : Value) (x : Sp) (w : World) (hv : RdB w v l) (hb : Bytes l) (f1 : -128 ≤ f) (f2 : f ≤ 127) :
    Calls Try.prog 8 #[.int .i8 f, v, .agg #[.int .i64 x.f, .int .i64 x.m]] w fun e w' => e = .returned (.bool true) ∧ Below w.heap.size w w' := by
  have HV := hid_ hv
  have HY := hid_ hb
  clear hb
  obtain ⟨A, cp, rfl, hl, hl', _⟩ := hv
  have q1 := cell_new (wr := w) (cs := #[.int .i64 x.f, .int .i64 x.m]) (e := 25) 0 rfl
  have q2 := cell_new (wr := w) (cs := #[.int .i64 x.f, .int .i64 x.m]) (e := 25) 1 rfl
  by_cases hin : l.length ≤ 24 ∧ (-1048576 ≤ x.f ∧ x.f ≤ 1048576 ∧ -1048576 ≤ x.m ∧ x.m ≤ 1048576)
  · obtain ⟨hlen, hn⟩ := hin
    have HK := hid_ (SetOk.mk' (l := l) f1 f2 hlen)
    have HF := hid_ (fill_law HK.out f1 x hn)
    obtain ⟨n1, n2, n3, n4⟩ := hn
    obtain ⟨s, hs⟩ : ∃ s, madeL f l = s := ⟨_, rfl⟩
    rw [hs] at HK HF
    have HS := hid_ hs
    clear hs
    obtain ⟨m, hm⟩ : ∃ m, gapsL s x = m := ⟨_, rfl⟩
    obtain ⟨wh, hwh⟩ : ∃ wh, addW s x = wh := ⟨_, rfl⟩
    rw [hm, hwh] at HF
    have HM := hid_ hm; have HWH := hid_ hwh
    clear hm hwh
    have hlm := HF.out.len
    have hls := HF.out.slen
    go_enter Try.func8, Try.ntmps8
    go_wp2_with (first
      | (go_at_call 22; refine (awake_c _).mono ?_; rintro e w1 ⟨rfl, hb⟩; have HV1 := hid_ (HV.out.mono (btr (balloc' _ _) hb)); have B1 := hid_ (btr (balloc' _ _) hb); have E1 := cmono hb q1; have E2 := cmono hb q2; clear hb q1 q2)
      | (go_at_call 26; refine (made_c f l _ _ HV1.out HY.out (by omega) (by omega) (by omega)).mono ?_; rintro e w2 ⟨vs, rfl, hR, hb⟩; rw [HS.out] at hR; have HR := hid_ hR.rd; replace B1 := hid_ (btr B1.out hb); replace E1 := cmono hb E1; replace E2 := cmono hb E2; clear hb hR)
      | (go_at_call 30; refine (missing_c s x _ _ HR.out HF.out.sbd ⟨by omega, by omega, by omega, by omega⟩ (by omega)).mono ?_; rintro e w3 ⟨vm, rfl, hO, hb⟩; rw [HM.out] at hO; have RM := hid_ (Rd.own hO); replace HR := hid_ (HR.out.mono hb); replace B1 := hid_ (btr B1.out hb); replace E1 := cmono hb E1; replace E2 := cmono hb E2; clear hb hO))
    obtain ⟨Am, cm, rfl, _, _, _⟩ := id RM.out
    go_loopw [10, 11] (fun a i wr => ∃ k : Nat, k ≤ m.length ∧ i = .int .i64 k ∧ Hid (RdS wr a ((m.take k).foldl addW s)) ∧ Below w3.heap.size w3 wr) (fun _ i _ => m.length - (intOf i).toNat)
    case atStart => exact ⟨0, Nat.zero_le _, rfl, HR.out, Below.refl _ _⟩
    case round =>
      obtain ⟨k, hk, rfl, HA, hB⟩ := hrel
      by_cases hlt : k < m.length
      · obtain ⟨b, o, rfl, h1, h2⟩ := RdS.at RM.out hB hlt
        have HTK : Hid (m.take (k + 1) = m.take k ++ [m[k]]) := by show _ = _; rw [List.take_add_one, List.getElem?_eq_getElem hlt]; rfl
        have HNO := hid_ (HF.out.no _ (List.getElem_mem hlt))
        have HYES := hid_ (HF.out.yes _ (List.getElem_mem hlt))
        have HBD := hid_ (HF.out.mbd.at hlt)
        have HLA : Hid (((m.take k).foldl addW s).length ≤ 60) := by
          have q1 := fold_len (m.take k) s
          simp at q1
          show _ ≤ _; omega
        generalize m[k] = y at *
        have G1 := cmono hB E1
        have G2 := cmono hB E2
        have hBd : Below w3.heap.size w3 wr.drew := hB.drew
        have R1 := hid_ (HR.out.mono hBd)
        have HAd : Hid (RdS wr.drew u10 ((m.take k).foldl addW s)) := HA.out.mono (Below.refl _ _).drew
        have tok1 : True := trivial
        go_upto_region 10 with (fail)
        have HX : Hid (∀ W : World, RdS (W.alloc (.cells #[.int .i64 x.f, .int .i64 x.m] 25)) (.slice (some ⟨W.heap.size, 0, none⟩) 1 1) [x]) := fun W => RdS.new W [x] (by simp)
        have HXB : Hid (BdL [x]) := by
          have := HF.out.near
          intro z hz
          obtain rfl := List.mem_singleton.1 hz
          exact ⟨by omega, by omega, by omega, by omega⟩
        go_region_held3 (fun W' => W'.cell? ⟨w.heap.size, 0, none⟩ = some (.int .i64 x.f) ∧ W'.cell? ⟨w.heap.size, 1, none⟩ = some (.int .i64 x.m) ∧ W'.cell? ⟨b, o + k * 2, none⟩ = some (.int .i64 y.f) ∧ W'.cell? ⟨b, o + k * 2 + 1, none⟩ = some (.int .i64 y.m))
          (first | exact ⟨G1, G2, h1, h2⟩ | exact ⟨cell_old _ _ G1, cell_old _ _ G2, cell_old _ _ h1, cell_old _ _ h2⟩)
          (first
          | (go_at_call 31; have _t := tok1; refine (covers_c s y _ _ R1.out HF.out.sbd HBD.out).mono ?_; rintro e w4 ⟨rfl, hb⟩; rw [HNO.out]; have B4 := hid_ (btr hBd hb); replace G1 := cmono (W := wr.drew) hb G1; replace G2 := cmono (W := wr.drew) hb G2; replace h1 := cmono (W := wr.drew) hb h1; replace h2 := cmono (W := wr.drew) hb h2; replace HAd := hid_ (HAd.out.mono hb); clear hb tok1)
          | (go_at_call 31; refine (covers_c [x] y _ _ (HX.out _) HXB.out HBD.out).mono ?_; rintro e w5 ⟨rfl, hb⟩; rw [HYES.out]; have B5 := hid_ (btr (balloc B4.out _) hb); replace G1 := cmono hb (cell_old _ _ G1); replace G2 := cmono hb (cell_old _ _ G2); replace h1 := cmono hb (cell_old _ _ h1); replace h2 := cmono hb (cell_old _ _ h2); replace HAd := hid_ (HAd.out.mono (btr (balloc' _ _) hb)); clear hb))
        go_wp2_with (go_at_call 27; refine (add_c _ _ y _ HAd.out (by have := HLA.out; omega)).mono ?_; rintro e w6 ⟨va, rfl, hO, hb⟩; have RA := hid_ (Rd.own hO); have B6 := hid_ (btr B5.out hb); clear hb hO)
        go_roundw
        case rel => exact ⟨k + 1, by omega, by go_num, by show RdS _ _ _; rw [HTK.out, List.foldl_append]; exact RA.out, B6.out⟩
        case measure => simp [intOf]; omega
      · obtain rfl : k = m.length := by omega
        rw [List.take_length] at HA
        have G1 := cmono hB E1
        have G2 := cmono hB E2
        have R1 := hid_ (HR.out.mono hB)
        have M1 := hid_ (RM.out.mono hB)
        have B4 := hid_ (btr B1.out hB)
        have HSM := hid_ HF.out.same
        have HN := hid_ HF.out.none
        have hl1 := HF.out.low
        have hh1 := HF.out.high
        have hT := HF.out.tot
        have hwl := HF.out.wlen
        have HR8 := hid_ HF.out.right
        have tok1 : True := trivial
        have tok2 : True := trivial
        rw [HSM.out] at HA
        go_wp2_with (first
          | (go_at_call 27; refine (add_c s _ x _ R1.out (by omega)).mono ?_; rintro e u1 ⟨vw, rfl, hO, hb⟩; rw [HWH.out] at hO; have RW := hid_ (Rd.own hO); replace G1 := cmono hb G1; replace G2 := cmono hb G2; replace R1 := hid_ (R1.out.mono hb); replace M1 := hid_ (M1.out.mono hb); replace HA := hid_ (HA.out.mono hb); replace B4 := hid_ (btr B4.out hb); clear hb hO)
          | (go_at_call 24; refine (right_c m _ _ M1.out HF.out.mbd).mono ?_; rintro e u2 ⟨rfl, hb⟩; rw [HR8.out]; replace RW := hid_ (RW.out.mono hb); replace G1 := cmono hb G1; replace G2 := cmono hb G2; replace R1 := hid_ (R1.out.mono hb); replace M1 := hid_ (M1.out.mono hb); replace HA := hid_ (HA.out.mono hb); replace B4 := hid_ (btr B4.out hb); clear hb)
          | (go_at_call 28; refine (same_c wh wh _ _ _ HA.out RW.out).mono ?_; rintro e u3 ⟨rfl, hb⟩; rw [decide_eq_true rfl]; replace RW := hid_ (RW.out.mono hb); replace G1 := cmono hb G1; replace G2 := cmono hb G2; replace R1 := hid_ (R1.out.mono hb); replace M1 := hid_ (M1.out.mono hb); replace B4 := hid_ (btr B4.out hb); clear hb)
          | (go_at_call 25; have _t := tok1; refine (total_c wh _ _ RW.out).mono ?_; rintro e u4 ⟨rfl, hb⟩; replace RW := hid_ (RW.out.mono hb); replace G1 := cmono hb G1; replace G2 := cmono hb G2; replace R1 := hid_ (R1.out.mono hb); replace M1 := hid_ (M1.out.mono hb); replace B4 := hid_ (btr B4.out hb); clear hb tok1)
          | (go_at_call 25; have _t := tok2; refine (total_c s _ _ R1.out).mono ?_; rintro e u5 ⟨rfl, hb⟩; replace RW := hid_ (RW.out.mono hb); replace G1 := cmono hb G1; replace G2 := cmono hb G2; replace M1 := hid_ (M1.out.mono hb); replace B4 := hid_ (btr B4.out hb); clear hb tok2)
          | (go_at_call 25; refine (total_c m _ _ M1.out).mono ?_; rintro e u6 ⟨rfl, hb⟩; replace RW := hid_ (RW.out.mono hb); replace G1 := cmono hb G1; replace G2 := cmono hb G2; replace B4 := hid_ (btr B4.out hb); clear hb)
          | (go_at_call 30; refine (missing_c wh x _ _ RW.out HF.out.wbd ⟨by omega, by omega, by omega, by omega⟩ (by omega)).mono ?_; rintro e u7 ⟨vn, rfl, hO, hb⟩; rw [HN.out] at hO; obtain ⟨An, cn, rfl, _, _, _⟩ := Rd.own hO; replace B4 := hid_ (btr B4.out hb); clear hb hO))
        go_ret
        exact ⟨rfl, B4.out⟩
  · have key : 24 < l.length ∨ (l.length ≤ 24 ∧ (x.f < -1048576 ∨ (-1048576 ≤ x.f ∧ (1048576 < x.f ∨ (x.f ≤ 1048576 ∧ (x.m < -1048576 ∨ (-1048576 ≤ x.m ∧ 1048576 < x.m))))))) := by omega
    clear hin
    rcases key with c | ⟨c, c1 | ⟨c1, c2 | ⟨c2, c3 | ⟨c3, c4⟩⟩⟩⟩
    all_goals
      go_enter Try.func8, Try.ntmps8
      go_wp2_with (go_at_call 22; refine (awake_c _).mono ?_; rintro e w1 ⟨rfl, hb⟩; have B1 := hid_ (btr (balloc' _ _) hb); have E1 := cmono hb q1; have E2 := cmono hb q2; clear hb q1 q2)
      go_ret
      exact ⟨rfl, B1.out⟩
end Go.Proofs.Ytncdkbhkjamdpaa
