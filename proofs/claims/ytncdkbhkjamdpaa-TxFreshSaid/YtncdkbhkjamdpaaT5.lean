/- The program's transaction (chapter 20): add, Note, May. -/
import Derived.Test.YtncdkbhkjamdpaaT4
namespace Go.Proofs.Ytncdkbhkjamdpaa
open Go.RowKit Go.Maps

theorem foldl_take (l acc : List Sp) {k : Nat} (hk : k < l.length) : (l.take (k + 1)).foldl addW acc = addW ((l.take k).foldl addW acc) l[k] := by
  rw [List.take_add_one, List.getElem?_eq_getElem hk]
  simp only [Option.toList_some, List.foldl_append, List.foldl_cons, List.foldl_nil]
theorem all_bd {T : TS} (h : TOk T) : BdL (allT T) := (all_ok h).2.1.bd (all_ok h).1 (by decide) (by decide)
theorem Small.bd {s : Sp} (h : Small s) : s.Bd := ⟨by have := h.f0; omega, by have := h.f1; omega, by have := h.m0; omega, by have := h.m1; omega⟩
structure TLen (T : TS) (n : Nat) : Prop where
  w : T.words.length ≤ 10000
  f : T.fresh.length ≤ n
  n : n ≤ 10000
  g : T.gone.length ≤ 10000

theorem bx_not {w : World} {tb mb n : Nat} {wv gv : Value} {T : TS} (h : TxT w tb mb n wv gv T) (b : Nat) (hb : w.heap.size ≤ b) : b ∉ tw tb mb gv := by
  have h1 := h.lt
  have h2 := h.om.lt
  simp only [tw, List.mem_cons, not_or]
  exact ⟨by omega, by omega, fun e => by have := ownBlk_lt h.go (mem_ob e); omega⟩
theorem TRes.behind {w w1 w' : World} {tb mb n : Nat} {wv gv : Value} {T : TS} (h : TRes w1 w' tb mb n wv gv T) (hb : Below w.heap.size w w1) : TRes w w' tb mb n wv gv T := by
  obtain ⟨⟨wv', gv', a, b, c⟩, f⟩ := h
  exact ⟨⟨wv', gv', a, (NewOr.refl w wv).trans b hb.size, (NewOr.refl w gv).trans c hb.size⟩, (Fr.of_below hb).trans f⟩

/-! ### May -/
set_option maxHeartbeats 4000000 in
set_option maxRecDepth 100000 in
theorem may_c {tb mb n : Nat} {wv gv : Value} {T : TS} (s : Sp) (w : World) (h : TxT w tb mb n wv gv T) (hok : TOk T) (hl : TLen T n) (hs : Small s) :
    Calls Try.prog 40 #[.pointer (some ⟨tb, 0, none⟩), .agg #[.int .i64 s.f, .int .i64 s.m]] w fun e w' => e = .returned (.bool (mayT T s)) ∧ Below w.heap.size w w' := by
  have HOK := hid_ hok
  have HS := hid_ hs
  have hl1 := hl.w; have hl2 := hl.f; have hl3 := hl.n
  have HB := hid_ (balloc' w (.cells #[.int .i64 s.f, .int .i64 s.m] 25))
  have H := hid_ (h.mono HB.out)
  have hc := H.out.c0
  obtain ⟨Aw, cw, hwv, _, _, _⟩ := id H.out.rw_
  clear h hok hs hl
  have e0 : (w.alloc (.cells #[.int .i64 s.f, .int .i64 s.m] 25)).cell? ⟨w.heap.size, 0, none⟩ = some (.int .i64 s.f) := cell_new 0 rfl
  have e1 : (w.alloc (.cells #[.int .i64 s.f, .int .i64 s.m] 25)).cell? ⟨w.heap.size, 1, none⟩ = some (.int .i64 s.m) := cell_new 1 rfl
  have HWV : Hid (wv = .slice Aw T.words.length cw) := hwv
  rw [hwv] at hc
  clear hwv
  go_enter Try.func40, Try.ntmps40
  go_wp2_with (go_at_call 100; refine (spans_c _ H.out HOK.out.up HOK.out.fok (by omega) hl2).mono ?_; rintro e w2 ⟨v, rfl, hO, hb⟩; have HR := hid_ (Rd.own hO); have HB2 := hid_ hb; have HT := hid_ (H.out.mono hb); have f0 := cmono hb e0; have f1 := cmono hb e1; obtain ⟨A, c, rfl, hcl, hcl', _⟩ := id HR.out; clear hO hb e0 e1)
  have HRW : Hid (RdS w2 (.slice Aw T.words.length cw) T.words) := by show Rd _ _ _ _ _; rw [← HWV.out]; exact HT.out.rw_
  have hsl := spsF_len T.fresh
  have HSL := hid_ hsl
  clear hsl
  go_loopw [5, 18] (fun u i wr => ∃ k : Nat, k ≤ (spsF T.fresh).length ∧ i = .int .i64 k ∧ Hid (RdS wr u (((spsF T.fresh).take k).foldl addW T.words)) ∧ Below w2.heap.size w2 wr) (fun _ i _ => (spsF T.fresh).length - (intOf i).toNat)
  case atStart => exact ⟨0, Nat.zero_le _, rfl, HRW.out, Below.refl _ _⟩
  case round =>
    obtain ⟨k, hk, rfl, HA, hB⟩ := hrel
    by_cases hlt : k < (spsF T.fresh).length
    · obtain ⟨b, o, rfl, g0, g1⟩ := RdS.at HR.out hB hlt
      have HFT := hid_ (foldl_take (spsF T.fresh) T.words hlt)
      have hfl := fold_len ((spsF T.fresh).take k) T.words
      rw [List.length_take] at hfl
      have hlk : (spsF T.fresh).length ≤ 10000 := by rw [HSL.out]; omega
      generalize (spsF T.fresh)[k] = x at g0 g1 HFT
      obtain ⟨Au, cu, hu, _, _, _⟩ := id HA.out
      subst hu
      go_wp2_with (go_at_call 27; refine (add_c _ _ x _ (HA.out.mono (balloc' _ _)) (by omega)).mono ?_; rintro e w3 ⟨v', rfl, hO, hb⟩; have HO := hid_ (Rd.own hO); have HB3 := hid_ (btr (balloc' _ _) hb); clear hO hb)
      go_roundw
      case rel => exact ⟨k + 1, by omega, by go_num, by show Rd _ _ _ _ _; rw [HFT.out]; exact HO.out, btr hB HB3.out⟩
      case measure => simp [intOf]; omega
    · obtain rfl : k = (spsF T.fresh).length := by omega
      rw [List.take_length] at HA
      have HBd := hid_ (all_bd HOK.out)
      replace f0 := cmono hB f0
      replace f1 := cmono hB f1
      obtain ⟨Au, cu, hu, _, _, _⟩ := id HA.out
      subst hu
      go_wp2_with (go_at_call 31; refine (covers_c (allT T) s _ _ HA.out HBd.out HS.out.bd).mono ?_; rintro e w4 ⟨rfl, hb⟩; have HB4 := hid_ hb; clear hb)
      go_ret
      exact ⟨rfl, btr HB.out (btr HB2.out (btr hB HB4.out))⟩

/-! ### add -/
/-- What note and add tell and leave. -/
structure NRes (w w' : World) (tb mb n : Nat) (wv gv : Value) (T : TS) (s : Sp) (v : Value) : Prop where
  o : w'.ownsRow w.heap.size 25 2 v (noteO T s).length (flat Sp.enc (noteO T s))
  t : TRes w w' tb mb n wv gv (noteT T s)
/-- Loop 2 of add. -/
structure AddL (w : World) (tb mb n : Nat) (wv gv : Value) (T : TS) (base : Nat) (v : Value) (out : List Sp) (k : Nat) (wr : World) : Prop where
  ex : ∃ wv', TxT wr tb mb n wv' gv { T with words := (out.take k).foldl addW T.words } ∧ NewOr w wv wv'
  fr : Fr (tw tb mb gv) w wr
  o : wr.ownsRow base 25 2 v out.length (flat Sp.enc out)
set_option maxHeartbeats 8000000 in
set_option maxRecDepth 100000 in
theorem nadd_c {tb mb n : Nat} {wv gv : Value} {T : TS} (s : Sp) (bv : Value) (w : World) (h : TxT w tb mb n wv gv T) (hok : TOk T) (hl : TLen T n) (hs : Small s) (hbv : RdS w bv (spsF T.fresh)) :
    Calls Try.prog 101 #[.pointer (some ⟨tb, 0, none⟩), .agg #[.int .i64 s.f, .int .i64 s.m], bv] w fun e w' => ∃ v, e = .returned v ∧ NRes w w' tb mb n wv gv T s v := by
  have HOK := hid_ hok
  have HS := hid_ hs
  have hl1 := hl.w; have hl2 := hl.f; have hl3 := hl.n
  have HB := hid_ (balloc' w (.cells #[.int .i64 s.f, .int .i64 s.m] 25))
  have H := hid_ (h.mono HB.out)
  have HR := hid_ (hbv.mono HB.out)
  have hc := H.out.c0
  obtain ⟨Aw, cw, hwv, _, _, _⟩ := id H.out.rw_
  obtain ⟨A, c, rfl, hcl, hcl', _⟩ := id hbv
  have e0 : (w.alloc (.cells #[.int .i64 s.f, .int .i64 s.m] 25)).cell? ⟨w.heap.size, 0, none⟩ = some (.int .i64 s.f) := cell_new 0 rfl
  have e1 : (w.alloc (.cells #[.int .i64 s.f, .int .i64 s.m] 25)).cell? ⟨w.heap.size, 1, none⟩ = some (.int .i64 s.m) := cell_new 1 rfl
  have HWV : Hid (wv = .slice Aw T.words.length cw) := hwv
  have HRW : Hid (RdS (w.alloc (.cells #[.int .i64 s.f, .int .i64 s.m] 25)) (.slice Aw T.words.length cw) T.words) := by show Rd _ _ _ _ _; rw [← hwv]; exact H.out.rw_
  rw [hwv] at hc
  clear h hok hs hl hbv hwv
  have hsl := spsF_len T.fresh
  have HSL := hid_ hsl
  clear hsl
  obtain ⟨W, hW⟩ : ∃ W, w.alloc (.cells #[.int .i64 s.f, .int .i64 s.m] 25) = W := ⟨_, rfl⟩
  rw [hW] at HB H HR e0 e1 HRW hc
  go_enter Try.func101, Try.ntmps101
  go_wp2
  clear hW
  go_loopw [7, 19] (fun u i wr => ∃ k : Nat, k ≤ (spsF T.fresh).length ∧ i = .int .i64 k ∧ Hid (RdS wr u (((spsF T.fresh).take k).foldl addW T.words)) ∧ Below W.heap.size W wr) (fun _ i _ => (spsF T.fresh).length - (intOf i).toNat)
  case atStart => exact ⟨0, Nat.zero_le _, rfl, HRW.out, Below.refl _ _⟩
  case round =>
    obtain ⟨k, hk, rfl, HA, hB⟩ := hrel
    by_cases hlt : k < (spsF T.fresh).length
    · obtain ⟨b, o, rfl, g0, g1⟩ := RdS.at HR.out hB hlt
      have HFT := hid_ (foldl_take (spsF T.fresh) T.words hlt)
      have hfl := fold_len ((spsF T.fresh).take k) T.words
      rw [List.length_take] at hfl
      have hlk : (spsF T.fresh).length ≤ 10000 := by rw [HSL.out]; omega
      generalize (spsF T.fresh)[k] = x at g0 g1 HFT
      obtain ⟨Au, cu, hu, _, _, _⟩ := id HA.out
      subst hu
      go_wp2_with (go_at_call 27; refine (add_c _ _ x _ (HA.out.mono (balloc' _ _)) (by omega)).mono ?_; rintro e w3 ⟨v', rfl, hO, hb⟩; have HO := hid_ (Rd.own hO); have HB3 := hid_ (btr (balloc' _ _) hb); clear hO hb)
      go_roundw
      case rel => exact ⟨k + 1, by omega, by go_num, by show Rd _ _ _ _ _; rw [HFT.out]; exact HO.out, btr hB HB3.out⟩
      case measure => simp [intOf]; omega
    · obtain rfl : k = (spsF T.fresh).length := by omega
      rw [List.take_length] at HA
      have hfl := fold_len (spsF T.fresh) T.words
      have hlk : (spsF T.fresh).length ≤ 10000 := by rw [HSL.out]; omega
      have HBd := hid_ (all_bd HOK.out)
      replace e0 := cmono hB e0
      replace e1 := cmono hB e1
      obtain ⟨Au, cu, hu, _, _, _⟩ := id HA.out
      subst hu
      obtain ⟨out, hout⟩ : ∃ out, noteO T s = out := ⟨_, rfl⟩
      have HOUT := hid_ hout
      clear hout
      go_wp2_with (go_at_call 30; refine (missing_c (allT T) s _ _ HA.out HBd.out HS.out.bd (Nat.le_trans hfl (by omega))).mono ?_; rintro e w4 ⟨v, rfl, hO, hb⟩; rw [show gapsL (allT T) s = out from HOUT.out] at hO; have HO := hid_ hO; have HB4 := hid_ (btr HB.out (btr hB hb)); have HT4 := hid_ (H.out.mono (btr hB hb)); have HBS := hid_ hB.size; obtain ⟨Ao, co, rfl, _, _, _⟩ := Rd.own hO; clear hO hb)
      have HOL : Hid (out.length ≤ 30000) := by
        show _ ≤ _
        rw [← HOUT.out]
        have h1 : (noteO T s).length ≤ (allT T).length + 1 := gapsL_len (allT T) s
        have h3 : (allT T).length ≤ T.words.length + (spsF T.fresh).length := hfl
        omega
      have hol := HOL.out
      clear e0 e1
      go_loopw [32] (fun i wr2 => ∃ k : Nat, k ≤ out.length ∧ i = .int .i64 k ∧ Hid (AddL w tb mb n wv gv T W.heap.size (.slice Ao out.length co) out k wr2)) (fun i _ => out.length - (intOf i).toNat)
      case atStart => exact ⟨0, Nat.zero_le _, rfl, ⟨wv, by rw [List.take_zero]; exact HT4.out, NewOr.refl _ _⟩, Fr.of_below HB4.out, ownsRow_base HO.out HBS.out⟩
      case round =>
        obtain ⟨k, hk, rfl, HL⟩ := hrel
        obtain ⟨⟨wv2, hT, hnw⟩, hF, hO2⟩ := HL.out
        have HTk := hid_ hT; have HNW := hid_ hnw; have HFk := hid_ hF; have HOk := hid_ hO2
        clear hT hnw hF hO2 HL
        by_cases hlt : k < out.length
        · obtain ⟨b, o, hbo, g0, g1⟩ := RdS.at (Rd.own HOk.out) (Below.refl _ _) hlt
          subst hbo
          have HFT := hid_ (foldl_take out T.words hlt)
          have hfl2 := fold_len (out.take k) T.words
          rw [List.length_take] at hfl2
          generalize out[k] = x at g0 g1 HFT
          obtain ⟨L, hL⟩ : ∃ L, (out.take k).foldl addW T.words = L := ⟨_, rfl⟩
          rw [hL] at HTk HFT hfl2
          clear hL
          have HB1 := hid_ (balloc' wr (.cells #[.int .i64 x.f, .int .i64 x.m] 25))
          have HT1 := hid_ (HTk.out.mono HB1.out)
          have q0 : (wr.alloc (.cells #[.int .i64 x.f, .int .i64 x.m] 25)).cell? ⟨wr.heap.size, 0, none⟩ = some (.int .i64 x.f) := cell_new 0 rfl
          have q1 : (wr.alloc (.cells #[.int .i64 x.f, .int .i64 x.m] 25)).cell? ⟨wr.heap.size, 1, none⟩ = some (.int .i64 x.m) := cell_new 1 rfl
          obtain ⟨W1, hW1⟩ : ∃ W1, wr.alloc (.cells #[.int .i64 x.f, .int .i64 x.m] 25) = W1 := ⟨_, rfl⟩
          rw [hW1] at HB1 HT1 q0 q1
          have c0 := HT1.out.c0
          obtain ⟨Aw2, cw2, hwv2, _, _, _⟩ := id HT1.out.rw_
          subst hwv2
          have HTd := hid_ (HT1.out.mono (w' := W1.drew) (Below.refl _ _).drew)
          go_upto_region 11 with (fail)
          clear hW1 g0 g1
          have d0 := HTd.out.c0
          have r0 : W1.drew.cell? ⟨wr.heap.size, 0, none⟩ = some (.int .i64 x.f) := q0
          have r1 : W1.drew.cell? ⟨wr.heap.size, 1, none⟩ = some (.int .i64 x.m) := q1
          go_region_with (go_at_call 27; refine (add_c L _ x _ HTd.out.rw_ (by omega)).mono ?_; rintro e w5 ⟨v', rfl, hO, hb⟩; have HO5 := hid_ hO; have HT5 := hid_ (HTd.out.mono hb); have HB5 := hid_ hb; have c5 := HT5.out.c0; have z5 := HT5.out.fz 0; have HOk5 := hid_ (ownsRow_below (ownsRow_below (ownsRow_below HOk.out HB1.out) (Below.refl _ _).drew) hb); obtain ⟨A5, cc5, hv5, _, _, _⟩ := id (Rd.own (l := addW L x) hO); subst hv5; clear hO hb)
          all_goals
            go_wp2
            go_roundw
            case rel =>
              refine ⟨k + 1, by omega, by go_num, ⟨.slice A5 (addW L x).length cc5, ?_, ?_⟩, ?_, ?_⟩
              · rw [HFT.out]
                exact HT5.out.setW (addW L x) HO5.out
              · have hnew : NewOr wr (.slice Aw2 L.length cw2) (.slice A5 (addW L x).length cc5) := fun g hg => Or.inr (by
                  have h1 := (HO5.out.lt g hg).1
                  have h2 := HB1.out.size
                  have h3 : W1.drew.heap.size = W1.heap.size := rfl
                  omega)
                exact HNW.out.trans hnew HFk.out.size
              · exact (((HFk.out.trans (Fr.of_below HB1.out)).trans (Fr.of_below (Below.refl _ _).drew)).trans (Fr.of_below HB5.out)).trans (Fr.of_gb (gb_setCell _ ⟨tb, 0, none⟩ _) (tw_tb _ _ _))
              · exact ownsRow_setCell_other HOk5.out (own_ne_cells HOk5.out HT5.out.blk (by decide)) _
            case measure => simp [intOf]; omega
        · obtain rfl : k = out.length := by omega
          rw [List.take_length] at HTk
          go_wp2
          go_ret
          refine ⟨_, rfl, ?_, ⟨wv2, gv, ?_, HNW.out, NewOr.refl _ _⟩, HFk.out⟩
          · rw [HOUT.out]; exact ownsRow_base HOk.out HB.out.size
          · show TxT _ _ _ _ _ _ (TS.mk _ _ _ _ _ _ _)
            rw [HOUT.out]
            exact HTk.out

/-! ### Note -/
set_option maxHeartbeats 4000000 in
set_option maxRecDepth 100000 in
theorem note_c {tb mb n : Nat} {wv gv : Value} {T : TS} (s : Sp) (w : World) (h : TxT w tb mb n wv gv T) (hok : TOk T) (hl : TLen T n) (hs : Small s) :
    Calls Try.prog 41 #[.pointer (some ⟨tb, 0, none⟩), .agg #[.int .i64 s.f, .int .i64 s.m]] w fun e w' => ∃ v, e = .returned v ∧ NRes w w' tb mb n wv gv T s v := by
  have HOK := hid_ hok
  have HS := hid_ hs
  have HLN := hid_ hl
  have hl2 := hl.f; have hl3 := hl.n
  have HB := hid_ (balloc' w (.cells #[.int .i64 s.f, .int .i64 s.m] 25))
  have H := hid_ (h.mono HB.out)
  have q0 : (w.alloc (.cells #[.int .i64 s.f, .int .i64 s.m] 25)).cell? ⟨w.heap.size, 0, none⟩ = some (.int .i64 s.f) := cell_new 0 rfl
  have q1 : (w.alloc (.cells #[.int .i64 s.f, .int .i64 s.m] 25)).cell? ⟨w.heap.size, 1, none⟩ = some (.int .i64 s.m) := cell_new 1 rfl
  obtain ⟨W, hW⟩ : ∃ W, w.alloc (.cells #[.int .i64 s.f, .int .i64 s.m] 25) = W := ⟨_, rfl⟩
  rw [hW] at HB H q0 q1
  have HB0 : Hid (Below w.heap.size w W.drew) := HB.out.drew
  have H0 := hid_ (h)
  have HTd := hid_ (H.out.mono (w' := W.drew) (Below.refl _ _).drew)
  clear h hok hs hl
  go_enter Try.func41, Try.ntmps41
  go_upto_region 1 with (fail)
  clear hW
  have r0 : W.drew.cell? ⟨w.heap.size, 0, none⟩ = some (.int .i64 s.f) := q0
  have r1 : W.drew.cell? ⟨w.heap.size, 1, none⟩ = some (.int .i64 s.m) := q1
  clear q0 q1
  go_region_held3 (fun W' => W'.cell? ⟨w.heap.size, 0, none⟩ = some (.int .i64 s.f) ∧ W'.cell? ⟨w.heap.size, 1, none⟩ = some (.int .i64 s.m))
    (exact ⟨r0, r1⟩)
    (first
      | (go_at_call 100; go_loud (refine (spans_c _ HTd.out HOK.out.up HOK.out.fok (by omega) hl2).mono ?_; rintro e w2 ⟨v, rfl, hO, hb⟩; have HR := hid_ (Rd.own hO); replace HTd := hid_ (HTd.out.mono hb); replace HB0 := hid_ (btr HB0.out hb); replace r0 := cmono hb r0; replace r1 := cmono hb r1; clear hO hb))
      | (go_at_call 101; go_loud (refine (nadd_c s _ _ HTd.out HOK.out HLN.out HS.out HR.out).mono ?_; rintro e w3 ⟨v, rfl, hr⟩; have HN := hid_ hr; replace r0 := hr.t.fr.cell r0 (bx_not H0.out _ (by simp)); replace r1 := hr.t.fr.cell r1 (bx_not H0.out _ (by simp)); clear hr)))
  go_wp2
  go_ret
  exact ⟨_, rfl, ownsRow_base HN.out.o HB0.out.size, HN.out.t.behind HB0.out⟩
end Go.Proofs.Ytncdkbhkjamdpaa
