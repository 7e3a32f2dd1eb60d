/- The walk of the statement TxNotes: it returns true. -/
import Derived.Test.YtncdkbhkjamdpaaU0
import Derived.Deep.RegionHeld3
namespace Go.Proofs.Ytncdkbhkjamdpaa
open Go.RowKit Go.Maps

theorem own_slice9 {w : World} {base : Nat} {e : TypeId} {k : Nat} {v : Value} {n : Nat} {xs : List Value} (h : w.ownsRow base e k v n xs) : ∃ A c, v = .slice A n c := by
  rcases h.2 with ⟨rfl, h0⟩ | ⟨g, cap, cur, rfl, _⟩
  · exact ⟨none, 0, by rw [h0]⟩
  · exact ⟨_, _, rfl⟩
theorem len_of {T : TS} {n : Nat} (h : TOk T) (hf : T.fresh.length ≤ n) (hn : n ≤ 10000) (hg : T.gone.length ≤ 10000) : TLen T n := by
  have h1 := rf_len h.rf
  have h2 := sum_win h.rf h.win (by decide)
  exact ⟨by omega, hf, hn, hg⟩
theorem note_tot {T : TS} (h : TOk T) (s : Sp) (hs : Small s) : totW (noteO T s) ≤ s.m := by
  obtain ⟨a, b, _⟩ := noteO_ok h s hs
  have h1 := hs.f0; have h2 := hs.f1; have h3 := hs.m0; have h4 := hs.m1
  have hw : Win (s.f - 1) (s.f + s.m) (noteO T s) := win_mono b (by omega) (Int.le_refl _)
  rw [totW_eq a hw (by omega) (by omega) (by omega)]
  exact (notes_law h s hs).sum

set_option maxHeartbeats 16000000 in
set_option maxRecDepth 100000 in
theorem txNotes_walk (l : List O20) (v : Value) (s : Sp) (w : World) (hv : RdO20 w v l) :
    Calls Try.prog 9 #[v, .agg #[.int .i64 s.f, .int .i64 s.m]] w fun e w' => e = .returned (.bool true) ∧ Below w.heap.size w w' := by
  have HB0 := hid_ (balloc' w (.cells #[.int .i64 s.f, .int .i64 s.m] 25))
  have HV0 := hid_ (hv.mono HB0.out)
  have e0 : (w.alloc (.cells #[.int .i64 s.f, .int .i64 s.m] 25)).cell? ⟨w.heap.size, 0, none⟩ = some (.int .i64 s.f) := cell_new 0 rfl
  have e1 : (w.alloc (.cells #[.int .i64 s.f, .int .i64 s.m] 25)).cell? ⟨w.heap.size, 1, none⟩ = some (.int .i64 s.m) := cell_new 1 rfl
  obtain ⟨bx, hbx⟩ : ∃ bx, w.heap.size = bx := ⟨_, rfl⟩
  obtain ⟨W, hW⟩ : ∃ W, w.alloc (.cells #[.int .i64 s.f, .int .i64 s.m] 25) = W := ⟨_, rfl⟩
  rw [hW] at HB0 HV0
  rw [hbx, hW] at e0 e1
  have E0 := hid_ e0
  have E1 := hid_ e1
  obtain ⟨A, c, rfl, hl, hl', _⟩ := hv
  cases hf : fewL20 l with
  | false =>
    have HF := hid_ hf
    clear hf
    go_enter Try.func9, Try.ntmps9
    go_wp2_with (first
      | (go_at_call 32; refine (awake20_c _).mono ?_; rintro e w1 ⟨rfl, hb⟩; have B1 := hid_ hb; have HV1 := hid_ (HV0.out.mono hb); replace e0 := cmono hb e0; replace e1 := cmono hb e1; clear hb)
      | (go_at_call 33; refine (few20_c l _ _ HV1.out).mono ?_; rintro e w2 ⟨rfl, hb⟩; rw [HF.out]; have B2 := hid_ (btr B1.out hb); replace e0 := cmono hb e0; replace e1 := cmono hb e1; clear hb))
    go_ret
    exact ⟨rfl, btr HB0.out B2.out⟩
  | true =>
    have HSM := hid_ ((fewL20_iff l).1 hf).1
    have hlen := ((fewL20_iff l).1 hf).2
    have HF := hid_ hf
    clear hf
    by_cases hs : Small s
    · have HS := hid_ hs
      obtain ⟨s1, s2, s3, s4⟩ := hs
      go_enter Try.func9, Try.ntmps9
      go_wp2_with (first
        | (go_at_call 32; refine (awake20_c _).mono ?_; rintro e w1 ⟨rfl, hb⟩; have B1 := hid_ hb; have HV1 := hid_ (HV0.out.mono hb); replace e0 := cmono hb e0; replace e1 := cmono hb e1; clear hb)
        | (go_at_call 33; refine (few20_c l _ _ HV1.out).mono ?_; rintro e w2 ⟨rfl, hb⟩; rw [HF.out]; have B2 := hid_ (btr B1.out hb); replace e0 := cmono hb e0; replace e1 := cmono hb e1; clear hb)
        | (go_at_call 34; refine (tnew_c _).mono ?_; rintro e w3 ⟨tb, mb, rfl, ht, hb, h1, h2⟩; have HP0 := hid_ (pe_new ht B2.out hb h1 h2); clear ht hb h1 h2))
      clear hW hbx e0 e1
      go_loopw [9] (fun i wr => ∃ k : Nat, k ≤ l.length ∧ i = .int .i64 k ∧ Hid (PE W tb mb w3.heap.size k wr)) (fun i _ => l.length - (intOf i).toNat)
      case atStart => exact ⟨0, Nat.zero_le _, rfl, HP0.out⟩
      case round =>
        obtain ⟨k, hk, rfl, HP⟩ := hrel
        by_cases hlt : k < l.length
        · have HC := hid_ (fun (W' : World) (hW : Below W.heap.size W W') => RdO20.at HV0.out hW hlt)
          have HSO := hid_ (HSM.out _ (List.getElem_mem hlt))
          generalize l[k] = x at HC HSO
          obtain ⟨b, o, rfl, hC⟩ := HC.out wr HP.out.b
          have c0 := hC.c0; have c1 := hC.c1; have c2 := hC.c2; have c3 := hC.c3; have c4 := hC.c4; have c5 := hC.c5; have c6 := hC.c6; have c7 := hC.c7; have c8 := hC.c8; have c9 := hC.c9; have c10 := hC.c10; have c11 := hC.c11
          clear hC
          have HK1 : Hid (k ≤ 50) := by show _ ≤ _; omega
          go_wp2_with (go_at_call 35; go_loud (refine (do20_c x _ HP.out HK1.out HSO.out.1 HSO.out.2).mono ?_; rintro e w4 ⟨rfl, hp⟩; have HP5 := hid_ hp; clear hp))
          go_roundw
          case rel => exact ⟨k + 1, by omega, by go_num, HP5.out⟩
          case measure => simp [intOf]; omega
        · obtain rfl : k = l.length := by omega
          obtain ⟨n, wv, gv, rwv, rfv, rgv, T, R, hp2, ha2⟩ := HP.out.ex
          have HX := hid_ hp2
          have HOK := hid_ ha2.ok
          have HLN := hid_ (ha2.len (by omega))
          have HOK1 := hid_ (noteT_ok ha2.ok s HS.out)
          have HLN1 : Hid (TLen (noteT T s) n) := len_of HOK1.out ha2.fl (by have := ha2.nk; omega) (show T.gone.length ≤ 10000 by have := ha2.gl; omega)
          have HLW := hid_ (notes_law ha2.ok s HS.out)
          have HTOT := hid_ (note_tot ha2.ok s HS.out)
          have HBA : Hid (BdL (noteO T s)) := HLW.out.wa.bd HLW.out.ra (by decide) (by decide)
          have HBT : Hid (BdL (noteT T s).words) := HOK1.out.win.bd HOK1.out.rf (by decide) (by decide)
          have HRA : Hid (rightB (noteO T s) = true) := HLW.out.ra.rightB
          have HRT : Hid (rightB (noteT T s).words = true) := HOK1.out.rf.rightB
          have HWL : Hid ((noteT T s).words.length ≤ 100000) := by show _ ≤ _; have := HLN1.out.w; omega
          have f0 := cmono HX.out.b E0.out
          have f1 := cmono HX.out.b E1.out
          obtain ⟨tot, htot⟩ : ∃ tot, totW (noteO T s) = tot := ⟨_, rfl⟩
          have HTT := hid_ htot
          have hts : tot ≤ s.m := by rw [← htot]; exact HTOT.out
          have htd : decide (tot ≤ s.m) = true := decide_eq_true hts
          clear hp2 ha2 htot
          cases hA : noteO T s with
          | nil =>
            have HA := hid_ hA
            have HM : Hid (mayT T s = true) := by show _ = _; rw [HLW.out.could]; exact decide_eq_true hA
            clear hA
            have tok1 : True := trivial
            go_upto_region 17 with (first
              | (go_at_call 40; go_loud (refine (may_c s _ HX.out.both.t HOK.out HLN.out HS.out).mono ?_; rintro e w4 ⟨rfl, hb⟩; rw [HM.out]; have HX4 := hid_ (HX.out.mono hb); replace f0 := cmono hb f0; replace f1 := cmono hb f1; clear hb))
              | (go_at_call 41; have _t := tok1; go_loud (refine (note_c s _ HX4.out.both.t HOK.out HLN.out HS.out).mono ?_; rintro e w5 ⟨va, rfl, hr⟩; obtain ⟨wv5, gv5, hx5⟩ := HX4.out.sT hr.t; have HX5 := hid_ hx5; have ho := hr.o; rw [HA.out] at ho; replace ho : w5.ownsRow _ 25 2 va 0 [] := ho; obtain ⟨Aa, ca, rfl⟩ := own_slice9 ho; have HO5 := hid_ ho; replace f0 := cmono hx5.b E0.out; replace f1 := cmono hx5.b E1.out; clear hr hx5 ho tok1))
              | (go_at_call 41; go_loud (refine (note_c s _ HX5.out.both.t HOK1.out HLN1.out HS.out).mono ?_; rintro e w6 ⟨vb, rfl, hr⟩; obtain ⟨wv6, gv6, hx6⟩ := HX5.out.sT hr.t; rw [HLW.out.twice] at hx6; have HX6 := hid_ hx6; have ho := hr.o; rw [HLW.out.again] at ho; replace ho : w6.ownsRow _ 25 2 vb 0 [] := ho; obtain ⟨Ab, cb, rfl⟩ := own_slice9 ho; have HO6 := hid_ (HX5.out.keepT hr.t HO5.out (by decide) (by decide)); replace f0 := cmono hx6.b E0.out; replace f1 := cmono hx6.b E1.out; clear hr hx6 ho))
              | (go_at_call 25; go_loud (refine (total_c (noteO T s) _ _ (show RdS _ _ (noteO T s) from by rw [HA.out]; exact Rd.of_own Sp.enc_len HO6.out rfl)).mono ?_; rintro e w7 ⟨rfl, hb⟩; rw [HTT.out]; have HX7 := hid_ (HX6.out.mono hb); have HO7 := hid_ (ownsRow_below HO6.out hb); replace f0 := cmono hb f0; replace f1 := cmono hb f1; clear hb)))
            have HXd := hid_ (HX7.out.mono (w' := w7.drew) (Below.refl _ _).drew)
            have HOd := hid_ (ownsRow_below HO7.out ((Below.refl w7.heap.size w7).drew))
            have HRD : Hid (RdS w7.drew (.slice Aa 0 ca) (noteO T s)) := (show RdS _ _ (noteO T s) from by rw [HA.out]; exact Rd.of_own Sp.enc_len HOd.out rfl)
            have r0 : w7.drew.cell? ⟨bx, 0, none⟩ = some (.int .i64 s.f) := f0
            have r1 : w7.drew.cell? ⟨bx, 1, none⟩ = some (.int .i64 s.m) := f1
            clear f0 f1
            refine wp_region_noPanic ?_
            refine wp_region_held_drew (S := (fun W' : World => W'.cell? ⟨bx, 0, none⟩ = some (.int .i64 s.f) ∧ W'.cell? ⟨bx, 1, none⟩ = some (.int .i64 s.m))) (by kernel_rfl) ⟨r0, r1⟩ (fun hHeld => ?_)
            refine wpAnyH_take (i := 0) (v := ?_) (by simp only [List.getElem?_toArray, List.getElem?_cons_zero]; rfl) (by kernel_rfl) (by kernel_rfl) (by kernel_rfl) (fun _ _ _ h => h) (Or.inl ⟨by rfl, ?_⟩) hHeld ?_
            rotate_left
            · ((intro w0 hSw; (try dsimp only at hSw); go_simp); try with_reducible rfl)
            try simp only [Act.put, List.setIfInBounds_toArray, List.set_cons_zero, List.set_cons_succ]
            refine wpAnyH_take (i := 1) (v := ?_) (by simp only [List.getElem?_toArray, List.getElem?_cons_succ, List.getElem?_cons_zero]; rfl) (by kernel_rfl) (by kernel_rfl) (by kernel_rfl) (fun _ _ _ h => h) (Or.inl ⟨by rfl, ?_⟩) hHeld ?_
            rotate_left
            · ((intro w0 hSw; (try dsimp only at hSw); go_simp); try with_reducible rfl)
            try simp only [Act.put, List.setIfInBounds_toArray, List.set_cons_zero, List.set_cons_succ]
            refine wpAnyH_take (i := 2) (v := ?_) (by simp only [List.getElem?_toArray, List.getElem?_cons_succ, List.getElem?_cons_zero]; rfl) (by kernel_rfl) (by kernel_rfl) (by kernel_rfl) (fun _ _ _ h => h) (Or.inl ⟨by rfl, ?_⟩) hHeld ?_
            rotate_left
            · ((intro w0 hSw; (try dsimp only at hSw); go_simp); try with_reducible rfl)
            try simp only [Act.put, List.setIfInBounds_toArray, List.set_cons_zero, List.set_cons_succ]
            refine wpAnyH_take (i := 3) (v := ?_) (by simp only [List.getElem?_toArray, List.getElem?_cons_succ, List.getElem?_cons_zero]; rfl) (by kernel_rfl) (by kernel_rfl) (by kernel_rfl) (fun _ _ _ h => h) (Or.inl ⟨by rfl, ?_⟩) hHeld ?_
            rotate_left
            · ((intro w0 hSw; (try dsimp only at hSw); go_simp); try with_reducible rfl)
            try simp only [Act.put, List.setIfInBounds_toArray, List.set_cons_zero, List.set_cons_succ]
            refine wpAnyH_take (i := 4) (v := ?_) (by simp only [List.getElem?_toArray, List.getElem?_cons_succ, List.getElem?_cons_zero]; rfl) (by kernel_rfl) (by kernel_rfl) (by kernel_rfl) (fun _ _ _ h => h) (Or.inl ⟨by rfl, ?_⟩) hHeld ?_
            rotate_left
            · ((intro w0 hSw; (try dsimp only at hSw); go_simp); try with_reducible rfl)
            try simp only [Act.put, List.setIfInBounds_toArray, List.set_cons_zero, List.set_cons_succ]
            refine wpAnyH_take (i := 5) (v := ?_) (by simp only [List.getElem?_toArray, List.getElem?_cons_succ, List.getElem?_cons_zero]; rfl) (by kernel_rfl) (by kernel_rfl) (by kernel_rfl) (fun _ _ _ h => h) (Or.inl ⟨by rfl, ?_⟩) hHeld ?_
            rotate_left
            · ((intro w0 hSw; (try dsimp only at hSw); go_simp); try with_reducible rfl)
            try simp only [Act.put, List.setIfInBounds_toArray, List.set_cons_zero, List.set_cons_succ]
            refine wpAnyH_take (i := 6) (v := ?_) (by simp only [List.getElem?_toArray, List.getElem?_cons_succ, List.getElem?_cons_zero]; rfl) (by kernel_rfl) (by kernel_rfl) (by kernel_rfl) (fun _ _ _ h => h) (Or.inl ⟨by rfl, ?_⟩) hHeld ?_
            rotate_left
            · ((intro w0 hSw; (try dsimp only at hSw); go_simp); try with_reducible rfl)
            try simp only [Act.put, List.setIfInBounds_toArray, List.set_cons_zero, List.set_cons_succ]
            refine wpAnyH_take (i := 7) (v := ?_) (by simp only [List.getElem?_toArray, List.getElem?_cons_succ, List.getElem?_cons_zero]; rfl) (by kernel_rfl) (by kernel_rfl) (by kernel_rfl) (fun _ _ _ h => h) (Or.inl ⟨by rfl, ?_⟩) hHeld ?_
            rotate_left
            · ((intro w0 hSw; (try dsimp only at hSw); go_simp); try with_reducible rfl)
            try simp only [Act.put, List.setIfInBounds_toArray, List.set_cons_zero, List.set_cons_succ]
            refine wpAnyH_take (i := 8) (v := ?_) (by simp only [List.getElem?_toArray, List.getElem?_cons_succ, List.getElem?_cons_zero]; rfl) (by kernel_rfl) (by kernel_rfl) (by kernel_rfl) (fun _ _ _ h => h) (Or.inl ⟨by rfl, ?_⟩) hHeld ?_
            rotate_left
            · ((intro w0 hSw; (try dsimp only at hSw); go_simp); try with_reducible rfl)
            try simp only [Act.put, List.setIfInBounds_toArray, List.set_cons_zero, List.set_cons_succ]
            refine wpAnyH_take (i := 9) (v := ?_) (by simp only [List.getElem?_toArray, List.getElem?_cons_succ, List.getElem?_cons_zero]; rfl) (by kernel_rfl) (by kernel_rfl) (by kernel_rfl) (fun _ _ _ h => h) (Or.inl ⟨by rfl, ?_⟩) hHeld ?_
            rotate_left
            · ((intro w0 hSw; (try dsimp only at hSw); go_simp); try with_reducible rfl)
            try simp only [Act.put, List.setIfInBounds_toArray, List.set_cons_zero, List.set_cons_succ]
            refine wpAnyH_take (i := 10) (v := ?_) (by simp only [List.getElem?_toArray, List.getElem?_cons_succ, List.getElem?_cons_zero]; rfl) (by kernel_rfl) (by kernel_rfl) (by kernel_rfl) (fun _ _ _ h => h) (Or.inl ⟨by rfl, ?_⟩) hHeld ?_
            rotate_left
            · ((intro w0 hSw; (try dsimp only at hSw); go_simp); try with_reducible rfl)
            try simp only [Act.put, List.setIfInBounds_toArray, List.set_cons_zero, List.set_cons_succ]
            refine wpAnyH_take (i := 11) (v := ?_) (by simp only [List.getElem?_toArray, List.getElem?_cons_succ, List.getElem?_cons_zero]; rfl) (by kernel_rfl) (by kernel_rfl) (by kernel_rfl) (fun _ _ _ h => h) (Or.inl ⟨by rfl, ?_⟩) hHeld ?_
            rotate_left
            · ((intro w0 hSw; (try dsimp only at hSw); go_simp); try with_reducible rfl)
            try simp only [Act.put, List.setIfInBounds_toArray, List.set_cons_zero, List.set_cons_succ]
            refine wpAnyH_take (i := 12) (v := ?_) (by simp only [List.getElem?_toArray, List.getElem?_cons_succ, List.getElem?_cons_zero]; rfl) (by kernel_rfl) (by kernel_rfl) (by kernel_rfl) (fun _ _ _ h => h) (Or.inl ⟨by rfl, ?_⟩) hHeld ?_
            rotate_left
            · ((intro w0 hSw; (try dsimp only at hSw); go_simp); try with_reducible rfl)
            try simp only [Act.put, List.setIfInBounds_toArray, List.set_cons_zero, List.set_cons_succ]
            refine wpAnyH_take (i := 13) (v := ?_) (by simp only [List.getElem?_toArray, List.getElem?_cons_succ, List.getElem?_cons_zero]; rfl) (by kernel_rfl) (by kernel_rfl) (by kernel_rfl) (fun _ _ _ h => h) (Or.inl ⟨by rfl, ?_⟩) hHeld ?_
            rotate_left
            · ((intro w0 hSw; (try dsimp only at hSw); go_simp); try with_reducible rfl)
            try simp only [Act.put, List.setIfInBounds_toArray, List.set_cons_zero, List.set_cons_succ]
            refine wpAnyH_take (i := 14) (v := ?_) (by simp only [List.getElem?_toArray, List.getElem?_cons_succ, List.getElem?_cons_zero]; rfl) (by kernel_rfl) (by kernel_rfl) (by kernel_rfl) (fun _ _ _ h => h) (Or.inl ⟨by rfl, ?_⟩) hHeld ?_
            rotate_left
            · ((intro w0 hSw; (try dsimp only at hSw); go_simp); try with_reducible rfl)
            try simp only [Act.put, List.setIfInBounds_toArray, List.set_cons_zero, List.set_cons_succ]
            refine wpAnyH_take (i := 15) (v := ?_) (by simp only [List.getElem?_toArray, List.getElem?_cons_succ, List.getElem?_cons_zero]; rfl) (by kernel_rfl) (by kernel_rfl) (by kernel_rfl) (fun _ _ _ h => h) (Or.inl ⟨by rfl, ?_⟩) hHeld ?_
            rotate_left
            · ((intro w0 hSw; (try dsimp only at hSw); go_simp); try with_reducible rfl)
            try simp only [Act.put, List.setIfInBounds_toArray, List.set_cons_zero, List.set_cons_succ]
            refine wpAnyH_ready (rs := [16]) (by kernel_rfl) (by simp) ?_
            refine AllReadyH.cons (by simp only [List.getElem?_toArray, List.getElem?_cons_succ, List.getElem?_cons_zero]; rfl) (fun K hK => ?_) AllReadyH.nil
            go_simp
            (go_at_call 40; go_loud (refine (may_c s _ HXd.out.both.t HOK1.out HLN1.out HS.out).mono ?_; rintro e w8 ⟨rfl, hb⟩; rw [HLW.out.may]; replace HXd := hid_ (HXd.out.mono hb); replace HRD := hid_ (HRD.out.mono hb); replace r0 := cmono hb r0; replace r1 := cmono hb r1; (try replace RN := hid_ (RN.out.mono hb)); clear hb hHeld))
            try go_wp2_with (fail)
            refine hK.out _ _ ⟨r0, r1⟩ (fun hHeld => ?_)
            clear hK K
            try simp only [Act.put, List.setIfInBounds_toArray, List.set_cons_zero, List.set_cons_succ]
            refine wpAnyH_take (i := 17) (v := ?_) (by simp only [List.getElem?_toArray, List.getElem?_cons_succ, List.getElem?_cons_zero]; rfl) (by kernel_rfl) (by kernel_rfl) (by kernel_rfl) (fun _ _ _ h => h) (Or.inl ⟨by rfl, ?_⟩) hHeld ?_
            rotate_left
            · ((intro w0 hSw; (try dsimp only at hSw); go_simp); try with_reducible rfl)
            try simp only [Act.put, List.setIfInBounds_toArray, List.set_cons_zero, List.set_cons_succ]
            refine wpAnyH_take (i := 18) (v := ?_) (by simp only [List.getElem?_toArray, List.getElem?_cons_succ, List.getElem?_cons_zero]; rfl) (by kernel_rfl) (by kernel_rfl) (by kernel_rfl) (fun _ _ _ h => h) (Or.inl ⟨by rfl, ?_⟩) hHeld ?_
            rotate_left
            · ((intro w0 hSw; (try dsimp only at hSw); go_simp); try with_reducible rfl)
            try simp only [Act.put, List.setIfInBounds_toArray, List.set_cons_zero, List.set_cons_succ]
            refine wpAnyH_take (i := 19) (v := ?_) (by simp only [List.getElem?_toArray, List.getElem?_cons_succ, List.getElem?_cons_zero]; rfl) (by kernel_rfl) (by kernel_rfl) (by kernel_rfl) (fun _ _ _ h => h) (Or.inl ⟨by rfl, ?_⟩) hHeld ?_
            rotate_left
            · ((intro w0 hSw; (try dsimp only at hSw); go_simp); try with_reducible rfl)
            try simp only [Act.put, List.setIfInBounds_toArray, List.set_cons_zero, List.set_cons_succ]
            refine wpAnyH_ready (rs := [20]) (by kernel_rfl) (by simp) ?_
            refine AllReadyH.cons (by simp only [List.getElem?_toArray, List.getElem?_cons_succ, List.getElem?_cons_zero]; rfl) (fun K hK => ?_) AllReadyH.nil
            go_simp
            (go_at_call 24; go_loud (refine (right_c (noteO T s) _ _ HRD.out HBA.out).mono ?_; rintro e w8 ⟨rfl, hb⟩; rw [HRA.out]; replace HXd := hid_ (HXd.out.mono hb); replace HRD := hid_ (HRD.out.mono hb); replace r0 := cmono hb r0; replace r1 := cmono hb r1; (try replace RN := hid_ (RN.out.mono hb)); clear hb hHeld))
            try go_wp2_with (fail)
            refine hK.out _ _ ⟨r0, r1⟩ (fun hHeld => ?_)
            clear hK K
            try simp only [Act.put, List.setIfInBounds_toArray, List.set_cons_zero, List.set_cons_succ]
            refine wpAnyH_take (i := 21) (v := ?_) (by simp only [List.getElem?_toArray, List.getElem?_cons_succ, List.getElem?_cons_zero]; rfl) (by kernel_rfl) (by kernel_rfl) (by kernel_rfl) (fun _ _ _ h => h) (Or.inl ⟨by rfl, ?_⟩) hHeld ?_
            rotate_left
            · ((intro w0 hSw; (try dsimp only at hSw); go_simp); try with_reducible rfl)
            try simp only [Act.put, List.setIfInBounds_toArray, List.set_cons_zero, List.set_cons_succ]
            refine wpAnyH_take (i := 22) (v := ?_) (by simp only [List.getElem?_toArray, List.getElem?_cons_succ, List.getElem?_cons_zero]; rfl) (by kernel_rfl) (by kernel_rfl) (by kernel_rfl) (fun _ _ _ h => h) (Or.inl ⟨by rfl, ?_⟩) hHeld ?_
            rotate_left
            · ((intro w0 hSw; (try dsimp only at hSw); go_simp); try with_reducible rfl)
            try simp only [Act.put, List.setIfInBounds_toArray, List.set_cons_zero, List.set_cons_succ]
            refine wpAnyH_take (i := 23) (v := ?_) (by simp only [List.getElem?_toArray, List.getElem?_cons_succ, List.getElem?_cons_zero]; rfl) (by kernel_rfl) (by kernel_rfl) (by kernel_rfl) (fun _ _ _ h => h) (Or.inl ⟨by rfl, ?_⟩) hHeld ?_
            rotate_left
            · ((intro w0 hSw; (try dsimp only at hSw); go_simp); try with_reducible rfl)
            try simp only [Act.put, List.setIfInBounds_toArray, List.set_cons_zero, List.set_cons_succ]
            refine wpAnyH_take (i := 24) (v := ?_) (by simp only [List.getElem?_toArray, List.getElem?_cons_succ, List.getElem?_cons_zero]; rfl) (by kernel_rfl) (by kernel_rfl) (by kernel_rfl) (fun _ _ _ h => h) (Or.inl ⟨by rfl, ?_⟩) hHeld ?_
            rotate_left
            · ((intro w0 hSw; (try dsimp only at hSw); go_simp); try with_reducible rfl)
            try simp only [Act.put, List.setIfInBounds_toArray, List.set_cons_zero, List.set_cons_succ]
            refine wpAnyH_take (i := 25) (v := ?_) (by simp only [List.getElem?_toArray, List.getElem?_cons_succ, List.getElem?_cons_zero]; rfl) (by kernel_rfl) (by kernel_rfl) (by kernel_rfl) (fun _ _ _ h => h) (Or.inl ⟨by rfl, ?_⟩) hHeld ?_
            rotate_left
            · ((intro w0 hSw; (try dsimp only at hSw); go_simp); try with_reducible rfl)
            try simp only [Act.put, List.setIfInBounds_toArray, List.set_cons_zero, List.set_cons_succ]
            refine wpAnyH_ready (rs := [26]) (by kernel_rfl) (by simp) ?_
            refine AllReadyH.cons (by simp only [List.getElem?_toArray, List.getElem?_cons_succ, List.getElem?_cons_zero]; rfl) (fun K hK => ?_) AllReadyH.nil
            go_simp
            (go_at_call 36; go_loud (refine (noted_c _ HXd.out.both.t HWL.out).mono ?_; rintro e w8 ⟨vn, rfl, hO, hb⟩; replace HXd := hid_ (HXd.out.mono hb); replace HRD := hid_ (HRD.out.mono hb); replace r0 := cmono hb r0; replace r1 := cmono hb r1; (try replace RN := hid_ (RN.out.mono hb)); have RN := hid_ (Rd.of_own Sp.enc_len hO rfl); clear hO hb hHeld))
            try go_wp2_with (fail)
            refine hK.out _ _ ⟨r0, r1⟩ (fun hHeld => ?_)
            clear hK K
            try simp only [Act.put, List.setIfInBounds_toArray, List.set_cons_zero, List.set_cons_succ]
            refine wpAnyH_ready (rs := [27]) (by kernel_rfl) (by simp) ?_
            refine AllReadyH.cons (by simp only [List.getElem?_toArray, List.getElem?_cons_succ, List.getElem?_cons_zero]; rfl) (fun K hK => ?_) AllReadyH.nil
            go_simp
            (go_at_call 24; go_loud (refine (right_c (noteT T s).words _ _ RN.out HBT.out).mono ?_; rintro e w8 ⟨rfl, hb⟩; rw [HRT.out]; replace HXd := hid_ (HXd.out.mono hb); replace HRD := hid_ (HRD.out.mono hb); replace r0 := cmono hb r0; replace r1 := cmono hb r1; (try replace RN := hid_ (RN.out.mono hb)); clear hb hHeld))
            try go_wp2_with (fail)
            refine hK.out _ _ ⟨r0, r1⟩ (fun hHeld => ?_)
            clear hK K
            try simp only [Act.put, List.setIfInBounds_toArray, List.set_cons_zero, List.set_cons_succ]
            refine wpAnyH_take (i := 28) (v := ?_) (by simp only [List.getElem?_toArray, List.getElem?_cons_succ, List.getElem?_cons_zero]; rfl) (by kernel_rfl) (by kernel_rfl) (by kernel_rfl) (fun _ _ _ h => h) (Or.inl ⟨by rfl, ?_⟩) hHeld ?_
            rotate_left
            · ((intro w0 hSw; (try dsimp only at hSw); go_simp); try with_reducible rfl)
            try simp only [Act.put, List.setIfInBounds_toArray, List.set_cons_zero, List.set_cons_succ]
            refine wpAnyH_take (i := 29) (v := ?_) (by simp only [List.getElem?_toArray, List.getElem?_cons_succ, List.getElem?_cons_zero]; rfl) (by kernel_rfl) (by kernel_rfl) (by kernel_rfl) (fun _ _ _ h => h) (Or.inl ⟨by rfl, ?_⟩) hHeld ?_
            rotate_left
            · ((intro w0 hSw; (try dsimp only at hSw); go_simp); try with_reducible rfl)
            try simp only [Act.put, List.setIfInBounds_toArray, List.set_cons_zero, List.set_cons_succ]
            refine wpAnyH_take (i := 30) (v := ?_) (by simp only [List.getElem?_toArray, List.getElem?_cons_succ, List.getElem?_cons_zero]; rfl) (by kernel_rfl) (by kernel_rfl) (by kernel_rfl) (fun _ _ _ h => h) (Or.inl ⟨by rfl, ?_⟩) hHeld ?_
            rotate_left
            · ((intro w0 hSw; (try dsimp only at hSw); go_simp); try with_reducible rfl)
            try simp only [Act.put, List.setIfInBounds_toArray, List.set_cons_zero, List.set_cons_succ]
            refine wpAnyH_take (i := 31) (v := ?_) (by simp only [List.getElem?_toArray, List.getElem?_cons_succ, List.getElem?_cons_zero]; rfl) (by kernel_rfl) (by kernel_rfl) (by kernel_rfl) (fun _ _ _ h => h) (Or.inl ⟨by rfl, ?_⟩) hHeld ?_
            rotate_left
            · ((intro w0 hSw; (try dsimp only at hSw); go_simp); try with_reducible rfl)
            try simp only [Act.put, List.setIfInBounds_toArray, List.set_cons_zero, List.set_cons_succ]
            refine wpAnyH_take (i := 32) (v := ?_) (by simp only [List.getElem?_toArray, List.getElem?_cons_succ, List.getElem?_cons_zero]; rfl) (by kernel_rfl) (by kernel_rfl) (by kernel_rfl) (fun _ _ _ h => h) (Or.inl ⟨by rfl, ?_⟩) hHeld ?_
            rotate_left
            · ((intro w0 hSw; (try dsimp only at hSw); go_simp); try with_reducible rfl)
            try simp only [Act.put, List.setIfInBounds_toArray, List.set_cons_zero, List.set_cons_succ]
            refine wpAnyH_take (i := 33) (v := ?_) (by simp only [List.getElem?_toArray, List.getElem?_cons_succ, List.getElem?_cons_zero]; rfl) (by kernel_rfl) (by kernel_rfl) (by kernel_rfl) (fun _ _ _ h => h) (Or.inl ⟨by rfl, ?_⟩) hHeld ?_
            rotate_left
            · ((intro w0 hSw; (try dsimp only at hSw); go_simp); try with_reducible rfl)
            try simp only [Act.put, List.setIfInBounds_toArray, List.set_cons_zero, List.set_cons_succ]
            refine wpAnyH_take (i := 34) (v := ?_) (by simp only [List.getElem?_toArray, List.getElem?_cons_succ, List.getElem?_cons_zero]; rfl) (by kernel_rfl) (by kernel_rfl) (by kernel_rfl) (fun _ _ _ h => h) (Or.inl ⟨by rfl, ?_⟩) hHeld ?_
            rotate_left
            · ((intro w0 hSw; (try dsimp only at hSw); go_simp); try with_reducible rfl)
            try simp only [Act.put, List.setIfInBounds_toArray, List.set_cons_zero, List.set_cons_succ]
            refine wpAnyH_take (i := 35) (v := ?_) (by simp only [List.getElem?_toArray, List.getElem?_cons_succ, List.getElem?_cons_zero]; rfl) (by kernel_rfl) (by kernel_rfl) (by kernel_rfl) (fun _ _ _ h => h) (Or.inl ⟨by rfl, ?_⟩) hHeld ?_
            rotate_left
            · ((intro w0 hSw; (try dsimp only at hSw); go_simp); try with_reducible rfl)
            try simp only [Act.put, List.setIfInBounds_toArray, List.set_cons_zero, List.set_cons_succ]
            refine wpAnyH_take (i := 36) (v := ?_) (by simp only [List.getElem?_toArray, List.getElem?_cons_succ, List.getElem?_cons_zero]; rfl) (by kernel_rfl) (by kernel_rfl) (by kernel_rfl) (fun _ _ _ h => h) (Or.inl ⟨by rfl, ?_⟩) hHeld ?_
            rotate_left
            · ((intro w0 hSw; (try dsimp only at hSw); go_simp); try with_reducible rfl)
            try simp only [Act.put, List.setIfInBounds_toArray, List.set_cons_zero, List.set_cons_succ]
            refine wpAnyH_take (i := 37) (v := ?_) (by simp only [List.getElem?_toArray, List.getElem?_cons_succ, List.getElem?_cons_zero]; rfl) (by kernel_rfl) (by kernel_rfl) (by kernel_rfl) (fun _ _ _ h => h) (Or.inl ⟨by rfl, ?_⟩) hHeld ?_
            rotate_left
            · ((intro w0 hSw; (try dsimp only at hSw); go_simp); try with_reducible rfl)
            try simp only [Act.put, List.setIfInBounds_toArray, List.set_cons_zero, List.set_cons_succ]
            refine wpAnyH_take (i := 38) (v := ?_) (by simp only [List.getElem?_toArray, List.getElem?_cons_succ, List.getElem?_cons_zero]; rfl) (by kernel_rfl) (by kernel_rfl) (by kernel_rfl) (fun _ _ _ h => h) (Or.inl ⟨by rfl, ?_⟩) hHeld ?_
            rotate_left
            · ((intro w0 hSw; (try dsimp only at hSw); go_simp); try with_reducible rfl)
            try simp only [Act.put, List.setIfInBounds_toArray, List.set_cons_zero, List.set_cons_succ]
            refine wpAnyH_take (i := 39) (v := ?_) (by simp only [List.getElem?_toArray, List.getElem?_cons_succ, List.getElem?_cons_zero]; rfl) (by kernel_rfl) (by kernel_rfl) (by kernel_rfl) (fun _ _ _ h => h) (Or.inl ⟨by rfl, ?_⟩) hHeld ?_
            rotate_left
            · ((intro w0 hSw; (try dsimp only at hSw); go_simp); try with_reducible rfl)
            try simp only [Act.put, List.setIfInBounds_toArray, List.set_cons_zero, List.set_cons_succ]
            refine wpAnyH_take (i := 40) (v := undef) (by simp only [List.getElem?_toArray, List.getElem?_cons_succ, List.getElem?_cons_zero]; rfl) (by kernel_rfl) (by kernel_rfl) (by kernel_rfl) (fun _ _ _ h => h) (Or.inr ⟨by rfl, rfl⟩) hHeld ?_
            try simp only [Act.put, List.setIfInBounds_toArray, List.set_cons_zero, List.set_cons_succ]
            refine wpAnyH_take (i := 41) (v := undef) (by simp only [List.getElem?_toArray, List.getElem?_cons_succ, List.getElem?_cons_zero]; rfl) (by kernel_rfl) (by kernel_rfl) (by kernel_rfl) (fun _ _ _ h => h) (Or.inr ⟨by rfl, rfl⟩) hHeld ?_
            try simp only [Act.put, List.setIfInBounds_toArray, List.set_cons_zero, List.set_cons_succ]
            refine wpAnyH_take (i := 42) (v := undef) (by simp only [List.getElem?_toArray, List.getElem?_cons_succ, List.getElem?_cons_zero]; rfl) (by kernel_rfl) (by kernel_rfl) (by kernel_rfl) (fun _ _ _ h => h) (Or.inr ⟨by rfl, rfl⟩) hHeld ?_
            try simp only [Act.put, List.setIfInBounds_toArray, List.set_cons_zero, List.set_cons_succ]
            refine wpAnyH_take (i := 43) (v := undef) (by simp only [List.getElem?_toArray, List.getElem?_cons_succ, List.getElem?_cons_zero]; rfl) (by kernel_rfl) (by kernel_rfl) (by kernel_rfl) (fun _ _ _ h => h) (Or.inr ⟨by rfl, rfl⟩) hHeld ?_
            try simp only [Act.put, List.setIfInBounds_toArray, List.set_cons_zero, List.set_cons_succ]
            refine wpAnyH_take (i := 44) (v := undef) (by simp only [List.getElem?_toArray, List.getElem?_cons_succ, List.getElem?_cons_zero]; rfl) (by kernel_rfl) (by kernel_rfl) (by kernel_rfl) (fun _ _ _ h => h) (Or.inr ⟨by rfl, rfl⟩) hHeld ?_
            try simp only [Act.put, List.setIfInBounds_toArray, List.set_cons_zero, List.set_cons_succ]
            refine wpAnyH_take (i := 45) (v := undef) (by simp only [List.getElem?_toArray, List.getElem?_cons_succ, List.getElem?_cons_zero]; rfl) (by kernel_rfl) (by kernel_rfl) (by kernel_rfl) (fun _ _ _ h => h) (Or.inr ⟨by rfl, rfl⟩) hHeld ?_
            try simp only [Act.put, List.setIfInBounds_toArray, List.set_cons_zero, List.set_cons_succ]
            refine wpAnyH_take (i := 46) (v := undef) (by simp only [List.getElem?_toArray, List.getElem?_cons_succ, List.getElem?_cons_zero]; rfl) (by kernel_rfl) (by kernel_rfl) (by kernel_rfl) (fun _ _ _ h => h) (Or.inr ⟨by rfl, rfl⟩) hHeld ?_
            try simp only [Act.put, List.setIfInBounds_toArray, List.set_cons_zero, List.set_cons_succ]
            refine wpAnyH_take (i := 47) (v := undef) (by simp only [List.getElem?_toArray, List.getElem?_cons_succ, List.getElem?_cons_zero]; rfl) (by kernel_rfl) (by kernel_rfl) (by kernel_rfl) (fun _ _ _ h => h) (Or.inr ⟨by rfl, rfl⟩) hHeld ?_
            try simp only [Act.put, List.setIfInBounds_toArray, List.set_cons_zero, List.set_cons_succ]
            refine wpAnyH_take (i := 48) (v := ?_) (by simp only [List.getElem?_toArray, List.getElem?_cons_succ, List.getElem?_cons_zero]; rfl) (by kernel_rfl) (by kernel_rfl) (by kernel_rfl) (fun _ _ _ h => h) (Or.inl ⟨by rfl, ?_⟩) hHeld ?_
            rotate_left
            · ((intro w0 hSw; (try dsimp only at hSw); go_simp); try with_reducible rfl)
            try simp only [Act.put, List.setIfInBounds_toArray, List.set_cons_zero, List.set_cons_succ]
            refine wpAnyH_take (i := 49) (v := ?_) (by simp only [List.getElem?_toArray, List.getElem?_cons_succ, List.getElem?_cons_zero]; rfl) (by kernel_rfl) (by kernel_rfl) (by kernel_rfl) (fun _ _ _ h => h) (Or.inl ⟨by rfl, ?_⟩) hHeld ?_
            rotate_left
            · ((intro w0 hSw; (try dsimp only at hSw); go_simp); try with_reducible rfl)
            try simp only [Act.put, List.setIfInBounds_toArray, List.set_cons_zero, List.set_cons_succ]
            refine wpAnyH_take (i := 50) (v := ?_) (by simp only [List.getElem?_toArray, List.getElem?_cons_succ, List.getElem?_cons_zero]; rfl) (by kernel_rfl) (by kernel_rfl) (by kernel_rfl) (fun _ _ _ h => h) (Or.inl ⟨by rfl, ?_⟩) hHeld ?_
            rotate_left
            · ((intro w0 hSw; (try dsimp only at hSw); go_simp); try with_reducible rfl)
            try simp only [Act.put, List.setIfInBounds_toArray, List.set_cons_zero, List.set_cons_succ]
            refine wpAnyH_done (by kernel_rfl) ?_ _
            refine NoPanic.normal ?_
            all_goals
              go_wp2
              go_ret
              exact ⟨rfl, btr HB0.out HXd.out.b⟩
          | cons x xs =>
            have HA := hid_ hA
            have HM : Hid (mayT T s = false) := by show _ = _; rw [HLW.out.could]; exact decide_eq_false (by rw [hA]; simp)
            have HXB : Hid x.Bd := HBA.out x (by rw [hA]; simp)
            have HCV : Hid (coversB (noteT T s).words x = true) := HLW.out.cov x (by rw [hA]; simp)
            obtain ⟨na, hna⟩ : ∃ na, (x :: xs).length = na := ⟨_, rfl⟩
            have HNA := hid_ hna
            have hn0 : 0 < na := by rw [← hna]; simp
            have hz : ((na : Int) == 0) = false := beq_eq_false_iff_ne.2 (by omega)
            have HNL : Hid (na ≤ 20000) := by
              show _ ≤ _
              have h1 := rf_len HLW.out.ra
              have h2 := sum_win HLW.out.ra HLW.out.wa (by decide)
              have h3 : (noteO T s).length = na := by rw [hA]; exact hna
              rw [h3] at h1
              omega
            have hnl := HNL.out
            clear hA hna
            have tok1 : True := trivial
            go_upto_region 17 with (first
              | (go_at_call 40; go_loud (refine (may_c s _ HX.out.both.t HOK.out HLN.out HS.out).mono ?_; rintro e w4 ⟨rfl, hb⟩; rw [HM.out]; have HX4 := hid_ (HX.out.mono hb); replace f0 := cmono hb f0; replace f1 := cmono hb f1; clear hb))
              | (go_at_call 41; have _t := tok1; go_loud (refine (note_c s _ HX4.out.both.t HOK.out HLN.out HS.out).mono ?_; rintro e w5 ⟨va, rfl, hr⟩; obtain ⟨wv5, gv5, hx5⟩ := HX4.out.sT hr.t; have HX5 := hid_ hx5; have ho := hr.o; rw [HA.out, HNA.out] at ho; obtain ⟨Aa, ca, rfl⟩ := own_slice9 ho; have HO5 := hid_ ho; replace f0 := cmono hx5.b E0.out; replace f1 := cmono hx5.b E1.out; clear hr hx5 ho tok1))
              | (go_at_call 41; go_loud (refine (note_c s _ HX5.out.both.t HOK1.out HLN1.out HS.out).mono ?_; rintro e w6 ⟨vb, rfl, hr⟩; obtain ⟨wv6, gv6, hx6⟩ := HX5.out.sT hr.t; rw [HLW.out.twice] at hx6; have HX6 := hid_ hx6; have ho := hr.o; rw [HLW.out.again] at ho; replace ho : w6.ownsRow _ 25 2 vb 0 [] := ho; obtain ⟨Ab, cb, rfl⟩ := own_slice9 ho; have HO6 := hid_ (HX5.out.keepT hr.t HO5.out (by decide) (by decide)); replace f0 := cmono hx6.b E0.out; replace f1 := cmono hx6.b E1.out; clear hr hx6 ho))
              | (go_at_call 25; go_loud (refine (total_c (noteO T s) _ _ (show RdS _ _ (noteO T s) from by rw [HA.out]; exact Rd.of_own Sp.enc_len (l := x :: xs) HO6.out HNA.out.symm)).mono ?_; rintro e w7 ⟨rfl, hb⟩; rw [HTT.out]; have HX7 := hid_ (HX6.out.mono hb); have HO7 := hid_ (ownsRow_below HO6.out hb); replace f0 := cmono hb f0; replace f1 := cmono hb f1; clear hb)))
            have HXd := hid_ (HX7.out.mono (w' := w7.drew) (Below.refl _ _).drew)
            have HOd := hid_ (ownsRow_below HO7.out ((Below.refl w7.heap.size w7).drew))
            have HRD : Hid (RdS w7.drew (.slice Aa na ca) (noteO T s)) := (show RdS _ _ (noteO T s) from by rw [HA.out]; exact Rd.of_own Sp.enc_len (l := x :: xs) HOd.out HNA.out.symm)
            have r0 : w7.drew.cell? ⟨bx, 0, none⟩ = some (.int .i64 s.f) := f0
            have r1 : w7.drew.cell? ⟨bx, 1, none⟩ = some (.int .i64 s.m) := f1
            obtain ⟨g, cap, hga⟩ := own_form HOd.out hn0
            injection hga with hga hgb hgc
            subst hga hgc
            have r2 : w7.drew.cell? ⟨g, 0, none⟩ = some (.int .i64 x.f) := (HOd.out.cellAt 0 (by omega)).trans rfl
            have r3 : w7.drew.cell? ⟨g, 1, none⟩ = some (.int .i64 x.m) := (HOd.out.cellAt 1 (by omega)).trans rfl
            clear hgb
            clear f0 f1
            go_region_held3 (fun W' => W'.cell? ⟨bx, 0, none⟩ = some (.int .i64 s.f) ∧ W'.cell? ⟨bx, 1, none⟩ = some (.int .i64 s.m) ∧ W'.cell? ⟨g, 0, none⟩ = some (.int .i64 x.f) ∧ W'.cell? ⟨g, 1, none⟩ = some (.int .i64 x.m))
              (exact ⟨r0, r1, r2, r3⟩)
              (first
                | (go_at_call 40; go_loud (refine (may_c s _ HXd.out.both.t HOK1.out HLN1.out HS.out).mono ?_; rintro e w8 ⟨rfl, hb⟩; rw [HLW.out.may]; replace HXd := hid_ (HXd.out.mono hb); replace HRD := hid_ (HRD.out.mono hb); replace r0 := cmono hb r0; replace r1 := cmono hb r1; replace r2 := cmono hb r2; replace r3 := cmono hb r3; (try replace RN := hid_ (RN.out.mono hb)); clear hb))
                | (go_at_call 24; ((with_reducible refine (right_c (noteO T s) _ _ HRD.out HBA.out).mono ?_); rintro e w8 ⟨rfl, hb⟩; rw [HRA.out]; replace HXd := hid_ (HXd.out.mono hb); replace HRD := hid_ (HRD.out.mono hb); replace r0 := cmono hb r0; replace r1 := cmono hb r1; replace r2 := cmono hb r2; replace r3 := cmono hb r3; (try replace RN := hid_ (RN.out.mono hb)); clear hb))
                | (go_at_call 36; go_loud (refine (noted_c _ HXd.out.both.t HWL.out).mono ?_; rintro e w8 ⟨vn, rfl, hO, hb⟩; replace HXd := hid_ (HXd.out.mono hb); replace HRD := hid_ (HRD.out.mono hb); replace r0 := cmono hb r0; replace r1 := cmono hb r1; replace r2 := cmono hb r2; replace r3 := cmono hb r3; (try replace RN := hid_ (RN.out.mono hb)); have RN := hid_ (Rd.of_own Sp.enc_len hO rfl); clear hO hb))
                | (go_at_call 24; go_loud (refine (right_c (noteT T s).words _ _ RN.out HBT.out).mono ?_; rintro e w8 ⟨rfl, hb⟩; rw [HRT.out]; replace HXd := hid_ (HXd.out.mono hb); replace HRD := hid_ (HRD.out.mono hb); replace r0 := cmono hb r0; replace r1 := cmono hb r1; replace r2 := cmono hb r2; replace r3 := cmono hb r3; (try replace RN := hid_ (RN.out.mono hb)); clear hb))
                | (go_at_call 31; go_loud (refine (covers_c (noteT T s).words x _ _ RN.out HBT.out HXB.out).mono ?_; rintro e w8 ⟨rfl, hb⟩; rw [HCV.out]; replace HXd := hid_ (HXd.out.mono hb); replace HRD := hid_ (HRD.out.mono hb); replace r0 := cmono hb r0; replace r1 := cmono hb r1; replace r2 := cmono hb r2; replace r3 := cmono hb r3; (try replace RN := hid_ (RN.out.mono hb)); clear hb)))
            all_goals
              go_wp2
              go_ret
              exact ⟨rfl, btr HB0.out HXd.out.b⟩
    · have key : (s.f < 0) ∨ (0 ≤ s.f ∧ 200 < s.f) ∨ (0 ≤ s.f ∧ s.f ≤ 200 ∧ s.m < 0) ∨ (0 ≤ s.f ∧ s.f ≤ 200 ∧ 0 ≤ s.m ∧ 60 < s.m) := by
        by_cases b0 : s.f < 0
        · exact .inl b0
        · by_cases b1 : 200 < s.f
          · exact .inr (.inl ⟨by omega, b1⟩)
          · by_cases b2 : s.m < 0
            · exact .inr (.inr (.inl ⟨by omega, by omega, b2⟩))
            · by_cases b3 : 60 < s.m
              · exact .inr (.inr (.inr ⟨by omega, by omega, by omega, b3⟩))
              · exact absurd ⟨by omega, by omega, by omega, by omega⟩ hs
      clear hs
      rcases key with q0 | ⟨q0, q1⟩ | ⟨q0, q1, q2⟩ | ⟨q0, q1, q2, q3⟩
      all_goals
        go_enter Try.func9, Try.ntmps9
        go_wp2_with (first
          | (go_at_call 32; refine (awake20_c _).mono ?_; rintro e w1 ⟨rfl, hb⟩; have B1 := hid_ hb; have HV1 := hid_ (HV0.out.mono hb); replace e0 := cmono hb e0; replace e1 := cmono hb e1; clear hb)
          | (go_at_call 33; refine (few20_c l _ _ HV1.out).mono ?_; rintro e w2 ⟨rfl, hb⟩; rw [HF.out]; have B2 := hid_ (btr B1.out hb); replace e0 := cmono hb e0; replace e1 := cmono hb e1; clear hb))
        go_ret
        exact ⟨rfl, btr HB0.out B2.out⟩
end Go.Proofs.Ytncdkbhkjamdpaa
