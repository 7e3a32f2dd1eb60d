/- The statement's own helpers of chapter 03: do, also. -/
import Derived.Test.YtncdkbhkjamdpaaE5
namespace Go.Proofs.Ytncdkbhkjamdpaa
open Go.RowKit Go.Maps

def rdo (R : RS) (o : O3) : RS :=
  if o.k = 0 then rstore R o.at_ o.v else if o.k = 1 then rflush R o.at_ o.many else if o.k = 2 then rfence R else if o.k = 3 then revict R o.at_
  else if o.k = 4 then { R with fuse := max 0 o.many } else if o.k = 5 then rcrash R o.keep else R
def rtell (R : RS) (o : O3) : Int := if o.k = 6 then rload R o.at_ else 0
theorem sim_ok {S : DS} {R : RS} (h : Sim S R) (hR : R.Ok) : S.Ok :=
  ⟨by rw [h.len]; exact hR.len, fun k hk => by rw [h.len]; exact h.out k hk, by rw [h.fuse]; exact hR.fuse, by rw [h.steps]; exact hR.steps⟩
theorem box_rd {w : World} {o : O3} (_ : o.Ok w) (hs : o.Small) : -10000000000000000 ≤ o.at_ ∧ o.at_ ≤ 10000000000000000 := by
  have := hs.a1; have := hs.a2; omega

structure DoRes (w w' : World) (db mb lb cp n : Nat) (R : RS) (o : O3) : Prop where
  ex : ∃ mb' n' S', DevT w' db mb' lb cp n' S' ∧ Sim S' (rdo R o) ∧ n' ≤ n + R.L.length ∧ (mb' = mb ∨ w.heap.size ≤ mb')
  fr : Fr [db, mb, lb] w w'
theorem DoRes.of {w w1 w' : World} {db mb lb cp n : Nat} {R : RS} {o : O3} (hb : Below w.heap.size w w1) {mb' n' : Nat} {S' : DS} (ht : DevT w' db mb' lb cp n' S') (hs : Sim S' (rdo R o)) (hn : n' ≤ n + R.L.length) (hm : mb' = mb ∨ w1.heap.size ≤ mb') (hf : Fr [db, mb, lb] w1 w') : DoRes w w' db mb lb cp n R o :=
  ⟨⟨mb', n', S', ht, hs, hn, hm.imp id (fun h => Nat.le_trans hb.size h)⟩, (Fr.of_below hb).trans hf⟩

set_option maxHeartbeats 8000000 in
set_option maxRecDepth 100000 in
theorem do03_c {db mb lb cp n : Nat} {S : DS} {R : RS} (o : O3) (w : World) (h : DevT w db mb lb cp n S) (hsim : Sim S R) (hR : R.Ok) (hn : n ≤ 1000000) (ho : o.Ok w) (hsm : o.Small)
    (hkb : ∀ g, 0 < o.keep.length → o.kv.ownBlock = some g → g ≠ lb) :
    Calls Try.prog 66 #[.pointer (some ⟨db, 0, none⟩), .agg #[.int .u8 o.k, vz o.at_, vz o.many, vu o.v, o.kv]] w fun e w' => e = .returned (vu (rtell R o)) ∧ DoRes w w' db mb lb cp n R o := by
  have HO := hid_ ho
  have HSM := hid_ hsm
  have HKB := hid_ hkb
  have HSIM := hid_ hsim
  have HSOK := hid_ (sim_ok hsim hR)
  have HROK := hid_ hR
  have hl1 := hR.len.1
  have HB := hid_ (balloc' w (.cells #[.int .u8 o.k, vz o.at_, vz o.many, vu o.v, o.kv] 110))
  have HT := hid_ (h.mono HB.out)
  obtain ⟨A, c, hkv, _, _, _⟩ := ho.rk
  obtain ⟨kk, a, m, v, kv, kp⟩ := o
  dsimp only at hkv HB HT ⊢
  subst hkv
  clear h hsim hR ho hsm hkb
  by_cases c0 : kk = 0
  · subst c0
    have HQ : Hid (rdo R ⟨0, a, m, v, .slice A kp.length c, kp⟩ = rstore R a v ∧ rtell R ⟨0, a, m, v, .slice A kp.length c, kp⟩ = 0) := ⟨rfl, rfl⟩
    go_enter Try.func66, Try.ntmps66
    go_wp2_with (go_at_call 103; refine (store_c a v _ HT.out HSOK.out HO.out.za (by omega)).mono ?_; rintro e w2 ⟨rfl, ht⟩; have HD := hid_ (DoRes.of (R := R) (o := ⟨0, a, m, v, .slice A kp.length c, kp⟩) (n := n) (mb := mb) HB.out ht.t (by rw [HQ.out.1]; exact sim_store HSIM.out a v) (by omega) (.inl rfl) ht.fr); clear ht)
    go_ret
    exact ⟨by rw [HQ.out.2]; rfl, HD.out⟩
  · have d0 : (kk == 0) = false := by simpa using c0
    by_cases c1 : kk = 1
    · subst c1
      have HQ : Hid (rdo R ⟨1, a, m, v, .slice A kp.length c, kp⟩ = rflush R a m ∧ rtell R ⟨1, a, m, v, .slice A kp.length c, kp⟩ = 0) := ⟨rfl, rfl⟩
      clear c0
      go_enter Try.func66, Try.ntmps66
      go_wp2_with (go_at_call 104; refine (flush_c a m _ HT.out HSOK.out (by omega) (box_rd HO.out HSM.out) HO.out.zm).mono ?_; rintro e w2 ⟨rfl, ht⟩; have HD := hid_ (DoRes.of (R := R) (o := ⟨1, a, m, v, .slice A kp.length c, kp⟩) (n := n) (mb := mb) HB.out ht.t (by rw [HQ.out.1]; exact sim_flush HSIM.out a m) (by omega) (.inl rfl) ht.fr); clear ht)
      go_ret
      exact ⟨by rw [HQ.out.2]; rfl, HD.out⟩
    · have d1 : (kk == 1) = false := by simpa using c1
      by_cases c2 : kk = 2
      · subst c2
        have HQ : Hid (rdo R ⟨2, a, m, v, .slice A kp.length c, kp⟩ = rfence R ∧ rtell R ⟨2, a, m, v, .slice A kp.length c, kp⟩ = 0) := ⟨rfl, rfl⟩
        have HF : Hid (∀ w', (if (stepS S).1 then FenceRes (w.alloc (.cells #[.int .u8 2, vz a, vz m, vu v, .slice A kp.length c] 110)) w' db mb lb cp n S else DevRes (w.alloc (.cells #[.int .u8 2, vz a, vz m, vu v, .slice A kp.length c] 110)) w' db mb lb cp n (stepS S).2) → DoRes w w' db mb lb cp n R ⟨2, a, m, v, .slice A kp.length c, kp⟩) := by
          intro w' hw
          have s1 := (sim_step HSIM.out).1
          cases hst : (stepS S).1 with
          | true =>
            rw [hst, if_pos rfl] at hw
            obtain ⟨⟨ks, hk, ht⟩, hf⟩ := hw
            refine DoRes.of HB.out ht (by rw [HQ.out.1]; exact sim_fence HSIM.out hst hk) ?_ (.inl rfl) hf
            have hs2 := (sim_step HSIM.out).2
            obtain rfl := hk.uniq (sim_keys hs2.1)
            have := dirtyTo_le (rstep R).2.L (rstep R).2.L.length (Nat.le_refl _)
            rw [hs2.2] at this ⊢
            omega
          | false =>
            rw [hst] at hw
            simp only [Bool.false_eq_true, if_false] at hw
            refine DoRes.of HB.out hw.t ?_ (by omega) (.inl rfl) hw.fr
            rw [HQ.out.1, rfence, ← s1, hst]
            exact (sim_step HSIM.out).2.1
        clear c0 c1
        go_enter Try.func66, Try.ntmps66
        go_wp2_with (go_at_call 105; refine (fence_c _ HT.out HSOK.out hn).mono ?_; rintro e w2 ⟨rfl, ht⟩; have HD := hid_ (HF.out _ ht); clear ht)
        go_ret
        exact ⟨by rw [HQ.out.2]; rfl, HD.out⟩
      · have d2 : (kk == 2) = false := by simpa using c2
        by_cases c3 : kk = 3
        · subst c3
          have HQ : Hid (rdo R ⟨3, a, m, v, .slice A kp.length c, kp⟩ = revict R a ∧ rtell R ⟨3, a, m, v, .slice A kp.length c, kp⟩ = 0) := ⟨rfl, rfl⟩
          clear c0 c1 c2
          go_enter Try.func66, Try.ntmps66
          go_wp2_with (go_at_call 110; refine (evict_c a _ HT.out HSOK.out HO.out.za).mono ?_; rintro e w2 ⟨rfl, ht⟩; have HD := hid_ (DoRes.of (R := R) (o := ⟨3, a, m, v, .slice A kp.length c, kp⟩) (n := n) (mb := mb) HB.out ht.t (by rw [HQ.out.1]; exact sim_evict HSIM.out a) (by omega) (.inl rfl) ht.fr); clear ht)
          go_ret
          exact ⟨by rw [HQ.out.2]; rfl, HD.out⟩
        · have d3 : (kk == 3) = false := by simpa using c3
          by_cases c4 : kk = 4
          · subst c4
            have HQ : Hid (rdo R ⟨4, a, m, v, .slice A kp.length c, kp⟩ = { R with fuse := max 0 m } ∧ rtell R ⟨4, a, m, v, .slice A kp.length c, kp⟩ = 0) := ⟨rfl, rfl⟩
            clear c0 c1 c2 c3
            go_enter Try.func66, Try.ntmps66
            go_wp2_with (go_at_call 111; refine (fuse_c m _ HT.out).mono ?_; rintro e w2 ⟨rfl, ht, hg⟩; have HD := hid_ (DoRes.of (R := R) (o := ⟨4, a, m, v, .slice A kp.length c, kp⟩) (n := n) (mb := mb) HB.out ht (by rw [HQ.out.1]; exact sim_fuse HSIM.out m) (by omega) (.inl rfl) (Fr.of_gb hg (by simp))); clear ht hg)
            go_ret
            exact ⟨by rw [HQ.out.2]; rfl, HD.out⟩
          · have d4 : (kk == 4) = false := by simpa using c4
            by_cases c5 : kk = 5
            · subst c5
              have HQ : Hid (rdo R ⟨5, a, m, v, .slice A kp.length c, kp⟩ = rcrash R kp ∧ rtell R ⟨5, a, m, v, .slice A kp.length c, kp⟩ = 0) := ⟨rfl, rfl⟩
              clear c0 c1 c2 c3 c4
              go_enter Try.func66, Try.ntmps66
              go_wp2_with (go_at_call 106; refine (crash_c kp _ _ HT.out HSOK.out hn (HO.out.rk.mono HB.out) HO.out.by_ HKB.out).mono ?_; rintro e w2 ⟨rfl, ht⟩; obtain ⟨⟨ks, mb', hk, ht, hm⟩, hf⟩ := ht; have HD := hid_ (DoRes.of (R := R) (o := ⟨5, a, m, v, .slice A kp.length c, kp⟩) (n := n) (mb := mb) HB.out ht (by rw [HQ.out.1]; exact sim_crash HSIM.out kp hk) (by omega) (.inr hm) hf); clear ht hk hf hm)
              go_ret
              exact ⟨by rw [HQ.out.2]; rfl, HD.out⟩
            · have d5 : (kk == 5) = false := by simpa using c5
              have HQ : Hid (rdo R ⟨kk, a, m, v, .slice A kp.length c, kp⟩ = R) := by show _ = _; simp only [rdo, if_neg c0, if_neg c1, if_neg c2, if_neg c3, if_neg c4, if_neg c5]
              by_cases c6 : kk = 6
              · subst c6
                have HL : Hid (rtell R ⟨6, a, m, v, .slice A kp.length c, kp⟩ = loadS S a) := by show _ = _; rw [sim_load HSIM.out]; rfl
                clear c0 c1 c2 c3 c4 c5
                go_enter Try.func66, Try.ntmps66
                go_wp2_with (go_at_call 58; refine (load_c a _ HT.out HO.out.za).mono ?_; rintro e w2 ⟨rfl, hb⟩; have HD := hid_ (DoRes.of (R := R) (o := ⟨6, a, m, v, .slice A kp.length c, kp⟩) (n := n) (mb := mb) HB.out (HT.out.mono hb) (by rw [HQ.out]; exact HSIM.out) (by omega) (.inl rfl) (Fr.of_below hb)); clear hb)
                go_ret
                exact ⟨by rw [HL.out]; rfl, HD.out⟩
              · have d6 : (kk == 6) = false := by simpa using c6
                have HL : Hid (rtell R ⟨kk, a, m, v, .slice A kp.length c, kp⟩ = 0) := by show _ = _; simp only [rtell, if_neg c6]
                have HD := hid_ (DoRes.of (R := R) (o := ⟨kk, a, m, v, .slice A kp.length c, kp⟩) (n := n) (mb := mb) HB.out HT.out (by rw [HQ.out]; exact HSIM.out) (by omega) (.inl rfl) (Fr.refl _ _))
                clear c0 c1 c2 c3 c4 c5 c6
                go_enter Try.func66, Try.ntmps66
                go_wp2
                go_ret
                exact ⟨by rw [HL.out]; rfl, HD.out⟩
end Go.Proofs.Ytncdkbhkjamdpaa
