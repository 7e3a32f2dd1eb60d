/- The statement's own helper of chapter 03: also (the reference's device). -/
import Derived.Test.YtncdkbhkjamdpaaE6
namespace Go.Proofs.Ytncdkbhkjamdpaa
open Go.RowKit Go.Maps

theorem RRes.of {w w1 w' : World} {rb sb cp : Nat} {R R' : RS} (hb : Below w.heap.size w w1) (h : RRes w1 w' rb sb cp R) (he : R' = R) : RRes w w' rb sb cp R' := by
  subst he
  exact ⟨h.t, (Fr.of_below hb).trans h.fr⟩

set_option maxHeartbeats 8000000 in
set_option maxRecDepth 100000 in
theorem also03_c {rb sb cp : Nat} {R : RS} (o : O3) (w : World) (h : RDev w rb sb cp R) (hR : R.Ok) (ho : o.Ok w) (hsm : o.Small) (hkb : ∀ g, 0 < o.keep.length → o.kv.ownBlock = some g → g ∉ [rb, sb]) :
    Calls Try.prog 67 #[.pointer (some ⟨rb, 0, none⟩), .agg #[.int .u8 o.k, vz o.at_, vz o.many, vu o.v, o.kv]] w fun e w' => e = .returned (vu (rtell R o)) ∧ RRes w w' rb sb cp (rdo R o) := by
  have HO := hid_ ho
  have HSM := hid_ hsm
  have HKB := hid_ hkb
  have HROK := hid_ hR
  have HB := hid_ (balloc' w (.cells #[.int .u8 o.k, vz o.at_, vz o.many, vu o.v, o.kv] 110))
  have HT := hid_ (h.mono HB.out)
  obtain ⟨A, c, hkv, _, _, _⟩ := ho.rk
  obtain ⟨kk, a, m, v, kv, kp⟩ := o
  dsimp only at hkv HB HT ⊢
  subst hkv
  clear h hR ho hsm hkb
  by_cases c0 : kk = 0
  · subst c0
    have HQ : Hid (rdo R ⟨0, a, m, v, .slice A kp.length c, kp⟩ = rstore R a v ∧ rtell R ⟨0, a, m, v, .slice A kp.length c, kp⟩ = 0) := ⟨rfl, rfl⟩
    go_enter Try.func67, Try.ntmps67
    go_wp2_with (go_at_call 112; refine (rstore_c a v _ HT.out HROK.out).mono ?_; rintro e w2 ⟨rfl, ht⟩; have HD := hid_ (RRes.of HB.out ht HQ.out.1); clear ht)
    go_ret
    exact ⟨by rw [HQ.out.2]; rfl, HD.out⟩
  · have d0' : (kk == 0) = false := by simpa using c0
    by_cases c1 : kk = 1
    · subst c1
      clear c0
      have HQ : Hid (rdo R ⟨1, a, m, v, .slice A kp.length c, kp⟩ = rflush R a m ∧ rtell R ⟨1, a, m, v, .slice A kp.length c, kp⟩ = 0) := ⟨rfl, rfl⟩
      go_enter Try.func67, Try.ntmps67
      go_wp2_with (go_at_call 113; refine (rflush_c a m _ HT.out HROK.out (box_rd HO.out HSM.out)).mono ?_; rintro e w2 ⟨rfl, ht⟩; have HD := hid_ (RRes.of HB.out ht HQ.out.1); clear ht)
      go_ret
      exact ⟨by rw [HQ.out.2]; rfl, HD.out⟩
    · have d1' : (kk == 1) = false := by simpa using c1
      by_cases c2 : kk = 2
      · subst c2
        clear c0 c1
        have HQ : Hid (rdo R ⟨2, a, m, v, .slice A kp.length c, kp⟩ = rfence R ∧ rtell R ⟨2, a, m, v, .slice A kp.length c, kp⟩ = 0) := ⟨rfl, rfl⟩
        go_enter Try.func67, Try.ntmps67
        go_wp2_with (go_at_call 114; refine (rfence_c _ HT.out HROK.out).mono ?_; rintro e w2 ⟨rfl, ht⟩; have HD := hid_ (RRes.of HB.out ht HQ.out.1); clear ht)
        go_ret
        exact ⟨by rw [HQ.out.2]; rfl, HD.out⟩
      · have d2' : (kk == 2) = false := by simpa using c2
        by_cases c3 : kk = 3
        · subst c3
          clear c0 c1 c2
          have HQ : Hid (rdo R ⟨3, a, m, v, .slice A kp.length c, kp⟩ = revict R a ∧ rtell R ⟨3, a, m, v, .slice A kp.length c, kp⟩ = 0) := ⟨rfl, rfl⟩
          go_enter Try.func67, Try.ntmps67
          go_wp2_with (go_at_call 115; refine (revict_c a _ HT.out HROK.out).mono ?_; rintro e w2 ⟨rfl, ht⟩; have HD := hid_ (RRes.of HB.out ht HQ.out.1); clear ht)
          go_ret
          exact ⟨by rw [HQ.out.2]; rfl, HD.out⟩
        · have d3' : (kk == 3) = false := by simpa using c3
          by_cases c4 : kk = 4
          · subst c4
            clear c0 c1 c2 c3
            have HQ : Hid (rdo R ⟨4, a, m, v, .slice A kp.length c, kp⟩ = { R with fuse := max 0 m } ∧ rtell R ⟨4, a, m, v, .slice A kp.length c, kp⟩ = 0) := ⟨rfl, rfl⟩
            have hmx : (if (0 : Int) < m then m else 0) = max 0 m := by rw [Int.max_def]; split <;> split <;> omega
            have d1 := HT.out.c1
            have z1 := HT.out.fz 1
            have HS := hid_ (HT.out.set 1 (vz (max 0 m)) { R with fuse := max 0 m } rfl rfl)
            go_enter Try.func67, Try.ntmps67
            go_wp2
            go_ret
            exact ⟨by rw [HQ.out.2]; rfl, by rw [HQ.out.1]; exact HS.out, (Fr.of_below HB.out).trans (Fr.of_gb (gb_setCell _ ⟨rb, 1, none⟩ _) (by simp))⟩
          · have d4' : (kk == 4) = false := by simpa using c4
            by_cases c5 : kk = 5
            · subst c5
              clear c0 c1 c2 c3 c4
              have HQ : Hid (rdo R ⟨5, a, m, v, .slice A kp.length c, kp⟩ = rcrash R kp ∧ rtell R ⟨5, a, m, v, .slice A kp.length c, kp⟩ = 0) := ⟨rfl, rfl⟩
              go_enter Try.func67, Try.ntmps67
              go_wp2_with (go_at_call 116; refine (rcrash_c kp _ _ HT.out HROK.out (HO.out.rk.mono HB.out) HO.out.by_ HKB.out).mono ?_; rintro e w2 ⟨rfl, ht⟩; have HD := hid_ (RRes.of HB.out ht HQ.out.1); clear ht)
              go_ret
              exact ⟨by rw [HQ.out.2]; rfl, HD.out⟩
            · have d5' : (kk == 5) = false := by simpa using c5
              have HQ : Hid (rdo R ⟨kk, a, m, v, .slice A kp.length c, kp⟩ = R) := by show _ = _; simp only [rdo, if_neg c0, if_neg c1, if_neg c2, if_neg c3, if_neg c4, if_neg c5]
              clear c0 c1 c2 c3 c4 c5
              by_cases c6 : kk = 6
              · subst c6
                have HL : Hid (rtell R ⟨6, a, m, v, .slice A kp.length c, kp⟩ = rload R a) := rfl
                go_enter Try.func67, Try.ntmps67
                go_wp2_with (go_at_call 69; refine (rload_c a _ HT.out).mono ?_; rintro e w2 ⟨rfl, hb⟩; have HD := hid_ (RRes.of HB.out ⟨HT.out.mono hb, Fr.of_below hb⟩ HQ.out); clear hb)
                go_ret
                exact ⟨by rw [HL.out]; rfl, HD.out⟩
              · have d6 : (kk == 6) = false := by simpa using c6
                have HL : Hid (rtell R ⟨kk, a, m, v, .slice A kp.length c, kp⟩ = 0) := by show _ = _; simp only [rtell, if_neg c6]
                have HD := hid_ (RRes.of HB.out ⟨HT.out, Fr.refl _ _⟩ HQ.out)
                clear c6
                go_enter Try.func67, Try.ntmps67
                go_wp2
                go_ret
                exact ⟨by rw [HL.out]; rfl, HD.out⟩
end Go.Proofs.Ytncdkbhkjamdpaa
