/- The walk of the statement LockPlays: it returns true. (Printed by wip/L11.py.) -/
import Derived.Test.YtncdkbhkjamdpaaKM
namespace Go.Proofs.Ytncdkbhkjamdpaa
open Go.RowKit Go.Maps

structure PlayRel (w : World) (tb mb rb k : Nat) (wr : World) : Prop where
  ex : ∃ f L sv, Tab wr tb mb k f ∧ RTab wr rb L sv ∧ Rep f L ∧ L.length ≤ k
  b : Below w.heap.size w wr

set_option maxHeartbeats 8000000 in
set_option maxRecDepth 100000 in
theorem lockPlays_walk (l : List O18) (v : Value) (w : World) (hv : RdO w v l) (hb : ∀ o ∈ l, o.Ok) (hn : l.length * 24 ≤ 140737488351232) :
    Calls Try.prog 11 #[v] w fun e w' => e = .returned (.bool true) ∧ Below w.heap.size w w' := by
  have HV := hid_ hv
  have HOK := hid_ hb
  clear hb
  obtain ⟨A, c, rfl, hl, hl', _⟩ := hv
  by_cases hlen : 60 < l.length
  · go_enter Try.func11, Try.ntmps11
    go_wp2_with (go_at_call 42; refine (awake18_c _).mono ?_; rintro e w1 ⟨rfl, hb⟩; have B1 := hid_ hb; clear hb)
    go_ret
    exact ⟨rfl, B1.out⟩
  · go_enter Try.func11, Try.ntmps11
    go_wp2_with (first
      | (go_at_call 42; refine (awake18_c _).mono ?_; rintro e w1 ⟨rfl, hb⟩; have B1 := hid_ hb; clear hb)
      | (go_at_call 43; refine (lnew_c _).mono ?_; rintro e w2 ⟨rfl, ht, hb⟩; have HT := hid_ ht; have B2 := hid_ (btr B1.out hb); have HSZ := hid_ B1.out.size; clear ht hb))
    obtain ⟨tb, htb⟩ : ∃ tb, w1.heap.size + 1 = tb := ⟨_, rfl⟩
    obtain ⟨mb, hmb⟩ : ∃ mb, w1.heap.size = mb := ⟨_, rfl⟩
    obtain ⟨rb, hrb⟩ : ∃ rb, w2.heap.size = rb := ⟨_, rfl⟩
    have hle := HSZ.out
    have hlt := World.block_lt_of_cell? _ _ HT.out.cell
    rw [htb, hmb] at HT
    simp only [htb] at hlt ⊢
    have hm1 : w.heap.size ≤ mb := by omega
    have hr1 : w.heap.size ≤ rb := by have := B2.out.size; omega
    have htr : tb ≠ rb := by omega
    have HRT : Hid (RTab (w2.alloc (.cells #[.slice none 0 0] 80)) rb [] (.slice none 0 0)) := ⟨by rw [← hrb]; exact heap_alloc_new _ _, World.ownsRow_nil _ _ _ _⟩
    have HP0 : Hid (PlayRel w tb mb rb 0 (w2.alloc (.cells #[.slice none 0 0] 80))) := ⟨⟨noF, [], _, HT.out.mono (balloc' _ _), HRT.out, rep_none, Nat.le_refl _⟩, balloc B2.out _⟩
    simp only [hrb]
    go_loopw [6] (fun i wr => ∃ k : Nat, k ≤ l.length ∧ i = .int .i64 k ∧ Hid (PlayRel w tb mb rb k wr)) (fun i _ => l.length - (intOf i).toNat)
    case atStart => exact ⟨0, Nat.zero_le _, rfl, HP0.out⟩
    case round =>
      obtain ⟨k, hk, rfl, HA⟩ := hrel
      by_cases hlt : k < l.length
      · obtain ⟨⟨f, L, sv, ht, hrt, hrep, hll⟩, hB⟩ := HA.out
        obtain ⟨b, o, rfl, h1, h2, h3⟩ := RdO.at HV.out hB hlt
        have HO := hid_ (HOK.out _ (List.getElem_mem hlt))
        generalize l[k] = s at h1 h2 h3 HO
        have hcr : wr.heap.size ≠ rb := by have := hrt.lt; omega
        have HT := hid_ (ht.mono (balloc' _ (.cells #[.int .u8 s.k, vz s.key, vz s.lane] 82)))
        have HR := hid_ (hrt.mono (balloc' _ (.cells #[.int .u8 s.k, vz s.key, vz s.lane] 82)))
        have HREP := hid_ hrep
        have HB := hid_ (balloc hB (.cells #[.int .u8 s.k, vz s.key, vz s.lane] 82))
        have e0 := cell_new (wr := wr) (cs := #[.int .u8 s.k, vz s.key, vz s.lane]) (e := 82) 0 rfl
        have e1 := cell_new (wr := wr) (cs := #[.int .u8 s.k, vz s.key, vz s.lane]) (e := 82) 1 rfl
        have e2 := cell_new (wr := wr) (cs := #[.int .u8 s.k, vz s.key, vz s.lane]) (e := 82) 2 rfl
        have hmr : mb ≠ rb := fun e => map_ne ht.om hrt.cell e.symm
        clear ht hrt hrep hB HA
        have hk0 := HO.out.1.1
        have hk1 := HO.out.1.2
        have hff : (false != false) = false := rfl
        have htt : (true != true) = false := rfl
        by_cases c0 : s.k = 0
        · have d0 : (s.k == 0) = true := by simp [c0]
          have d3 : (s.k == 3) = false := by simp [c0]
          rw [c0] at HT HR HB e0 e1 e2
          have HOK2 := hid_ (rep_ok HREP.out s.key s.lane)
          have HL := hid_ (rep_lock HREP.out s.key s.lane)
          cases hq : lockOk f s.key s.lane
          all_goals
            have HQ := hid_ hq
            clear hq
            go_upto_region 22 with (first
              | (go_at_call 44; refine (lock_c tb mb k f s.key s.lane _ HT.out HO.out.2.1 (by omega)).mono ?_; rintro e w5 ⟨rfl, ht, hg⟩; rw [HQ.out]; replace HR := hid_ (HR.out.keptM HT.out.om hg); replace e0 := gcell hg e0 (map_ne HT.out.om e0); replace e1 := gcell hg e1 (map_ne HT.out.om e1); replace e2 := gcell hg e2 (map_ne HT.out.om e2); replace HT := hid_ ht; replace HB := hid_ (below_gb HB.out hg hm1); clear ht hg)
              | (go_at_call 45; refine (rlock_c rb L sv s.key s.lane _ HR.out (by omega)).mono ?_; rintro e w6 ⟨rfl, ⟨⟨sv', hr⟩, hg⟩⟩; rw [HOK2.out, HQ.out]; replace HT := hid_ (HT.out.gb hg htr hmr); replace e0 := gcell hg e0 hcr; replace e1 := gcell hg e1 hcr; replace e2 := gcell hg e2 hcr; replace HR := hid_ hr; replace HB := hid_ (below_gb HB.out hg hr1); clear hr hg))
            have HRP := hid_ HL.out.1
            have hll2 := HL.out.2
            replace HT := hid_ (HT.out.mono (Below.refl _ _).drew)
            replace HR := hid_ (HR.out.mono (Below.refl _ _).drew)
            replace HB := hid_ (HB.out.drew)
            have HOW := hid_ (rep_owner HRP.out s.key)
            have HHD := hid_ (rep_held HRP.out s.lane)
            generalize hown : rOwner _ s.key = ow at HOW
            have hoo : (ow != ow) = false := by simp
            go_region_held3 (fun W' => W'.cell? ⟨wr.heap.size, 1, none⟩ = some (vz s.key) ∧ W'.cell? ⟨wr.heap.size, 2, none⟩ = some (vz s.lane))
              (exact ⟨e1, e2⟩)
              (first
                | (go_at_call 48; refine (owner_c tb mb _ _ s.key _ HT.out HO.out.2.1).mono ?_; rintro e w7 ⟨rfl, hb⟩; rw [← HOW.out]; replace HT := hid_ (HT.out.mono hb); replace HR := hid_ (HR.out.mono hb); replace HB := hid_ (btr HB.out hb); replace e1 := cmono hb e1; replace e2 := cmono hb e2; clear hb)
                | (go_at_call 49; refine (rowner_c rb _ _ s.key _ HR.out).mono ?_; rintro e w7 ⟨rfl, hb⟩; rw [hown]; replace HT := hid_ (HT.out.mono hb); replace HR := hid_ (HR.out.mono hb); replace HB := hid_ (btr HB.out hb); replace e1 := cmono hb e1; replace e2 := cmono hb e2; clear hb)
                | (go_at_call 51; refine (held_c tb mb _ _ s.lane _ HT.out (by omega)).mono ?_; rintro e w7 ⟨vx, hs, rfl, hh, hhl, hO, hb⟩; obtain rfl := hh.uniq HHD.out; have RX := hid_ (RdI.own hO rfl); (try replace RY := hid_ (RY.out.mono hb)); replace HT := hid_ (HT.out.mono hb); replace HR := hid_ (HR.out.mono hb); replace HB := hid_ (btr HB.out hb); replace e1 := cmono hb e1; replace e2 := cmono hb e2; clear hb hh hO)
                | (go_at_call 52; refine (rheld_c rb _ _ s.lane _ HR.out (by omega)).mono ?_; rintro e w7 ⟨vy, rfl, hO, hb⟩; have RY := hid_ (RdI.own hO rfl); (try replace RX := hid_ (RX.out.mono hb)); replace HT := hid_ (HT.out.mono hb); replace HR := hid_ (HR.out.mono hb); replace HB := hid_ (btr HB.out hb); replace e1 := cmono hb e1; replace e2 := cmono hb e2; clear hb hO)
                | (go_at_call 50; refine (ints_c _ _ _ _ _ RX.out RY.out).mono ?_; rintro e w7 ⟨rfl, hb⟩; rw [decide_eq_true rfl]; replace HT := hid_ (HT.out.mono hb); replace HR := hid_ (HR.out.mono hb); replace HB := hid_ (btr HB.out hb); replace e1 := cmono hb e1; replace e2 := cmono hb e2; clear hb))
            all_goals
              go_wp2
              go_roundw
              case rel => exact ⟨k + 1, by omega, by go_num, ⟨⟨_, _, _, HT.out, HR.out, HRP.out, by omega⟩, HB.out⟩⟩
              case measure => simp [intOf]; omega
        · have d0 : (s.k == 0) = false := by simp [c0]
          by_cases c3 : s.k = 3
          · have d3 : (s.k == 3) = true := by simp [c3]
            rw [c3] at HT HR HB e0 e1 e2
            have HRP := hid_ (rep_rel HREP.out s.lane)
            have HHL := hid_ (rep_held HREP.out s.lane)
            have HLN := hid_ (rep_len L s.lane)
            have hll2 : (rRel L s.lane).length ≤ L.length := rrel_len _ _
            have hnn : ∀ n : Nat, ((n : Int) != (n : Int)) = false := fun n => by simp
            go_upto_region 22 with (first
              | (go_at_call 46; refine (release_c tb mb k f s.lane _ HT.out (by omega)).mono ?_; rintro e w5 ⟨hs, rfl, hh, ht, hg⟩; obtain rfl := hh.uniq HHL.out; have hnn1 := hnn (rHeld L s.lane).length; replace HR := hid_ (HR.out.keptM HT.out.om hg); replace e0 := gcell hg e0 (map_ne HT.out.om e0); replace e1 := gcell hg e1 (map_ne HT.out.om e1); replace e2 := gcell hg e2 (map_ne HT.out.om e2); replace HT := hid_ (Tab.mk ht.cell (ht.om.size (Nat.le_succ _))); replace HB := hid_ (below_gb HB.out hg hm1); clear ht hg hh)
              | (go_at_call 47; refine (rrelease_c rb L sv s.lane _ HR.out (by omega)).mono ?_; rintro e w6 ⟨sv', rfl, hr, hg⟩; rw [← HLN.out]; replace HT := hid_ (HT.out.gb hg htr hmr); replace e0 := gcell hg e0 hcr; replace e1 := gcell hg e1 hcr; replace e2 := gcell hg e2 hcr; replace HR := hid_ hr; replace HB := hid_ (below_gb HB.out hg hr1); clear hr hg))
            replace HT := hid_ (HT.out.mono (Below.refl _ _).drew)
            replace HR := hid_ (HR.out.mono (Below.refl _ _).drew)
            replace HB := hid_ (HB.out.drew)
            have HOW := hid_ (rep_owner HRP.out s.key)
            have HHD := hid_ (rep_held HRP.out s.lane)
            generalize hown : rOwner _ s.key = ow at HOW
            have hoo : (ow != ow) = false := by simp
            go_region_held3 (fun W' => W'.cell? ⟨wr.heap.size, 1, none⟩ = some (vz s.key) ∧ W'.cell? ⟨wr.heap.size, 2, none⟩ = some (vz s.lane))
              (exact ⟨e1, e2⟩)
              (first
                | (go_at_call 48; refine (owner_c tb mb _ _ s.key _ HT.out HO.out.2.1).mono ?_; rintro e w7 ⟨rfl, hb⟩; rw [← HOW.out]; replace HT := hid_ (HT.out.mono hb); replace HR := hid_ (HR.out.mono hb); replace HB := hid_ (btr HB.out hb); replace e1 := cmono hb e1; replace e2 := cmono hb e2; clear hb)
                | (go_at_call 49; refine (rowner_c rb _ _ s.key _ HR.out).mono ?_; rintro e w7 ⟨rfl, hb⟩; rw [hown]; replace HT := hid_ (HT.out.mono hb); replace HR := hid_ (HR.out.mono hb); replace HB := hid_ (btr HB.out hb); replace e1 := cmono hb e1; replace e2 := cmono hb e2; clear hb)
                | (go_at_call 51; refine (held_c tb mb _ _ s.lane _ HT.out (by omega)).mono ?_; rintro e w7 ⟨vx, hs, rfl, hh, hhl, hO, hb⟩; obtain rfl := hh.uniq HHD.out; have RX := hid_ (RdI.own hO rfl); (try replace RY := hid_ (RY.out.mono hb)); replace HT := hid_ (HT.out.mono hb); replace HR := hid_ (HR.out.mono hb); replace HB := hid_ (btr HB.out hb); replace e1 := cmono hb e1; replace e2 := cmono hb e2; clear hb hh hO)
                | (go_at_call 52; refine (rheld_c rb _ _ s.lane _ HR.out (by omega)).mono ?_; rintro e w7 ⟨vy, rfl, hO, hb⟩; have RY := hid_ (RdI.own hO rfl); (try replace RX := hid_ (RX.out.mono hb)); replace HT := hid_ (HT.out.mono hb); replace HR := hid_ (HR.out.mono hb); replace HB := hid_ (btr HB.out hb); replace e1 := cmono hb e1; replace e2 := cmono hb e2; clear hb hO)
                | (go_at_call 50; refine (ints_c _ _ _ _ _ RX.out RY.out).mono ?_; rintro e w7 ⟨rfl, hb⟩; rw [decide_eq_true rfl]; replace HT := hid_ (HT.out.mono hb); replace HR := hid_ (HR.out.mono hb); replace HB := hid_ (btr HB.out hb); replace e1 := cmono hb e1; replace e2 := cmono hb e2; clear hb))
            all_goals
              go_wp2
              go_roundw
              case rel => exact ⟨k + 1, by omega, by go_num, ⟨⟨_, _, _, HT.out, HR.out, HRP.out, by omega⟩, HB.out⟩⟩
              case measure => simp [intOf]; omega
          · have d3 : (s.k == 3) = false := by simp [c3]
            go_upto_region 22 with (fail)
            have HRP := HREP
            have hll2 : L.length ≤ L.length := Nat.le_refl _
            replace HT := hid_ (Tab.mk HT.out.cell (HT.out.om.size (Nat.le_succ k)))
            replace HT := hid_ (HT.out.mono (Below.refl _ _).drew)
            replace HR := hid_ (HR.out.mono (Below.refl _ _).drew)
            replace HB := hid_ (HB.out.drew)
            have HOW := hid_ (rep_owner HRP.out s.key)
            have HHD := hid_ (rep_held HRP.out s.lane)
            generalize hown : rOwner _ s.key = ow at HOW
            have hoo : (ow != ow) = false := by simp
            go_region_held3 (fun W' => W'.cell? ⟨wr.heap.size, 1, none⟩ = some (vz s.key) ∧ W'.cell? ⟨wr.heap.size, 2, none⟩ = some (vz s.lane))
              (exact ⟨e1, e2⟩)
              (first
                | (go_at_call 48; refine (owner_c tb mb _ _ s.key _ HT.out HO.out.2.1).mono ?_; rintro e w7 ⟨rfl, hb⟩; rw [← HOW.out]; replace HT := hid_ (HT.out.mono hb); replace HR := hid_ (HR.out.mono hb); replace HB := hid_ (btr HB.out hb); replace e1 := cmono hb e1; replace e2 := cmono hb e2; clear hb)
                | (go_at_call 49; refine (rowner_c rb _ _ s.key _ HR.out).mono ?_; rintro e w7 ⟨rfl, hb⟩; rw [hown]; replace HT := hid_ (HT.out.mono hb); replace HR := hid_ (HR.out.mono hb); replace HB := hid_ (btr HB.out hb); replace e1 := cmono hb e1; replace e2 := cmono hb e2; clear hb)
                | (go_at_call 51; refine (held_c tb mb _ _ s.lane _ HT.out (by omega)).mono ?_; rintro e w7 ⟨vx, hs, rfl, hh, hhl, hO, hb⟩; obtain rfl := hh.uniq HHD.out; have RX := hid_ (RdI.own hO rfl); (try replace RY := hid_ (RY.out.mono hb)); replace HT := hid_ (HT.out.mono hb); replace HR := hid_ (HR.out.mono hb); replace HB := hid_ (btr HB.out hb); replace e1 := cmono hb e1; replace e2 := cmono hb e2; clear hb hh hO)
                | (go_at_call 52; refine (rheld_c rb _ _ s.lane _ HR.out (by omega)).mono ?_; rintro e w7 ⟨vy, rfl, hO, hb⟩; have RY := hid_ (RdI.own hO rfl); (try replace RX := hid_ (RX.out.mono hb)); replace HT := hid_ (HT.out.mono hb); replace HR := hid_ (HR.out.mono hb); replace HB := hid_ (btr HB.out hb); replace e1 := cmono hb e1; replace e2 := cmono hb e2; clear hb hO)
                | (go_at_call 50; refine (ints_c _ _ _ _ _ RX.out RY.out).mono ?_; rintro e w7 ⟨rfl, hb⟩; rw [decide_eq_true rfl]; replace HT := hid_ (HT.out.mono hb); replace HR := hid_ (HR.out.mono hb); replace HB := hid_ (btr HB.out hb); replace e1 := cmono hb e1; replace e2 := cmono hb e2; clear hb))
            all_goals
              go_wp2
              go_roundw
              case rel => exact ⟨k + 1, by omega, by go_num, ⟨⟨_, _, _, HT.out, HR.out, HRP.out, by omega⟩, HB.out⟩⟩
              case measure => simp [intOf]; omega
      · go_wp2
        go_ret
        exact ⟨rfl, HA.out.b⟩
end Go.Proofs.Ytncdkbhkjamdpaa
