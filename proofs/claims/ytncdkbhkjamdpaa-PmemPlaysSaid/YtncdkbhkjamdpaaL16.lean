/- The walk of the statement PmemOwn: it returns true. -/
import Derived.Test.YtncdkbhkjamdpaaD12
import Derived.Deep.RegionHeld3
namespace Go.Proofs.Ytncdkbhkjamdpaa
open Go.RowKit Go.Maps

theorem DevT.other {w w' : World} {db mb lb cp n : Nat} {S : DS} {g : Nat} (h : DevT w db mb lb cp n S) (hg : w.grownBy w' (some g)) (h1 : g ≠ db) (h2 : g ≠ mb) (h3 : g ≠ lb) : DevT w' db mb lb cp n S :=
  ⟨(hg.block db h.lt (by simpa using Ne.symm h1)).trans h.blk, h.own.kept hg (.inr (by simpa [Value.ownBlock] using Ne.symm h3)), h.om.kept hg (by simpa using Ne.symm h2), h.ne⟩
theorem newS_ok {l : List Int} (h1 : 1 ≤ l.length) (h2 : l.length ≤ 65536) : (newS l).Ok :=
  ⟨⟨h1, h2⟩, fun k hk => (by cases hk), ⟨Int.le_refl _, by show (0 : Int) ≤ _; omega⟩, ⟨Int.le_refl _, by show (0 : Int) ≤ _; omega⟩⟩
theorem load_new {l : List Int} {k : Nat} (hk : k < l.length) : loadS (newS l) k = l[k] := by
  have h : isAt (newS l) k = true := by simp [isAt, newS]; omega
  rw [loadS, h]
  simp [newS, hk]

set_option maxHeartbeats 4000000 in
set_option maxRecDepth 100000 in
theorem pmemOwn_walk (l : List Int) (v : Value) (a x : Int) (w : World) (hv : RdU w v l) (a1 : 0 ≤ a) (a2 : a ≤ 255) :
    Calls Try.prog 16 #[v, .int .u8 a, vu x] w fun e w' => e = .returned (.bool true) ∧ Below w.heap.size w w' := by
  have HV := hid_ hv
  obtain ⟨A, c, rfl, hl, hl', _⟩ := hv
  by_cases hlen : l.length = 0 ∨ 30 < l.length
  · rcases hlen with h | h
    · have h0 : ((l.length : Int) == 0) = true := by simp [h]
      clear h
      go_enter Try.func16, Try.ntmps16
      go_wp2_with (go_at_call 54; refine (awake03_c _).mono ?_; rintro e w1 ⟨rfl, hb⟩; have B1 := hid_ hb; clear hb)
      go_ret
      exact ⟨rfl, B1.out⟩
    · have h0 : ((l.length : Int) == 0) = false := beq_eq_false_iff_ne.2 (by omega)
      go_enter Try.func16, Try.ntmps16
      go_wp2_with (go_at_call 54; refine (awake03_c _).mono ?_; rintro e w1 ⟨rfl, hb⟩; have B1 := hid_ hb; clear hb)
      go_ret
      exact ⟨rfl, B1.out⟩
  · have h1 : 1 ≤ l.length := by omega
    have h2 : l.length ≤ 30 := by omega
    have h0 : ((l.length : Int) == 0) = false := beq_eq_false_iff_ne.2 (by omega)
    clear hlen
    obtain ⟨b, o, rfl, _⟩ := RdU.at HV.out (Below.refl _ _) (show 0 < l.length by omega)
    obtain ⟨i0, hi, hz0, hz1, hz2⟩ := info_parts info51
    have hI := hid_ hi; have hZ0 := hid_ hz0; have hZ1 := hid_ hz1; have hZ2 := hid_ hz2
    clear hi hz0 hz1 hz2
    obtain ⟨k, hk⟩ : ∃ k : Nat, a % (l.length : Int) = k := ⟨(a % (l.length : Int)).toNat, by have := Int.emod_nonneg a (show (l.length : Int) ≠ 0 by omega); omega⟩
    have hkl : k < l.length := by have := Int.emod_lt_of_pos a (show (0 : Int) < l.length by omega); omega
    have hkt : a.tmod (l.length : Int) = k := by rw [Int.tmod_eq_emod_of_nonneg a1]; exact hk
    obtain ⟨lk, hlk⟩ : ∃ lk, l[k] = lk := ⟨_, rfl⟩
    have HLOAD : Hid (loadS (newS l) k = lk) := by show _ = _; rw [load_new hkl, hlk]
    have hcell : w.cell? ⟨b, o + k, none⟩ = some (vu lk) := by
      obtain ⟨b2, o2, e, h⟩ := RdU.at HV.out (Below.refl _ _) hkl
      injection e with e
      injection e with e3 e4
      subst e3 e4
      rw [← hlk]
      exact h
    have hkk : (lk == lk) = true := by simp
    have HOK := hid_ (newS_ok h1 (show l.length ≤ 65536 by omega))
    have HKL := hid_ hkl
    have HLK : Hid (l[k]? = some lk) := by show _ = _; rw [List.getElem?_eq_getElem hkl, hlk]
    clear hlk
    have HZ : Hid (InZ k) := ⟨by omega, by omega⟩
    have h0' : 0 < l.length := by omega
    have HTOK1 : True := trivial
    have hcell0 := hcell
    go_enter Try.func16, Try.ntmps16
    go_upto_region 14 with (first
      | (go_at_call 54; refine (awake03_c _).mono ?_; rintro e w1 ⟨rfl, hb⟩; have B1 := hid_ hb; replace hcell := cmono hb hcell; have HV1 := hid_ (HV.out.mono hb); clear hb)
      | (at_builtin; refine wpList_append_own _ rfl _ _ 92 rfl w1.heap.size 51 i0 (vu 0) 1 8 Try.underlying92 hI.out hZ0.out hZ1.out hZ2.out rfl (by decide) (.slice (some ⟨w1.heap.size, 0, none⟩) 0 0) 0 [] rfl (World.ownsRow_made w1 #[] 0 (Nat.le_refl _) (Nat.zero_le _) rfl) ⟨b, o, none⟩ l.length c (flat encU l) rfl ?c1 ?c2 ?c3 ?c4 ?c5 ?c6 ?_; rotate_left 6; intro v' w2 hown hg _; replace hown : w2.ownsRow w1.heap.size 51 1 v' l.length (l.map vu) := (by rw [← flat_encU]; simpa using hown); obtain ⟨g, cap, rfl⟩ := own_form hown h0'; have HO := hid_ hown; have B2 := hid_ ((balloc' w1 _).grown hg (by simp) (by intro q hq; simp [Value.ownBlock] at hq; omega)); clear hown hg)
      | (go_at_call 55; go_loud (refine (open_c l _ _ (RdU.own HO.out rfl) h1 (by omega)).mono ?_; rintro e w3 ⟨db, mb, lb, cp, rfl, ht⟩; have HN3 := hid_ ht; have HO3 := hid_ (ownsRow_below HO.out ht.b); have hz3 := (ownsRow_below HO.out ht.b).frozenAt k; have hk3 : w3.cell? ⟨g, k, none⟩ = some (vu lk) := (((ownsRow_below HO.out ht.b).cellAt k (by simpa using HKL.out)).trans (by rw [List.getElem?_map, HLK.out]; rfl)); have hgl := (HO.out.lt g rfl).2; have hg1 := ht.h1; have hg2 := ht.h2; have hg3 := ht.h3; have HT3 := hid_ ((ht.t.other (gb_setCell w3 ⟨g, k, none⟩ (vu x)) (show g ≠ db by omega) (show g ≠ mb by omega) (show g ≠ lb by omega))); have HB3 := hid_ (btr B1.out (btr B2.out ht.b)); replace hcell := cmono (btr B2.out ht.b) hcell; clear ht))
      | (go_at_call 56; go_loud (refine (image_c _ HT3.out HOK.out).mono ?_; rintro e w4 ⟨vl, rfl, hO4, hb⟩; replace hO4 : w4.ownsRow _ 51 1 vl l.length (l.map vu) := hO4; obtain ⟨g4, cap4, rfl⟩ := own_form hO4 h0'; have hz4 := hO4.frozenAt k; have hk4 : w4.cell? ⟨g4, k, none⟩ = some (vu lk) := ((hO4.cellAt k (by simpa using HKL.out)).trans (by rw [List.getElem?_map, HLK.out]; rfl)); have hg5 := (hO4.lt g4 rfl).1; have hs4 := (gb_setCell w3 ⟨g, k, none⟩ (vu x)).size; have l1 := HT3.out.lt; have l2 := HT3.out.om.lt; have l3 := HT3.out.bnd; have hbw := World.block_lt_of_cell? w _ hcell0; have s1 := HB3.out.size; have s2 := (HO.out.lt g rfl).1; have s3 := B1.out.size; have HT5 : Hid (∀ u, DevT (w4.setCell ⟨g4, k, none⟩ u).drew db mb lb cp 0 (newS l)) := (fun u => ((HT3.out.mono hb).other (gb_setCell w4 ⟨g4, k, none⟩ u) (show g4 ≠ db by omega) (show g4 ≠ mb by omega) (show g4 ≠ lb by omega)).mono (Below.refl _ _).drew); have HB5 : Hid (∀ u, Below w.heap.size w (w4.setCell ⟨g4, k, none⟩ u).drew) := (fun u => (below_gb (btr (below_gb HB3.out (gb_setCell w3 ⟨g, k, none⟩ (vu x)) (show w.heap.size ≤ g by omega)) hb) (gb_setCell w4 ⟨g4, k, none⟩ u) (show w.heap.size ≤ g4 by omega)).drew); clear hO4 hb)))
    case c1 => exact flat_length encU_len l
    case c2 => exact fun j u hj => cell_old _ _ (Rd.cells encU_len HV1.out j u hj)
    case c3 =>
      intro u hu
      obtain ⟨s, _, hs⟩ := List.mem_flatMap.1 hu
      simp [encU] at hs
      subst hs
      rfl
    case c4 => unfold maxLen; omega
    case c5 => omega
    case c6 => simp
    clear hcell
    have hcell5 : ∀ u, (w4.setCell ⟨g4, k, none⟩ u).drew.cell? ⟨b, o + k, none⟩ = some (vu lk) := fun u => (cmono ((HB5.out u)) hcell0)
    have HV5 : Hid (∀ u, RdU (w4.setCell ⟨g4, k, none⟩ u).drew (.slice (some ⟨b, o, none⟩) l.length c) l) := fun u => HV.out.mono (HB5.out u)
    have HT6 := hid_ (HT5.out (.int .u64 (IntKind.u64.wrap (x + 1))))
    have HB6 := hid_ (HB5.out (.int .u64 (IntKind.u64.wrap (x + 1))))
    have HV6 := hid_ (HV5.out (.int .u64 (IntKind.u64.wrap (x + 1))))
    have hc6 := hcell5 (.int .u64 (IntKind.u64.wrap (x + 1)))
    obtain ⟨W, hW⟩ : ∃ W, w4.setCell ⟨g4, k, none⟩ (.int .u64 (IntKind.u64.wrap (x + 1))) = W := ⟨_, rfl⟩
    rw [hW] at HT6 HB6 HV6 hc6 ⊢
    clear hcell5 HT5 HB5 HV5 hW hz4 hk4
    go_region_held3 (fun W' => W'.cell? ⟨b, o + k, none⟩ = some (vu lk)) (exact hc6)
      (first
        | (go_at_call 56; refine (image_c _ HT6.out HOK.out).mono ?_; rintro e w6 ⟨vi, rfl, hO, hb⟩; have HI := hid_ (RdU.own (l := l) hO rfl); replace HT6 := hid_ (HT6.out.mono hb); replace HB6 := hid_ (btr HB6.out hb); replace HV6 := hid_ (HV6.out.mono hb); replace hc6 := cmono hb hc6; clear hO hb)
        | (go_at_call 57; refine (wordsEq_c l l _ _ _ HI.out HV6.out).mono ?_; rintro e w7 ⟨rfl, hb⟩; rw [decide_eq_true rfl]; replace HT6 := hid_ (HT6.out.mono hb); replace HB6 := hid_ (btr HB6.out hb); replace hc6 := cmono hb hc6; clear hb)
        | (go_at_call 58; refine (load_c (k : Int) _ HT6.out HZ.out).mono ?_; rintro e w8 ⟨rfl, hb⟩; rw [HLOAD.out]; replace HT6 := hid_ (HT6.out.mono hb); replace HB6 := hid_ (btr HB6.out hb); replace hc6 := cmono hb hc6; clear hb))
    all_goals
      go_wp2
      go_ret
      exact ⟨rfl, HB6.out⟩
end Go.Proofs.Ytncdkbhkjamdpaa
