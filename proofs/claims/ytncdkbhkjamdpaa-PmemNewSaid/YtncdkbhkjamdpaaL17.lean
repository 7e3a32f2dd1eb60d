/- The walk of the statement PmemNew: it returns true. (Printed by wip/L17.py.) -/
import Derived.Test.YtncdkbhkjamdpaaL16
namespace Go.Proofs.Ytncdkbhkjamdpaa
open Go.RowKit Go.Maps

theorem replicate_len (k : Nat) : (List.replicate k (0 : Int)).length = k := List.length_replicate
theorem make51 {q : Nat} (hq : q ≤ 65536) (W : World) : ∃ w', (Instr.makeSlice 92 (vz q) (vz q)).run Try.prog W = .ok (.slice (some ⟨W.heap.size, 0, none⟩) q q) w' ∧ RdU w' (.slice (some ⟨W.heap.size, 0, none⟩) q q) (List.replicate q 0) ∧ Below W.heap.size W w' := by
  obtain ⟨i0, hi, hz0, hz1, hz2⟩ := info_parts info51
  obtain ⟨w', h1, h2, h3⟩ := run_make_full (P := Try.prog) W W.heap.size 92 51 i0 (vu 0) 1 Try.underlying92 hi hz0 hz1 .i64 .i64 q (by rw [hz2]; omega) (by unfold maxLen; omega) (Nat.le_refl _)
  refine ⟨w', h1, ?_, ⟨h3.os, h3.tape, h3.output, h3.size, fun k hk => h3.block k hk (by simp)⟩⟩
  refine RdU.own (base := W.heap.size) (n := q) ?_ (replicate_len q).symm
  rw [show (vu 0).cells = #[vu 0] from rfl, toList_madeCells_one] at h2
  simpa using h2
noncomputable def mk51 (q : Nat) (hq : q ≤ 65536) (W : World) : World := Classical.choose (make51 hq W)
theorem mk51_run {q : Nat} (hq : q ≤ 65536) (W : World) : (Instr.makeSlice 92 (vz q) (vz q)).run Try.prog W = .ok (.slice (some ⟨W.heap.size, 0, none⟩) q q) (mk51 q hq W) := (Classical.choose_spec (make51 hq W)).1
theorem mk51_rd {q : Nat} (hq : q ≤ 65536) (W : World) : RdU (mk51 q hq W) (.slice (some ⟨W.heap.size, 0, none⟩) q q) (List.replicate q 0) := (Classical.choose_spec (make51 hq W)).2.1
theorem mk51_b {q : Nat} (hq : q ≤ 65536) (W : World) : Below W.heap.size W (mk51 q hq W) := (Classical.choose_spec (make51 hq W)).2.2

set_option maxHeartbeats 4000000 in
set_option maxRecDepth 100000 in
theorem pmemNew_walk (m : Int) (l : List Int) (v : Value) (w : World) (hv : RdU w v l) :
    Calls Try.prog 17 #[vz m, v] w fun e w' => e = .returned (.bool true) ∧ Below w.heap.size w w' := by
  have HV := hid_ hv
  obtain ⟨A, c, rfl, hl, hl', _⟩ := hv
  by_cases hmid : 1000 < m ∧ m ≤ 65536
  · obtain ⟨hm1, hm2⟩ := hmid
    go_enter Try.func17, Try.ntmps17
    go_wp2_with (go_at_call 54; refine (awake03_c _).mono ?_; rintro e w1 ⟨rfl, hb⟩; have B1 := hid_ hb; clear hb)
    go_ret
    exact ⟨rfl, B1.out⟩
  · by_cases hl40 : 40 < l.length
    · by_cases hm : 1000 < m
      · have hm2 : ¬ m ≤ 65536 := fun h => hmid ⟨hm, h⟩
        go_enter Try.func17, Try.ntmps17
        go_wp2_with (go_at_call 54; refine (awake03_c _).mono ?_; rintro e w1 ⟨rfl, hb⟩; have B1 := hid_ hb; clear hb)
        go_ret
        exact ⟨rfl, B1.out⟩
      · go_enter Try.func17, Try.ntmps17
        go_wp2_with (go_at_call 54; refine (awake03_c _).mono ?_; rintro e w1 ⟨rfl, hb⟩; have B1 := hid_ hb; clear hb)
        go_ret
        exact ⟨rfl, B1.out⟩
    · by_cases hbad : m < 1 ∨ 65536 < m
      · have HM := hid_ hbad
        have hlow : m < 1 ∨ (1000 < m ∧ 65536 < m ∧ ¬ m < 1) := by omega
        by_cases h0 : l.length = 0
        · have HL := hid_ (show l.length < 1 by omega)
          have hz : ((l.length : Int) == 0) = true := beq_iff_eq.2 (by omega)
          clear h0 hmid hbad
          rcases hlow with hm | ⟨hm, hm2, hm3⟩
          · go_enter Try.func17, Try.ntmps17
            go_wp2_with (first
              | (go_at_call 54; refine (awake03_c _).mono ?_; rintro e w1 ⟨rfl, hb⟩; have B1 := hid_ hb; have HV1 := hid_ (HV.out.mono hb); clear hb)
              | (go_at_call 59; refine (pnew_no m _ HM.out).mono ?_; rintro e w2 ⟨rfl, hb⟩; have B2 := hid_ (btr B1.out hb); have HV2 := hid_ (HV1.out.mono hb); clear hb)
              | (go_at_call 55; refine (open_no l _ _ HV2.out (.inl HL.out)).mono ?_; rintro e w3 ⟨rfl, hb⟩; have B3 := hid_ (btr B2.out hb);  clear hb))
            go_ret
            exact ⟨rfl, B3.out⟩
          · go_enter Try.func17, Try.ntmps17
            go_wp2_with (first
              | (go_at_call 54; refine (awake03_c _).mono ?_; rintro e w1 ⟨rfl, hb⟩; have B1 := hid_ hb; have HV1 := hid_ (HV.out.mono hb); clear hb)
              | (go_at_call 59; refine (pnew_no m _ HM.out).mono ?_; rintro e w2 ⟨rfl, hb⟩; have B2 := hid_ (btr B1.out hb); have HV2 := hid_ (HV1.out.mono hb); clear hb)
              | (go_at_call 55; refine (open_no l _ _ HV2.out (.inl HL.out)).mono ?_; rintro e w3 ⟨rfl, hb⟩; have B3 := hid_ (btr B2.out hb);  clear hb))
            go_ret
            exact ⟨rfl, B3.out⟩
        · have HL := hid_ (show 1 ≤ l.length by omega)
          have hz : ((l.length : Int) == 0) = false := beq_eq_false_iff_ne.2 (by omega)
          have hll : ((l.length : Int) == (l.length : Int)) = true := by simp
          have HOK := hid_ (newS_ok HL.out (show l.length ≤ 65536 by omega))
          clear h0 hmid hbad
          rcases hlow with hm | ⟨hm, hm2, hm3⟩
          · have tok1 : True := trivial
            have tok2 : True := trivial
            have tok3 : True := trivial
            go_enter Try.func17, Try.ntmps17
            go_wp2_with (first
              | (go_at_call 54; refine (awake03_c _).mono ?_; rintro e w1 ⟨rfl, hb⟩; have B1 := hid_ hb; have HV1 := hid_ (HV.out.mono hb); clear hb)
              | (go_at_call 59; refine (pnew_no m _ HM.out).mono ?_; rintro e w2 ⟨rfl, hb⟩; have B2 := hid_ (btr B1.out hb); have HV2 := hid_ (HV1.out.mono hb); clear hb)
              | (go_at_call 55; refine (open_c l _ _ HV2.out HL.out (by omega)).mono ?_; rintro e w3 ⟨eb, fb, gb, cp, rfl, ht⟩; have HO3 := hid_ ht.t; have B3 := hid_ (btr B2.out ht.b); have HV3 := hid_ (HV2.out.mono ht.b);  clear ht)
              | (go_at_call 56; have _t := tok1; refine (image_c _ HO3.out HOK.out).mono ?_; rintro e w4 ⟨vi, rfl, hO, hb⟩; have HI := hid_ (RdU.own (l := l) hO rfl); replace HO3 := hid_ (HO3.out.mono hb); replace B3 := hid_ (btr B3.out hb); replace HV3 := hid_ (HV3.out.mono hb);  clear hO hb tok1)
              | (go_at_call 57; have _t := tok2; refine (wordsEq_c l l _ _ _ HI.out HV3.out).mono ?_; rintro e w5 ⟨rfl, hb⟩; rw [decide_eq_true rfl]; replace HO3 := hid_ (HO3.out.mono hb); replace B3 := hid_ (btr B3.out hb);  clear hb tok2)
              | (go_at_call 60; have _t := tok3; refine (words_c _ HO3.out).mono ?_; rintro e w6 ⟨rfl, hb⟩; rw [show (newS l).last.length = l.length from rfl]; replace B3 := hid_ (btr B3.out hb);  clear hb tok3))
            go_ret
            exact ⟨rfl, B3.out⟩
          · have tok1 : True := trivial
            have tok2 : True := trivial
            have tok3 : True := trivial
            go_enter Try.func17, Try.ntmps17
            go_wp2_with (first
              | (go_at_call 54; refine (awake03_c _).mono ?_; rintro e w1 ⟨rfl, hb⟩; have B1 := hid_ hb; have HV1 := hid_ (HV.out.mono hb); clear hb)
              | (go_at_call 59; refine (pnew_no m _ HM.out).mono ?_; rintro e w2 ⟨rfl, hb⟩; have B2 := hid_ (btr B1.out hb); have HV2 := hid_ (HV1.out.mono hb); clear hb)
              | (go_at_call 55; refine (open_c l _ _ HV2.out HL.out (by omega)).mono ?_; rintro e w3 ⟨eb, fb, gb, cp, rfl, ht⟩; have HO3 := hid_ ht.t; have B3 := hid_ (btr B2.out ht.b); have HV3 := hid_ (HV2.out.mono ht.b);  clear ht)
              | (go_at_call 56; have _t := tok1; refine (image_c _ HO3.out HOK.out).mono ?_; rintro e w4 ⟨vi, rfl, hO, hb⟩; have HI := hid_ (RdU.own (l := l) hO rfl); replace HO3 := hid_ (HO3.out.mono hb); replace B3 := hid_ (btr B3.out hb); replace HV3 := hid_ (HV3.out.mono hb);  clear hO hb tok1)
              | (go_at_call 57; have _t := tok2; refine (wordsEq_c l l _ _ _ HI.out HV3.out).mono ?_; rintro e w5 ⟨rfl, hb⟩; rw [decide_eq_true rfl]; replace HO3 := hid_ (HO3.out.mono hb); replace B3 := hid_ (btr B3.out hb);  clear hb tok2)
              | (go_at_call 60; have _t := tok3; refine (words_c _ HO3.out).mono ?_; rintro e w6 ⟨rfl, hb⟩; rw [show (newS l).last.length = l.length from rfl]; replace B3 := hid_ (btr B3.out hb);  clear hb tok3))
            go_ret
            exact ⟨rfl, B3.out⟩
      · obtain ⟨q, rfl⟩ : ∃ q : Nat, m = q := ⟨m.toNat, by omega⟩
        have HQ1 := hid_ (show 1 ≤ q by omega)
        have HQ2 := hid_ (show q ≤ 65536 by omega)
        have hm3 : (q : Int) ≤ 1000 := by omega
        have hm4 : ¬ (q : Int) < 1 := by omega
        have HNK : Hid (newS (List.replicate q 0)).Ok := newS_ok (by rw [replicate_len]; omega) (by rw [replicate_len]; omega)
        by_cases h0 : l.length = 0
        · have HL := hid_ (show l.length < 1 by omega)
          have hz : ((l.length : Int) == 0) = true := beq_iff_eq.2 (by omega)
          clear h0 hmid hbad
          go_enter Try.func17, Try.ntmps17
          go_upto_region 15 with (first
            | (go_at_call 54; refine (awake03_c _).mono ?_; rintro e w1 ⟨rfl, hb⟩; have B1 := hid_ hb; have HV1 := hid_ (HV.out.mono hb); clear hb)
            | (go_at_call 59; refine (pnew_c q _ HQ1.out HQ2.out).mono ?_; rintro e w2 ⟨db, mb, lb, rfl, ht⟩; have HT2 := hid_ ht.t; have B2 := hid_ (btr B1.out ht.b); have HV2 := hid_ (HV1.out.mono ht.b); clear ht)
            | (go_at_call 55; refine (open_no l _ _ HV2.out (.inl HL.out)).mono ?_; rintro e w3 ⟨rfl, hb⟩; have B3 := hid_ (btr B2.out hb); have HT3 := hid_ (HT2.out.mono hb); clear hb))
          have hkk : ((q : Int) == (q : Int)) = true := by simp
          replace HT3 := hid_ (HT3.out.mono (Below.refl _ _).drew)
          replace B3 := hid_ B3.out.drew
          have hnn : (0 : Int) ≤ (q : Int) := by omega
          have hmk := mk51_run HQ2.out
          go_region_held3 (fun _ => True) (exact trivial)
            (first
              | (go_at_call 60; refine (words_c _ HT3.out).mono ?_; rintro e w7 ⟨rfl, hb⟩; rw [show (newS (List.replicate q 0)).last.length = q from replicate_len q]; replace HT3 := hid_ (HT3.out.mono hb); replace B3 := hid_ (btr B3.out hb); (try replace HI2 := hid_ (HI2.out.mono hb)); (try replace HMK := hid_ (HMK.out.mono hb)); clear hb)
              | (go_at_call 56; refine (image_c _ HT3.out HNK.out).mono ?_; rintro e w7 ⟨vi2, rfl, hO, hb⟩; have HI3 := hid_ (RdU.own (l := List.replicate q 0) hO rfl); replace HT3 := hid_ (HT3.out.mono hb); replace B3 := hid_ (btr B3.out hb); (try replace HI2 := hid_ (HI2.out.mono hb)); (try replace HMK := hid_ (HMK.out.mono hb)); clear hb; have HI2 := HI3; clear HI3 hO)
              | (go_at_call 56; refine (image_c _ (HT3.out.mono (mk51_b HQ2.out _)) HNK.out).mono ?_; rintro e w7 ⟨vi2, rfl, hO, hb⟩; have HI3 := hid_ (RdU.own (l := List.replicate q 0) hO rfl); have HMK := hid_ ((mk51_rd HQ2.out _).mono hb); replace hb := btr (mk51_b HQ2.out _) hb; replace HT3 := hid_ (HT3.out.mono hb); replace B3 := hid_ (btr B3.out hb); have HI2 := HI3; clear HI3 hO hb)
              | (go_at_call 57; refine (wordsEq_c (List.replicate q 0) (List.replicate q 0) _ _ _ HI2.out HMK.out).mono ?_; rintro e w7 ⟨rfl, hb⟩; rw [decide_eq_true rfl]; replace HT3 := hid_ (HT3.out.mono hb); replace B3 := hid_ (btr B3.out hb); clear hb)
              | (go_at_call 57; refine (wordsEq_c (List.replicate q 0) (List.replicate q 0) _ _ _ (HI2.out.mono (mk51_b HQ2.out _)) (mk51_rd HQ2.out _)).mono ?_; rintro e w7 ⟨rfl, hb⟩; rw [decide_eq_true rfl]; replace hb := btr (mk51_b HQ2.out _) hb; replace HT3 := hid_ (HT3.out.mono hb); replace B3 := hid_ (btr B3.out hb); clear hb)
              | (go_at_call 61; refine (steps_c _ HT3.out).mono ?_; rintro e w7 ⟨rfl, hb⟩; rw [show (newS (List.replicate q 0)).steps = 0 from rfl]; replace HT3 := hid_ (HT3.out.mono hb); replace B3 := hid_ (btr B3.out hb); (try replace HI2 := hid_ (HI2.out.mono hb)); (try replace HMK := hid_ (HMK.out.mono hb)); clear hb)
              | (go_at_call 62; refine (dead_c _ HT3.out).mono ?_; rintro e w7 ⟨rfl, hb⟩; rw [show (newS (List.replicate q 0)).dead = false from rfl]; replace HT3 := hid_ (HT3.out.mono hb); replace B3 := hid_ (btr B3.out hb); (try replace HI2 := hid_ (HI2.out.mono hb)); (try replace HMK := hid_ (HMK.out.mono hb)); clear hb)
              | (go_at_call 63; refine (dirty_c _ HT3.out (by decide)).mono ?_; rintro e w7 ⟨vd, ks, rfl, hk, _, hO, hb⟩; obtain rfl := hk.uniq keys_none; obtain ⟨Ad, cd, rfl, _, _, _⟩ := (RdI.own hO rfl); replace HT3 := hid_ (HT3.out.mono hb); replace B3 := hid_ (btr B3.out hb); (try replace HI2 := hid_ (HI2.out.mono hb)); (try replace HMK := hid_ (HMK.out.mono hb)); clear hb; clear hO hk))
          all_goals
            go_wp2
            go_ret
            exact ⟨rfl, B3.out⟩
        · have HL := hid_ (show 1 ≤ l.length by omega)
          have hz : ((l.length : Int) == 0) = false := beq_eq_false_iff_ne.2 (by omega)
          have hll : ((l.length : Int) == (l.length : Int)) = true := by simp
          have HOK := hid_ (newS_ok HL.out (show l.length ≤ 65536 by omega))
          clear h0 hmid hbad
          have tok1 : True := trivial
          have tok2 : True := trivial
          have tok3 : True := trivial
          go_enter Try.func17, Try.ntmps17
          go_upto_region 15 with (first
            | (go_at_call 54; refine (awake03_c _).mono ?_; rintro e w1 ⟨rfl, hb⟩; have B1 := hid_ hb; have HV1 := hid_ (HV.out.mono hb); clear hb)
            | (go_at_call 59; refine (pnew_c q _ HQ1.out HQ2.out).mono ?_; rintro e w2 ⟨db, mb, lb, rfl, ht⟩; have HT2 := hid_ ht.t; have B2 := hid_ (btr B1.out ht.b); have HV2 := hid_ (HV1.out.mono ht.b); clear ht)
            | (go_at_call 55; refine (open_c l _ _ HV2.out HL.out (by omega)).mono ?_; rintro e w3 ⟨eb, fb, gb, cp, rfl, ht⟩; have HO3 := hid_ ht.t; have B3 := hid_ (btr B2.out ht.b); have HV3 := hid_ (HV2.out.mono ht.b); have HT3 := hid_ (HT2.out.mono ht.b); clear ht)
            | (go_at_call 56; have _t := tok1; refine (image_c _ HO3.out HOK.out).mono ?_; rintro e w4 ⟨vi, rfl, hO, hb⟩; have HI := hid_ (RdU.own (l := l) hO rfl); replace HO3 := hid_ (HO3.out.mono hb); replace B3 := hid_ (btr B3.out hb); replace HV3 := hid_ (HV3.out.mono hb); replace HT3 := hid_ (HT3.out.mono hb); clear hO hb tok1)
            | (go_at_call 57; have _t := tok2; refine (wordsEq_c l l _ _ _ HI.out HV3.out).mono ?_; rintro e w5 ⟨rfl, hb⟩; rw [decide_eq_true rfl]; replace HO3 := hid_ (HO3.out.mono hb); replace B3 := hid_ (btr B3.out hb); replace HT3 := hid_ (HT3.out.mono hb); clear hb tok2)
            | (go_at_call 60; have _t := tok3; refine (words_c _ HO3.out).mono ?_; rintro e w6 ⟨rfl, hb⟩; rw [show (newS l).last.length = l.length from rfl]; replace B3 := hid_ (btr B3.out hb); replace HT3 := hid_ (HT3.out.mono hb); clear hb tok3))
          have hkk : ((q : Int) == (q : Int)) = true := by simp
          replace HT3 := hid_ (HT3.out.mono (Below.refl _ _).drew)
          replace B3 := hid_ B3.out.drew
          have hnn : (0 : Int) ≤ (q : Int) := by omega
          have hmk := mk51_run HQ2.out
          go_region_held3 (fun _ => True) (exact trivial)
            (first
              | (go_at_call 60; refine (words_c _ HT3.out).mono ?_; rintro e w7 ⟨rfl, hb⟩; rw [show (newS (List.replicate q 0)).last.length = q from replicate_len q]; replace HT3 := hid_ (HT3.out.mono hb); replace B3 := hid_ (btr B3.out hb); (try replace HI2 := hid_ (HI2.out.mono hb)); (try replace HMK := hid_ (HMK.out.mono hb)); clear hb)
              | (go_at_call 56; refine (image_c _ HT3.out HNK.out).mono ?_; rintro e w7 ⟨vi2, rfl, hO, hb⟩; have HI3 := hid_ (RdU.own (l := List.replicate q 0) hO rfl); replace HT3 := hid_ (HT3.out.mono hb); replace B3 := hid_ (btr B3.out hb); (try replace HI2 := hid_ (HI2.out.mono hb)); (try replace HMK := hid_ (HMK.out.mono hb)); clear hb; have HI2 := HI3; clear HI3 hO)
              | (go_at_call 56; refine (image_c _ (HT3.out.mono (mk51_b HQ2.out _)) HNK.out).mono ?_; rintro e w7 ⟨vi2, rfl, hO, hb⟩; have HI3 := hid_ (RdU.own (l := List.replicate q 0) hO rfl); have HMK := hid_ ((mk51_rd HQ2.out _).mono hb); replace hb := btr (mk51_b HQ2.out _) hb; replace HT3 := hid_ (HT3.out.mono hb); replace B3 := hid_ (btr B3.out hb); have HI2 := HI3; clear HI3 hO hb)
              | (go_at_call 57; refine (wordsEq_c (List.replicate q 0) (List.replicate q 0) _ _ _ HI2.out HMK.out).mono ?_; rintro e w7 ⟨rfl, hb⟩; rw [decide_eq_true rfl]; replace HT3 := hid_ (HT3.out.mono hb); replace B3 := hid_ (btr B3.out hb); clear hb)
              | (go_at_call 57; refine (wordsEq_c (List.replicate q 0) (List.replicate q 0) _ _ _ (HI2.out.mono (mk51_b HQ2.out _)) (mk51_rd HQ2.out _)).mono ?_; rintro e w7 ⟨rfl, hb⟩; rw [decide_eq_true rfl]; replace hb := btr (mk51_b HQ2.out _) hb; replace HT3 := hid_ (HT3.out.mono hb); replace B3 := hid_ (btr B3.out hb); clear hb)
              | (go_at_call 61; refine (steps_c _ HT3.out).mono ?_; rintro e w7 ⟨rfl, hb⟩; rw [show (newS (List.replicate q 0)).steps = 0 from rfl]; replace HT3 := hid_ (HT3.out.mono hb); replace B3 := hid_ (btr B3.out hb); (try replace HI2 := hid_ (HI2.out.mono hb)); (try replace HMK := hid_ (HMK.out.mono hb)); clear hb)
              | (go_at_call 62; refine (dead_c _ HT3.out).mono ?_; rintro e w7 ⟨rfl, hb⟩; rw [show (newS (List.replicate q 0)).dead = false from rfl]; replace HT3 := hid_ (HT3.out.mono hb); replace B3 := hid_ (btr B3.out hb); (try replace HI2 := hid_ (HI2.out.mono hb)); (try replace HMK := hid_ (HMK.out.mono hb)); clear hb)
              | (go_at_call 63; refine (dirty_c _ HT3.out (by decide)).mono ?_; rintro e w7 ⟨vd, ks, rfl, hk, _, hO, hb⟩; obtain rfl := hk.uniq keys_none; obtain ⟨Ad, cd, rfl, _, _, _⟩ := (RdI.own hO rfl); replace HT3 := hid_ (HT3.out.mono hb); replace B3 := hid_ (btr B3.out hb); (try replace HI2 := hid_ (HI2.out.mono hb)); (try replace HMK := hid_ (HMK.out.mono hb)); clear hb; clear hO hk))
          all_goals
            go_wp2
            go_ret
            exact ⟨rfl, B3.out⟩
end Go.Proofs.Ytncdkbhkjamdpaa
