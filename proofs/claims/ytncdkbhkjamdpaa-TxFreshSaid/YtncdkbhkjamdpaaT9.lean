/- The reference's transaction (chapter 20): Note. -/
import Derived.Test.YtncdkbhkjamdpaaT7
namespace Go.Proofs.Ytncdkbhkjamdpaa
open Go.RowKit Go.Maps

theorem rOut_bd (R : TS) (s : Sp) (k : Nat) : ∀ x ∈ rOut R s k, s.f ≤ x.f ∧ x.f + x.m ≤ s.f + k ∧ 1 ≤ x.m := by
  induction k with
  | zero => intro x hx; cases hx
  | succ k ih =>
    intro x hx
    rw [rOut] at hx
    split at hx
    · have := ih x hx; omega
    · split at hx
      · rename_i z hz
        obtain ⟨ys, hys⟩ := List.getLast?_eq_some_iff.1 hz
        split at hx
        · rename_i he
          rw [hys, bump] at hx
          simp only [List.getLast?_concat, List.dropLast_concat, List.mem_append, List.mem_singleton] at hx
          have hzb := ih z (by rw [hys]; simp)
          rcases hx with hx | rfl
          · have := ih x (by rw [hys]; simp [hx]); omega
          · dsimp only; omega
        · rcases List.mem_append.1 hx with hx | hx
          · have := ih x hx; omega
          · obtain rfl := List.mem_singleton.1 hx
            dsimp only; omega
      · rcases List.mem_append.1 hx with hx | hx
        · have := ih x hx; omega
        · obtain rfl := List.mem_singleton.1 hx
          dsimp only; omega
theorem rOut_skip {R : TS} {s : Sp} {k : Nat} (h : (ownB R.fresh (s.f + k) || hasB R.words (s.f + k)) = true) : rOut R s (k + 1) = rOut R s k := by rw [rOut, if_pos h]
theorem rOut_none {R : TS} {s : Sp} {k : Nat} (h : (ownB R.fresh (s.f + k) || hasB R.words (s.f + k)) = false) (hl : (rOut R s k).getLast? = none) : rOut R s (k + 1) = rOut R s k ++ [⟨s.f + k, 1⟩] := by
  rw [rOut, if_neg (by rw [h]; decide), hl]
theorem rOut_bump {R : TS} {s : Sp} {k : Nat} (h : (ownB R.fresh (s.f + k) || hasB R.words (s.f + k)) = false) {z : Sp} (hl : (rOut R s k).getLast? = some z) (he : z.f + z.m = s.f + k) : rOut R s (k + 1) = bump (rOut R s k) := by
  rw [rOut, if_neg (by rw [h]; decide), hl]
  simp only [he, if_true]
theorem rOut_new {R : TS} {s : Sp} {k : Nat} (h : (ownB R.fresh (s.f + k) || hasB R.words (s.f + k)) = false) {z : Sp} (hl : (rOut R s k).getLast? = some z) (he : ¬ z.f + z.m = s.f + k) : rOut R s (k + 1) = rOut R s k ++ [⟨s.f + k, 1⟩] := by
  rw [rOut, if_neg (by rw [h]; decide), hl]
  simp only [he, if_false]
theorem flat_lastf {l : List Sp} {s : Sp} (h : l.getLast? = some s) : (flat Sp.enc l)[(l.length - 1) * 2]? = some (.int .i64 s.f) := by
  obtain ⟨ys, rfl⟩ := List.getLast?_eq_some_iff.1 h
  have hlt : ys.length < (ys ++ [s]).length := by simp
  have := flat_get Sp.enc_len (ys ++ [s]) ys.length hlt 0 (.int .i64 s.f) (by simp [Sp.enc])
  simpa using this
section
variable {rb : Nat} {wv fv gv : Value} {R : TS}
theorem fr_wo {w w' : World} (h : RTx w rb wv fv gv R) (hg : w.grownBy w' wv.ownBlock) : w'.heap[rb]? = some (.cells #[vz R.depth, .bool R.bad, wv, fv, gv, vz R.root, .bool R.is] 47 (0, 0)) :=
  (hg.block rb h.lt (by have := own_ne_cells h.wo h.blk (by decide); exact fun e => this e.symm)).trans h.blk
theorem RTx.growW {w w' : World} {wv' : Value} (h : RTx w rb wv fv gv R) (hg : w.grownBy w' wv.ownBlock) (l : List Sp) (ho : w'.ownsRow 0 25 2 wv' l.length (flat Sp.enc l)) : RTx (w'.setCell ⟨rb, 2, none⟩ wv') rb wv' fv gv { R with words := l } := by
  have hb := fr_wo h hg
  have hfo := kept_row h.fo h.wo (by decide) hg
  have hgo := kept_row h.go h.wo (by decide) hg
  refine ⟨?_, ?_, ?_, ?_⟩
  · have := heap_setCell_same w' rb 2 _ 47 wv' hb
    simpa using this
  · exact ownsRow_setCell_other ho (own_ne_cells ho hb (by decide)) _
  · exact ownsRow_setCell_other hfo (own_ne_cells hfo hb (by decide)) _
  · exact ownsRow_setCell_other hgo (own_ne_cells hgo hb (by decide)) _
/-- What Note tells and leaves. -/
structure RNote (w w' : World) (rb : Nat) (wv gv : Value) (R : TS) (s : Sp) (v : Value) : Prop where
  rd : RdS w' v (rnoteO R s)
  t : RtRes w w' rb wv gv (rnoteT R s)
set_option maxHeartbeats 16000000 in
set_option maxRecDepth 100000 in
theorem rnote_c (s : Sp) (w : World) (h : RTx w rb wv fv gv R) (hok : ∀ f ∈ R.fresh, f.Ok) (hb : BdL R.words) (hs : Small s) (hn : R.words.length ≤ 10000) :
    Calls Try.prog 87 #[.pointer (some ⟨rb, 0, none⟩), .agg #[.int .i64 s.f, .int .i64 s.m]] w fun e w' => ∃ v, e = .returned v ∧ RNote w w' rb wv gv R s v := by
  have H0 := hid_ h
  have HOK := hid_ hok
  have HBD := hid_ hb
  have f0 := hs.f0; have f1 := hs.f1; have m0 := hs.m0; have m1 := hs.m1
  have HB := hid_ (balloc' w (.cells #[.int .i64 s.f, .int .i64 s.m] 25))
  have H := hid_ (h.mono HB.out)
  have e0 : (w.alloc (.cells #[.int .i64 s.f, .int .i64 s.m] 25)).cell? ⟨w.heap.size, 0, none⟩ = some (.int .i64 s.f) := cell_new 0 rfl
  have e1 : (w.alloc (.cells #[.int .i64 s.f, .int .i64 s.m] 25)).cell? ⟨w.heap.size, 1, none⟩ = some (.int .i64 s.m) := cell_new 1 rfl
  obtain ⟨W, hW⟩ : ∃ W, w.alloc (.cells #[.int .i64 s.f, .int .i64 s.m] 25) = W := ⟨_, rfl⟩
  rw [hW] at HB H e0 e1
  clear h hok hb hs
  obtain ⟨i0, hi, hz0, hz1, hz2⟩ := info_parts info25
  have hI := hid_ hi; have hZ0 := hid_ hz0; have hZ1 := hid_ hz1; have hZ2 := hid_ hz2
  clear hi hz0 hz1 hz2
  go_enter Try.func87, Try.ntmps87
  go_wp2
  clear hW
  go_loopw [5, 6] (fun out i wr => ∃ k : Nat, k ≤ s.m.toNat ∧ i = .int .i64 (s.f + k) ∧ Hid (wr.ownsRow W.heap.size 25 2 out (rOut R s k).length (flat Sp.enc (rOut R s k))) ∧ Hid (rOut R s k = [] → out = .slice none 0 0) ∧ Below W.heap.size W wr) (fun _ i _ => (s.f + s.m - intOf i).toNat)
  case atStart => exact ⟨0, Nat.zero_le _, by go_num, World.ownsRow_nil _ _ _ _, fun _ => rfl, Below.refl _ _⟩
  case round =>
    obtain ⟨k, hk, rfl, HO, HNIL, hB⟩ := hrel
    have HT := hid_ (H.out.mono hB)
    have d0 := cmono hB e0
    have d1 := cmono hB e1
    have d2 := HT.out.c2
    have hol := rOut_len R s k
    by_cases hlt : k < s.m.toNat
    · have hq : (ownB R.fresh (s.f + k) || hasB R.words (s.f + k)) = true ∨ (ownB R.fresh (s.f + k) || hasB R.words (s.f + k)) = false := by cases (ownB R.fresh (s.f + k) || hasB R.words (s.f + k)) <;> simp
      rcases hq with hq | hq
      · have HS := hid_ (rOut_skip hq)
        cases ho : ownB R.fresh (s.f + k) <;> cases hw : hasB R.words (s.f + k)
        · rw [ho, hw] at hq; cases hq
        all_goals
          have HOW := hid_ ho
          have HWW := hid_ hw
          clear ho hw hq
          go_wp2_with (first
            | (go_at_call 122; refine (rown_c (s.f + k) _ HT.out HOK.out (by omega)).mono ?_; rintro e w1 ⟨rfl, hb⟩; rw [HOW.out]; replace HT := hid_ (HT.out.mono hb); have B1 := hid_ hb; replace d2 := cmono hb d2; clear hb)
            | (go_at_call 80; refine (has_c R.words _ (s.f + k) _ HT.out.rw_ HBD.out (by omega) (by omega)).mono ?_; rintro e w2 ⟨rfl, hb⟩; rw [HWW.out]; have B2 := hid_ (btr B1.out hb); clear hb))
          go_roundw
          case rel =>
            refine ⟨k + 1, by omega, by go_num, ?_, ?_, btr hB B2.out⟩
            · show World.ownsRow _ _ _ _ _ _ _
              rw [HS.out]
              exact ownsRow_below HO.out B2.out
            · show _ → _
              rw [HS.out]
              exact HNIL.out
          case measure => simp [intOf]; omega
      · have ho : ownB R.fresh (s.f + k) = false := by cases h : ownB R.fresh (s.f + k) <;> simp_all
        have hw : hasB R.words (s.f + k) = false := by cases h : hasB R.words (s.f + k) <;> simp_all
        have HOW := hid_ ho
        have HWW := hid_ hw
        have HQ := hid_ hq
        clear ho hw hq
        cases hg : (rOut R s k).getLast? with
        | none =>
          have HS := hid_ (rOut_none HQ.out hg)
          have hL : rOut R s k = [] := List.getLast?_eq_none_iff.1 hg
          rw [hL] at HO HS
          obtain ⟨Ao, co, rfl, _, _, _⟩ := Rd.own HO.out
          clear hg hL HNIL
          go_upto_region 9 with (first
            | (go_at_call 122; refine (rown_c (s.f + k) _ HT.out HOK.out (by omega)).mono ?_; rintro e w1 ⟨rfl, hb⟩; rw [HOW.out]; replace HT := hid_ (HT.out.mono hb); have B1 := hid_ hb; replace d2 := cmono hb d2; clear hb)
            | (go_at_call 80; refine (has_c R.words _ (s.f + k) _ HT.out.rw_ HBD.out (by omega) (by omega)).mono ?_; rintro e w2 ⟨rfl, hb⟩; rw [HWW.out]; have B2 := hid_ (btr B1.out hb);  clear hb))
          refine wp_region_ext (by kernel_rfl) (by kernel_rfl) ?_
          repeat (first | go_big_quiet_skip | (go_big_quiet_want; go_big_quiet_op; first | go_big_quiet_on | (apply Exists.intro; refine ⟨fun _ => ?_, ?_⟩; (focus (fail)); go_big_quiet_on)))
          refine wpQuiet_nil ?_
          intro wq hw'
          obtain ⟨pq, rfl⟩ := hw'
          have HBq := hid_ (btr B2.out pq.h)
          go_wp2_with (at_builtin; refine wpList_append_own _ rfl _ _ 22 rfl W.heap.size 25 i0 (.agg #[.int .i64 0, .int .i64 0]) 2 16 Try.underlying22 hI.out hZ0.out hZ1.out hZ2.out rfl (by decide) _ _ _ rfl (ownsRow_below HO.out (balloc HBq.out _)) ⟨pq.w.heap.size, 0, none⟩ 1 1 [vz (s.f + k), vz 1] rfl rfl ?na1 ?na2 ?na3 ?na4 ?na5 ?_; rotate_left 5; intro v' w3 hO1 hg1 _; have HO1 := hid_ hO1; have HG1 := hid_ (bgrown (balloc (btr hB HBq.out) _) hg1 fun k' hk' => (HO.out.lt k' hk').1); clear hO1 hg1)
          case na1 => first | exact cells_new _ _ _ | exact fun j u h => h
          case na2 => simp [Value.oneCell']
          case na3 => unfold maxLen; simp
          case na4 => simp
          case na5 => have := (btr hB HBq.out).size; simp; omega
          go_roundw
          case rel =>
            refine ⟨k + 1, by omega, by go_num, ?_, ?_, HG1.out⟩
            · show World.ownsRow _ _ _ _ _ _ _
              rw [HS.out, flat_append, flat_one]
              simpa [Sp.enc] using HO1.out
            · show _ → _
              rw [HS.out]
              intro h; simp at h
          case measure => simp [intOf]; omega
        | some z =>
          obtain ⟨L, hLd⟩ : ∃ L, rOut R s k = L := ⟨_, rfl⟩
          have HSB : Hid (z.f + z.m = s.f + k → rOut R s (k + 1) = bump L) := fun he => by rw [← hLd]; exact rOut_bump HQ.out hg he
          have HSN : Hid (¬ z.f + z.m = s.f + k → rOut R s (k + 1) = L ++ [⟨s.f + k, 1⟩]) := fun he => by rw [← hLd]; exact rOut_new HQ.out hg he
          have hzb := rOut_bd R s k z (List.mem_of_getLast? hg)
          obtain ⟨zb1, zb2, zb3⟩ := hzb
          rw [hLd] at HO hol hg
          have hpos : 0 < L.length := by
            rw [List.length_pos_iff]
            rintro rfl
            cases hg
          have HF := hid_ (flat_bump hg)
          have HFL := hid_ (flat_last hg)
          have HF0 := hid_ (flat_lastf hg)
          obtain ⟨g, cap, rfl⟩ := own_form HO.out hpos
          have hn1 : ((L.length : Int) - 1).toNat = L.length - 1 := by omega
          have hn2 : (0 : Int) ≤ (L.length : Int) - 1 := by omega
          have hn3 : (L.length : Int) - 1 < (L.length : Int) := by omega
          have hn4 : (1 : Int) ≤ (L.length : Int) := by omega
          have hn5 : decide ((0 : Int) ≤ (L.length : Int) - 1) = true := by simp; omega
          have hn6 : decide ((1 : Int) ≤ (L.length : Int)) = true := by simp; omega
          clear hg hLd HNIL
          go_upto_region 9 with (first
            | (go_at_call 122; refine (rown_c (s.f + k) _ HT.out HOK.out (by omega)).mono ?_; rintro e w1 ⟨rfl, hb⟩; rw [HOW.out]; replace HT := hid_ (HT.out.mono hb); have B1 := hid_ hb; replace d2 := cmono hb d2; clear hb)
            | (go_at_call 80; refine (has_c R.words _ (s.f + k) _ HT.out.rw_ HBD.out (by omega) (by omega)).mono ?_; rintro e w2 ⟨rfl, hb⟩; rw [HWW.out]; have B2 := hid_ (btr B1.out hb); have O2 := hid_ (ownsRow_below HO.out B2.out); have c0 := (O2.out.cellAt ((L.length - 1) * 2) (by first | omega | (rw [flat_length Sp.enc_len]; omega))).trans HF0.out; have c1 := (O2.out.cellAt ((L.length - 1) * 2 + 1) (by first | omega | (rw [flat_length Sp.enc_len]; omega))).trans HFL.out; clear hb))
          have x0 := Ext.cell c0
          have x1 := Ext.cell c1
          have hw : IntKind.i64.wrap (z.f + z.m) = z.f + z.m := wrap_in (by omega) (by omega)
          by_cases he : z.f + z.m = s.f + k
          · have heq : (z.f + z.m == s.f + k) = true := by simp [he]
            have HS := hid_ (HSB.out he)
            refine wp_region_ext (by kernel_rfl) (by kernel_rfl) ?_
            repeat (first | go_big_quiet_skip | (go_big_quiet_want; go_big_quiet_op; first | go_big_quiet_on | (apply Exists.intro; refine ⟨fun _ => ?_, ?_⟩; (focus (fail)); go_big_quiet_on)))
            refine wpQuiet_nil ?_
            intro wq hw'
            obtain ⟨pq, rfl⟩ := hw'
            have HBq := hid_ (btr B2.out pq.h)
            have O3 := hid_ (ownsRow_below O2.out pq.h)
            replace c1 := cmono pq.h c1
            have zf := O3.out.frozenAt ((L.length - 1) * 2 + 1)
            clear hw heq x0 x1 c0
            go_wp2
            go_roundw
            case rel =>
              obtain ⟨hq1, hq2⟩ := O3.out.stored ((L.length - 1) * 2 + 1) (.int .i64 (z.m + 1))
              refine ⟨k + 1, by omega, by go_num, ?_, ?_, bgrown (btr hB HBq.out) hq2 fun k' hk' => ?_⟩
              · show World.ownsRow _ _ _ _ _ _ _
                rw [HS.out, HF.out.2, ← HF.out.1]
                exact hq1
              · show _ → _
                rw [HS.out]
                intro h
                have := HF.out.2
                rw [h] at this
                simp at this
                omega
              · cases hk'
                exact (O3.out.lt g rfl).1
            case measure => simp [intOf]; omega
          · have heq : (z.f + z.m == s.f + k) = false := by simp [he]
            have HS := hid_ (HSN.out he)
            refine wp_region_ext (by kernel_rfl) (by kernel_rfl) ?_
            repeat (first | go_big_quiet_skip | (go_big_quiet_want; go_big_quiet_op; first | go_big_quiet_on | (apply Exists.intro; refine ⟨fun _ => ?_, ?_⟩; (focus (fail)); go_big_quiet_on)))
            refine wpQuiet_nil ?_
            intro wq hw'
            obtain ⟨pq, rfl⟩ := hw'
            have HBq := hid_ (btr B2.out pq.h)
            clear hw heq x0 x1 c0 c1
            go_wp2_with (at_builtin; refine wpList_append_own _ rfl _ _ 22 rfl W.heap.size 25 i0 (.agg #[.int .i64 0, .int .i64 0]) 2 16 Try.underlying22 hI.out hZ0.out hZ1.out hZ2.out rfl (by decide) _ _ _ rfl (ownsRow_below HO.out (balloc HBq.out _)) ⟨pq.w.heap.size, 0, none⟩ 1 1 [vz (s.f + k), vz 1] rfl rfl ?nb1 ?nb2 ?nb3 ?nb4 ?nb5 ?_; rotate_left 5; intro v' w3 hO1 hg1 _; have HO1 := hid_ hO1; have HG1 := hid_ (bgrown (balloc (btr hB HBq.out) _) hg1 fun k' hk' => (HO.out.lt k' hk').1); clear hO1 hg1)
            case nb1 => first | exact cells_new _ _ _ | exact fun j u h => h
            case nb2 => simp [Value.oneCell']
            case nb3 => unfold maxLen; omega
            case nb4 => omega
            case nb5 => have := (btr hB HBq.out).size; simp; omega
            go_roundw
            case rel =>
              refine ⟨k + 1, by omega, by go_num, ?_, ?_, HG1.out⟩
              · show World.ownsRow _ _ _ _ _ _ _
                rw [HS.out, flat_append, flat_one]
                simpa [Sp.enc] using HO1.out
              · show _ → _
                rw [HS.out]
                intro h; simp at h
            case measure => simp [intOf]; omega
    · obtain rfl : k = s.m.toNat := by omega
      have HRN : Hid (rOut R s s.m.toNat = rnoteO R s) := rfl
      rw [HRN.out] at HO HNIL hol
      have hrn : Hid (rnoteT R s = { R with words := R.words ++ rnoteO R s }) := rfl
      obtain ⟨L, hL⟩ : ∃ L, rnoteO R s = L := ⟨_, rfl⟩
      rw [hL] at HO HNIL hol hrn
      have HL := hid_ hL
      clear hL
      obtain ⟨Aw, cw, hwv, _, _, _⟩ := id HT.out.rw_
      subst hwv
      have hz2 := HT.out.fz 2
      by_cases h0 : L = []
      · have hnil := HNIL.out h0
        have HNL := hid_ h0
        subst hnil
        have HWS := hid_ (HT.out.setW R.words HT.out.wo)
        clear h0
        go_wp2_with (at_builtin; refine wpList_append_own_none rfl _ _ 22 rfl 0 25 i0 2 Try.underlying22 hI.out (.slice Aw R.words.length cw) R.words.length _ rfl HT.out.wo rfl ?_)
        go_ret
        refine ⟨_, rfl, ?_, ⟨_, fv, gv, ?_, NewOr.refl _ _, NewOr.refl _ _⟩, ?_⟩
        · rw [HL.out, HNL.out]; exact Rd.nil _
        · rw [hrn.out, HNL.out, List.append_nil]; exact HWS.out
        · exact ((Fr.of_below HB.out).trans (Fr.of_below hB)).trans (Fr.of_gb (gb_setCell _ ⟨rb, 2, none⟩ _) (rw_rb _ _ _))
      · have hpos : 0 < L.length := List.length_pos_iff.2 h0
        obtain ⟨g, cap, rfl⟩ := own_form HO.out hpos
        have HOo := hid_ HO.out
        clear h0 HNIL
        go_wp2_with (at_builtin; refine wpList_append_own2 _ rfl _ _ 22 rfl 0 25 i0 (.agg #[.int .i64 0, .int .i64 0]) 2 16 Try.underlying22 hI.out hZ0.out hZ1.out hZ2.out rfl (by decide) (.slice Aw R.words.length cw) R.words.length _ rfl HT.out.wo ⟨g, 0, none⟩ L.length cap (flat Sp.enc L) rfl hpos ?ga1 ?ga2 ?ga3 ?ga4 ?ga5 (Nat.zero_le _) ?_; rotate_left 5; intro v' w3 hO1 hg1 hb1; obtain ⟨g3, cap3, rfl⟩ := own_form hO1 (by omega); have HO1 := hid_ hO1; have HG1 := hid_ hg1; have HBK := hid_ hb1; have hbk := fr_wo HT.out hg1; have c3 := cell_blk (j := 2) hbk rfl; have z3 := frozen_blk (j := 2) hbk; clear hO1 hg1 hb1 hbk)
        case ga1 => exact flat_length Sp.enc_len L
        case ga2 => exact fun j u hj => Rd.cells Sp.enc_len (Rd.own HOo.out) j u hj
        case ga3 => exact flat_one_cell L
        case ga4 => unfold maxLen; omega
        case ga5 => omega
        go_ret
        have hlap : (R.words ++ L).length = R.words.length + L.length := List.length_append
        have hgw := HT.out.growW HG1.out (R.words ++ L) (by rw [hlap, flat_append]; exact HO1.out)

        have hob : g ≠ rb := by
          have h1 := (HOo.out.lt g rfl).1
          have h2 := H0.out.lt
          have h3 := HB.out.size
          omega
        have hob2 : ∀ g', (Value.slice Aw R.words.length cw).ownBlock = some g' → g ≠ g' := by
          intro g' hg'
          have h1 := (HOo.out.lt g rfl).1
          have h2 := ownBlk_lt H0.out.wo hg'
          have h3 := HB.out.size
          omega
        have ho4 : (w3.setCell ⟨rb, 2, none⟩ (.slice (some ⟨g3, 0, none⟩) (R.words.length + L.length) cap3)).ownsRow W.heap.size 25 2 (.slice (some ⟨g, 0, none⟩) L.length cap) L.length (flat Sp.enc L) := by
          refine ownsRow_setCell_other (HOo.out.kept HG1.out (.inr ?_)) (by simpa [Value.ownBlock] using hob) _
          intro e
          exact hob2 g e.symm rfl
        refine ⟨_, rfl, ?_, ⟨.slice (some ⟨g3, 0, none⟩) (R.words.length + L.length) cap3, fv, gv, ?_, ?_, NewOr.refl _ _⟩, ?_⟩
        · rw [HL.out]; exact Rd.own ho4
        · rw [hrn.out]; exact hgw
        · intro b hb
          rcases HBK.out with h1 | h1
          · left; rw [← h1]; exact hb
          · right
            rw [h1] at hb
            injection hb with hb
            have := (btr HB.out hB).size
            omega
        · exact (((Fr.of_below HB.out).trans (Fr.of_below hB)).trans (Fr.of_row HG1.out (fun b hb => by simp [rw', hb]))).trans (Fr.of_gb (gb_setCell _ ⟨rb, 2, none⟩ _) (rw_rb _ _ _))
end
end Go.Proofs.Ytncdkbhkjamdpaa
