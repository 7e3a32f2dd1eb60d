/- The reference's device of chapter 03: Evict, Crash. -/
import Derived.Test.YtncdkbhkjamdpaaE1
namespace Go.Proofs.Ytncdkbhkjamdpaa
open Go.RowKit Go.Maps

theorem Rd.fr {α : Type} {k : Nat} {enc : α → List Value} {w w' : World} {v : Value} {l : List α} {bs : List Nat} (h : Rd k enc w v l) (hf : Fr bs w w') (hb : ∀ g, 0 < l.length → v.ownBlock = some g → g ∉ bs) : Rd k enc w' v l := by
  obtain ⟨A, c, e, h1, h2, hc⟩ := h
  subst e
  refine ⟨A, c, rfl, h1, h2, fun j hj => ?_⟩
  obtain ⟨b', o, ea, hh⟩ := hc j hj
  subst ea
  exact ⟨b', o, rfl, fun i u hu => hf.cell (hh i u hu) (hb b' (by omega) rfl)⟩
/-- A word is written whole. -/
theorem RDev.setAll {w : World} {rb sb cp : Nat} {R : RS} (h : RDev w rb sb cp R) {i : Nat} {x : Wd} (x' : Wd) (hi : R.L[i]? = some x) :
    RDev (((((w.setCell ⟨sb, i * 5, none⟩ (vu x'.l)).setCell ⟨sb, i * 5 + 1, none⟩ (vu x'.c)).setCell ⟨sb, i * 5 + 2, none⟩ (vu x'.s)).setCell ⟨sb, i * 5 + 3, none⟩ (.bool x'.d)).setCell ⟨sb, i * 5 + 4, none⟩ (.bool x'.f)) rb sb cp { R with L := R.L.set i x' } ∧
      Fr [rb, sb] w (((((w.setCell ⟨sb, i * 5, none⟩ (vu x'.l)).setCell ⟨sb, i * 5 + 1, none⟩ (vu x'.c)).setCell ⟨sb, i * 5 + 2, none⟩ (vu x'.s)).setCell ⟨sb, i * 5 + 3, none⟩ (.bool x'.d)).setCell ⟨sb, i * 5 + 4, none⟩ (.bool x'.f)) := by
  have hlt := (List.getElem?_eq_some_iff.1 hi).1
  have hg : ∀ y : Wd, (R.L.set i y)[i]? = some y := fun y => by rw [List.getElem?_set]; simp [hlt]
  obtain ⟨a0, g0⟩ := h.setW (r := 0) (vu x'.l) { x with l := x'.l } hi (by decide) rfl
  obtain ⟨a1, g1⟩ := a0.setW (r := 1) (vu x'.c) { x with l := x'.l, c := x'.c } (hg _) (by decide) rfl
  simp only [List.set_set] at a1
  obtain ⟨a2, g2⟩ := a1.setW (r := 2) (vu x'.s) { x with l := x'.l, c := x'.c, s := x'.s } (hg _) (by decide) rfl
  simp only [List.set_set] at a2
  obtain ⟨a3, g3⟩ := a2.setW (r := 3) (.bool x'.d) { x with l := x'.l, c := x'.c, s := x'.s, d := x'.d } (hg _) (by decide) rfl
  simp only [List.set_set] at a3
  obtain ⟨a4, g4⟩ := a3.setW (r := 4) (.bool x'.f) x' (hg _) (by decide) rfl
  simp only [List.set_set] at a4
  exact ⟨a4, ((((Fr.of_gb g0 (by simp)).trans (Fr.of_gb g1 (by simp))).trans (Fr.of_gb g2 (by simp))).trans (Fr.of_gb g3 (by simp))).trans (Fr.of_gb g4 (by simp))⟩

/-! ### Evict -/
set_option maxHeartbeats 2000000 in
set_option maxRecDepth 100000 in
theorem revict_c {rb sb cp : Nat} {R : RS} (k : Int) (w : World) (h : RDev w rb sb cp R) (hR : R.Ok) :
    Calls Try.prog 115 #[.pointer (some ⟨rb, 0, none⟩), vz k] w fun e w' => e = .returned (.tuple #[]) ∧ RRes w w' rb sb cp (revict R k) := by
  have H := hid_ h
  have h0 := h.c0
  have hcap := h.cap
  rcases rIs_split R k with ⟨hi, i, x, rfl, hlt, hx, hr⟩ | ⟨hi, hk | ⟨hk, hk2⟩⟩
  · have HL := hid_ (rstep_L R)
    obtain ⟨R1, hR1⟩ : ∃ R1, (rstep R).2 = R1 := ⟨_, rfl⟩
    have HR1 := hid_ hR1
    rw [hR1] at HL
    have HX : Hid (R1.L[i]? = some x) := by show _ = _; rw [HL.out]; exact hx
    cases hst : (rstep R).1 with
    | false =>
      have HQ : Hid (revict R i = R1) := by show _ = _; rw [revict, hi, hst, ← hR1]; rfl
      have HST := hid_ hst
      clear h hi hst hx hr hR1
      go_enter Try.func115, Try.ntmps115
      go_wp2_with (go_at_call 130; refine (rstep_c _ H.out hR).mono ?_; rintro e w2 ⟨rfl, ht, hg⟩; rw [HST.out]; rw [HR1.out] at ht; have HT := hid_ ht; have HG := hid_ hg; clear ht hg)
      go_end0
      exact ⟨rfl, by rw [HQ.out]; exact HT.out, Fr.of_gb HG.out (by simp)⟩
    | true =>
      have HST := hid_ hst
      cases hd : x.d with
      | false =>
        have HQ : Hid (revict R i = R1) := by
          show _ = _
          rw [revict, hi, hst, hr, hd, ← hR1]
          simp only [if_true, Bool.false_eq_true, if_false]
          rw [← rstep_L R]
        clear h hi hst hx hr hR1
        go_enter Try.func115, Try.ntmps115
        go_wp2_with (go_at_call 130; refine (rstep_c _ H.out hR).mono ?_; rintro e w2 ⟨rfl, ht, hg⟩; rw [HST.out]; rw [HR1.out] at ht; have HT := hid_ ht; have HG := hid_ hg; have d0 := ht.c0; have hcap1 := ht.cap; have hlen : i < R1.L.length := (List.getElem?_eq_some_iff.1 HX.out).1; have y3 := (ht.wcell HX.out).2.2.2.1; rw [hd] at y3; clear ht hg)
        go_end0
        exact ⟨rfl, by rw [HQ.out]; exact HT.out, Fr.of_gb HG.out (by simp)⟩
      | true =>
        have HQ : Hid (revict R i = { R1 with L := R1.L.set i { noW with l := x.c } }) := by
          show _ = _
          rw [revict, hi, hst, hr, hd, HL.out, ← hR1]; rfl
        clear h hi hst hx hr hR1
        go_enter Try.func115, Try.ntmps115
        go_upto_region 3 with (go_at_call 130; refine (rstep_c _ H.out hR).mono ?_; rintro e w2 ⟨rfl, ht, hg⟩; rw [HST.out]; rw [HR1.out] at ht; have HT := hid_ ht; have HG := hid_ hg; have d0 := ht.c0; have hcap1 := ht.cap; have hlen : i < R1.L.length := (List.getElem?_eq_some_iff.1 HX.out).1; have y3 := (ht.wcell HX.out).2.2.2.1; rw [hd] at y3; clear ht hg)
        clear d0 y3
        have HTd := hid_ (HT.out.mono (w' := w2.drew) (Below.refl _ _).drew)
        have d0 := HTd.out.c0
        obtain ⟨y0, y1, y2, y3, y4⟩ := HTd.out.wcell HX.out
        obtain ⟨x0, x1, x2, x3, x4⟩ := HT.out.wcell HX.out
        have z0 := HT.out.wfz (i * 5)
        have z1 := HT.out.wfz (i * 5 + 1)
        have z2 := HT.out.wfz (i * 5 + 2)
        have z3 := HT.out.wfz (i * 5 + 3)
        have z4 := HT.out.wfz (i * 5 + 4)
        have HSA := hid_ (HTd.out.setAll { noW with l := x.c } HX.out)
        go_still_tail 15, (by kernel_rfl)
        change wpList _ _ _ _ _ w2.drew
        go_wp2
        go_end0
        exact ⟨rfl, by rw [HQ.out]; exact HSA.out.1, ((Fr.of_gb HG.out (by simp)).trans (Fr.of_below (Below.refl _ _).drew)).trans HSA.out.2⟩
  · have HQ : Hid (revict R k = R) := by show _ = _; rw [revict, hi]; rfl
    clear h hi
    go_enter Try.func115, Try.ntmps115
    go_wp2
    refine bodyPost_ret (results_none rfl _ _ _) rfl ?_
    exact ⟨rfl, by rw [HQ.out]; exact H.out, Fr.refl _ _⟩
  · have HQ : Hid (revict R k = R) := by show _ = _; rw [revict, hi]; rfl
    clear h hi
    go_enter Try.func115, Try.ntmps115
    go_wp2
    refine bodyPost_ret (results_none rfl _ _ _) rfl ?_
    exact ⟨rfl, by rw [HQ.out]; exact H.out, Fr.refl _ _⟩

/-! ### Crash -/
theorem RDev.setOnly {w : World} {rb sb cp : Nat} {R : RS} (h : RDev w rb sb cp R) {i : Nat} {x : Wd} (y : Int) (hi : R.L[i]? = some x) :
    RDev (((((w.setCell ⟨sb, i * 5, none⟩ (.int .u64 y)).setCell ⟨sb, i * 5 + 1, none⟩ (.int .u64 0)).setCell ⟨sb, i * 5 + 2, none⟩ (.int .u64 0)).setCell ⟨sb, i * 5 + 3, none⟩ (.bool false)).setCell ⟨sb, i * 5 + 4, none⟩ (.bool false)).drew rb sb cp { R with L := R.L.set i { noW with l := y } } ∧
      Fr [rb, sb] w (((((w.setCell ⟨sb, i * 5, none⟩ (.int .u64 y)).setCell ⟨sb, i * 5 + 1, none⟩ (.int .u64 0)).setCell ⟨sb, i * 5 + 2, none⟩ (.int .u64 0)).setCell ⟨sb, i * 5 + 3, none⟩ (.bool false)).setCell ⟨sb, i * 5 + 4, none⟩ (.bool false)).drew := by
  obtain ⟨a, b⟩ := h.setAll { noW with l := y } hi
  exact ⟨a.mono (Below.refl _ _).drew, b.trans (Fr.of_below (Below.refl _ _).drew)⟩
theorem rank_le (L : List Wd) (i : Nat) : rank L i ≤ i := by
  rw [rank]
  exact Nat.le_trans List.countP_le_length (by rw [List.length_take]; omega)
set_option maxHeartbeats 16000000 in
set_option maxRecDepth 100000 in
theorem rcrash_c {rb sb cp : Nat} {R : RS} (keep : List Int) (v : Value) (w : World) (h : RDev w rb sb cp R) (hR : R.Ok) (hv : RdB w v keep) (hbk : Bytes keep) (hvb : ∀ g, 0 < keep.length → v.ownBlock = some g → g ∉ [rb, sb]) :
    Calls Try.prog 116 #[.pointer (some ⟨rb, 0, none⟩), v] w fun e w' => e = .returned (.tuple #[]) ∧ RRes w w' rb sb cp (rcrash R keep) := by
  have H := hid_ h
  have HV := hid_ hv
  have HBK := hid_ hbk
  have HVB := hid_ hvb
  have hlen2 := hR.len.2
  obtain ⟨A, c, rfl, hvc, hvc', _⟩ := hv
  clear h hvb hbk
  go_enter Try.func116, Try.ntmps116
  go_wp2
  go_loopw [4, 5] (fun cnt i wr => ∃ k : Nat, k ≤ R.L.length ∧ i = .int .i64 k ∧ cnt = .int .i64 (rank R.L k : Nat) ∧ RL w rb sb cp R (crashW keep R.L) k wr) (fun _ i _ => R.L.length - (intOf i).toNat)
  case atStart => exact ⟨0, Nat.zero_le _, rfl, by simp [rank], by rw [upto_zero]; exact H.out, Fr.refl _ _⟩
  case round =>
    obtain ⟨k, hk, rfl, rfl, hT, hF⟩ := hrel
    have HTk := hid_ hT; have HFk := hid_ hF
    have d0 := hT.c0
    have hcap := hT.cap
    simp only [upto_length] at d0 hcap
    by_cases hlt : k < R.L.length
    · obtain ⟨x, hx⟩ : ∃ x, R.L[k]? = some x := ⟨_, List.getElem?_eq_getElem hlt⟩
      have hX : (upto (crashW keep R.L) R.L k)[k]? = some x := by rw [upto_here, hx]
      obtain ⟨y0, y1, y2, y3, y4⟩ := hT.wcell hX
      have HS := hid_ (upto_succ (crashW keep R.L) hx)
      have HSM := hid_ (fun h => upto_same (crashW keep R.L) hx h)
      have HX := hid_ hX
      have hrk := rank_succ hx
      have hrl := rank_le R.L k
      have HV2 := hid_ (HV.out.fr hF HVB.out)
      cases hd : x.d with
      | false =>
        have HE := hid_ (HSM.out (by rw [crashW, hd]; rfl))
        have HRK : Hid (rank R.L (k + 1) = rank R.L k) := by show _ = _; rw [hrk, hd]; rfl
        rw [hd] at y3
        clear hX hT hF hx hrk hd
        go_wp2
        go_roundw
        case rel => exact ⟨k + 1, by omega, by go_num, by rw [HRK.out], by rw [HE.out]; exact HTk.out.mono (balloc' _ _), HFk.out.trans (Fr.of_below (balloc' _ _))⟩
        case measure => simp [intOf]; omega
      | true =>
        have HRK : Hid (rank R.L (k + 1) = rank R.L k + 1) := by show _ = _; rw [hrk, hd]; rfl
        have HW : Hid (crashW keep R.L k x = { noW with l := crashV keep[rank R.L k]? x }) := by show _ = _; rw [crashW, hd]; rfl
        rw [hd] at y3
        generalize hm : rank R.L k = m at HRK HW hrl ⊢
        clear hX hT hF hx hrk hd hm
        by_cases hmk : m < keep.length
        · obtain ⟨b2, o2, hA, hq⟩ := RdB.at HV2.out (Below.refl _ _) hmk
          subst hA
          obtain ⟨hq1, hq2⟩ := HBK.out _ (List.getElem_mem hmk)
          have HKM : Hid (keep[m]? = some keep[m]) := List.getElem?_eq_getElem hmk
          generalize keep[m] = q at hq hq1 hq2 HKM
          have hqa : ∀ ob, (wr.alloc ob).cell? ⟨b2, o2 + m, none⟩ = some (.int .u8 q) := fun ob => cell_old wr ob hq
          by_cases c2 : q % 3 = 2
          · have e2 : (q % 3 == 2) = true := by simp [c2]
            have e1 : (q % 3 == 1) = false := by simp [c2]
            have HVL : Hid (crashV keep[m]? x = x.c) := by show _ = _; rw [HKM.out]; simp [crashV, c2]
            go_upto_region 14 with (fail)
            obtain ⟨W, hW⟩ : ∃ W, wr.alloc (.cells #[.int .u64 x.c, .int .u64 x.c, .int .u64 x.s, .bool true, .bool x.f] 163) = W := ⟨_, rfl⟩
            have g0 : W.cell? ⟨wr.heap.size, 0, none⟩ = some (vu x.c) := by rw [← hW]; exact cell_new 0 rfl
            have HBW : Hid (Below wr.heap.size wr W) := by rw [← hW]; exact balloc' _ _
            rw [hW]
            clear hW
            have HTW := hid_ (HTk.out.mono HBW.out)
            clear d0 y0 y1 y2 y3 y4
            have d0 := HTW.out.c0
            simp only [upto_length] at d0
            obtain ⟨x0, x1, x2, x3, x4⟩ := HTW.out.wcell HX.out
            have z0 := HTW.out.wfz (k * 5)
            have z1 := HTW.out.wfz (k * 5 + 1)
            have z2 := HTW.out.wfz (k * 5 + 2)
            have z3 := HTW.out.wfz (k * 5 + 3)
            have z4 := HTW.out.wfz (k * 5 + 4)
            have HSA := hid_ (HTW.out.setOnly x.c HX.out)
            rw [HVL.out] at HW
            rw [HW.out] at HS
            go_still_tail 9, (by kernel_rfl)
            change wpList _ _ _ _ _ W.drew
            go_wp2
            go_roundw
            case rel =>
              refine ⟨k + 1, by omega, by go_num, by rw [HRK.out]; go_num, ?_, (HFk.out.trans (Fr.of_below HBW.out)).trans HSA.out.2⟩
              rw [HS.out]
              exact HSA.out.1
            case measure => simp [intOf]; omega
          · have e2 : (q % 3 == 2) = false := by simp [c2]
            by_cases c1 : q % 3 = 1
            · have e1 : (q % 3 == 1) = true := by simp [c1]
              cases hf : x.f with
              | true =>
                rw [hf] at y4
                have HVL : Hid (crashV keep[m]? x = x.s) := by show _ = _; rw [HKM.out]; simp [crashV, c1, hf]
                go_upto_region 14 with (fail)
                obtain ⟨W, hW⟩ : ∃ W, wr.alloc (.cells #[.int .u64 x.s, .int .u64 x.c, .int .u64 x.s, .bool true, .bool true] 163) = W := ⟨_, rfl⟩
                have g0 : W.cell? ⟨wr.heap.size, 0, none⟩ = some (vu x.s) := by rw [← hW]; exact cell_new 0 rfl
                have HBW : Hid (Below wr.heap.size wr W) := by rw [← hW]; exact balloc' _ _
                rw [hW]
                clear hW
                have HTW := hid_ (HTk.out.mono HBW.out)
                clear d0 y0 y1 y2 y3 y4
                have d0 := HTW.out.c0
                simp only [upto_length] at d0
                obtain ⟨x0, x1, x2, x3, x4⟩ := HTW.out.wcell HX.out
                have z0 := HTW.out.wfz (k * 5)
                have z1 := HTW.out.wfz (k * 5 + 1)
                have z2 := HTW.out.wfz (k * 5 + 2)
                have z3 := HTW.out.wfz (k * 5 + 3)
                have z4 := HTW.out.wfz (k * 5 + 4)
                have HSA := hid_ (HTW.out.setOnly x.s HX.out)
                rw [HVL.out] at HW
                rw [HW.out] at HS
                go_still_tail 9, (by kernel_rfl)
                change wpList _ _ _ _ _ W.drew
                go_wp2
                go_roundw
                case rel =>
                  refine ⟨k + 1, by omega, by go_num, by rw [HRK.out]; go_num, ?_, (HFk.out.trans (Fr.of_below HBW.out)).trans HSA.out.2⟩
                  rw [HS.out]
                  exact HSA.out.1
                case measure => simp [intOf]; omega
              | false =>
                rw [hf] at y4
                have HVL : Hid (crashV keep[m]? x = x.l) := by show _ = _; rw [HKM.out]; simp [crashV, c2, hf]
                go_upto_region 14 with (fail)
                obtain ⟨W, hW⟩ : ∃ W, wr.alloc (.cells #[.int .u64 x.l, .int .u64 x.c, .int .u64 x.s, .bool true, .bool false] 163) = W := ⟨_, rfl⟩
                have g0 : W.cell? ⟨wr.heap.size, 0, none⟩ = some (vu x.l) := by rw [← hW]; exact cell_new 0 rfl
                have HBW : Hid (Below wr.heap.size wr W) := by rw [← hW]; exact balloc' _ _
                rw [hW]
                clear hW
                have HTW := hid_ (HTk.out.mono HBW.out)
                clear d0 y0 y1 y2 y3 y4
                have d0 := HTW.out.c0
                simp only [upto_length] at d0
                obtain ⟨x0, x1, x2, x3, x4⟩ := HTW.out.wcell HX.out
                have z0 := HTW.out.wfz (k * 5)
                have z1 := HTW.out.wfz (k * 5 + 1)
                have z2 := HTW.out.wfz (k * 5 + 2)
                have z3 := HTW.out.wfz (k * 5 + 3)
                have z4 := HTW.out.wfz (k * 5 + 4)
                have HSA := hid_ (HTW.out.setOnly x.l HX.out)
                rw [HVL.out] at HW
                rw [HW.out] at HS
                go_still_tail 9, (by kernel_rfl)
                change wpList _ _ _ _ _ W.drew
                go_wp2
                go_roundw
                case rel =>
                  refine ⟨k + 1, by omega, by go_num, by rw [HRK.out]; go_num, ?_, (HFk.out.trans (Fr.of_below HBW.out)).trans HSA.out.2⟩
                  rw [HS.out]
                  exact HSA.out.1
                case measure => simp [intOf]; omega
            · have e1 : (q % 3 == 1) = false := by simp [c1]
              have HVL : Hid (crashV keep[m]? x = x.l) := by show _ = _; rw [HKM.out]; simp [crashV, c1, c2]
              go_upto_region 14 with (fail)
              obtain ⟨W, hW⟩ : ∃ W, wr.alloc (.cells #[.int .u64 x.l, .int .u64 x.c, .int .u64 x.s, .bool true, .bool x.f] 163) = W := ⟨_, rfl⟩
              have g0 : W.cell? ⟨wr.heap.size, 0, none⟩ = some (vu x.l) := by rw [← hW]; exact cell_new 0 rfl
              have HBW : Hid (Below wr.heap.size wr W) := by rw [← hW]; exact balloc' _ _
              rw [hW]
              clear hW
              have HTW := hid_ (HTk.out.mono HBW.out)
              clear d0 y0 y1 y2 y3 y4
              have d0 := HTW.out.c0
              simp only [upto_length] at d0
              obtain ⟨x0, x1, x2, x3, x4⟩ := HTW.out.wcell HX.out
              have z0 := HTW.out.wfz (k * 5)
              have z1 := HTW.out.wfz (k * 5 + 1)
              have z2 := HTW.out.wfz (k * 5 + 2)
              have z3 := HTW.out.wfz (k * 5 + 3)
              have z4 := HTW.out.wfz (k * 5 + 4)
              have HSA := hid_ (HTW.out.setOnly x.l HX.out)
              rw [HVL.out] at HW
              rw [HW.out] at HS
              go_still_tail 9, (by kernel_rfl)
              change wpList _ _ _ _ _ W.drew
              go_wp2
              go_roundw
              case rel =>
                refine ⟨k + 1, by omega, by go_num, by rw [HRK.out]; go_num, ?_, (HFk.out.trans (Fr.of_below HBW.out)).trans HSA.out.2⟩
                rw [HS.out]
                exact HSA.out.1
              case measure => simp [intOf]; omega
        · have HKN : Hid (keep[m]? = none) := List.getElem?_eq_none (by omega)
          have HVL : Hid (crashV keep[m]? x = x.l) := by show _ = _; rw [HKN.out]; rfl
          go_upto_region 14 with (fail)
          obtain ⟨W, hW⟩ : ∃ W, wr.alloc (.cells #[.int .u64 x.l, .int .u64 x.c, .int .u64 x.s, .bool true, .bool x.f] 163) = W := ⟨_, rfl⟩
          have g0 : W.cell? ⟨wr.heap.size, 0, none⟩ = some (vu x.l) := by rw [← hW]; exact cell_new 0 rfl
          have HBW : Hid (Below wr.heap.size wr W) := by rw [← hW]; exact balloc' _ _
          rw [hW]
          clear hW
          have HTW := hid_ (HTk.out.mono HBW.out)
          clear d0 y0 y1 y2 y3 y4
          have d0 := HTW.out.c0
          simp only [upto_length] at d0
          obtain ⟨x0, x1, x2, x3, x4⟩ := HTW.out.wcell HX.out
          have z0 := HTW.out.wfz (k * 5)
          have z1 := HTW.out.wfz (k * 5 + 1)
          have z2 := HTW.out.wfz (k * 5 + 2)
          have z3 := HTW.out.wfz (k * 5 + 3)
          have z4 := HTW.out.wfz (k * 5 + 4)
          have HSA := hid_ (HTW.out.setOnly x.l HX.out)
          rw [HVL.out] at HW
          rw [HW.out] at HS
          go_still_tail 9, (by kernel_rfl)
          change wpList _ _ _ _ _ W.drew
          go_wp2
          go_roundw
          case rel =>
            refine ⟨k + 1, by omega, by go_num, by rw [HRK.out]; go_num, ?_, (HFk.out.trans (Fr.of_below HBW.out)).trans HSA.out.2⟩
            rw [HS.out]
            exact HSA.out.1
          case measure => simp [intOf]; omega
    · obtain rfl : k = R.L.length := by omega
      clear hT hF
      have m1 := HTk.out.c1
      have m2 := HTk.out.c2
      have z1 := HTk.out.fz 1
      have z2 := HTk.out.fz 2
      have HS1 := hid_ ((HTk.out.set 2 (.bool false) { R with L := upto (crashW keep R.L) R.L R.L.length, dead := false } rfl rfl).set 1 (vz 0) (rcrash R keep) rfl rfl)
      go_wp2
      go_end0
      exact ⟨rfl, HS1.out, (HFk.out.trans (Fr.of_gb (gb_setCell _ ⟨rb, 2, none⟩ _) (by simp))).trans (Fr.of_gb (gb_setCell _ ⟨rb, 1, none⟩ _) (by simp))⟩
end Go.Proofs.Ytncdkbhkjamdpaa
