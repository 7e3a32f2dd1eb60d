/- The reference's device of chapter 03: Flush, Fence, Evict. -/
import Derived.Test.YtncdkbhkjamdpaaE0
namespace Go.Proofs.Ytncdkbhkjamdpaa
open Go.RowKit Go.Maps

theorem upto_len_eq {f : Nat → Wd → Wd} {L : List Wd} {i : Nat} : (upto f L i).length = L.length := upto_length f L i
/-- The device in a loop over its words. -/
structure RL (w : World) (rb sb cp : Nat) (R : RS) (f : Nat → Wd → Wd) (i : Nat) (wr : World) : Prop where
  t : RDev wr rb sb cp { R with L := upto f R.L i }
  fr : Fr [rb, sb] w wr

/-! ### Flush -/
set_option maxHeartbeats 2000000 in
set_option maxRecDepth 100000 in
theorem rflush_c {rb sb cp : Nat} {R : RS} (at_ many : Int) (w : World) (h : RDev w rb sb cp R) (hR : R.Ok) (ha : -10000000000000000 ≤ at_ ∧ at_ ≤ 10000000000000000) :
    Calls Try.prog 113 #[.pointer (some ⟨rb, 0, none⟩), vz at_, vz many] w fun e w' => e = .returned (.tuple #[]) ∧ RRes w w' rb sb cp (rflush R at_ many) := by
  have H := hid_ h
  have HL := hid_ (rstep_L R)
  obtain ⟨ha1, ha2⟩ := ha
  have hlen1 := hR.len.1
  have hlen2 := hR.len.2
  cases hst : (rstep R).1 with
  | false =>
    have HQ : Hid (rflush R at_ many = (rstep R).2) := by show _ = _; rw [rflush, hst]; rfl
    have HST := hid_ hst
    obtain ⟨R1, hR1⟩ : ∃ R1, (rstep R).2 = R1 := ⟨_, rfl⟩
    have HR1 := hid_ hR1
    rw [hR1] at HQ HL
    clear h hst hR1
    go_enter Try.func113, Try.ntmps113
    go_wp2_with (go_at_call 130; refine (rstep_c _ H.out hR).mono ?_; rintro e w2 ⟨rfl, ht, hg⟩; rw [HST.out]; rw [HR1.out] at ht; have HT := hid_ ht; have HG := hid_ hg; have d0 := ht.c0; rw [HL.out] at d0; clear ht hg)
    go_loopw [7] (fun i wr => i = .int .i64 0 ∧ wr = w2) (fun _ _ => 0)
    case atStart => exact ⟨rfl, rfl⟩
    case round =>
      obtain ⟨rfl, rfl⟩ := hrel
      go_wp2
      go_end0
      exact ⟨rfl, by rw [HQ.out]; exact HT.out, Fr.of_gb HG.out (by simp)⟩
  | true =>
    obtain ⟨R1, hR1⟩ : ∃ R1, (rstep R).2 = R1 := ⟨_, rfl⟩
    have HR1 := hid_ hR1
    have HQ : Hid (rflush R at_ many = { R1 with L := upto (flushW at_ many) R1.L R1.L.length }) := by show _ = _; rw [rflush, hst, hR1, ← hR1, rstep_L]; rfl
    have HST := hid_ hst
    rw [hR1] at HL
    have hl1 : R1.L.length = R.L.length := by rw [HL.out]
    clear h hst hR1
    go_enter Try.func113, Try.ntmps113
    go_wp2_with (go_at_call 130; refine (rstep_c _ H.out hR).mono ?_; rintro e w2 ⟨rfl, ht, hg⟩; rw [HST.out]; rw [HR1.out] at ht; have HT := hid_ ht; have HG := hid_ hg; clear ht hg)
    go_loopw [7] (fun i wr => ∃ k : Nat, k ≤ R1.L.length ∧ i = .int .i64 k ∧ RL w2 rb sb cp R1 (flushW at_ many) k wr) (fun i _ => R1.L.length - (intOf i).toNat)
    case atStart => exact ⟨0, Nat.zero_le _, rfl, by rw [upto_zero]; exact HT.out, Fr.refl _ _⟩
    case round =>
      obtain ⟨k, hk, rfl, hT, hF⟩ := hrel
      have HTk := hid_ hT; have HFk := hid_ hF
      have d0 := hT.c0
      have hcap := hT.cap
      simp only [upto_length] at d0 hcap
      by_cases hlt : k < R1.L.length
      · obtain ⟨x, hx⟩ : ∃ x, R1.L[k]? = some x := ⟨_, List.getElem?_eq_getElem hlt⟩
        have hX : (upto (flushW at_ many) R1.L k)[k]? = some x := by rw [upto_here, hx]
        obtain ⟨_, y1, y2, y3, y4⟩ := hT.wcell hX
        have HS := hid_ (upto_succ (flushW at_ many) hx)
        have HSM := hid_ (fun h => upto_same (flushW at_ many) hx h)
        have HX := hid_ hX
        clear hX hT hF hx
        by_cases hc : x.d = true ∧ at_ ≤ k ∧ (k : Int) - at_ < many
        · obtain ⟨hd, hc1, hc2⟩ := hc
          have HF : Hid (flushW at_ many k x = { x with f := true, s := x.c }) := by show _ = _; rw [flushW, if_pos ⟨hd, hc1, hc2⟩]
          rw [HF.out] at HS
          rw [hd] at y3
          have z4 := HTk.out.wfz (k * 5 + 4)
          have HS1 := hid_ (HTk.out.setW (r := 4) (.bool true) { x with f := true } HX.out (by decide) rfl)
          have hlenu : k < (upto (flushW at_ many) R1.L k).length := by rw [upto_length]; exact hlt
          have HX2 : Hid (((upto (flushW at_ many) R1.L k).set k { x with f := true })[k]? = some { x with f := true }) := by show _ = _; rw [List.getElem?_set]; simp [hlenu]
          clear hlenu hd
          go_upto_region 6 with (fail)
          obtain ⟨W, hW⟩ : ∃ W, wr.setCell ⟨sb, k * 5 + 4, none⟩ (.bool true) = W := ⟨_, rfl⟩
          replace HS1 := hid_ (show RDev W rb sb cp _ ∧ wr.grownBy W (some sb) by rw [← hW]; exact HS1.out)
          rw [hW]
          clear d0 y1 y2 y3 y4 z4 hW
          have HTd := hid_ (HS1.out.1.mono (w' := W.drew) (Below.refl _ _).drew)
          have d0 := HTd.out.c0
          simp only [List.length_set, upto_length] at d0
          obtain ⟨_, y1, y2, _, _⟩ := HTd.out.wcell HX2.out
          have z2 := HTd.out.wfz (k * 5 + 2)
          have HS2 := hid_ (HTd.out.setW (r := 2) (vu x.c) { x with f := true, s := x.c } HX2.out (by decide) rfl)
          go_still_tail 15, (by kernel_rfl)
          change wpList _ _ _ _ _ W.drew
          go_wp2
          go_roundw
          case rel =>
            refine ⟨k + 1, by omega, by go_num, ?_, ((HFk.out.trans (Fr.of_gb HS1.out.2 (by simp))).trans (Fr.of_below (Below.refl _ _).drew)).trans (Fr.of_gb HS2.out.2 (by simp))⟩
            rw [HS.out]
            have := HS2.out.1
            simp only [List.set_set] at this
            exact this
          case measure => simp [intOf]; omega
        · have HF : Hid (flushW at_ many k x = x) := by show _ = _; rw [flushW, if_neg hc]
          have HE := hid_ (HSM.out HF.out)
          have key : x.d = false ∨ (x.d = true ∧ (k : Int) < at_) ∨ (x.d = true ∧ at_ ≤ k ∧ many ≤ (k : Int) - at_) := by
            cases hd : x.d with
            | false => exact .inl rfl
            | true =>
              right
              by_cases h1 : at_ ≤ k
              · right; exact ⟨rfl, h1, Int.not_lt.1 (fun h => hc ⟨hd, h1, h⟩)⟩
              · left; exact ⟨rfl, by omega⟩
          clear hc
          rcases key with hd | ⟨hd, h1⟩ | ⟨hd, h1, h2⟩
          all_goals
            rw [hd] at y3
            clear hd
            go_wp2
            go_roundw
            case rel => exact ⟨k + 1, by omega, by go_num, by rw [HE.out]; exact HTk.out, HFk.out⟩
            case measure => simp [intOf]; omega
      · obtain rfl : k = R1.L.length := by omega
        clear hT hF
        go_wp2
        go_end0
        exact ⟨rfl, by rw [HQ.out]; exact HTk.out, (Fr.of_gb HG.out (by simp)).trans HFk.out⟩

/-! ### Fence -/
set_option maxHeartbeats 2000000 in
set_option maxRecDepth 100000 in
theorem rfence_c {rb sb cp : Nat} {R : RS} (w : World) (h : RDev w rb sb cp R) (hR : R.Ok) :
    Calls Try.prog 114 #[.pointer (some ⟨rb, 0, none⟩)] w fun e w' => e = .returned (.tuple #[]) ∧ RRes w w' rb sb cp (rfence R) := by
  have H := hid_ h
  have HL := hid_ (rstep_L R)
  have hlen1 := hR.len.1
  have hlen2 := hR.len.2
  cases hst : (rstep R).1 with
  | false =>
    have HQ : Hid (rfence R = (rstep R).2) := by show _ = _; rw [rfence, hst]; rfl
    have HST := hid_ hst
    obtain ⟨R1, hR1⟩ : ∃ R1, (rstep R).2 = R1 := ⟨_, rfl⟩
    have HR1 := hid_ hR1
    rw [hR1] at HQ HL
    clear h hst hR1
    go_enter Try.func114, Try.ntmps114
    go_wp2_with (go_at_call 130; refine (rstep_c _ H.out hR).mono ?_; rintro e w2 ⟨rfl, ht, hg⟩; rw [HST.out]; rw [HR1.out] at ht; have HT := hid_ ht; have HG := hid_ hg; have d0 := ht.c0; rw [HL.out] at d0; clear ht hg)
    go_loopw [3] (fun i wr => i = .int .i64 0 ∧ wr = w2) (fun _ _ => 0)
    case atStart => exact ⟨rfl, rfl⟩
    case round =>
      obtain ⟨rfl, rfl⟩ := hrel
      go_wp2
      go_end0
      exact ⟨rfl, by rw [HQ.out]; exact HT.out, Fr.of_gb HG.out (by simp)⟩
  | true =>
    obtain ⟨R1, hR1⟩ : ∃ R1, (rstep R).2 = R1 := ⟨_, rfl⟩
    have HR1 := hid_ hR1
    have HQ : Hid (rfence R = { R1 with L := upto fenceW R1.L R1.L.length }) := by show _ = _; rw [rfence, hst, hR1, ← hR1, rstep_L]; rfl
    have HST := hid_ hst
    rw [hR1] at HL
    have hl1 : R1.L.length = R.L.length := by rw [HL.out]
    clear h hst hR1
    go_enter Try.func114, Try.ntmps114
    go_wp2_with (go_at_call 130; refine (rstep_c _ H.out hR).mono ?_; rintro e w2 ⟨rfl, ht, hg⟩; rw [HST.out]; rw [HR1.out] at ht; have HT := hid_ ht; have HG := hid_ hg; clear ht hg)
    go_loopw [3] (fun i wr => ∃ k : Nat, k ≤ R1.L.length ∧ i = .int .i64 k ∧ RL w2 rb sb cp R1 fenceW k wr) (fun i _ => R1.L.length - (intOf i).toNat)
    case atStart => exact ⟨0, Nat.zero_le _, rfl, by rw [upto_zero]; exact HT.out, Fr.refl _ _⟩
    case round =>
      obtain ⟨k, hk, rfl, hT, hF⟩ := hrel
      have HTk := hid_ hT; have HFk := hid_ hF
      have d0 := hT.c0
      have hcap := hT.cap
      simp only [upto_length] at d0 hcap
      by_cases hlt : k < R1.L.length
      · obtain ⟨x, hx⟩ : ∃ x, R1.L[k]? = some x := ⟨_, List.getElem?_eq_getElem hlt⟩
        have hX : (upto fenceW R1.L k)[k]? = some x := by rw [upto_here, hx]
        obtain ⟨_, y1, y2, y3, y4⟩ := hT.wcell hX
        have HS := hid_ (upto_succ fenceW hx)
        have HSM := hid_ (fun h => upto_same fenceW hx h)
        have HX := hid_ hX
        clear hX hT hF hx
        cases hf : x.f with
        | true =>
          have HF : Hid (fenceW k x = { x with l := x.s, f := false, d := (x.c != x.s) }) := by
            show _ = _
            rw [fenceW, if_pos hf]
            congr 1
            by_cases hcs : x.c = x.s <;> simp [hcs]
          rw [HF.out] at HS
          rw [hf] at y4
          have HLU : Hid (∀ y, k < ((upto fenceW R1.L k).set k y).length) := fun y => by rw [List.length_set, upto_length]; exact hlt
          have hlenu : k < (upto fenceW R1.L k).length := by rw [upto_length]; exact hlt
          have HG3 : Hid (∀ y, ((upto fenceW R1.L k).set k y)[k]? = some y) := fun y => by rw [List.getElem?_set]; simp [hlenu]
          clear hlenu hf
          go_upto_region 5 with (fail)
          have HT0 := hid_ (HTk.out.mono (w' := wr.drew) (Below.refl _ _).drew)
          clear d0 y1 y2 y3 y4
          have d0 := HT0.out.c0
          simp only [upto_length] at d0
          obtain ⟨_, _, y2, _, _⟩ := HT0.out.wcell HX.out
          have z0 := HT0.out.wfz (k * 5 + 0)
          simp only [Nat.add_zero] at z0
          have HS0 := hid_ (HT0.out.setW (r := 0) (vu x.s) { x with l := x.s } HX.out (by decide) rfl)
          simp only [Nat.add_zero] at HS0
          go_still_tail 15, (by kernel_rfl)
          change wpList _ _ _ _ _ wr.drew
          go_upto_region 6 with (fail)
          obtain ⟨W0, hW0⟩ : ∃ W, (wr.setCell ⟨sb, k * 5, none⟩ (.int .u64 x.s)).drew = W := ⟨_, rfl⟩
          replace HS0 := hid_ (show RDev W0 rb sb cp { R1 with L := (upto fenceW R1.L k).set k { x with l := x.s } } ∧ wr.drew.grownBy W0 (some sb) by rw [← hW0]; exact HS0.out)
          rw [hW0]
          clear d0 y2 z0 hW0
          have d0 := HS0.out.1.c0
          simp only [upto_length, List.length_set] at d0
          have z4 := HS0.out.1.wfz (k * 5 + 4)
          obtain ⟨_, _, _, _, y4⟩ := HS0.out.1.wcell (HG3.out _)
          have HS4 := hid_ (HS0.out.1.setW (r := 4) (.bool false) { x with l := x.s, f := false } (HG3.out _) (by decide) rfl)
          simp only [List.set_set] at HS4
          go_upto_region 7 with (fail)
          obtain ⟨W4, hW4⟩ : ∃ W, W0.setCell ⟨sb, k * 5 + 4, none⟩ (.bool false) = W := ⟨_, rfl⟩
          rw [hW4] at HS4 ⊢
          clear d0 z4 y4 hW4
          have HT4 := hid_ (HS4.out.1.mono (w' := W4.drew) (Below.refl _ _).drew)
          have d0 := HT4.out.c0
          simp only [upto_length, List.length_set] at d0
          obtain ⟨_, y1, y2, y3, _⟩ := HT4.out.wcell (HG3.out _)
          have z3 := HT4.out.wfz (k * 5 + 3)
          have HS3 := hid_ (HT4.out.setW (r := 3) (.bool (x.c != x.s)) { x with l := x.s, f := false, d := (x.c != x.s) } (HG3.out _) (by decide) rfl)
          simp only [List.set_set] at HS3
          go_still_tail 24, (by kernel_rfl)
          change wpList _ _ _ _ _ W4.drew
          go_wp2
          go_roundw
          case rel =>
            refine ⟨k + 1, by omega, by go_num, ?_, ((((HFk.out.trans (Fr.of_below (Below.refl _ _).drew)).trans (Fr.of_gb HS0.out.2 (by simp))).trans (Fr.of_gb HS4.out.2 (by simp))).trans (Fr.of_below (Below.refl _ _).drew)).trans (Fr.of_gb HS3.out.2 (by simp))⟩
            rw [HS.out]
            exact HS3.out.1
          case measure => simp [intOf]; omega
        | false =>
          have HE := hid_ (HSM.out (by rw [fenceW, hf]; rfl))
          rw [hf] at y4
          clear hf
          go_wp2
          go_roundw
          case rel => exact ⟨k + 1, by omega, by go_num, by rw [HE.out]; exact HTk.out, HFk.out⟩
          case measure => simp [intOf]; omega
      · obtain rfl : k = R1.L.length := by omega
        clear hT hF
        go_wp2
        go_end0
        exact ⟨rfl, by rw [HQ.out]; exact HTk.out, (Fr.of_gb HG.out (by simp)).trans HFk.out⟩
end Go.Proofs.Ytncdkbhkjamdpaa
