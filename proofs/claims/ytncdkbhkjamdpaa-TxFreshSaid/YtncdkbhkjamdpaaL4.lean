/- The walk of the statement SpanOwn: it returns true. -/
import Derived.Test.YtncdkbhkjamdpaaL5
namespace Go.Proofs.Ytncdkbhkjamdpaa
open Go.RowKit

/-- The loop's relation: a's cells are whatever they are; the set and b are as they were. -/
structure OwnRel (W : World) (va vb : Value) (n g0 : Nat) (bl : List Sp) (wr : World) : Prop where
  own : ∃ xs, wr.ownsRow W.heap.size 25 2 va n xs
  ob : wr.ownsRow g0 25 2 vb bl.length (flat Sp.enc bl)
  b : Below W.heap.size W wr

set_option maxHeartbeats 4000000 in
set_option maxRecDepth 100000 in
theorem spanOwn_walk (f : Int) (l : List Int) (v : Value) (a m : Int) (w : World) (hv : RdB w v l) (hb : Bytes l) (f1 : -128 ≤ f) (f2 : f ≤ 127) (a1 : -32768 ≤ a) (a2 : a ≤ 32767) (m1 : 0 ≤ m) (m2 : m ≤ 255) :
    Calls Try.prog 4 #[.int .i8 f, v, .int .i16 a, .int .u8 m] w fun e w' => e = .returned (.bool true) ∧ Below w.heap.size w w' := by
  have HV := hid_ hv
  have HY := hid_ hb
  clear hb
  obtain ⟨A, cp, rfl, hl, hl', _⟩ := hv
  by_cases hlen : 24 < l.length
  · go_enter Try.func4, Try.ntmps4
    go_wp2_with (go_at_call 22; refine (awake_c _).mono ?_; rintro e w1 ⟨rfl, hb⟩; have B1 := hid_ hb; clear hb)
    go_ret
    exact ⟨rfl, B1.out⟩
  · have HK := hid_ (SetOk.mk' (l := l) f1 f2 (by omega))
    obtain ⟨x1, x2⟩ := tmod_bd a
    obtain ⟨x, hx⟩ : ∃ x, a.tmod 300 = x := ⟨_, rfl⟩
    rw [hx] at x1 x2
    obtain ⟨s, hs⟩ : ∃ s, madeL f l = s := ⟨_, rfl⟩
    rw [hs] at HK
    have HS := hid_ hs
    clear hs
    have hsl := HK.out.len
    have hal := addW_len s ⟨x, m⟩
    obtain ⟨al, hAL⟩ : ∃ al, addW s ⟨x, m⟩ = al := ⟨_, rfl⟩
    rw [hAL] at hal
    have HAL := hid_ hAL
    clear hAL
    have tok1 : True := trivial
    go_enter Try.func4, Try.ntmps4
    go_wp2_with (first
      | (go_at_call 22; refine (awake_c _).mono ?_; rintro e w1 ⟨rfl, hb⟩; have HV1 := hid_ (HV.out.mono hb); have B1 := hid_ hb; clear hb)
      | (go_at_call 26; refine (made_c f l _ _ HV1.out HY.out (by omega) (by omega) (by omega)).mono ?_; rintro e w2 ⟨vs, rfl, hR, hb⟩; rw [HS.out] at hR; have HR := hid_ hR.rd; replace HV1 := hid_ (HV1.out.mono hb); have B2 := hid_ (btr B1.out hb); clear hb hR)
      | (go_at_call 27; have _t := tok1; refine (add_c s _ ⟨x, m⟩ _ (HR.out.mono (balloc' _ _)) (by omega)).mono ?_; rintro e w3 ⟨va, rfl, hO, hb⟩; rw [HAL.out] at hO; have e1 : w3.cell? ⟨w2.heap.size, 0, none⟩ = some (.int .i64 x) := cmono hb (cell_new 0 rfl); have e2 : w3.cell? ⟨w2.heap.size, 1, none⟩ = some (.int .i64 m) := cmono hb (cell_new 1 rfl); have RA := hid_ hO; have B3 := hid_ hb; clear hb hO tok1)
      | (go_at_call 27; refine (add_c s _ ⟨x, m⟩ _ (HR.out.mono (btr (balloc' _ _) B3.out)) (by omega)).mono ?_; rintro e w4 ⟨vb, rfl, hO, hb⟩; rw [HAL.out] at hO; have RB := hid_ hO; have RA4 := hid_ (ownsRow_below RA.out hb); have B4 := hid_ (btr B3.out hb); clear hb hO))
    obtain ⟨Aa, ca, rfl, _, _, _⟩ := Rd.own RA.out
    have HR2 := hid_ (HR.out.mono (balloc' w2 (.cells #[.int .i64 x, .int .i64 m] 25)))
    have HV2 := hid_ (HV1.out.mono (balloc' w2 (.cells #[.int .i64 x, .int .i64 m] 25)))
    have B2' := hid_ (balloc B2.out (.cells #[.int .i64 x, .int .i64 m] 25))
    have E1 := cell_new (wr := w2) (cs := #[.int .i64 x, .int .i64 m]) (e := 25) 0 rfl
    have E2 := cell_new (wr := w2) (cs := #[.int .i64 x, .int .i64 m]) (e := 25) 1 rfl
    obtain ⟨W, hW⟩ : ∃ W, w2.alloc (.cells #[.int .i64 x, .int .i64 m] 25) = W := ⟨_, rfl⟩
    rw [hW] at HR2 HV2 B2' E1 E2 RA B3 RA4 B4
    go_loopw [14] (fun i wr => ∃ k : Nat, k ≤ al.length ∧ i = .int .i64 k ∧ OwnRel W (.slice Aa al.length ca) vb al.length w3.heap.size al wr) (fun i _ => al.length - (intOf i).toNat)
    case atStart => exact ⟨0, Nat.zero_le _, rfl, ⟨_, RA4.out⟩, RB.out, B4.out⟩
    case round =>
      obtain ⟨k, hk, rfl, hR⟩ := hrel
      by_cases hlt : k < al.length
      · obtain ⟨⟨xs, hO⟩, hOb, hB⟩ := hR
        obtain ⟨g, cap, hv⟩ := own_form hO (by omega)
        injection hv with h1 h2 h3
        subst h1
        subst h3
        have hg := RA.out.lt g rfl
        have hxl : xs.length = al.length * 2 := hO.1
        have c1 : wr.cell? ⟨g, k * 2, none⟩ = some (xs[k * 2]'(by omega)) := (hO.cellAt (k * 2) (by omega)).trans (List.getElem?_eq_getElem _)
        have c2 : wr.cell? ⟨g, k * 2 + 1, none⟩ = some (xs[k * 2 + 1]'(by omega)) := (hO.cellAt (k * 2 + 1) (by omega)).trans (List.getElem?_eq_getElem _)
        have z1 := hO.frozenAt (k * 2)
        have z2 := hO.frozenAt (k * 2 + 1)
        obtain ⟨o1, g1⟩ := hO.stored (k * 2) (.int .i64 7)
        obtain ⟨o2, g2⟩ := o1.stored (k * 2 + 1) (.int .i64 7)
        have HO2 := hid_ o2; have HG1 := hid_ g1; have HG2 := hid_ g2; have HOB := hid_ hOb; have HB := hid_ hB
        have hbg : W.heap.size ≤ g := hg.1
        have HE : Hid (∀ u, (wr.setCell ⟨g, k * 2, none⟩ u).heap.size = wr.heap.size) := fun u => by simp
        clear o2 o1 g1 g2 hO hOb hB
        go_wp2
        go_roundw
        case rel =>
          refine ⟨k + 1, by omega, by go_num, ⟨_, HO2.out⟩, ?_, bgrown (bgrown HB.out HG1.out (by rintro _ ⟨⟩; exact hbg)) HG2.out (by rintro _ ⟨⟩; exact hbg)⟩
          have hne : vb.ownBlock ≠ some g := fun e => by
            have := (HOB.out.lt g e).1
            have := hg.2
            omega
          exact (HOB.out.kept HG1.out (.inr hne)).kept HG2.out (.inr hne)
        case measure => simp [intOf]; omega
      · obtain ⟨_, hOb, hB⟩ := hR
        have R1 := hid_ (HR2.out.mono hB)
        have R2 := hid_ (HV2.out.mono hB)
        have R3 := hid_ hOb
        have R4 := hid_ (btr B2'.out hB)
        have F1 := cmono hB E1
        have F2 := cmono hB E2
        have tok2 : True := trivial
        clear hOb hB
        go_wp2_with (first
          | (go_at_call 26; refine (made_c f l _ _ R2.out HY.out (by omega) (by omega) (by omega)).mono ?_; rintro e u1 ⟨vt, rfl, hR, hb⟩; rw [HS.out] at hR; have RT := hid_ hR.rd; replace R1 := hid_ (R1.out.mono hb); replace R3 := hid_ (ownsRow_below R3.out hb); replace R4 := hid_ (btr R4.out hb); replace F1 := cmono hb F1; replace F2 := cmono hb F2; clear hb hR)
          | (go_at_call 28; have _t := tok2; refine (same_c s s _ _ _ R1.out RT.out).mono ?_; rintro e u2 ⟨rfl, hb⟩; rw [decide_eq_true rfl]; replace R1 := hid_ (R1.out.mono hb); replace R3 := hid_ (ownsRow_below R3.out hb); replace R4 := hid_ (btr R4.out hb); replace F1 := cmono hb F1; replace F2 := cmono hb F2; clear hb tok2)
          | (go_at_call 27; refine (add_c s _ ⟨x, m⟩ _ R1.out (by omega)).mono ?_; rintro e u3 ⟨vc, rfl, hO, hb⟩; rw [HAL.out] at hO; have RC := hid_ (Rd.own hO); replace R3 := hid_ (ownsRow_below R3.out hb); replace R4 := hid_ (btr R4.out hb); clear hb hO)
          | (go_at_call 28; refine (same_c al al _ _ _ (Rd.own R3.out) RC.out).mono ?_; rintro e u4 ⟨rfl, hb⟩; rw [decide_eq_true rfl]; replace R4 := hid_ (btr R4.out hb); clear hb))
        go_ret
        exact ⟨rfl, R4.out⟩
end Go.Proofs.Ytncdkbhkjamdpaa
