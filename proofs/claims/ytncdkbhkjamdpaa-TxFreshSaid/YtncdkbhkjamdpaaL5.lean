/- The walk of the statement SpanAdds: it returns true. -/
import Derived.Test.YtncdkbhkjamdpaaL10
namespace Go.Proofs.Ytncdkbhkjamdpaa
open Go.RowKit

theorem isB0 (l : List Sp) (s : Sp) (y : Int) : isB l s 0 y = true ↔ Has l y ∨ (s.f ≤ y ∧ y < s.f + s.m) := by
  simp [isB, hasB_iff, inB_iff]
theorem isB1 (l : List Sp) (s : Sp) (y : Int) : isB l s 1 y = true ↔ (s.f ≤ y ∧ y < s.f + s.m) ∧ ¬ Has l y := by
  simp [isB, ← hasB_iff, inB_iff]
theorem nil_len (l : List Sp) : (decide (l = []) == ((l.length : Int) == 0)) = true := by
  cases l with
  | nil => rfl
  | cons a l =>
    have : (((a :: l).length : Int) == 0) = false := by simp; omega
    rw [this]; simp
theorem adds_law {f : Int} {l : List Int} {s : List Sp} (h : SetOk f l s) (x m : Int) (h0 : -128 ≤ f) (h1 : -300 < x) (h2 : x < 300) (h3 : m ≤ 127) :
    addW s ⟨x, m⟩ = ofL (-500) 900 s ⟨x, m⟩ 0 ∧ gapsL s ⟨x, m⟩ = ofL (-500) 900 s ⟨x, m⟩ 1 := by
  have hin : ∀ y, Has s y → -200 ≤ y ∧ y < 400 := by
    rintro y ⟨z, hz, a, b⟩
    have := h.win z hz
    omega
  obtain ⟨a1, _, a3⟩ := addW_ok (s := ⟨x, m⟩) (lo := -500) (hi := 900) (h.rf.mono (show (-501 : Int) ≤ f by omega)) (fun z hz => by have := h.win z hz; omega) (by decide) (by decide) (by dsimp only; omega) (by dsimp only; omega) (by decide)
  obtain ⟨g1, _, g3⟩ := gapsL_ok (s := ⟨x, m⟩) (lo := -500) (hi := 900) h.rf (by dsimp only; omega) (by dsimp only; omega)
  obtain ⟨o1, o2, _⟩ := of_ok (-500) s ⟨x, m⟩ 0 1400
  obtain ⟨u1, u2, _⟩ := of_ok (-500) s ⟨x, m⟩ 1 1400
  constructor
  · refine a1.uniq o1 fun y => ?_
    rw [show ofL (-500) 900 s ⟨x, m⟩ 0 = (ofGo (-500) s ⟨x, m⟩ 0 1400).1 from rfl, a3, o2, isB0]
    constructor
    · intro h
      have : -500 ≤ y ∧ y < 900 := by
        rcases h with h | h
        · have := hin y h; omega
        · dsimp only at h; omega
      exact ⟨this.1, by have := this.2; omega, h⟩
    · exact fun h => h.2.2
  · refine g1.uniq u1 fun y => ?_
    rw [show ofL (-500) 900 s ⟨x, m⟩ 1 = (ofGo (-500) s ⟨x, m⟩ 1 1400).1 from rfl, g3, u2, isB1]
    constructor
    · intro h
      have := h.1
      dsimp only at this
      exact ⟨by omega, by omega, h⟩
    · exact fun h => h.2.2

set_option maxHeartbeats 4000000 in
set_option maxRecDepth 100000 in
theorem spanAdds_walk (f : Int) (l : List Int) (v : Value) (a m : Int) (w : World) (hv : RdB w v l) (hb : Bytes l) (f1 : -128 ≤ f) (f2 : f ≤ 127) (a1 : -32768 ≤ a) (a2 : a ≤ 32767) (m1 : -128 ≤ m) (m2 : m ≤ 127) :
    Calls Try.prog 5 #[.int .i8 f, v, .int .i16 a, .int .i8 m] w fun e w' => e = .returned (.bool true) ∧ Below w.heap.size w w' := by
  have HV := hid_ hv
  have HY := hid_ hb
  clear hb
  obtain ⟨A, cp, rfl, hl, hl', _⟩ := hv
  by_cases hlen : 24 < l.length
  · go_enter Try.func5, Try.ntmps5
    go_wp2_with (go_at_call 22; refine (awake_c _).mono ?_; rintro e w1 ⟨rfl, hb⟩; have B1 := hid_ hb; clear hb)
    go_ret
    exact ⟨rfl, B1.out⟩
  · have HK := hid_ (SetOk.mk' (l := l) f1 f2 (by omega))
    obtain ⟨x1, x2⟩ := tmod_bd a
    obtain ⟨x, hx⟩ : ∃ x, a.tmod 300 = x := ⟨_, rfl⟩
    rw [hx] at x1 x2
    obtain ⟨s, hs⟩ : ∃ s, madeL f l = s := ⟨_, rfl⟩
    rw [hs] at HK
    have HS := hid_ hs
    clear hs
    obtain ⟨p1, p2⟩ := adds_law HK.out x m f1 x1 x2 m2
    have HP1 := hid_ p1; have HP2 := hid_ p2
    clear p1 p2
    have hsl := HK.out.len
    have tok1 : True := trivial
    have tok2 : True := trivial
    go_enter Try.func5, Try.ntmps5
    go_wp2_with (first
      | (go_at_call 22; refine (awake_c _).mono ?_; rintro e w1 ⟨rfl, hb⟩; have HV1 := hid_ (HV.out.mono hb); have B1 := hid_ hb; clear hb)
      | (go_at_call 26; refine (made_c f l _ _ HV1.out HY.out (by omega) (by omega) (by omega)).mono ?_; rintro e w2 ⟨vs, rfl, hR, hb⟩; rw [HS.out] at hR; have HR := hid_ hR.rd; have B2 := hid_ (btr B1.out hb); clear hb hR)
      | (go_at_call 27; refine (add_c s _ ⟨x, m⟩ _ (HR.out.mono (balloc' _ _)) (by omega)).mono ?_; rintro e w3 ⟨va, rfl, hO, hb⟩; have RA := hid_ (Rd.own hO); have e1 : w3.cell? ⟨w2.heap.size, 0, none⟩ = some (.int .i64 x) := cmono hb (cell_new 0 rfl); have e2 : w3.cell? ⟨w2.heap.size, 1, none⟩ = some (.int .i64 m) := cmono hb (cell_new 1 rfl); replace HR := hid_ (HR.out.mono (btr (balloc' _ _) hb)); replace B2 := hid_ (btr B2.out (btr (balloc' _ _) hb)); clear hb hO)
      | (go_at_call 29; have _t := tok1; refine (of_c _ _ s _ ⟨x, m⟩ _ _ HR.out HK.out.bd ⟨by dsimp only; omega, by dsimp only; omega, by dsimp only; omega, by dsimp only; omega⟩ (by omega) (by omega) (by omega)).mono ?_; rintro e w3 ⟨vb, rfl, hO, hb⟩; have RB := hid_ hO.rd; replace RA := hid_ (RA.out.mono hb); replace HR := hid_ (HR.out.mono hb); replace e1 := cmono hb e1; replace e2 := cmono hb e2; replace B2 := hid_ (btr B2.out hb); clear hb hO tok1)
      | (go_at_call 30; refine (missing_c s ⟨x, m⟩ _ _ HR.out HK.out.bd ⟨by dsimp only; omega, by dsimp only; omega, by dsimp only; omega, by dsimp only; omega⟩ (by omega)).mono ?_; rintro e w3 ⟨vc, rfl, hO, hb⟩; have RC := hid_ (Rd.own hO); replace RA := hid_ (RA.out.mono hb); replace RB := hid_ (RB.out.mono hb); replace HR := hid_ (HR.out.mono hb); replace e1 := cmono hb e1; replace e2 := cmono hb e2; replace B2 := hid_ (btr B2.out hb); clear hb hO)
      | (go_at_call 29; refine (of_c _ _ s _ ⟨x, m⟩ _ _ HR.out HK.out.bd ⟨by dsimp only; omega, by dsimp only; omega, by dsimp only; omega, by dsimp only; omega⟩ (by omega) (by omega) (by omega)).mono ?_; rintro e w3 ⟨vd, rfl, hO, hb⟩; obtain ⟨D, dc, rfl, hdl, hdl', _⟩ := hO.rd; have RD := hid_ hO.rd; replace RA := hid_ (RA.out.mono hb); replace RB := hid_ (RB.out.mono hb); replace RC := hid_ (RC.out.mono hb); replace HR := hid_ (HR.out.mono hb); replace e1 := cmono hb e1; replace e2 := cmono hb e2; replace B2 := hid_ (btr B2.out hb); clear hb hO)
      | (go_at_call 28; have _t := tok2; refine (same_c _ _ _ _ _ RA.out RB.out).mono ?_; rintro e w3 ⟨rfl, hb⟩; rw [decide_eq_true HP1.out]; replace RC := hid_ (RC.out.mono hb); replace RD := hid_ (RD.out.mono hb); replace HR := hid_ (HR.out.mono hb); replace e1 := cmono hb e1; replace e2 := cmono hb e2; replace B2 := hid_ (btr B2.out hb); clear hb tok2)
      | (go_at_call 28; refine (same_c _ _ _ _ _ RC.out RD.out).mono ?_; rintro e w3 ⟨rfl, hb⟩; rw [decide_eq_true HP2.out]; replace HR := hid_ (HR.out.mono hb); replace e1 := cmono hb e1; replace e2 := cmono hb e2; replace B2 := hid_ (btr B2.out hb); clear hb)
      | (go_at_call 31; refine (covers_c s ⟨x, m⟩ _ _ HR.out HK.out.bd ⟨by dsimp only; omega, by dsimp only; omega, by dsimp only; omega, by dsimp only; omega⟩).mono ?_; rintro e w3 ⟨rfl, hb⟩; replace HR := hid_ (HR.out.mono hb); replace e1 := cmono hb e1; replace e2 := cmono hb e2; replace B2 := hid_ (btr B2.out hb); clear hb))
    go_ret
    exact ⟨by rw [← HP2.out, coversB, nil_len]; rfl, B2.out⟩
end Go.Proofs.Ytncdkbhkjamdpaa
