/- The walk of the statement SpanParts: it returns true. -/
import Derived.Test.YtncdkbhkjamdpaaSM
namespace Go.Proofs.Ytncdkbhkjamdpaa
open Go.RowKit

theorem tmod_bd (a : Int) : -300 < a.tmod 300 ∧ a.tmod 300 < 300 := by
  rcases Int.le_total 0 a with h | h
  · have := Int.tmod_nonneg 300 h
    have := Int.tmod_lt_of_pos a (show (0:Int) < 300 by decide)
    omega
  · have := Int.tmod_nonneg (a := -a) 300 (by omega)
    have := Int.tmod_lt_of_pos (-a) (show (0:Int) < 300 by decide)
    rw [Int.neg_tmod] at *
    omega

/-- A set of the statements: right, and near. -/
structure SetOk (f : Int) (l : List Int) (s : List Sp) : Prop where
  e : s = madeL f l
  rf : RF f s
  win : Win (-200) 400 s
  len : s.length ≤ 24
theorem SetOk.mk' {f : Int} {l : List Int} (h1 : -128 ≤ f) (h2 : f ≤ 127) (h : l.length ≤ 24) : SetOk f l (madeL f l) := by
  obtain ⟨a, b, c⟩ := made_ok f l
  exact ⟨rfl, a, fun x hx => by have := b x hx; omega, by omega⟩
theorem SetOk.bd {f : Int} {l : List Int} {s : List Sp} (h : SetOk f l s) : BdL s := h.win.bd h.rf (by decide) (by decide)

theorem parts_law {f : Int} {l : List Int} {s : List Sp} (h : SetOk f l s) (x n k : Int) (h1 : 0 ≤ k) (h2 : k ≤ n) : (coversB s ⟨x, n⟩ == (coversB s ⟨x, k⟩ && coversB s ⟨x + k, n - k⟩)) = true ∧ coversB s ⟨x, 0⟩ = true := by
  refine ⟨?_, (coversB_iff h.rf _).2 fun y a b => by dsimp only at a b; omega⟩
  rw [beq_iff_eq, Bool.eq_iff_iff, Bool.and_eq_true, coversB_iff h.rf, coversB_iff h.rf, coversB_iff h.rf]
  dsimp only
  constructor
  · intro g
    exact ⟨fun y a b => g y a (by omega), fun y a b => g y (by omega) (by omega)⟩
  · rintro ⟨g1, g2⟩ y a b
    by_cases hy : y < x + k
    · exact g1 y a hy
    · exact g2 y (by omega) (by omega)

set_option maxHeartbeats 4000000 in
set_option maxRecDepth 100000 in
theorem spanParts_walk (f : Int) (l : List Int) (v : Value) (a n c : Int) (w : World) (hv : RdB w v l) (hb : Bytes l) (f1 : -128 ≤ f) (f2 : f ≤ 127) (a1 : -32768 ≤ a) (a2 : a ≤ 32767) (n1 : 0 ≤ n) (n2 : n ≤ 255) (c1 : 0 ≤ c) (c2 : c ≤ 255) :
    Calls Try.prog 10 #[.int .i8 f, v, .int .i16 a, .int .u8 n, .int .u8 c] w fun e w' => e = .returned (.bool true) ∧ Below w.heap.size w w' := by
  have HV := hid_ hv
  have HY := hid_ hb
  clear hb
  obtain ⟨A, cp, rfl, hl, hl', _⟩ := hv
  by_cases hlen : 24 < l.length
  · go_enter Try.func10, Try.ntmps10
    go_wp2_with (go_at_call 22; refine (awake_c _).mono ?_; rintro e w1 ⟨rfl, hb⟩; have B1 := hid_ hb; clear hb)
    go_ret
    exact ⟨rfl, B1.out⟩
  · have HK := hid_ (SetOk.mk' (l := l) f1 f2 (by omega))
    obtain ⟨x1, x2⟩ := tmod_bd a
    obtain ⟨x, hx⟩ : ∃ x, a.tmod 300 = x := ⟨_, rfl⟩
    rw [hx] at x1 x2
    have k1 : 0 ≤ c.tmod (n + 1) := Int.tmod_nonneg _ c1
    have k2 : c.tmod (n + 1) < n + 1 := Int.tmod_lt_of_pos _ (by omega)
    obtain ⟨k, hk⟩ : ∃ k, c.tmod (n + 1) = k := ⟨_, rfl⟩
    rw [hk] at k1 k2
    obtain ⟨p1, p2⟩ := parts_law HK.out x n k k1 (by omega)
    have HP1 := hid_ p1; have HP2 := hid_ p2
    clear p1 p2
    obtain ⟨s, hs⟩ : ∃ s, madeL f l = s := ⟨_, rfl⟩
    rw [hs] at HK HP1 HP2
    have HS := hid_ hs
    clear hs
    have tok1 : True := trivial
    go_enter Try.func10, Try.ntmps10
    go_wp2_with (first
      | (go_at_call 22; refine (awake_c _).mono ?_; rintro e w1 ⟨rfl, hb⟩; have HV1 := hid_ (HV.out.mono hb); have B1 := hid_ hb; clear hb)
      | (go_at_call 26; refine (made_c f l _ _ HV1.out HY.out (by omega) (by omega) (by omega)).mono ?_; rintro e w2 ⟨vs, rfl, hR, hb⟩; rw [HS.out] at hR; have HR := hid_ hR.rd; have B2 := hid_ (btr B1.out hb); clear hb hR)
      | (go_at_call 31; refine (covers_c s ⟨_, _⟩ _ _ HR.out HK.out.bd ⟨by dsimp only; omega, by dsimp only; omega, by dsimp only; omega, by dsimp only; omega⟩).mono ?_; rintro e w3 ⟨rfl, hb⟩; replace HR := hid_ (HR.out.mono hb); replace B2 := hid_ (btr B2.out hb); clear hb))
    all_goals
      go_ret
      refine ⟨?_, B2.out⟩
      have h1 := HP1.out
      have h2 := HP2.out
      clear HP1 HP2 HV HY HK HS HR HV1
      simp_all
end Go.Proofs.Ytncdkbhkjamdpaa
