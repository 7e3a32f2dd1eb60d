/- The walk of the statements' own example (chapter 04). -/
import Derived.Test.YtncdkbhkjamdpaaS11
namespace Go.Proofs.Ytncdkbhkjamdpaa
open Go.RowKit

theorem RdS.blk {w : World} {b : Nat} {cs : Array Value} {e : TypeId} {fz : Nat × Nat} (l : List Sp) (h : w.heap[b]? = some (.cells cs e fz)) (hc : cs.toList = flat Sp.enc l) (hl : l.length ≤ 1000000) : RdS w (.slice (some ⟨b, 0, none⟩) l.length l.length) l := by
  refine ⟨_, _, rfl, Nat.le_refl _, by omega, fun j hj => ⟨b, 0, rfl, fun i u hu => ?_⟩⟩
  have := flat_get Sp.enc_len l j hj i u hu
  rw [← hc] at this
  exact cell_blk h (by rw [Nat.zero_add]; simpa using this)
theorem RdS.new (w : World) (l : List Sp) (hl : l.length ≤ 1000000) : RdS (w.alloc (.cells (flat Sp.enc l).toArray 25)) (.slice (some ⟨w.heap.size, 0, none⟩) l.length l.length) l :=
  RdS.blk l (heap_alloc_new w _) (by simp) hl
theorem Rd.own {w : World} {base : Nat} {v : Value} {l : List Sp} (h : w.ownsRow base 25 2 v l.length (flat Sp.enc l)) : RdS w v l := Rd.of_own Sp.enc_len h rfl

theorem awake_vals : addW [⟨2, 3⟩, ⟨8, 2⟩] ⟨5, 3⟩ = [⟨2, 8⟩] ∧ gapsL [⟨2, 8⟩] ⟨0, 12⟩ = [⟨0, 2⟩, ⟨10, 2⟩] ∧ rightB [⟨2, 8⟩] = true ∧ totW [⟨2, 8⟩] = 8 := by
  refine ⟨by decide +kernel, by decide +kernel, rightB_true fun j hj => ?_, by decide +kernel⟩
  have : j = 0 := by simpa using hj
  subst this
  exact ⟨by simp, fun i hi => by omega⟩
theorem awake_bd : BdL [⟨2, 8⟩] := by
  intro s hs
  simp at hs
  subst hs
  exact ⟨by decide, by decide, by decide, by decide⟩

set_option maxHeartbeats 4000000 in
set_option maxRecDepth 100000 in
theorem awake_c (w : World) : Calls Try.prog 22 #[] w fun e w' => e = .returned (.bool true) ∧ Below w.heap.size w w' := by
  obtain ⟨v1, v2, v3, v4⟩ := awake_vals
  have V1 := hid_ v1; have V2 := hid_ v2; have V3 := hid_ v3; have V4 := hid_ v4
  clear v1 v2 v3 v4
  have HR1 : Hid (RdS (w.alloc (.cells #[.int .i64 2, .int .i64 3, .int .i64 8, .int .i64 2] 25)) (.slice (some ⟨w.heap.size, 0, none⟩) 2 2) [⟨2, 3⟩, ⟨8, 2⟩]) := RdS.new w [⟨2, 3⟩, ⟨8, 2⟩] (by decide)
  have HS1 : ∀ W : World, Hid (RdS (W.alloc (.cells #[.int .i64 2, .int .i64 8] 25)) (.slice (some ⟨W.heap.size, 0, none⟩) 1 1) [⟨2, 8⟩]) := fun W => RdS.new W [⟨2, 8⟩] (by decide)
  have HS2 : ∀ W : World, Hid (RdS (W.alloc (.cells #[.int .i64 0, .int .i64 2, .int .i64 10, .int .i64 2] 25)) (.slice (some ⟨W.heap.size, 0, none⟩) 2 2) [⟨0, 2⟩, ⟨10, 2⟩]) := fun W => RdS.new W [⟨0, 2⟩, ⟨10, 2⟩] (by decide)
  have HS1' := hid_ HS1; have HS2' := hid_ HS2
  clear HS1 HS2
  have tok1 : True := trivial
  go_enter Try.func22, Try.ntmps22
  go_wp2_with (first
    | (go_at_call 27; refine (add_c _ _ ⟨5, 3⟩ _ HR1.out (by decide)).mono ?_; rintro e w1 ⟨va, rfl, hO, hb⟩; rw [V1.out] at hO; have RA := hid_ (Rd.own hO); have B1 := hid_ (btr (balloc' _ _) hb); clear hO hb)
    | (go_at_call 30; refine (missing_c _ ⟨0, 12⟩ _ _ RA.out awake_bd ⟨by decide, by decide, by decide, by decide⟩ (by decide)).mono ?_; rintro e w2 ⟨vm, rfl, hO, hb⟩; rw [V2.out] at hO; have RM := hid_ (Rd.own hO); have RA2 := hid_ (RA.out.mono hb); have B2 := hid_ (btr B1.out hb); clear hO hb RA)
    | (go_at_call 28; have _t := tok1; refine (same_c [⟨2, 8⟩] [⟨2, 8⟩] _ _ _ (RA2.out.mono (balloc' _ _)) (HS1'.out _).out).mono ?_; rintro e w3 ⟨rfl, hb⟩; have RA3 := hid_ (RA2.out.mono (btr (balloc' _ _) hb)); have RM3 := hid_ (RM.out.mono (btr (balloc' _ _) hb)); have B3 := hid_ (btr B2.out (btr (balloc' _ _) hb)); clear hb tok1)
    | (go_at_call 28; refine (same_c [⟨0, 2⟩, ⟨10, 2⟩] [⟨0, 2⟩, ⟨10, 2⟩] _ _ _ (RM3.out.mono (balloc' _ _)) (HS2'.out _).out).mono ?_; rintro e w4 ⟨rfl, hb⟩; have RA4 := hid_ (RA3.out.mono (btr (balloc' _ _) hb)); have B4 := hid_ (btr B3.out (btr (balloc' _ _) hb)); clear hb)
    | (go_at_call 24; refine (right_c [⟨2, 8⟩] _ _ RA4.out awake_bd).mono ?_; rintro e w5 ⟨rfl, hb⟩; rw [V3.out]; have RA5 := hid_ (RA4.out.mono hb); have B5 := hid_ (btr B4.out hb); clear hb)
    | (go_at_call 25; refine (total_c [⟨2, 8⟩] _ _ RA5.out).mono ?_; rintro e w6 ⟨rfl, hb⟩; rw [V4.out]; have B6 := hid_ (btr B5.out hb); clear hb))
  go_ret
  exact ⟨rfl, B6.out⟩
end Go.Proofs.Ytncdkbhkjamdpaa
