/- The walk of awake of chapter 03. -/
import Derived.Test.YtncdkbhkjamdpaaD11
namespace Go.Proofs.Ytncdkbhkjamdpaa
open Go.RowKit Go.Maps

theorem RdB.new (w : World) (l : List Int) (hl : l.length ≤ 1000000) : RdB (w.alloc (.cells (l.map (Value.int .u8)).toArray 5)) (.slice (some ⟨w.heap.size, 0, none⟩) l.length l.length) l := by
  refine ⟨_, _, rfl, Nat.le_refl _, by omega, fun j hj => ⟨w.heap.size, 0, rfl, fun i u hu => ?_⟩⟩
  have hi : i = 0 := by have := (List.getElem?_eq_some_iff.1 hu).1; simp at this; exact this
  subst hi
  simp at hu
  subst hu
  exact cell_new _ (by simp [hj])

set_option maxHeartbeats 8000000 in
set_option maxRecDepth 100000 in
theorem awake03_c (w : World) : Calls Try.prog 54 #[] w fun e w' => e = .returned (.bool true) ∧ Below w.heap.size w w' := by
  have z1 : InZ 1 := ⟨by decide, by decide⟩
  have tok1 : True := trivial
  have tok2 : True := trivial
  go_enter Try.func54, Try.ntmps54
  go_wp2_with (first
    | (go_at_call 59; refine (pnew_c 3 _ (by decide) (by decide)).mono ?_; rintro e w1 ⟨db, mb, lb, rfl, ht⟩; have HT := hid_ (show DevT w1 db mb lb 3 0 A0 from ht.t); have HB := hid_ ht.b; have HL : Hid (∀ b ∈ [db, mb, lb], w.heap.size ≤ b) := (by intro b hb; simp at hb; rcases hb with h | h | h; (rw [h]; exact ht.h1); (rw [h]; exact ht.h2); (rw [h]; exact ht.h3)); clear ht)
    | (go_at_call 103; have _t := tok1; go_loud (refine (store_c 1 7 _ HT.out ok0 z1 (by decide)).mono ?_; rintro e w2 ⟨rfl, ht⟩; replace HB := hid_ (ht.fr.below HB.out HL.out); replace HT := hid_ (show DevT w2 db mb lb 3 1 A1 from a1 ▸ ht.t); clear ht tok1))
    | (go_at_call 104; refine (flush_c 1 1 _ HT.out ok1 (by decide) ⟨by decide, by decide⟩ z1).mono ?_; rintro e w3 ⟨rfl, ht⟩; replace HB := hid_ (ht.fr.below HB.out HL.out); replace HT := hid_ (show DevT w3 db mb lb 3 1 A2 from a2 ▸ ht.t); clear ht)
    | (go_at_call 103; refine (store_c 1 8 _ HT.out ok2 z1 (by decide)).mono ?_; rintro e w4 ⟨rfl, ht⟩; replace HB := hid_ (ht.fr.below HB.out HL.out); replace HT := hid_ (show DevT w4 db mb lb 3 2 A3 from a3 ▸ ht.t); clear ht)
    | (go_at_call 105; refine (fence_c _ HT.out ok3 (by decide)).mono ?_; rintro e w5 ⟨rfl, ht⟩; rw [if_pos (show (stepS A3).1 = true from rfl)] at ht; obtain ⟨⟨ks, hk, ht⟩, hfr⟩ := ht; obtain rfl := hk.uniq (keys_only 1 ⟨8, 7, true⟩); replace HB := hid_ (hfr.below HB.out HL.out); replace HT := hid_ (show DevT w5 db mb lb 3 3 A4 from a4 ▸ ht); clear ht hk hfr)
    | (go_at_call 56; have _t := tok2; refine (image_c _ HT.out ok4).mono ?_; rintro e w6 ⟨vl, rfl, hO, hb⟩; have RL := hid_ (RdU.own (l := [0, 7, 0]) hO rfl); obtain ⟨Al, cl, rfl, hla, hlb, _⟩ := id RL.out; obtain ⟨b1, o1, rfl, hcell1⟩ := RdU.at RL.out (Below.refl _ _) (show 1 < [(0 : Int), 7, 0].length by decide); have HNI : Hid (b1 ∉ [db, mb, lb]) := (by intro h; simp at h; have h0 := (hO.lt b1 rfl).1; have h1 := HT.out.lt; have h2 := HT.out.om.lt; have h3 := HT.out.bnd; rcases h with h | h | h <;> omega); replace HB := hid_ (btr HB.out hb); replace HT := hid_ (HT.out.mono hb); clear hO hb tok2)
    | (go_at_call 58; refine (load_c 1 _ HT.out z1).mono ?_; rintro e w7 ⟨rfl, hb⟩; rw [show loadS A4 1 = 8 from rfl]; replace hcell1 := cmono hb hcell1; replace HB := hid_ (btr HB.out hb); replace HT := hid_ (HT.out.mono hb); clear hb)
    | (go_at_call 61; refine (steps_c _ HT.out).mono ?_; rintro e w8 ⟨rfl, hb⟩; rw [show A4.steps = 4 from rfl]; replace hcell1 := cmono hb hcell1; replace HB := hid_ (btr HB.out hb); replace HT := hid_ (HT.out.mono hb); clear hb)
    | (go_at_call 106; (refine (crash_c [2] _ _ (HT.out.mono (balloc' _ _)) ok4 (by decide) (RdB.new _ [2] (by decide)) (by intro x hx; simp at hx; subst hx; decide) (by intro g _ hg; have := HT.out.bnd; simp [Value.ownBlock] at hg; omega)).mono ?_; rintro e w9 ⟨rfl, ht⟩; obtain ⟨⟨ks, mb2, hk, ht, hm2⟩, hfr⟩ := ht; obtain rfl := hk.uniq (keys_only 1 ⟨8, 0, false⟩); have hcell2 := hfr.cell (cell_old _ _ hcell1) HNI.out; have HB9 := hid_ (hfr.below (balloc HB.out _) HL.out); have HT9 := hid_ (show DevT w9 db mb2 lb 3 0 A5 from a5 ▸ ht); clear ht hk hfr))
    | (go_at_call 56; refine (image_c _ HT9.out ok5).mono ?_; rintro e w10 ⟨vm, rfl, hO, hb⟩; have RM := hid_ (RdU.own (l := [0, 8, 0]) hO rfl); obtain ⟨Am, cm, rfl, hma, hmb', _⟩ := id RM.out; obtain ⟨b2, o2, rfl, hcell3⟩ := RdU.at RM.out (Below.refl _ _) (show 1 < [(0 : Int), 8, 0].length by decide); replace hcell2 := cmono hb hcell2; replace HB9 := hid_ (btr HB9.out hb); replace HT9 := hid_ (HT9.out.mono hb); clear hO hb)
    | (go_at_call 62; refine (dead_c _ HT9.out).mono ?_; rintro e w11 ⟨rfl, hb⟩; rw [show A5.dead = false from rfl]; replace HB9 := hid_ (btr HB9.out hb); replace HT9 := hid_ (HT9.out.mono hb); clear hb)
    | (go_at_call 63; refine (dirty_c _ HT9.out (by decide)).mono ?_; rintro e w12 ⟨vd, ks2, rfl, hk, _, hO, hb⟩; obtain rfl := hk.uniq keys_none; obtain ⟨Ad, cd, rfl, _, _, _⟩ := (RdI.own hO rfl); replace HB9 := hid_ (btr HB9.out hb); clear hb hO hk))
  go_ret
  exact ⟨rfl, HB9.out⟩
end Go.Proofs.Ytncdkbhkjamdpaa
