/- The walk of the statement LockGone: it returns true. -/
import Derived.Test.YtncdkbhkjamdpaaL12
namespace Go.Proofs.Ytncdkbhkjamdpaa
open Go.RowKit Go.Maps

theorem rel_held {f : Int → Option Int} {a : Int} {hs : List Int} (h : HeldOf (relF f a) a hs) : hs = [] := by
  cases hs with
  | nil => rfl
  | cons x l =>
    have := (h.mem x).1 (by simp)
    simp only [relF] at this
    split at this
    · cases this
    · rename_i h1
      exact absurd this h1
theorem rel_rel (f : Int → Option Int) (a : Int) : relF (relF f a) a = relF f a := by
  funext x
  by_cases h : f x = some a <;> simp [relF, h]
/-- Behind k keys that the other lane took. -/
def tookF (f : Int → Option Int) (o : Int) (l : List Int) : Int → Option Int := fun x => if x ∈ l then some o else f x
theorem took_nil (f : Int → Option Int) (o : Int) : tookF f o [] = f := by funext x; simp [tookF]
theorem took_take {f : Int → Option Int} {a o : Int} {hs : List Int} (h : HeldOf f a hs) {k : Nat} (hk : k < hs.length) :
    (tookF (relF f a) o (hs.take k)) hs[k] = none ∧ lockOk (tookF (relF f a) o (hs.take k)) hs[k] o = true ∧ lockF (tookF (relF f a) o (hs.take k)) hs[k] o = tookF (relF f a) o (hs.take (k + 1)) := by
  have hn : hs[k] ∉ hs.take k := by
    intro hm
    obtain ⟨j, hj, e⟩ := List.getElem_of_mem hm
    rw [List.length_take] at hj
    rw [List.getElem_take] at e
    have := List.pairwise_iff_getElem.1 h.up j k (by omega) hk (by omega)
    omega
  have h0 : (tookF (relF f a) o (hs.take k)) hs[k] = none := by
    have := (h.mem hs[k]).1 (List.getElem_mem hk)
    simp [tookF, hn, relF, this]
  have h1 : lockOk (tookF (relF f a) o (hs.take k)) hs[k] o = true := by rw [lockOk, h0]
  refine ⟨h0, h1, ?_⟩
  rw [lockF, if_pos h1]
  funext x
  rw [List.take_add_one, List.getElem?_eq_getElem hk]
  simp only [updZ, tookF, Option.toList_some, List.mem_append, List.mem_singleton]
  by_cases e1 : x = hs[k] <;> by_cases e2 : x ∈ hs.take k <;> simp [e1, e2]

set_option maxHeartbeats 4000000 in
set_option maxRecDepth 100000 in
theorem lockGone_walk (l : List O18) (v : Value) (a b : Int) (w : World) (hv : RdO w v l) (hb : ∀ o ∈ l, o.Ok) (hn : l.length * 24 ≤ 140737488351232) :
    Calls Try.prog 14 #[v, vz a, vz b] w fun e w' => e = .returned (.bool true) ∧ Below w.heap.size w w' := by
  have HV := hid_ hv
  have HOK := hid_ hb
  clear hb
  obtain ⟨A, c, rfl, hl, hl', _⟩ := hv
  by_cases hlen : 60 < l.length
  · go_enter Try.func14, Try.ntmps14
    go_wp2_with (first
      | (go_at_call 42; refine (awake18_c _).mono ?_; rintro e w1 ⟨rfl, hb⟩; have HV1 := hid_ (HV.out.mono hb); have B1 := hid_ hb; clear hb)
      | (go_at_call 53; refine (done_c l _ _ HV1.out HOK.out (by omega)).mono ?_; rintro e w2 ⟨tb, mb, rfl, hd⟩; have B2 := hid_ (btr B1.out hd.b); clear hd))
    go_ret
    exact ⟨rfl, B2.out⟩
  · obtain ⟨f, hf⟩ : ∃ f, playF l = f := ⟨_, rfl⟩
    have HF := hid_ hf
    clear hf
    have tok1 : True := trivial
    have tok2 : True := trivial
    go_enter Try.func14, Try.ntmps14
    go_wp2_with (first
      | (go_at_call 42; refine (awake18_c _).mono ?_; rintro e w1 ⟨rfl, hb⟩; have HV1 := hid_ (HV.out.mono hb); have B1 := hid_ hb; clear hb)
      | (go_at_call 53; refine (done_c l _ _ HV1.out HOK.out (by omega)).mono ?_; rintro e w2 ⟨tb, mb, rfl, hd⟩; rw [HF.out] at hd; have HT := hid_ hd.t; have B2 := hid_ (btr B1.out hd.b); have HM := hid_ (Nat.le_trans B1.out.size hd.h2); clear hd)
      | (go_at_call 51; have _t := tok1; refine (held_c _ _ l.length f a _ HT.out (by omega)).mono ?_; rintro e w3 ⟨vh, hs, rfl, hh, hhl, hO, hb⟩; have HH := hid_ hh; have HF0 := hid_ (show ∀ x, ((f x).map vz).isSome = true → InZ x from HT.out.om.inz); have HR := hid_ (RdI.own hO rfl); obtain ⟨Ah, ch, rfl, hc1, hc2, _⟩ := id HR.out; replace HT := hid_ (HT.out.mono hb); replace B2 := hid_ (btr B2.out hb); clear hh hO hb tok1)
      | (go_at_call 46; have _t := tok2; refine (release_c _ _ l.length f a _ HT.out (by omega)).mono ?_; rintro e w4 ⟨hs', rfl, hh, ht, hg⟩; obtain rfl := HH.out.uniq hh; replace HR := hid_ (HR.out.keptM HT.out.om hg); replace HT := hid_ ht; replace B2 := hid_ (below_gb B2.out hg HM.out); clear hh ht hg tok2)
      | (go_at_call 51; refine (held_c _ _ l.length (relF f a) a _ HT.out (by omega)).mono ?_; rintro e w5 ⟨vh2, hs2, rfl, hh, hhl2, hO, hb⟩; obtain rfl := rel_held hh; obtain ⟨Ah2, ch2, rfl, _, _, _⟩ := (RdI.own hO rfl); replace HR := hid_ (HR.out.mono hb); replace HT := hid_ (HT.out.mono hb); replace B2 := hid_ (btr B2.out hb); clear hh hO hb)
      | (go_at_call 46; refine (release_c _ _ l.length (relF f a) a _ HT.out (by omega)).mono ?_; rintro e w6 ⟨hs2, rfl, hh, ht, hg⟩; obtain rfl := rel_held hh; rw [rel_rel] at ht; replace HR := hid_ (HR.out.keptM HT.out.om hg); replace HT := hid_ ht; replace B2 := hid_ (below_gb B2.out hg HM.out); clear hh ht hg))
    go_loopw [11] (fun i wr => ∃ k : Nat, k ≤ hs.length ∧ i = .int .i64 k ∧ Hid (Tab wr tb mb (l.length + k) (tookF (relF f a) b (hs.take k)) ∧ w6.grownBy wr (some mb) ∧ Below w.heap.size w wr)) (fun i _ => hs.length - (intOf i).toNat)
    case atStart => exact ⟨0, Nat.zero_le _, rfl, by rw [List.take_zero, took_nil]; exact HT.out, gb_refl _ _, B2.out⟩
    case round =>
      obtain ⟨k, hk, rfl, HA⟩ := hrel
      obtain ⟨ht, hg, hB⟩ := HA.out
      have HTT := hid_ ht; have HG := hid_ hg; have HB := hid_ hB
      clear ht hg hB HA
      by_cases hlt : k < hs.length
      · obtain ⟨b', o, rfl, h1⟩ := RdI.at (HR.out.keptM HT.out.om HG.out) (Below.refl _ _) hlt
        have HL := hid_ (took_take (o := b) HH.out hlt)
        have hfx := (HH.out.mem hs[k]).1 (List.getElem_mem hlt)
        have HZ := hid_ (HF0.out hs[k] (by simp [hfx]))
        generalize hs[k] = x at h1 HL HZ
        clear hfx
        go_wp2_with (first
          | (go_at_call 48; refine (owner_c _ _ _ _ x _ HTT.out HZ.out).mono ?_; rintro e w7 ⟨rfl, hb⟩; rw [HL.out.1]; replace h1 := cmono hb h1; replace HTT := hid_ (HTT.out.mono hb); have HG7 := hid_ (gb_trans HG.out (gb_below hb (some mb))); replace HB := hid_ (btr HB.out hb); clear hb)
          | (go_at_call 44; refine (lock_c _ _ (l.length + k) _ x b _ HTT.out HZ.out (by omega)).mono ?_; rintro e w8 ⟨rfl, ht, hg⟩; rw [HL.out.2.1]; rw [HL.out.2.2] at ht; have HT8 := hid_ ht; have HG8 := hid_ (gb_trans HG7.out hg); have HB8 := hid_ (below_gb HB.out hg HM.out); clear ht hg))
        go_roundw
        case rel => exact ⟨k + 1, by omega, by go_num, HT8.out, HG8.out, HB8.out⟩
        case measure => simp [intOf]; omega
      · go_wp2
        go_ret
        exact ⟨rfl, HB.out⟩
end Go.Proofs.Ytncdkbhkjamdpaa
