/- The walk of the statement LockOnce: it returns true. -/
import Derived.Test.YtncdkbhkjamdpaaK3
namespace Go.Proofs.Ytncdkbhkjamdpaa
open Go.RowKit Go.Maps

theorem lockF_at {f : Int → Option Int} {k a : Int} (h : lockOk f k a = true) : lockF f k a k = some a := by simp [lockF, h, updZ]
structure OnceLaw (f : Int → Option Int) (k a b : Int) : Prop where
  o1 : lockOk (lockF f k a) k a = true
  o2 : lockOk (lockF (lockF f k a) k a) k b = false
  e2 : lockF (lockF (lockF f k a) k a) k b = lockF (lockF f k a) k a
  own : (lockF (lockF f k a) k a) k = some a
  pos : ∀ hs, HeldOf (lockF (lockF f k a) k a) a hs → (1 : Int) ≤ hs.length
  o3 : lockOk (relF (lockF (lockF f k a) k a) a) k b = true
  own3 : lockF (relF (lockF (lockF f k a) k a) a) k b k = some b
theorem once_law {f : Int → Option Int} {k a b : Int} (h : lockOk f k a = true) (hab : a ≠ b) : OnceLaw f k a b := by
  have h1 := lockF_at h
  have o1 : lockOk (lockF f k a) k a = true := by simp [lockOk, h1]
  have h2 := lockF_at o1
  have o2 : lockOk (lockF (lockF f k a) k a) k b = false := by simp [lockOk, h2, hab]
  have h3 : relF (lockF (lockF f k a) k a) a k = none := by simp [relF, h2]
  have o3 : lockOk (relF (lockF (lockF f k a) k a) a) k b = true := by simp [lockOk, h3]
  refine ⟨o1, o2, by rw [lockF, if_neg (by rw [o2]; decide)], h2, fun hs hh => ?_, o3, lockF_at o3⟩
  have := (hh.mem k).2 h2
  have := List.length_pos_of_mem this
  omega

set_option maxHeartbeats 4000000 in
set_option maxRecDepth 100000 in
theorem lockOnce_walk (l : List O18) (v : Value) (key a b : Int) (w : World) (hv : RdO w v l) (hb : ∀ o ∈ l, o.Ok) (hn : l.length * 24 ≤ 140737488351232) (hk : InZ key) :
    Calls Try.prog 12 #[v, vz key, vz a, vz b] w fun e w' => e = .returned (.bool true) ∧ Below w.heap.size w w' := by
  have HV := hid_ hv
  have HOK := hid_ hb
  have HZ := hid_ hk
  clear hb hk
  obtain ⟨A, c, rfl, hl, hl', _⟩ := hv
  have key : (60 < l.length ∨ l.length ≤ 60 ∧ a = b) ∨ l.length ≤ 60 ∧ a ≠ b := by omega
  rcases key with key | ⟨hlen, hab⟩
  · have : ∀ r : Bool, r = decide (60 < l.length) → r = true ∨ (r = false ∧ (a == b) = true) := by
      rintro r rfl
      rcases key with h | ⟨h, h'⟩
      · left; simpa using h
      · right; exact ⟨by simpa using h, by simpa using h'⟩
    rcases key with h | ⟨h, h'⟩
    · go_enter Try.func12, Try.ntmps12
      go_wp2_with (first
        | (go_at_call 42; refine (awake18_c _).mono ?_; rintro e w1 ⟨rfl, hb⟩; have HV1 := hid_ (HV.out.mono hb); have B1 := hid_ hb; clear hb)
        | (go_at_call 53; refine (done_c l _ _ HV1.out HOK.out (by omega)).mono ?_; rintro e w2 ⟨tb, mb, rfl, hd⟩; have B2 := hid_ (btr B1.out hd.b); clear hd))
      go_ret
      exact ⟨rfl, B2.out⟩
    · have he : (a == b) = true := by simpa using h'
      go_enter Try.func12, Try.ntmps12
      go_wp2_with (first
        | (go_at_call 42; refine (awake18_c _).mono ?_; rintro e w1 ⟨rfl, hb⟩; have HV1 := hid_ (HV.out.mono hb); have B1 := hid_ hb; clear hb)
        | (go_at_call 53; refine (done_c l _ _ HV1.out HOK.out (by omega)).mono ?_; rintro e w2 ⟨tb, mb, rfl, hd⟩; have B2 := hid_ (btr B1.out hd.b); clear hd))
      go_ret
      exact ⟨rfl, B2.out⟩
  · have he : (a == b) = false := by simpa using hab
    have haa : (a == a) = true := by simp
    have hbb : (b == b) = true := by simp
    obtain ⟨f, hf⟩ : ∃ f, playF l = f := ⟨_, rfl⟩
    have HF := hid_ hf
    clear hf
    cases ho : lockOk f key a with
    | false =>
      have HO := hid_ ho
      have hne : ((f key).getD (-1) != a) = true := by
        unfold lockOk at ho
        cases hfk : f key with
        | none => rw [hfk] at ho; cases ho
        | some o => rw [hfk] at ho; simpa using ho
      have HNE := hid_ hne
      clear ho hne
      have HE : Hid (lockF f key a = f) := by show _ = _; rw [lockF, if_neg (by rw [HO.out]; decide)]
      go_enter Try.func12, Try.ntmps12
      go_wp2_with (first
        | (go_at_call 42; refine (awake18_c _).mono ?_; rintro e w1 ⟨rfl, hb⟩; have HV1 := hid_ (HV.out.mono hb); have B1 := hid_ hb; clear hb)
        | (go_at_call 53; refine (done_c l _ _ HV1.out HOK.out (by omega)).mono ?_; rintro e w2 ⟨tb, mb, rfl, hd⟩; rw [HF.out] at hd; have HT := hid_ hd.t; have B2 := hid_ (btr B1.out hd.b); have HM := hid_ (Nat.le_trans B1.out.size hd.h2); clear hd)
        | (go_at_call 44; refine (lock_c _ _ l.length f key a _ HT.out HZ.out (by omega)).mono ?_; rintro e w3 ⟨rfl, ht, hg⟩; rw [HO.out]; rw [HE.out] at ht; replace HT := hid_ ht; replace B2 := hid_ (below_gb B2.out hg HM.out); clear ht hg)
        | (go_at_call 48; refine (owner_c _ _ _ f key _ HT.out HZ.out).mono ?_; rintro e w4 ⟨rfl, hb⟩; replace B2 := hid_ (btr B2.out hb); have hne := HNE.out; clear hb))
      go_ret
      exact ⟨rfl, B2.out⟩
    | true =>
      have HO := hid_ ho
      have HL := hid_ (once_law ho hab)
      clear ho
      have tok1 : True := trivial
      have tok2 : True := trivial
      have tok3 : True := trivial
      have tok4 : True := trivial
      go_enter Try.func12, Try.ntmps12
      go_wp2_with (first
        | (go_at_call 42; refine (awake18_c _).mono ?_; rintro e w1 ⟨rfl, hb⟩; have HV1 := hid_ (HV.out.mono hb); have B1 := hid_ hb; clear hb)
        | (go_at_call 53; refine (done_c l _ _ HV1.out HOK.out (by omega)).mono ?_; rintro e w2 ⟨tb, mb, rfl, hd⟩; rw [HF.out] at hd; have HT := hid_ hd.t; have B2 := hid_ (btr B1.out hd.b); have HM := hid_ (Nat.le_trans B1.out.size hd.h2); clear hd)
        | (go_at_call 44; have _t := tok1; refine (lock_c _ _ l.length f key a _ HT.out HZ.out (by omega)).mono ?_; rintro e w3 ⟨rfl, ht, hg⟩; rw [HO.out]; replace HT := hid_ ht; replace B2 := hid_ (below_gb B2.out hg HM.out); clear ht hg tok1)
        | (go_at_call 44; have _t := tok2; refine (lock_c _ _ (l.length + 1) _ key a _ HT.out HZ.out (by omega)).mono ?_; rintro e w4 ⟨rfl, ht, hg⟩; rw [HL.out.o1]; replace HT := hid_ ht; replace B2 := hid_ (below_gb B2.out hg HM.out); clear ht hg tok2)
        | (go_at_call 44; have _t := tok3; refine (lock_c _ _ (l.length + 2) _ key b _ HT.out HZ.out (by omega)).mono ?_; rintro e w5 ⟨rfl, ht, hg⟩; rw [HL.out.o2]; rw [HL.out.e2] at ht; replace HT := hid_ ht; replace B2 := hid_ (below_gb B2.out hg HM.out); clear ht hg tok3)
        | (go_at_call 48; have _t := tok4; refine (owner_c _ _ _ _ key _ HT.out HZ.out).mono ?_; rintro e w6 ⟨rfl, hb⟩; rw [HL.out.own]; replace HT := hid_ (HT.out.mono hb); replace B2 := hid_ (btr B2.out hb); clear hb tok4)
        | (go_at_call 46; refine (release_c _ _ _ _ a _ HT.out (by omega)).mono ?_; rintro e w7 ⟨hs, rfl, hh, ht, hg⟩; have hpos := HL.out.pos hs hh; replace HT := hid_ ht; replace B2 := hid_ (below_gb B2.out hg HM.out); clear ht hg hh)
        | (go_at_call 44; refine (lock_c _ _ _ _ key b _ HT.out HZ.out (by omega)).mono ?_; rintro e w8 ⟨rfl, ht, hg⟩; rw [HL.out.o3]; replace HT := hid_ ht; replace B2 := hid_ (below_gb B2.out hg HM.out); clear ht hg)
        | (go_at_call 48; refine (owner_c _ _ _ _ key _ HT.out HZ.out).mono ?_; rintro e w9 ⟨rfl, hb⟩; rw [HL.out.own3]; replace B2 := hid_ (btr B2.out hb); clear hb))
      go_ret
      exact ⟨rfl, B2.out⟩
end Go.Proofs.Ytncdkbhkjamdpaa
