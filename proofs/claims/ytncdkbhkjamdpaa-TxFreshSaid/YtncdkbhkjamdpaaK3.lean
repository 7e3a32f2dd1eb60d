/- The walks of done and awake of chapter 18. -/
import Derived.Test.YtncdkbhkjamdpaaK2
import Derived.Deep.RegionHeld3
namespace Go.Proofs.Ytncdkbhkjamdpaa
open Go.RowKit Go.Maps

structure O18 where
  k : Int
  key : Int
  lane : Int
def O18.enc (o : O18) : List Value := [.int .u8 o.k, vz o.key, vz o.lane]
theorem O18.enc_len (o : O18) : o.enc.length = 3 := rfl
def O18.Ok (o : O18) : Prop := (0 ≤ o.k ∧ o.k ≤ 255) ∧ InZ o.key ∧ InZ o.lane
abbrev RdO (w : World) (v : Value) (l : List O18) : Prop := Rd 3 O18.enc w v l
theorem RdO.at {w wr : World} {A : Option Addr} {n c : Nat} {l : List O18} (h : RdO w (.slice A n c) l) (hb : Below w.heap.size w wr) {k : Nat} (hk : k < l.length) :
    ∃ b o, A = some ⟨b, o, none⟩ ∧ wr.cell? ⟨b, o + k * 3, none⟩ = some (.int .u8 l[k].k) ∧ wr.cell? ⟨b, o + k * 3 + 1, none⟩ = some (vz l[k].key) ∧ wr.cell? ⟨b, o + k * 3 + 2, none⟩ = some (vz l[k].lane) := by
  obtain ⟨A', c', e, _, _, hc⟩ := h
  injection e with e1 e2 e3
  subst e1
  obtain ⟨b, o, ea, hh⟩ := hc k hk
  exact ⟨b, o, ea, cmono hb (hh 0 _ rfl), cmono hb (hh 1 _ rfl), cmono hb (hh 2 _ rfl)⟩

def noF : Int → Option Int := fun _ => none
def stepF (f : Int → Option Int) (o : O18) : Int → Option Int := if o.k = 0 then lockF f o.key o.lane else if o.k = 3 then relF f o.lane else f
def playF (l : List O18) : Int → Option Int := l.foldl stepF noF
theorem playF_take {l : List O18} {k : Nat} (hk : k < l.length) : playF (l.take (k + 1)) = stepF (playF (l.take k)) l[k] := by
  unfold playF
  rw [List.take_add_one, List.getElem?_eq_getElem hk]
  simp only [Option.toList_some, List.foldl_append, List.foldl_cons, List.foldl_nil]

/-- What a function that makes a table answers. -/
structure DoneRes (w w' : World) (tb mb n : Nat) (f : Int → Option Int) : Prop where
  t : Tab w' tb mb n f
  h1 : w.heap.size ≤ tb
  h2 : w.heap.size ≤ mb
  b : Below w.heap.size w w'

set_option maxHeartbeats 4000000 in
set_option maxRecDepth 100000 in
theorem done_c (l : List O18) (v : Value) (w : World) (hv : RdO w v l) (hb : ∀ o ∈ l, o.Ok) (hn : l.length ≤ 6000000000000) :
    Calls Try.prog 53 #[v] w fun e w' => ∃ tb mb, e = .returned (.pointer (some ⟨tb, 0, none⟩)) ∧ DoneRes w w' tb mb l.length (playF l) := by
  have HV := hid_ hv
  have HOK := hid_ hb
  clear hb
  obtain ⟨A, c, rfl, hl, hl', _⟩ := hv
  go_enter Try.func53, Try.ntmps53
  go_wp2_with (go_at_call 43; refine (lnew_c _).mono ?_; rintro e w1 ⟨rfl, ht, hb⟩; have HT := hid_ ht; have HB := hid_ hb; clear ht hb)
  obtain ⟨tb, htb⟩ : ∃ tb, tb = w.heap.size + 1 := ⟨_, rfl⟩
  obtain ⟨mb, hmb⟩ : ∃ mb, mb = w.heap.size := ⟨_, rfl⟩
  rw [← htb] at HT ⊢
  rw [← hmb] at HT
  have hbt : w.heap.size ≤ tb := by omega
  have hbm : w.heap.size ≤ mb := by omega
  clear htb hmb
  go_loopw [4] (fun i wr => ∃ k : Nat, k ≤ l.length ∧ i = .int .i64 k ∧ Hid (DoneRes w wr tb mb k (playF (l.take k)))) (fun i _ => l.length - (intOf i).toNat)
  case atStart => exact ⟨0, Nat.zero_le _, rfl, HT.out, hbt, hbm, HB.out⟩
  case round =>
    obtain ⟨k, hk, rfl, HD⟩ := hrel
    have hB := HD.out.b
    by_cases hlt : k < l.length
    · obtain ⟨b, o, rfl, h1, h2, h3⟩ := RdO.at HV.out hB hlt
      have HPT := hid_ (playF_take hlt)
      have HO := hid_ (HOK.out _ (List.getElem_mem hlt))
      obtain ⟨s, hs⟩ : ∃ s, l[k] = s := ⟨_, rfl⟩
      rw [hs] at h1 h2 h3 HPT HO
      clear hs
      have hk0 := HO.out.1.1
      have hk1 := HO.out.1.2
      by_cases c0 : s.k = 0
      · have d0 : (s.k == 0) = true := by simp [c0]
        have hBd : Below w.heap.size w wr.drew := hB.drew
        have HTd := hid_ (HD.out.t.mono (w' := wr.drew) (Below.refl _ _).drew)
        have hd1 : wr.drew.cell? ⟨b, o + k * 3 + 1, none⟩ = some (vz s.key) := h2
        have hd2 : wr.drew.cell? ⟨b, o + k * 3 + 2, none⟩ = some (vz s.lane) := h3
        have HS : Hid (playF (l.take (k + 1)) = lockF (playF (l.take k)) s.key s.lane) := by show _ = _; rw [HPT.out, stepF, if_pos c0]
        go_upto_region 9 with (fail)
        go_region_held3 (fun W' => W'.cell? ⟨b, o + k * 3 + 1, none⟩ = some (vz s.key) ∧ W'.cell? ⟨b, o + k * 3 + 2, none⟩ = some (vz s.lane))
          (exact ⟨hd1, hd2⟩)
          ((go_at_call 44; refine (lock_c tb mb k _ s.key s.lane _ HTd.out HO.out.2.1 (by omega)).mono ?_; rintro e w2 ⟨rfl, ht, hg⟩; have HT2 := hid_ ht; have HG2 := hid_ (below_gb hBd hg hbm); replace hd1 := gcell hg hd1 (map_ne HTd.out.om hd1); replace hd2 := gcell hg hd2 (map_ne HTd.out.om hd2); clear ht hg))
        go_wp2
        go_roundw
        case rel => exact ⟨k + 1, by omega, by go_num, ⟨by rw [HS.out]; exact HT2.out, hbt, hbm, HG2.out⟩⟩
        case measure => simp [intOf]; omega
      · have d0 : (s.k == 0) = false := by simp [c0]
        by_cases c3 : s.k = 3
        · have d3 : (s.k == 3) = true := by simp [c3]
          have HS : Hid (playF (l.take (k + 1)) = relF (playF (l.take k)) s.lane) := by show _ = _; rw [HPT.out, stepF, if_neg c0, if_pos c3]
          go_wp2_with (go_at_call 46; refine (release_c tb mb k _ s.lane _ HD.out.t (by omega)).mono ?_; rintro e w2 ⟨hs, rfl, _, ht, hg⟩; have HT2 := hid_ ht; have HG2 := hid_ (below_gb hB hg hbm); clear ht hg)
          go_roundw
          case rel => exact ⟨k + 1, by omega, by go_num, ⟨⟨HT2.out.cell, by rw [HS.out]; exact HT2.out.om.size (Nat.le_succ _)⟩, hbt, hbm, HG2.out⟩⟩
          case measure => simp [intOf]; omega
        · have d3 : (s.k == 3) = false := by simp [c3]
          have HS : Hid (playF (l.take (k + 1)) = playF (l.take k)) := by show _ = _; rw [HPT.out, stepF, if_neg c0, if_neg c3]
          go_wp2
          go_roundw
          case rel => exact ⟨k + 1, by omega, by go_num, ⟨⟨HD.out.t.cell, by rw [HS.out]; exact HD.out.t.om.size (Nat.le_succ _)⟩, hbt, hbm, hB⟩⟩
          case measure => simp [intOf]; omega
    · obtain rfl : k = l.length := by omega
      rw [List.take_length] at HD
      go_wp2
      go_ret
      exact ⟨tb, mb, rfl, HD.out⟩

/-! ### awake -/
def F1 : Int → Option Int := lockF noF 5 1
def F3 : Int → Option Int := relF F1 1
def F4 : Int → Option Int := lockF F3 5 2
theorem F1_e (x : Int) : F1 x = if x = 5 then some 1 else none := by simp [F1, lockF, lockOk, noF, updZ]
theorem F1_l : lockOk noF 5 1 = true ∧ lockOk F1 5 2 = false := by
  constructor
  · rfl
  · simp [lockOk, F1_e]
theorem F2_e : lockF F1 5 2 = F1 := by rw [lockF, F1_l.2]; rfl
theorem F3_e (x : Int) : F3 x = none := by
  simp only [F3, relF, F1_e]
  by_cases h : x = 5 <;> simp [h]
theorem F4_e (x : Int) : F4 x = if x = 5 then some 2 else none := by
  have h : lockOk F3 5 2 = true := by simp [lockOk, F3_e]
  rw [F4, lockF, h]
  simp [updZ, F3_e]
theorem F4_l : lockOk F3 5 2 = true ∧ F4 5 = some 2 := by
  constructor
  · simp [lockOk, F3_e]
  · simp [F4_e]
theorem F1_h : HeldOf F1 1 [5] := ⟨by simp, fun x => by rw [F1_e]; by_cases h : x = 5 <;> simp [h]⟩
theorem F4_h : HeldOf F4 2 [5] := ⟨by simp, fun x => by rw [F4_e]; by_cases h : x = 5 <;> simp [h]⟩
theorem RdI.new (w : World) (l : List Int) (hl : l.length ≤ 1000000) : RdI (w.alloc (.cells (l.map vz).toArray 3)) (.slice (some ⟨w.heap.size, 0, none⟩) l.length l.length) l := by
  refine ⟨_, _, rfl, Nat.le_refl _, by omega, fun j hj => ⟨w.heap.size, 0, rfl, fun i u hu => ?_⟩⟩
  have hi : i = 0 := by have := (List.getElem?_eq_some_iff.1 hu).1; simp [encI] at this; exact this
  subst hi
  simp [encI] at hu
  subst hu
  exact cell_new _ (by simp [hj])

set_option maxHeartbeats 4000000 in
set_option maxRecDepth 100000 in
theorem awake18_c (w : World) : Calls Try.prog 42 #[] w fun e w' => e = .returned (.bool true) ∧ Below w.heap.size w w' := by
  have L1 := hid_ F1_l; have L2 := hid_ F2_e; have L4 := hid_ F4_l; have H1 := hid_ F1_h; have H4 := hid_ F4_h
  have z5 : InZ 5 := ⟨by decide, by decide⟩
  have HS1 : Hid (∀ W : World, RdI (W.alloc (.cells #[.int .i64 5] 3)) (.slice (some ⟨W.heap.size, 0, none⟩) 1 1) [5]) := fun W => RdI.new W [5] (by decide)
  have tok1 : True := trivial
  have tok2 : True := trivial
  go_enter Try.func42, Try.ntmps42
  go_wp2_with (first
    | (go_at_call 43; refine (lnew_c _).mono ?_; rintro e w1 ⟨rfl, ht, hb⟩; have HT := hid_ ht; have HB := hid_ hb; clear ht hb)
    | (go_at_call 44; have _t := tok1; refine (lock_c _ _ 0 noF 5 1 _ HT.out z5 (by decide)).mono ?_; rintro e w2 ⟨rfl, ht, hg⟩; rw [L1.out.1]; replace HT := hid_ (show Tab w2 _ _ 1 F1 from ht); replace HB := hid_ (below_gb HB.out hg (Nat.le_refl _)); clear ht hg tok1)
    | (go_at_call 44; have _t := tok2; refine (lock_c _ _ 1 F1 5 2 _ HT.out z5 (by decide)).mono ?_; rintro e w2 ⟨rfl, ht, hg⟩; rw [L2.out] at ht; rw [L1.out.2]; replace HT := hid_ ht; replace HB := hid_ (below_gb HB.out hg (Nat.le_refl _)); clear ht hg tok2)
    | (go_at_call 46; refine (release_c _ _ 2 F1 1 _ HT.out (by decide)).mono ?_; rintro e w2 ⟨hs, rfl, hh, ht, hg⟩; obtain rfl := hh.uniq H1.out; replace HT := hid_ (show Tab w2 _ _ 2 F3 from ht); replace HB := hid_ (below_gb HB.out hg (Nat.le_refl _)); clear ht hg hh)
    | (go_at_call 44; refine (lock_c _ _ 2 F3 5 2 _ HT.out z5 (by decide)).mono ?_; rintro e w2 ⟨rfl, ht, hg⟩; rw [L4.out.1]; replace HT := hid_ (show Tab w2 _ _ 3 F4 from ht); replace HB := hid_ (below_gb HB.out hg (Nat.le_refl _)); clear ht hg)
    | (go_at_call 48; refine (owner_c _ _ 3 F4 5 _ HT.out z5).mono ?_; rintro e w2 ⟨rfl, hb⟩; rw [L4.out.2]; replace HT := hid_ (HT.out.mono hb); replace HB := hid_ (btr HB.out hb); clear hb)
    | (go_at_call 51; refine (held_c _ _ 3 F4 2 _ HT.out (by decide)).mono ?_; rintro e w2 ⟨v, hs, rfl, hh, _, hO, hb⟩; obtain rfl := hh.uniq H4.out; have HR := hid_ (RdI.own hO rfl); replace HB := hid_ (btr HB.out hb); clear hb hO hh)
    | (go_at_call 50; refine (ints_c [5] [5] _ _ _ (HR.out.mono (balloc' _ _)) (HS1.out _)).mono ?_; rintro e w2 ⟨rfl, hb⟩; rw [decide_eq_true rfl]; replace HB := hid_ (btr HB.out (btr (balloc' _ _) hb)); clear hb))
  go_ret
  exact ⟨rfl, HB.out⟩
end Go.Proofs.Ytncdkbhkjamdpaa
