/- The walk of the statement LockApart: it returns true. -/
import Derived.Test.YtncdkbhkjamdpaaL15
namespace Go.Proofs.Ytncdkbhkjamdpaa
open Go.RowKit Go.Maps

theorem owner_some (tb mb n : Nat) (f : Int → Option Int) (k a : Int) (w : World) (h : Tab w tb mb n f) (hk : InZ k) (hf : f k = some a) :
    Calls Try.prog 48 #[.pointer (some ⟨tb, 0, none⟩), vz k] w fun e w' => e = .returned (vz a) ∧ Below w.heap.size w w' := by
  have := owner_c tb mb n f k w h hk
  rw [hf] at this
  exact this
/-- The lane's keys are the same ones. -/
def Alike (f g : Int → Option Int) (a : Int) : Prop := ∀ x, g x = some a ↔ f x = some a
theorem alike_lock {f g : Int → Option Int} {a k o : Int} (h : Alike f g a) (ho : o ≠ a) : Alike f (lockF g k o) a := by
  intro x
  rw [← h x]
  cases hq : lockOk g k o with
  | false => rw [lockF, if_neg (by rw [hq]; decide)]
  | true =>
    rw [lockF, if_pos hq, updZ]
    by_cases hx : x = k
    · subst hx
      rw [if_pos rfl]
      constructor
      · intro e; exact absurd (Option.some.inj e) ho
      · intro e
        rw [lockOk, e] at hq
        simp at hq
        exact absurd hq.symm ho
    · rw [if_neg hx]
theorem alike_rel {f g : Int → Option Int} {a o : Int} (h : Alike f g a) (ho : o ≠ a) : Alike f (relF g o) a := by
  intro x
  rw [← h x, relF]
  by_cases hx : g x = some o
  · rw [if_pos hx, hx]
    constructor
    · intro e; cases e
    · intro e; exact absurd (Option.some.inj e) ho
  · rw [if_neg hx]
theorem alike_held {f g : Int → Option Int} {a : Int} {hs : List Int} (h : Alike f g a) (hh : HeldOf g a hs) : HeldOf f a hs := ⟨hh.up, fun x => by rw [hh.mem, h x]⟩

structure ApartRel (w : World) (tb mb n : Nat) (f : Int → Option Int) (a : Int) (v : Value) (ws : List Int) (wr : World) : Prop where
  ex : ∃ g, Tab wr tb mb n g ∧ Alike f g a
  r : RdI wr v ws
  b : Below w.heap.size w wr

set_option maxHeartbeats 4000000 in
set_option maxRecDepth 100000 in
theorem lockApart_walk (l m : List O18) (v u : Value) (a : Int) (w : World) (hv : RdO w v l) (hu : RdO w u m) (hb : ∀ o ∈ l, o.Ok) (hbm : ∀ o ∈ m, o.Ok) (hn : l.length * 24 ≤ 140737488351232) (hnm : m.length * 24 ≤ 140737488351232) :
    Calls Try.prog 13 #[v, u, vz a] w fun e w' => e = .returned (.bool true) ∧ Below w.heap.size w w' := by
  have HV := hid_ hv
  have HOK := hid_ hb
  have HU := hid_ hu
  have HOM := hid_ hbm
  clear hb hbm
  obtain ⟨A, c, rfl, hl, hl', _⟩ := hv
  obtain ⟨A2, c2, rfl, hl2, hl2', _⟩ := hu
  have cs : 60 < l.length ∨ (l.length ≤ 60 ∧ 60 < m.length) ∨ (l.length ≤ 60 ∧ m.length ≤ 60) := by omega
  rcases cs with h | ⟨h, h'⟩ | ⟨h, h'⟩
  · go_enter Try.func13, Try.ntmps13
    go_wp2_with (first
      | (go_at_call 42; refine (awake18_c _).mono ?_; rintro e w1 ⟨rfl, hb⟩; have HV1 := hid_ (HV.out.mono hb); have B1 := hid_ hb; clear hb)
      | (go_at_call 53; refine (done_c l _ _ HV1.out HOK.out (by omega)).mono ?_; rintro e w2 ⟨tb, mb, rfl, hd⟩; have B2 := hid_ (btr B1.out hd.b); clear hd))
    go_ret
    exact ⟨rfl, B2.out⟩
  · go_enter Try.func13, Try.ntmps13
    go_wp2_with (first
      | (go_at_call 42; refine (awake18_c _).mono ?_; rintro e w1 ⟨rfl, hb⟩; have HV1 := hid_ (HV.out.mono hb); have B1 := hid_ hb; clear hb)
      | (go_at_call 53; refine (done_c l _ _ HV1.out HOK.out (by omega)).mono ?_; rintro e w2 ⟨tb, mb, rfl, hd⟩; have B2 := hid_ (btr B1.out hd.b); clear hd))
    go_ret
    exact ⟨rfl, B2.out⟩
  · obtain ⟨f, hf⟩ : ∃ f, playF l = f := ⟨_, rfl⟩
    have HF := hid_ hf
    clear hf
    go_enter Try.func13, Try.ntmps13
    go_wp2_with (first
      | (go_at_call 42; refine (awake18_c _).mono ?_; rintro e w1 ⟨rfl, hb⟩; have HV1 := hid_ (HV.out.mono hb); have B1 := hid_ hb; clear hb)
      | (go_at_call 53; refine (done_c l _ _ HV1.out HOK.out (by omega)).mono ?_; rintro e w2 ⟨tb, mb, rfl, hd⟩; rw [HF.out] at hd; have HT := hid_ hd.t; have B2 := hid_ (btr B1.out hd.b); have HM := hid_ (Nat.le_trans B1.out.size hd.h2); clear hd)
      | (go_at_call 51; refine (held_c _ _ l.length f a _ HT.out (by omega)).mono ?_; rintro e w3 ⟨vx, ws, rfl, hh, hxl, hO, hb⟩; have HX := hid_ hh; have RX := hid_ (RdI.own hO rfl); replace HT := hid_ (HT.out.mono hb); replace B2 := hid_ (btr B2.out hb); clear hh hO hb))
    go_loopw [10] (fun i wr => ∃ k : Nat, k ≤ m.length ∧ i = .int .i64 k ∧ Hid (ApartRel w tb mb (l.length + k) f a vx ws wr)) (fun i _ => m.length - (intOf i).toNat)
    case atStart => exact ⟨0, Nat.zero_le _, rfl, ⟨f, HT.out, fun x => Iff.rfl⟩, RX.out, B2.out⟩
    case round =>
      obtain ⟨k, hk, rfl, HR⟩ := hrel
      obtain ⟨⟨g, ht, hal⟩, hr, hB⟩ := HR.out
      have HTT := hid_ ht; have HAL := hid_ hal; have HRR := hid_ hr
      clear ht hal hr HR
      by_cases hlt : k < m.length
      · obtain ⟨b, o, rfl, h1, h2, h3⟩ := RdO.at HU.out hB hlt
        have HO := hid_ (HOM.out _ (List.getElem_mem hlt))
        generalize m[k] = s at h1 h2 h3 HO
        by_cases hla : s.lane = a
        · have d1 : (s.lane == a) = true := by simp [hla]
          go_wp2
          go_ret
          exact ⟨rfl, hB⟩
        · have d1 : (s.lane == a) = false := by simp [hla]
          by_cases c0 : s.k = 0
          · have d0 : (s.k == 0) = true := by simp [c0]
            have hBd : Below w.heap.size w wr.drew := hB.drew
            have HTd := hid_ (HTT.out.mono (w' := wr.drew) (Below.refl _ _).drew)
            have HRd := hid_ (HRR.out.mono (w' := wr.drew) (Below.refl _ _).drew)
            have hd1 : wr.drew.cell? ⟨b, o + k * 3 + 1, none⟩ = some (vz s.key) := h2
            have hd2 : wr.drew.cell? ⟨b, o + k * 3 + 2, none⟩ = some (vz s.lane) := h3
            go_upto_region 14 with (fail)
            go_region_held3 (fun W' => W'.cell? ⟨b, o + k * 3 + 1, none⟩ = some (vz s.key) ∧ W'.cell? ⟨b, o + k * 3 + 2, none⟩ = some (vz s.lane))
              (exact ⟨hd1, hd2⟩)
              ((go_at_call 44; refine (lock_c tb mb (l.length + k) _ s.key s.lane _ HTd.out HO.out.2.1 (by omega)).mono ?_; rintro e w5 ⟨rfl, ht, hg⟩; have HT2 := hid_ ht; have HG2 := hid_ (below_gb hBd hg HM.out); have HR2 := hid_ (HRd.out.keptM HTd.out.om hg); replace hd1 := gcell hg hd1 (map_ne HTd.out.om hd1); replace hd2 := gcell hg hd2 (map_ne HTd.out.om hd2); clear ht hg))
            go_wp2
            go_roundw
            case rel => exact ⟨k + 1, by omega, by go_num, ⟨_, HT2.out, alike_lock HAL.out hla⟩, HR2.out, HG2.out⟩
            case measure => simp [intOf]; omega
          · have d0 : (s.k == 0) = false := by simp [c0]
            go_wp2_with (go_at_call 46; refine (release_c tb mb _ _ s.lane _ HTT.out (by omega)).mono ?_; rintro e w5 ⟨hs, rfl, _, ht, hg⟩; have HT2 := hid_ ht; have HR2 := hid_ (HRR.out.keptM HTT.out.om hg); have HG2 := hid_ (below_gb hB hg HM.out); clear ht hg)
            go_roundw
            case rel => exact ⟨k + 1, by omega, by go_num, ⟨_, ⟨HT2.out.cell, HT2.out.om.size (Nat.le_succ _)⟩, alike_rel HAL.out hla⟩, HR2.out, HG2.out⟩
            case measure => simp [intOf]; omega
      · obtain rfl : k = m.length := by omega
        go_wp2_with (go_at_call 51; refine (held_c _ _ _ g a _ HTT.out (by omega)).mono ?_; rintro e w6 ⟨vy, ys, rfl, hh, hyl, hO, hb⟩; have HH := hid_ hh; have HE := hid_ (HX.out.uniq (alike_held HAL.out hh)); have HZ0 := hid_ (show ∀ x, ((g x).map vz).isSome = true → InZ x from HTT.out.om.inz); have RY := hid_ (RdI.own hO rfl); obtain ⟨Ay, cy, rfl, hy1, hy2, _⟩ := id RY.out; replace HTT := hid_ (HTT.out.mono hb); replace HRR := hid_ (HRR.out.mono hb); have B6 := hid_ (btr hB hb); clear hh hO hb)
        go_loopw [12] (fun i wr2 => ∃ k : Nat, k ≤ ys.length ∧ i = .int .i64 k ∧ Below w6.heap.size w6 wr2) (fun i _ => ys.length - (intOf i).toNat)
        case atStart => exact ⟨0, Nat.zero_le _, rfl, Below.refl _ _⟩
        case round =>
          obtain ⟨k, hk, rfl, hB7⟩ := hrel
          by_cases hlt : k < ys.length
          · obtain ⟨b, o, rfl, h1⟩ := RdI.at RY.out hB7 hlt
            have hfx := (HH.out.mem ys[k]).1 (List.getElem_mem hlt)
            have HZ := hid_ (HZ0.out ys[k] (by simp [hfx]))
            have HT7 := hid_ (HTT.out.mono hB7)
            have HFX := hid_ hfx
            have HUP : Hid (∀ j (hj : j < k), ys[j] < ys[k]) := fun j hj => List.pairwise_iff_getElem.1 HH.out.up j k (by omega) hlt hj
            obtain ⟨x, hx⟩ : ∃ x, ys[k] = x := ⟨_, rfl⟩
            rw [hx] at h1 HZ HFX HUP
            clear hfx hx
            have haa : (a != a) = false := by simp
            have e1 := Ext.cell h1
            have HN := hid_ hB7
            rcases Nat.eq_zero_or_pos k with hk0 | hk0
            · subst hk0
              simp only [Nat.add_zero] at h1 e1
              go_upto_region 20 with (fail)
              refine wp_region_ext (by kernel_rfl) (by kernel_rfl) ?_
              repeat (first | go_big_quiet_skip | (go_big_quiet_want; go_big_quiet_op; first | go_big_quiet_on | (apply Exists.intro; refine ⟨fun _ => ?_, ?_⟩; (focus (exact Calls.ext (owner_some tb mb _ g x a _ (HT7.out.mono (Ext.h _)) HZ.out HFX.out))); go_big_quiet_on)))
              refine wpQuiet_nil ?_
              intro wq hw'
              obtain ⟨pq, rfl⟩ := hw'
              go_wp2
              go_roundw
              case rel => exact ⟨1, by omega, by go_num, btr HN.out pq.h⟩
              case measure => simp [intOf]; omega
            · obtain ⟨b', o', he, h2⟩ := RdI.at RY.out hB7 (show k - 1 < ys.length by omega)
              obtain ⟨rfl, rfl⟩ : b' = b ∧ o' = o := by injection he with he; injection he with h1 h2; exact ⟨h1.symm, h2.symm⟩
              clear he
              have hxy := HUP.out (k - 1) (by omega)
              generalize ys[k - 1] = y at h2 hxy
              have hi1 : (0:Int) ≤ (k:Int) - 1 := by omega
              have hi2 : (k:Int) - 1 < (ys.length : Int) := by omega
              have hn1 : ((k:Int) - 1).toNat = k - 1 := by omega
              have hw1 : IntKind.i64.wrap ((k:Int) - 1) = (k:Int) - 1 := wrap_in (by omega) (by omega)
              have hle : decide (x ≤ y) = false := by simpa using hxy
              have e2 := Ext.cell h2
              go_upto_region 20 with (fail)
              refine wp_region_ext (by kernel_rfl) (by kernel_rfl) ?_
              repeat (first | go_big_quiet_skip | (go_big_quiet_want; go_big_quiet_op; first | go_big_quiet_on | (apply Exists.intro; refine ⟨fun _ => ?_, ?_⟩; (focus (exact Calls.ext (owner_some tb mb _ g x a _ (HT7.out.mono (Ext.h _)) HZ.out HFX.out))); go_big_quiet_on)))
              refine wpQuiet_nil ?_
              intro wq hw'
              obtain ⟨pq, rfl⟩ := hw'
              go_wp2
              go_roundw
              case rel => exact ⟨k + 1, by omega, by go_num, btr HN.out pq.h⟩
              case measure => simp [intOf]; omega
          · have R1 := hid_ (HRR.out.mono hB7)
            have R2 := hid_ (RY.out.mono hB7)
            have B8 := hid_ (btr B6.out hB7)
            go_wp2_with (go_at_call 50; refine (ints_c ws ys _ _ _ R1.out R2.out).mono ?_; rintro e w8 ⟨rfl, hb⟩; rw [decide_eq_true HE.out]; replace B8 := hid_ (btr B8.out hb); clear hb)
            go_ret
            exact ⟨rfl, B8.out⟩
end Go.Proofs.Ytncdkbhkjamdpaa
