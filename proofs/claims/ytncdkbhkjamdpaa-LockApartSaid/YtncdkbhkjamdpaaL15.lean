/- The walk of the statement LockHeld: it returns true. -/
import Derived.Test.YtncdkbhkjamdpaaL14
namespace Go.Proofs.Ytncdkbhkjamdpaa
open Go.RowKit Go.Maps

set_option maxHeartbeats 4000000 in
set_option maxRecDepth 100000 in
theorem lockHeld_walk (l : List O18) (v : Value) (a b : Int) (w : World) (hv : RdO w v l) (hb : ∀ o ∈ l, o.Ok) (hn : l.length * 24 ≤ 140737488351232) :
    Calls Try.prog 15 #[v, vz a, vz b] w fun e w' => e = .returned (.bool true) ∧ Below w.heap.size w w' := by
  have HV := hid_ hv
  have HOK := hid_ hb
  clear hb
  obtain ⟨A, c, rfl, hl, hl', _⟩ := hv
  by_cases hlen : 60 < l.length
  · go_enter Try.func15, Try.ntmps15
    go_wp2_with (first
      | (go_at_call 42; refine (awake18_c _).mono ?_; rintro e w1 ⟨rfl, hb⟩; have HV1 := hid_ (HV.out.mono hb); have B1 := hid_ hb; clear hb)
      | (go_at_call 53; refine (done_c l _ _ HV1.out HOK.out (by omega)).mono ?_; rintro e w2 ⟨tb, mb, rfl, hd⟩; have B2 := hid_ (btr B1.out hd.b); clear hd))
    go_ret
    exact ⟨rfl, B2.out⟩
  · obtain ⟨f, hf⟩ : ∃ f, playF l = f := ⟨_, rfl⟩
    have HF := hid_ hf
    clear hf
    have tok1 : True := trivial
    have haa : (a == a) = true := by simp
    go_enter Try.func15, Try.ntmps15
    go_wp2_with (first
      | (go_at_call 42; refine (awake18_c _).mono ?_; rintro e w1 ⟨rfl, hb⟩; have HV1 := hid_ (HV.out.mono hb); have B1 := hid_ hb; clear hb)
      | (go_at_call 53; refine (done_c l _ _ HV1.out HOK.out (by omega)).mono ?_; rintro e w2 ⟨tb, mb, rfl, hd⟩; rw [HF.out] at hd; have HT := hid_ hd.t; have B2 := hid_ (btr B1.out hd.b); clear hd)
      | (go_at_call 51; have _t := tok1; refine (held_c _ _ l.length f a _ HT.out (by omega)).mono ?_; rintro e w3 ⟨vx, xs, rfl, hh, hxl, hO, hb⟩; have HX := hid_ hh; have HF0 := hid_ (show ∀ x, ((f x).map vz).isSome = true → InZ x from HT.out.om.inz); have RX := hid_ (RdI.own hO rfl); obtain ⟨Ax, cx, rfl, hx1, hx2, _⟩ := id RX.out; replace HT := hid_ (HT.out.mono hb); replace B2 := hid_ (btr B2.out hb); clear hh hO hb tok1)
      | (go_at_call 51; refine (held_c _ _ l.length f b _ HT.out (by omega)).mono ?_; rintro e w4 ⟨vy, ys, rfl, hh, hyl, hO, hb⟩; have HY := hid_ hh; have RY := hid_ (RdI.own hO rfl); obtain ⟨Ay, cy, rfl, hy1, hy2, _⟩ := id RY.out; replace RX := hid_ (RX.out.mono hb); replace HT := hid_ (HT.out.mono hb); replace B2 := hid_ (btr B2.out hb); clear hh hO hb))
    go_loopw [11] (fun i wr => ∃ k : Nat, k ≤ xs.length ∧ i = .int .i64 k ∧ Below w4.heap.size w4 wr) (fun i _ => xs.length - (intOf i).toNat)
    case atStart => exact ⟨0, Nat.zero_le _, rfl, Below.refl _ _⟩
    case round =>
      obtain ⟨k, hk, rfl, hB⟩ := hrel
      by_cases hlt : k < xs.length
      · obtain ⟨b1, o1, rfl, h1⟩ := RdI.at RX.out hB hlt
        have hfx := (HX.out.mem xs[k]).1 (List.getElem_mem hlt)
        have HZ := hid_ (HF0.out xs[k] (by simp [hfx]))
        have HTT := hid_ (HT.out.mono hB)
        have HFX := hid_ hfx
        have HNE : Hid (a ≠ b → ∀ y ∈ ys, xs[k] ≠ y) := by
          intro hab y hy e
          have h2 := (HY.out.mem y).1 hy
          rw [← e, hfx] at h2
          exact hab (Option.some.inj h2)
        obtain ⟨x, hx⟩ : ∃ x, xs[k] = x := ⟨_, rfl⟩
        rw [hx] at h1 HZ HFX HNE
        have HXK := hid_ hx
        clear hfx hx
        have haa' : (a != a) = false := by simp
        go_wp2_with (go_at_call 48; refine (owner_c _ _ _ f x _ HTT.out HZ.out).mono ?_; rintro e w5 ⟨rfl, hb⟩; rw [HFX.out]; have B5 := hid_ (btr hB hb); have h5 := cmono hb h1; clear hb)
        go_loopw [12] (fun i wr => ∃ j : Nat, j ≤ ys.length ∧ i = .int .i64 j ∧ Below w5.heap.size w5 wr) (fun i _ => ys.length - (intOf i).toNat)
        case atStart => exact ⟨0, Nat.zero_le _, rfl, Below.refl _ _⟩
        case round =>
          obtain ⟨j, hj, rfl, hB6⟩ := hrel
          by_cases hlt2 : j < ys.length
          · obtain ⟨b2, o2, rfl, h2⟩ := RdI.at RY.out (btr B5.out hB6) hlt2
            have h7 := cmono hB6 h5
            have HNY : Hid (a ≠ b → x ≠ ys[j]) := fun hab => HNE.out hab _ (List.getElem_mem hlt2)
            generalize ys[j] = y at h2 HNY
            have e1 := Ext.cell h7
            have e2 := Ext.cell h2
            have HN := hid_ hB6
            by_cases hab : a = b
            · have hab' : (a != b) = false := by simp [hab]
              go_wp2
              refine wp_region_ext (by kernel_rfl) (by kernel_rfl) ?_
              repeat (first | go_big_quiet_skip | (go_big_quiet_want; go_big_quiet_op; first | go_big_quiet_on | (apply Exists.intro; refine ⟨fun _ => ?_, ?_⟩; (focus (fail)); go_big_quiet_on)))
              refine wpQuiet_nil ?_
              intro wq hw'
              obtain ⟨pq, rfl⟩ := hw'
              go_wp2
              go_roundw
              case rel => exact ⟨j + 1, by omega, by go_num, btr HN.out pq.h⟩
              case measure => simp [intOf]; omega
            · have hab' : (a != b) = true := by simpa using hab
              have hxy : (x == y) = false := by simpa using HNY.out hab
              go_wp2
              refine wp_region_ext (by kernel_rfl) (by kernel_rfl) ?_
              repeat (first | go_big_quiet_skip | (go_big_quiet_want; go_big_quiet_op; first | go_big_quiet_on | (apply Exists.intro; refine ⟨fun _ => ?_, ?_⟩; (focus (fail)); go_big_quiet_on)))
              refine wpQuiet_nil ?_
              intro wq hw'
              obtain ⟨pq, rfl⟩ := hw'
              go_wp2
              go_roundw
              case rel => exact ⟨j + 1, by omega, by go_num, btr HN.out pq.h⟩
              case measure => simp [intOf]; omega
          · go_wp2
            go_roundw
            case rel => exact ⟨k + 1, by omega, by go_num, btr B5.out hB6⟩
            case measure => simp [intOf]; omega
      · have R1 := hid_ (RX.out.mono hB)
        have R2 := hid_ (RY.out.mono hB)
        have B3 := hid_ (btr B2.out hB)
        by_cases hab : a = b
        · have hab' : (a != b) = false := by simp [hab]
          have HE : Hid (xs = ys) := by show _ = _; subst hab; exact HX.out.uniq HY.out
          go_wp2_with (go_at_call 50; refine (ints_c xs ys _ _ _ R1.out R2.out).mono ?_; rintro e w5 ⟨rfl, hb⟩; rw [decide_eq_true HE.out]; replace B3 := hid_ (btr B3.out hb); clear hb)
          go_ret
          exact ⟨rfl, B3.out⟩
        · have hab' : (a != b) = true := by simpa using hab
          go_wp2
          go_ret
          exact ⟨rfl, B3.out⟩
end Go.Proofs.Ytncdkbhkjamdpaa
