/- The walk of the reference's Words (two lists, one?). -/
import Derived.Test.YtncdkbhkjamdpaaD9
namespace Go.Proofs.Ytncdkbhkjamdpaa
open Go.RowKit Go.Maps

/-! ### Words, compared -/
set_option maxHeartbeats 1000000 in
theorem wordsEq_c (x y : List Int) (v u : Value) (w : World) (hv : RdU w v x) (hu : RdU w u y) :
    Calls Try.prog 57 #[v, u] w fun e w' => e = .returned (.bool (decide (x = y))) ∧ Below w.heap.size w w' := by
  have HV := hid_ hv
  have HU := hid_ hu
  obtain ⟨A, c, rfl, hl, hl', _⟩ := hv
  obtain ⟨A2, c2, rfl, hl2, hl2', _⟩ := hu
  by_cases hlen : x.length = y.length
  · rw [← hlen] at HU hl2 ⊢
    have HL := hid_ hlen
    clear hlen
    go_enter Try.func57, Try.ntmps57
    go_wp2
    go_loopw [5] (fun i wr => ∃ k : Nat, k ≤ x.length ∧ i = .int .i64 k ∧ Hid (x.take k = y.take k) ∧ Below w.heap.size w wr) (fun i _ => x.length - (intOf i).toNat)
    case atStart => exact ⟨0, Nat.zero_le _, rfl, rfl, Below.refl _ _⟩
    case round =>
      obtain ⟨k, hk, rfl, hh, hB⟩ := hrel
      by_cases hlt : k < x.length
      · have hlt' : k < y.length := by rw [← HL.out]; exact hlt
        obtain ⟨b, o, rfl, h1⟩ := RdU.at HV.out hB hlt
        obtain ⟨b2, o2, rfl, h3⟩ := RdU.at HU.out hB hlt'
        have HN := hid_ hB
        have e1 := Ext.cell h1
        have e3 := Ext.cell h3
        have HT : Hid (x.take (k + 1) = x.take k ++ [x[k]]) := by rw [List.take_add_one, List.getElem?_eq_getElem hlt]; rfl
        have HT' : Hid (y.take (k + 1) = y.take k ++ [y[k]]) := by rw [List.take_add_one, List.getElem?_eq_getElem hlt']; rfl
        have HY : Hid (x = y → x[k] = y[k]) := fun h => by subst h; rfl
        generalize x[k] = s at *
        generalize y[k] = t at *
        have hlt'' := hlt'
        clear hlt'
        by_cases he : s = t
        · subst he
          have hne : (s != s) = false := by simp
          go_wp2
          refine wp_region_ext (by kernel_rfl) (by kernel_rfl) ?_
          repeat (first | go_big_quiet_skip | (go_big_quiet_want; go_big_quiet_op; first | go_big_quiet_on | (apply Exists.intro; refine ⟨fun _ => ?_, ?_⟩; (focus (fail)); go_big_quiet_on)))
          refine wpQuiet_nil ?_
          intro wq hw'
          obtain ⟨pq, rfl⟩ := hw'
          go_wp2
          go_roundw
          case rel => exact ⟨k + 1, by omega, by go_num, by show _ = _; rw [HT.out, HT'.out, hh.out], btr HN.out pq.h⟩
          case measure => simp [intOf]; omega
        · have hne : (s != t) = true := by simpa using he
          have HE := hid_ he
          clear he
          go_wp2
          refine wp_region_ext (by kernel_rfl) (by kernel_rfl) ?_
          repeat (first | go_big_quiet_skip | (go_big_quiet_want; go_big_quiet_op; first | go_big_quiet_on | (apply Exists.intro; refine ⟨fun _ => ?_, ?_⟩; (focus (fail)); go_big_quiet_on)))
          refine wpQuiet_nil ?_
          intro wq hw'
          obtain ⟨pq, rfl⟩ := hw'
          go_wp2
          go_ret
          exact ⟨by rw [decide_eq_false fun h => HE.out (HY.out h)]; rfl, btr HN.out pq.h⟩
      · go_wp2
        go_ret
        obtain rfl : k = x.length := by omega
        have := hh.out
        rw [List.take_length, HL.out, List.take_length] at this
        exact ⟨by rw [decide_eq_true this]; rfl, hB⟩
  · have hne : ((x.length : Int) == y.length) = false := by simp; omega
    have hne' : ((x.length : Int) != y.length) = true := by simp; omega
    have HL : Hid (¬ x = y) := fun h => hlen (by rw [h])
    go_enter Try.func57, Try.ntmps57
    go_wp2
    go_ret
    exact ⟨by rw [decide_eq_false HL.out]; rfl, Below.refl _ _⟩
end Go.Proofs.Ytncdkbhkjamdpaa
