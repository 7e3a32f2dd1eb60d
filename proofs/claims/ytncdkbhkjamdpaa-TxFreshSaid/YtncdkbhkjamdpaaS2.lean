/- The walks of span.Total and of the reference's Right, Same, Made: what each answers, on lists. -/
import Derived.Test.YtncdkbhkjamdpaaS1
namespace Go.Proofs.Ytncdkbhkjamdpaa
open Go.RowKit

/-! ### Total -/
def totW (l : List Sp) : Int := l.foldl (fun a s => wrap64 (a + s.m)) 0
theorem totW_take {l : List Sp} {k : Nat} (hk : k < l.length) : totW (l.take (k + 1)) = wrap64 (totW (l.take k) + l[k].m) := by
  unfold totW
  rw [List.take_add_one, List.getElem?_eq_getElem hk]
  simp only [Option.toList_some, List.foldl_append, List.foldl_cons, List.foldl_nil]

set_option maxHeartbeats 400000 in
theorem total_c (l : List Sp) (v : Value) (w : World) (hv : RdS w v l) :
    Calls Try.prog 25 #[v] w fun e w' => e = .returned (.int .i64 (totW l)) ∧ Below w.heap.size w w' := by
  have HV := hid_ hv
  obtain ⟨A, c, rfl, hl, hl', _⟩ := hv
  go_enter Try.func25, Try.ntmps25
  go_wp2
  go_loopw [3, 8] (fun n i wr => ∃ k : Nat, k ≤ l.length ∧ i = .int .i64 k ∧ n = .int .i64 (totW (l.take k)) ∧ Below w.heap.size w wr) (fun _ i _ => l.length - (intOf i).toNat)
  case atStart => exact ⟨0, Nat.zero_le _, rfl, rfl, Below.refl _ _⟩
  case round =>
    obtain ⟨k, hk, rfl, rfl, hB⟩ := hrel
    by_cases hlt : k < l.length
    · obtain ⟨b, o, rfl, h1, h2⟩ := RdS.at HV.out hB hlt
      have HT := hid_ (totW_take hlt)
      generalize l[k] = s at *
      go_wp2
      go_roundw
      case rel => exact ⟨k + 1, by omega, by go_num, by rw [HT.out], balloc hB _⟩
      case measure => simp [intOf]; omega
    · go_wp2
      go_ret
      obtain rfl : k = l.length := by omega
      exact ⟨by rw [List.take_length]; rfl, hB⟩

/-! ### the reference's Right -/
set_option maxHeartbeats 1000000 in
theorem rright_c (l : List Sp) (v : Value) (w : World) (hv : RdS w v l) (hb : BdL l) :
    Calls Try.prog 23 #[v] w fun e w' => e = .returned (.bool (rightB l)) ∧ Below w.heap.size w w' := by
  have HV := hid_ hv
  obtain ⟨A, c, rfl, hl, hl', _⟩ := hv
  go_enter Try.func23, Try.ntmps23
  go_wp2
  have HB := hid_ hb
  clear hb
  go_loopw [3] (fun i wr => ∃ k : Nat, k ≤ l.length ∧ i = .int .i64 k ∧ Hid (∀ j (hj : j < l.length), j < k → okAt l j hj) ∧ Below w.heap.size w wr) (fun i _ => l.length - (intOf i).toNat)
  case atStart => exact ⟨0, Nat.zero_le _, rfl, by simp [Hid], Below.refl _ _⟩
  case round =>
    obtain ⟨k, hk, rfl, hh, hB⟩ := hrel
    by_cases hlt : k < l.length
    · obtain ⟨b, o, rfl, h1, h2⟩ := RdS.at HV.out hB hlt
      obtain ⟨g1, g2, g3, g4⟩ := HB.out.at hlt
      obtain ⟨s, hs⟩ : ∃ s, l[k] = s := ⟨_, rfl⟩
      rw [hs] at h1 h2 g1 g2 g3 g4
      have HS := hid_ hs
      clear hs
      have HN := hid_ hB
      have e1 := Ext.cell h1
      have e2 := Ext.cell h2
      by_cases hm : s.m < 1
      · have hmd : decide (s.m < 1) = true := by simpa using hm
        go_wp2
        go_ret
        exact ⟨by rw [rightB_false hlt (by rintro ⟨h, _⟩; rw [HS.out] at h; omega)]; rfl, HN.out⟩
      · have hmd : decide (s.m < 1) = false := by simpa using hm
        rcases Nat.eq_zero_or_pos k with hk0 | hk0
        · subst hk0
          simp only [Nat.zero_mul, Nat.add_zero] at h1 h2 e1 e2
          go_wp2
          refine wp_region_ext (by kernel_rfl) (by kernel_rfl) ?_
          repeat (first | go_big_quiet_skip | (go_big_quiet_want; go_big_quiet_op; first | go_big_quiet_on | (apply Exists.intro; refine ⟨fun _ => ?_, ?_⟩; (focus (fail)); go_big_quiet_on)))
          refine wpQuiet_nil ?_
          intro wq hw'
          obtain ⟨pq, rfl⟩ := hw'
          go_wp2
          go_roundw
          case rel =>
            refine ⟨1, by omega, by go_num, fun j hj hjk => ?_, btr HN.out pq.h⟩
            obtain rfl : j = 0 := by omega
            exact ⟨by rw [HS.out]; omega, fun i hi => by omega⟩
          case measure => simp [intOf]; omega
        · obtain ⟨b', o', he, h1', h2'⟩ := RdS.at HV.out hB (show k - 1 < l.length by omega)
          obtain ⟨rfl, rfl⟩ : b' = b ∧ o' = o := by injection he with he; injection he with h1 h2; exact ⟨h1.symm, h2.symm⟩
          clear he
          obtain ⟨g1', g2', g3', g4'⟩ := HB.out.at (show k - 1 < l.length by omega)
          obtain ⟨s', hs'⟩ : ∃ s, l[k - 1] = s := ⟨_, rfl⟩
          rw [hs'] at h1' h2' g1' g2' g3' g4'
          have HS' := hid_ hs'
          clear hs'
          have hi1 : (0:Int) ≤ (k:Int) - 1 := by omega
          have hi2 : (k:Int) - 1 < (l.length : Int) := by omega
          have hn1 : ((k:Int) - 1).toNat = k - 1 := by omega
          have e1' := Ext.cell h1'
          have e2' := Ext.cell h2'
          by_cases hcmp : s.f - s'.f ≤ s'.m
          all_goals
            have hw1 : IntKind.i64.wrap ((k:Int) - 1) = (k:Int) - 1 := wrap_in (by omega) (by omega)
            have hw2 : IntKind.i64.wrap (s.f - s'.f) = s.f - s'.f := wrap_in (by omega) (by omega)
            go_wp2
            refine wp_region_ext (by kernel_rfl) (by kernel_rfl) ?_
            repeat (first | go_big_quiet_skip | (go_big_quiet_want; go_big_quiet_op; first | go_big_quiet_on | (apply Exists.intro; refine ⟨fun _ => ?_, ?_⟩; (focus (fail)); go_big_quiet_on)))
            refine wpQuiet_nil ?_
            intro wq hw'
            obtain ⟨pq, rfl⟩ := hw'
          · go_wp2
            go_ret
            have hno : ¬ okAt l k hlt := by
              rintro ⟨_, h⟩
              have := h (k - 1) (by omega)
              rw [HS.out, HS'.out] at this
              omega
            exact ⟨by rw [rightB_false hlt hno]; rfl, btr HN.out pq.h⟩
          · go_wp2
            go_roundw
            case rel =>
              refine ⟨k + 1, by omega, by go_num, fun j hj hjk => ?_, btr HN.out pq.h⟩
              by_cases hjk' : j < k
              · exact hh.out j hj hjk'
              · obtain rfl : j = k := by omega
                refine ⟨by rw [HS.out]; omega, fun i hi => ?_⟩
                obtain rfl : i = j - 1 := by omega
                rw [HS.out, HS'.out]; omega
            case measure => simp [intOf]; omega
    · go_wp2
      go_ret
      exact ⟨by rw [rightB_true fun j hj => hh.out j hj (by omega)]; rfl, hB⟩

/-! ### Same -/
set_option maxHeartbeats 400000 in
theorem same_c (x y : List Sp) (v u : Value) (w : World) (hv : RdS w v x) (hu : RdS w u y) :
    Calls Try.prog 28 #[v, u] w fun e w' => e = .returned (.bool (decide (x = y))) ∧ Below w.heap.size w w' := by
  have HV := hid_ hv
  have HU := hid_ hu
  obtain ⟨A, c, rfl, hl, hl', _⟩ := hv
  obtain ⟨A2, c2, rfl, hl2, hl2', _⟩ := hu
  by_cases hlen : x.length = y.length
  · rw [← hlen] at HU hl2 ⊢
    have HL := hid_ hlen
    clear hlen
    go_enter Try.func28, Try.ntmps28
    go_wp2
    go_loopw [5] (fun i wr => ∃ k : Nat, k ≤ x.length ∧ i = .int .i64 k ∧ Hid (x.take k = y.take k) ∧ Below w.heap.size w wr) (fun i _ => x.length - (intOf i).toNat)
    case atStart => exact ⟨0, Nat.zero_le _, rfl, rfl, Below.refl _ _⟩
    case round =>
      obtain ⟨k, hk, rfl, hh, hB⟩ := hrel
      by_cases hlt : k < x.length
      · have hlt' : k < y.length := by rw [← HL.out]; exact hlt
        obtain ⟨b, o, rfl, h1, h2⟩ := RdS.at HV.out hB hlt
        obtain ⟨b2, o2, rfl, h3, h4⟩ := RdS.at HU.out hB hlt'
        have HN := hid_ hB
        have e1 := Ext.cell h1
        have e2 := Ext.cell h2
        have e3 := Ext.cell h3
        have e4 := Ext.cell h4
        have HT : Hid (x.take (k + 1) = x.take k ++ [x[k]]) := by rw [List.take_add_one, List.getElem?_eq_getElem hlt]; rfl
        have HT' : Hid (y.take (k + 1) = y.take k ++ [y[k]]) := by rw [List.take_add_one, List.getElem?_eq_getElem hlt']; rfl
        have HY : Hid (x = y → x[k] = y[k]) := fun h => by subst h; rfl
        generalize x[k] = s at *
        generalize y[k] = t at *
        obtain ⟨sf, sm⟩ := s
        obtain ⟨tf, tm⟩ := t
        have hlt'' := hlt'
        clear hlt'
        by_cases he : (⟨sf, sm⟩ : Sp) = ⟨tf, tm⟩
        · injection he with he1 he2
          subst he1
          subst he2
          have hne : ∀ w, (binOp .neq 25 (.agg #[.int .i64 sf, .int .i64 sm]) (.agg #[.int .i64 sf, .int .i64 sm])).run Try.prog w = .ok (.bool false) w := fun w => by rw [neq25]; simp
          go_wp2
          refine wp_region_ext (by kernel_rfl) (by kernel_rfl) ?_
          repeat (first | go_big_quiet_skip | (go_big_quiet_want; go_big_quiet_op; first | go_big_quiet_on | (apply Exists.intro; refine ⟨fun _ => ?_, ?_⟩; (focus (fail)); go_big_quiet_on)))
          refine wpQuiet_nil ?_
          intro wq hw'
          obtain ⟨pq, rfl⟩ := hw'
          go_wp2
          go_roundw
          case rel => exact ⟨k + 1, by omega, by go_num, by show _ = _; rw [HT.out, HT'.out, hh.out], btr HN.out pq.h⟩
          case measure => simp [intOf]; omega
        · have hne : ∀ w, (binOp .neq 25 (.agg #[.int .i64 sf, .int .i64 sm]) (.agg #[.int .i64 tf, .int .i64 tm])).run Try.prog w = .ok (.bool true) w := fun w => by
            rw [neq25]
            have : (sf == tf && sm == tm) = false := by
              simp only [Bool.and_eq_false_iff, beq_eq_false_iff_ne, ne_eq]
              by_cases h : sf = tf
              · exact .inr fun h' => he (by rw [h, h'])
              · exact .inl h
            rw [this]; rfl
          have HE := hid_ he
          clear he
          go_wp2
          refine wp_region_ext (by kernel_rfl) (by kernel_rfl) ?_
          repeat (first | go_big_quiet_skip | (go_big_quiet_want; go_big_quiet_op; first | go_big_quiet_on | (apply Exists.intro; refine ⟨fun _ => ?_, ?_⟩; (focus (fail)); go_big_quiet_on)))
          refine wpQuiet_nil ?_
          intro wq hw'
          obtain ⟨pq, rfl⟩ := hw'
          go_wp2
          go_ret
          exact ⟨by rw [decide_eq_false fun h => HE.out (HY.out h)]; rfl, btr HN.out pq.h⟩
      · go_wp2
        go_ret
        obtain rfl : k = x.length := by omega
        have := hh.out
        rw [List.take_length, HL.out, List.take_length] at this
        exact ⟨by rw [decide_eq_true this]; rfl, hB⟩
  · have hne : ((x.length : Int) == y.length) = false := by simp; omega
    have hne' : ((x.length : Int) != y.length) = true := by simp; omega
    have HL : Hid (¬ x = y) := fun h => hlen (by rw [h])
    go_enter Try.func28, Try.ntmps28
    go_wp2
    go_ret
    exact ⟨by rw [decide_eq_false HL.out]; rfl, Below.refl _ _⟩

end Go.Proofs.Ytncdkbhkjamdpaa
