/- The walks of span.end, span.Right, span.Total and of the reference's In, Has, Right, Same: what each answers, on lists of spans. -/
import Derived.Test.YtncdkbhkjamdpaaB0
namespace Go.Proofs.Ytncdkbhkjamdpaa
open Go.RowKit

/-- Numbers that no sum of two carries out of 64 bits. -/
structure Sp.Bd (s : Sp) : Prop where
  f1 : -1000000000000000000 ≤ s.f
  f2 : s.f ≤ 1000000000000000000
  m1 : -1000000000000000000 ≤ s.m
  m2 : s.m ≤ 1000000000000000000
def BdL (l : List Sp) : Prop := ∀ s ∈ l, s.Bd
theorem BdL.at {l : List Sp} (h : BdL l) {k : Nat} (hk : k < l.length) : l[k].Bd := h _ (List.getElem_mem hk)

/-! ### span.end -/
set_option maxHeartbeats 400000 in
theorem end_w (f m : Int) (w : World) :
    Calls Try.prog 77 #[.agg #[.int .i64 f, .int .i64 m]] w fun e w' => e = .returned (.int .i64 (wrap64 (f + m))) ∧ Below w.heap.size w w' := by
  go_enter Try.func77, Try.ntmps77
  go_wp2
  go_ret
  exact ⟨rfl, balloc' _ _⟩
theorem end_c (f m : Int) (w : World) (h1 : -9223372036854775808 ≤ f + m) (h2 : f + m ≤ 9223372036854775807) :
    Calls Try.prog 77 #[.agg #[.int .i64 f, .int .i64 m]] w fun e w' => e = .returned (.int .i64 (f + m)) ∧ Below w.heap.size w w' := by
  have := end_w f m w
  rwa [wrap64_id h1 h2] at this

/-! ### In, Has -/
def inB (s : Sp) (x : Int) : Bool := decide (s.f ≤ x) && decide (x - s.f < s.m)
set_option maxHeartbeats 400000 in
theorem in_c (s : Sp) (x : Int) (w : World) (hb : -9000000000000000000 ≤ x - s.f) (hb' : x - s.f ≤ 9000000000000000000) :
    Calls Try.prog 81 #[.agg #[.int .i64 s.f, .int .i64 s.m], .int .i64 x] w fun e w' => e = .returned (.bool (inB s x)) ∧ Below w.heap.size w w' := by
  by_cases h : s.f ≤ x
  · go_enter Try.func81, Try.ntmps81
    go_wp2
    go_ret
    exact ⟨by simp [inB]; omega, balloc' _ _⟩
  · go_enter Try.func81, Try.ntmps81
    go_wp2
    go_ret
    exact ⟨by simp [inB]; omega, balloc' _ _⟩

def hasB (l : List Sp) (x : Int) : Bool := l.any (fun s => inB s x)
theorem hasB_take {l : List Sp} {x : Int} {k : Nat} (hk : k < l.length) : hasB (l.take (k + 1)) x = (hasB (l.take k) x || inB l[k] x) := by
  unfold hasB
  rw [List.take_add_one, List.getElem?_eq_getElem hk]
  simp only [Option.toList_some, List.any_append, List.any_cons, List.any_nil, Bool.or_false]
theorem hasB_true {l : List Sp} {x : Int} {k : Nat} (hk : k < l.length) (h : inB l[k] x = true) : hasB l x = true :=
  List.any_eq_true.2 ⟨_, List.getElem_mem hk, h⟩

set_option maxHeartbeats 400000 in
theorem has_c (l : List Sp) (v : Value) (x : Int) (w : World) (hv : RdS w v l) (hb : BdL l) (hx : -1000000000000000000 ≤ x) (hx' : x ≤ 1000000000000000000) :
    Calls Try.prog 80 #[v, .int .i64 x] w fun e w' => e = .returned (.bool (hasB l x)) ∧ Below w.heap.size w w' := by
  have HV := hid_ hv
  obtain ⟨A, c, rfl, hl, hl', _⟩ := hv
  go_enter Try.func80, Try.ntmps80
  go_wp2
  have HB := hid_ hb
  clear hb
  go_loopw [5] (fun i wr => ∃ k : Nat, k ≤ l.length ∧ i = .int .i64 k ∧ Hid (hasB (l.take k) x = false) ∧ Below w.heap.size w wr) (fun i _ => l.length - (intOf i).toNat)
  case atStart => exact ⟨0, Nat.zero_le _, rfl, by simp [Hid, hasB], Below.refl _ _⟩
  case round =>
    obtain ⟨k, hk, rfl, hh, hB⟩ := hrel
    by_cases hlt : k < l.length
    · obtain ⟨b, o, rfl, h1, h2⟩ := RdS.at HV.out hB hlt
      obtain ⟨g1, g2, g3, g4⟩ := HB.out.at hlt
      have HT := hid_ (hasB_take (x := x) hlt)
      have HY := hid_ (fun h => hasB_true (x := x) hlt h)
      generalize l[k] = s at *
      cases hi : inB s x with
      | true =>
        have HI := hid_ hi
        clear hi
        go_wp2_with (go_at_call 81; refine (in_c s x _ (by omega) (by omega)).mono ?_; rintro e w' ⟨rfl, hb'⟩; rw [HI.out])
        go_ret
        exact ⟨by rw [HY.out HI.out]; rfl, btr hB hb'⟩
      | false =>
        have HI := hid_ hi
        clear hi
        go_wp2_with (go_at_call 81; refine (in_c s x _ (by omega) (by omega)).mono ?_; rintro e w' ⟨rfl, hb'⟩; rw [HI.out])
        go_roundw
        case rel => exact ⟨k + 1, by omega, by go_num, by show _ = _; rw [HT.out, hh.out, HI.out]; rfl, btr hB hb'⟩
        case measure => simp [intOf]; omega
    · go_wp2
      go_ret
      obtain rfl : k = l.length := by omega
      have := hh.out
      rw [List.take_length] at this
      exact ⟨by rw [this]; rfl, hB⟩

/-! ### Right -/
def okAt (l : List Sp) (j : Nat) (hj : j < l.length) : Prop := 1 ≤ l[j].m ∧ ∀ i (hi : i + 1 = j), (l[i]'(by omega)).f + (l[i]'(by omega)).m < l[j].f
def Right (l : List Sp) : Prop := ∀ j (hj : j < l.length), okAt l j hj
open Classical in
noncomputable def rightB (l : List Sp) : Bool := decide (Right l)
theorem rightB_true {l : List Sp} (h : Right l) : rightB l = true := by simpa [rightB] using h
theorem rightB_false {l : List Sp} {j : Nat} (hj : j < l.length) (h : ¬ okAt l j hj) : rightB l = false := by
  simp only [rightB, decide_eq_false_iff_not]
  exact fun hr => h (hr j hj)
theorem rightB_iff {l : List Sp} : rightB l = true ↔ Right l := by simp [rightB]

set_option maxHeartbeats 1000000 in
theorem right_c (l : List Sp) (v : Value) (w : World) (hv : RdS w v l) (hb : BdL l) :
    Calls Try.prog 24 #[v] w fun e w' => e = .returned (.bool (rightB l)) ∧ Below w.heap.size w w' := by
  have HV := hid_ hv
  obtain ⟨A, c, rfl, hl, hl', _⟩ := hv
  go_enter Try.func24, Try.ntmps24
  go_wp2
  have HB := hid_ hb
  clear hb
  go_loopw [7] (fun i wr => ∃ k : Nat, k ≤ l.length ∧ i = .int .i64 k ∧ Hid (∀ j (hj : j < l.length), j < k → okAt l j hj) ∧ Below w.heap.size w wr) (fun i _ => l.length - (intOf i).toNat)
  case atStart => exact ⟨0, Nat.zero_le _, rfl, by simp [Hid], Below.refl _ _⟩
  case round =>
    obtain ⟨k, hk, rfl, hh, hB⟩ := hrel
    by_cases hlt : k < l.length
    · obtain ⟨b, o, rfl, h1, h2⟩ := RdS.at HV.out hB hlt
      obtain ⟨g1, g2, g3, g4⟩ := HB.out.at hlt
      obtain ⟨s, hs⟩ : ∃ s, l[k] = s := ⟨_, rfl⟩
      rw [hs] at h1 h2 g1 g2 g3 g4
      have HS := hid_ hs
      clear hs
      by_cases hm : s.m < 1
      · have hmd : decide (s.m < 1) = true := by simpa using hm
        go_wp2
        have e1 := Ext.cell (cell_new (wr := wr) (cs := #[.int .i64 s.f, .int .i64 s.m]) (e := 25) 0 rfl)
        have e2 := Ext.cell (cell_new (wr := wr) (cs := #[.int .i64 s.f, .int .i64 s.m]) (e := 25) 1 rfl)
        have HN := hid_ (balloc hB (.cells #[.int .i64 s.f, .int .i64 s.m] 25))
        generalize wr.alloc (.cells #[.int .i64 s.f, .int .i64 s.m] 25) = W at e1 e2 HN ⊢
        refine wp_region_ext (by kernel_rfl) (by kernel_rfl) ?_
        repeat (first | go_big_quiet_skip | (go_big_quiet_want; go_big_quiet_op; first | go_big_quiet_on | (apply Exists.intro; refine ⟨fun _ => ?_, ?_⟩; (focus (fail)); go_big_quiet_on)))
        refine wpQuiet_nil ?_
        intro wq hw'
        obtain ⟨pq, rfl⟩ := hw'
        go_wp2
        go_ret
        exact ⟨by rw [rightB_false hlt (by rintro ⟨h, _⟩; rw [HS.out] at h; omega)]; rfl, btr HN.out pq.h⟩
      · have hmd : decide (s.m < 1) = false := by simpa using hm
        rcases Nat.eq_zero_or_pos k with hk0 | hk0
        · subst hk0
          simp only [Nat.zero_mul, Nat.add_zero] at h1 h2
          go_wp2
          have e1 := Ext.cell (cell_new (wr := wr) (cs := #[.int .i64 s.f, .int .i64 s.m]) (e := 25) 0 rfl)
          have e2 := Ext.cell (cell_new (wr := wr) (cs := #[.int .i64 s.f, .int .i64 s.m]) (e := 25) 1 rfl)
          have HN := hid_ (balloc hB (.cells #[.int .i64 s.f, .int .i64 s.m] 25))
          generalize wr.alloc (.cells #[.int .i64 s.f, .int .i64 s.m] 25) = W at e1 e2 HN ⊢
          refine wp_region_ext (by kernel_rfl) (by kernel_rfl) ?_
          repeat (first | go_big_quiet_skip | (go_big_quiet_want; go_big_quiet_op; first | go_big_quiet_on | (apply Exists.intro; refine ⟨fun _ => ?_, ?_⟩; (focus (fail)); go_big_quiet_on)))
          refine wpQuiet_nil ?_
          intro wq hw'
          obtain ⟨pq, rfl⟩ := hw'
          go_wp2
          go_roundw
          case rel =>
            refine ⟨1, by omega, by go_num, fun j hj hjk => ?_, btr HN.out pq.h⟩
            obtain rfl : j = 0 := by omega
            exact ⟨by rw [HS.out]; omega, fun i hi => by omega⟩
          case measure => simp [intOf]; omega
        · obtain ⟨b', o', he, h1', h2'⟩ := RdS.at HV.out hB (show k - 1 < l.length by omega)
          obtain ⟨rfl, rfl⟩ : b' = b ∧ o' = o := by injection he with he; injection he with h1 h2; exact ⟨h1.symm, h2.symm⟩
          clear he
          obtain ⟨g1', g2', g3', g4'⟩ := HB.out.at (show k - 1 < l.length by omega)
          obtain ⟨s', hs'⟩ : ∃ s, l[k - 1] = s := ⟨_, rfl⟩
          rw [hs'] at h1' h2' g1' g2' g3' g4'
          have HS' := hid_ hs'
          clear hs'
          have hi1 : (0:Int) ≤ (k:Int) - 1 := by omega
          have hi2 : (k:Int) - 1 < (l.length : Int) := by omega
          have hn1 : ((k:Int) - 1).toNat = k - 1 := by omega
          by_cases hcmp : s.f ≤ s'.f + s'.m
          all_goals
            have hw1 : IntKind.i64.wrap ((k:Int) - 1) = (k:Int) - 1 := wrap_in (by omega) (by omega)
            go_wp2
            have e1 := Ext.cell (cell_new (wr := wr) (cs := #[.int .i64 s.f, .int .i64 s.m]) (e := 25) 0 rfl)
            have e2 := Ext.cell (cell_new (wr := wr) (cs := #[.int .i64 s.f, .int .i64 s.m]) (e := 25) 1 rfl)
            have e3 := Ext.cell (cell_old wr (.cells #[.int .i64 s.f, .int .i64 s.m] 25) h1')
            have e4 := Ext.cell (cell_old wr (.cells #[.int .i64 s.f, .int .i64 s.m] 25) h2')
            have HN := hid_ (balloc hB (.cells #[.int .i64 s.f, .int .i64 s.m] 25))
            generalize wr.alloc (.cells #[.int .i64 s.f, .int .i64 s.m] 25) = W at e1 e2 e3 e4 HN ⊢
            refine wp_region_ext (by kernel_rfl) (by kernel_rfl) ?_
            repeat (first | go_big_quiet_skip | (go_big_quiet_want; go_big_quiet_op; first | go_big_quiet_on | (apply Exists.intro; refine ⟨fun _ => ?_, ?_⟩; (focus (exact Calls.ext (end_c _ _ _ (by omega) (by omega)))); go_big_quiet_on)))
            refine wpQuiet_nil ?_
            intro wq hw'
            obtain ⟨pq, rfl⟩ := hw'
          · go_wp2
            go_ret
            have hno : ¬ okAt l k hlt := by
              rintro ⟨_, h⟩
              have := h (k - 1) (by omega)
              rw [HS.out, HS'.out] at this
              omega
            exact ⟨by rw [rightB_false hlt hno]; rfl, btr HN.out pq.h⟩
          · go_wp2
            go_roundw
            case rel =>
              refine ⟨k + 1, by omega, by go_num, fun j hj hjk => ?_, btr HN.out pq.h⟩
              by_cases hjk' : j < k
              · exact hh.out j hj hjk'
              · obtain rfl : j = k := by omega
                refine ⟨by rw [HS.out]; omega, fun i hi => ?_⟩
                obtain rfl : i = j - 1 := by omega
                rw [HS.out, HS'.out]; omega
            case measure => simp [intOf]; omega
    · go_wp2
      go_ret
      exact ⟨by rw [rightB_true fun j hj => hh.out j hj (by omega)]; rfl, hB⟩

end Go.Proofs.Ytncdkbhkjamdpaa
