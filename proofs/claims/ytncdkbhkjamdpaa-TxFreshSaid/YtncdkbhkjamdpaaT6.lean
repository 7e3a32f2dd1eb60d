/- The reference's transaction (chapter 20): own, Freed, find, Made, May, Noted. -/
import Derived.Test.YtncdkbhkjamdpaaT3
namespace Go.Proofs.Ytncdkbhkjamdpaa
open Go.RowKit Go.Maps

theorem in_cb (f m x : Int) (q : Bool) (h : inB ⟨f, m⟩ x = q) (w : World) (hb : -9000000000000000000 ≤ x - f) (hb' : x - f ≤ 9000000000000000000) :
    Calls Try.prog 81 #[.agg #[.int .i64 f, .int .i64 m], .int .i64 x] w fun e w' => e = .returned (.bool q) ∧ Below w.heap.size w w' := by
  have := in_c ⟨f, m⟩ x w hb hb'
  rw [h] at this
  exact this
section
variable {rb : Nat} {wv fv gv : Value} {R : TS}
/-! ### own -/
theorem own_take {L : List Ob} {x : Int} {k : Nat} (hk : k < L.length) : ownB (L.take (k + 1)) x = (ownB (L.take k) x || inB ⟨L[k].at_, L[k].sz + 2⟩ x) := by
  rw [ownB, spsF_take hk, ownB]
  simp only [hasB, List.any_append, List.any_cons, List.any_nil, Bool.or_false]
theorem own_true {L : List Ob} {x : Int} {k : Nat} (hk : k < L.length) (h : inB ⟨L[k].at_, L[k].sz + 2⟩ x = true) : ownB L x = true := by
  rw [ownB, hasB, List.any_eq_true]
  exact ⟨_, List.mem_map.2 ⟨L[k], List.getElem_mem hk, rfl⟩, h⟩
set_option maxHeartbeats 2000000 in
set_option maxRecDepth 100000 in
theorem rown_c (x : Int) (w : World) (h : RTx w rb wv fv gv R) (hok : ∀ f ∈ R.fresh, f.Ok) (hx : -1000000 ≤ x ∧ x ≤ 1000000) :
    Calls Try.prog 122 #[.pointer (some ⟨rb, 0, none⟩), vz x] w fun e w' => e = .returned (.bool (ownB R.fresh x)) ∧ Below w.heap.size w w' := by
  have hc := h.c3
  have H := hid_ h
  have HR := hid_ h.rf
  have HOK := hid_ hok
  obtain ⟨x1, x2⟩ := hx
  obtain ⟨A, c, hfv, hl, hl', _⟩ := id h.rf
  rw [hfv] at HR
  rw [hfv] at hc
  clear h hok hfv
  go_enter Try.func122, Try.ntmps122
  go_wp2
  go_loopw [5] (fun i wr => ∃ k : Nat, k ≤ R.fresh.length ∧ i = .int .i64 k ∧ Hid (ownB (R.fresh.take k) x = false) ∧ Below w.heap.size w wr) (fun i _ => R.fresh.length - (intOf i).toNat)
  case atStart => exact ⟨0, Nat.zero_le _, rfl, rfl, Below.refl _ _⟩
  case round =>
    obtain ⟨k, hk, rfl, hh, hB⟩ := hrel
    have hcr := cmono hB hc
    by_cases hlt : k < R.fresh.length
    · obtain ⟨b, o, rfl, _, _, _, _, _, e5, _, e7, _⟩ := RdF.at HR.out hB hlt
      have HT := hid_ (own_take (x := x) hlt)
      have HTR := hid_ (fun h => own_true (x := x) hlt h)
      have hfo := HOK.out _ (List.getElem_mem hlt)
      have a0 := hfo.a0; have a1 := hfo.a1; have s0 := hfo.s0; have s1 := hfo.s1
      generalize R.fresh[k] = f at *
      clear hfo
      have HN := hid_ hB
      have d3 := Ext.cell hcr
      have d5 := Ext.cell e5
      have d7 := Ext.cell e7
      have hw : IntKind.i64.wrap (f.sz + 2) = f.sz + 2 := wrap_in (by omega) (by omega)
      cases hi : inB ⟨f.at_, f.sz + 2⟩ x with
      | true =>
        have HI := hid_ hi
        have HQ : Hid (ownB R.fresh x = true) := HTR.out hi
        clear hi
        go_wp2
        refine wp_region_ext (by kernel_rfl) (by kernel_rfl) ?_
        repeat (first | go_big_quiet_skip | (go_big_quiet_want; go_big_quiet_op; first | go_big_quiet_on | (apply Exists.intro; refine ⟨fun _ => ?_, ?_⟩; (focus (exact Calls.ext (in_cb f.at_ (f.sz + 2) x _ HI.out _ (by omega) (by omega)))); go_big_quiet_on)))
        refine wpQuiet_nil ?_
        intro wq hw'
        obtain ⟨pq, rfl⟩ := hw'
        go_wp2
        go_ret
        exact ⟨by rw [HQ.out]; rfl, btr HN.out pq.h⟩
      | false =>
        have HI := hid_ hi
        clear hi
        go_wp2
        refine wp_region_ext (by kernel_rfl) (by kernel_rfl) ?_
        repeat (first | go_big_quiet_skip | (go_big_quiet_want; go_big_quiet_op; first | go_big_quiet_on | (apply Exists.intro; refine ⟨fun _ => ?_, ?_⟩; (focus (exact Calls.ext (in_cb f.at_ (f.sz + 2) x _ HI.out _ (by omega) (by omega)))); go_big_quiet_on)))
        refine wpQuiet_nil ?_
        intro wq hw'
        obtain ⟨pq, rfl⟩ := hw'
        go_wp2
        go_roundw
        case rel => exact ⟨k + 1, by omega, by go_num, by show _ = _; rw [HT.out, hh.out, HI.out]; rfl, btr HN.out pq.h⟩
        case measure => simp [intOf]; omega
    · obtain rfl : k = R.fresh.length := by omega
      have HQ := hh
      rw [List.take_length] at HQ
      go_wp2
      go_ret
      exact ⟨by rw [HQ.out]; rfl, hB⟩

/-! ### Freed -/
set_option maxHeartbeats 1000000 in
theorem rfreed_c (k : Int) (w : World) (h : RTx w rb wv fv gv R) :
    Calls Try.prog 91 #[.pointer (some ⟨rb, 0, none⟩), vz k] w fun e w' => e = .returned (.bool (freedB R k)) ∧ w = w' := by
  have hc := h.c4
  have HR := hid_ h.rg
  obtain ⟨A, c, hgv, hl, hl', _⟩ := id h.rg
  rw [hgv] at HR
  rw [hgv] at hc
  clear h hgv
  go_enter Try.func91, Try.ntmps91
  go_wp2
  go_loopw [5] (fun i wr => ∃ j : Nat, j ≤ R.gone.length ∧ i = .int .i64 j ∧ Hid (k ∉ R.gone.take j) ∧ wr = w) (fun i _ => R.gone.length - (intOf i).toNat)
  case atStart => exact ⟨0, Nat.zero_le _, rfl, by simp [Hid], rfl⟩
  case round =>
    obtain ⟨j, hj, rfl, hh, rfl⟩ := hrel
    by_cases hlt : j < R.gone.length
    · obtain ⟨b, o, rfl, h1⟩ := RdI.at HR.out (Below.refl _ _) hlt
      have HT : Hid (R.gone.take (j + 1) = R.gone.take j ++ [R.gone[j]]) := by show _ = _; rw [List.take_add_one, List.getElem?_eq_getElem hlt]; rfl
      have HM := hid_ (List.getElem_mem hlt)
      generalize R.gone[j] = x at h1 HT HM
      by_cases he : x = k
      · subst he
        have hkk : (x == x) = true := by simp
        have HI : Hid (freedB R x = true) := decide_eq_true HM.out
        go_wp2
        go_ret
        exact ⟨by rw [HI.out]; rfl, rfl⟩
      · have hkk : (x == k) = false := by simp [he]
        go_wp2
        go_roundw
        case rel => exact ⟨j + 1, by omega, by go_num, by show _ ∉ _; rw [HT.out]; simp only [List.mem_append, List.mem_singleton, not_or]; exact ⟨hh.out, fun e => he e.symm⟩, trivial⟩
        case measure => simp [intOf]; omega
    · obtain rfl : j = R.gone.length := by omega
      have HI : Hid (freedB R k = false) := by
        have := hh.out
        rw [List.take_length] at this
        exact decide_eq_false this
      go_wp2
      go_ret
      exact ⟨by rw [HI.out]; rfl, rfl⟩

/-! ### find, Made -/
def FindAt (L : List Ob) (k : Int) (e : Ending) : Prop := (e = .returned (vz (-1)) ∧ findF L k = none) ∨ ∃ (i : Nat) (hi : i < L.length), e = .returned (vz i) ∧ findF L k = some L[i]
theorem find_at {L : List Ob} {k : Int} {i : Nat} (hi : i < L.length) (h : ∀ j (hj : j < L.length), j < i → atB k L[j] = false) (he : atB k L[i] = true) : findF L k = some L[i] := by
  induction L generalizing i with
  | nil => cases hi
  | cons y l ih =>
    rw [findF, List.find?_cons]
    cases i with
    | zero => simp only [List.getElem_cons_zero] at he ⊢; rw [he]
    | succ i =>
      have h0 := h 0 (by simp) (by omega)
      simp only [List.getElem_cons_zero] at h0
      rw [h0]
      simp only [List.getElem_cons_succ] at he ⊢
      exact ih (by simpa using hi) (fun j hj hji => by have := h (j + 1) (by simpa using hj) (by omega); simpa using this) he
theorem find_no {L : List Ob} {k : Int} (h : ∀ j (hj : j < L.length), atB k L[j] = false) : findF L k = none := by
  rw [findF, List.find?_eq_none]
  intro x hx
  obtain ⟨j, hj, rfl⟩ := List.getElem_of_mem hx
  simp [h j hj]
set_option maxHeartbeats 1000000 in
theorem rfind_c (k : Int) (w : World) (h : RTx w rb wv fv gv R) :
    Calls Try.prog 126 #[.pointer (some ⟨rb, 0, none⟩), vz k] w fun e w' => FindAt R.fresh k e ∧ w = w' := by
  have hc := h.c3
  have HR := hid_ h.rf
  obtain ⟨A, c, hfv, hl, hl', _⟩ := id h.rf
  rw [hfv] at HR
  rw [hfv] at hc
  clear h hfv
  go_enter Try.func126, Try.ntmps126
  go_wp2
  go_loopw [5] (fun i wr => ∃ j : Nat, j ≤ R.fresh.length ∧ i = .int .i64 j ∧ Hid (∀ q (hq : q < R.fresh.length), q < j → atB k R.fresh[q] = false) ∧ wr = w) (fun i _ => R.fresh.length - (intOf i).toNat)
  case atStart => exact ⟨0, Nat.zero_le _, rfl, fun q hq hq0 => absurd hq0 (Nat.not_lt_zero _), rfl⟩
  case round =>
    obtain ⟨j, hj, rfl, hh, rfl⟩ := hrel
    by_cases hlt : j < R.fresh.length
    · obtain ⟨b, o, rfl, _, _, _, _, _, e5, _, _, _⟩ := RdF.at HR.out (Below.refl _ _) hlt
      obtain ⟨a, ha⟩ : ∃ a, R.fresh[j].at_ = a := ⟨_, rfl⟩
      have HA := hid_ ha
      rw [ha] at e5
      clear ha
      by_cases he : a = k
      · have hkk : (a == k) = true := by simp [he]
        have HF : Hid (FindAt R.fresh k (.returned (vz j))) := .inr ⟨j, hlt, rfl, find_at hlt (fun q hq hqj => hh.out q hq hqj) (by rw [atB, HA.out]; exact hkk)⟩
        go_wp2
        go_ret
        exact ⟨HF.out, rfl⟩
      · have hkk : (a == k) = false := by simp [he]
        go_wp2
        go_roundw
        case rel =>
          refine ⟨j + 1, by omega, by go_num, fun q hq hqj => ?_, trivial⟩
          by_cases hqj' : q < j
          · exact hh.out q hq hqj'
          · obtain rfl : q = j := by omega
            rw [atB, HA.out]; exact hkk
        case measure => simp [intOf]; omega
    · obtain rfl : j = R.fresh.length := by omega
      have HF : Hid (FindAt R.fresh k (.returned (vz (-1)))) := .inl ⟨rfl, find_no (fun q hq => hh.out q hq hq)⟩
      go_wp2
      go_ret
      exact ⟨HF.out, rfl⟩
set_option maxHeartbeats 1000000 in
set_option maxRecDepth 100000 in
theorem rmade_c (k : Int) (w : World) (h : RTx w rb wv fv gv R) :
    Calls Try.prog 97 #[.pointer (some ⟨rb, 0, none⟩), vz k] w fun e w' => e = .returned (.tuple #[(obOf (findF R.fresh k)).val, .bool (findF R.fresh k).isSome]) ∧ Below w.heap.size w w' := by
  have HB := hid_ (balloc' w (.cells #[.int .i64 0, .int .i64 0, .int .i64 0, .int .i64 0, .bool false, .int .i64 0, .int .i64 0, .int .i64 0, .int .u64 0] 55))
  have H := hid_ (h.mono HB.out)
  have hc := H.out.c3
  obtain ⟨A, c, hfv, hl, hl', _⟩ := id h.rf
  have HR := hid_ H.out.rf
  rw [hfv] at HR
  rw [hfv] at hc
  clear h hfv
  have key : findF R.fresh k = none ∨ ∃ f, findF R.fresh k = some f := by cases findF R.fresh k <;> simp
  rcases key with hf | ⟨f, hf⟩
  · have HF := hid_ hf
    rw [hf]
    clear hf
    go_enter Try.func97, Try.ntmps97
    go_wp2_with (go_at_call 126; refine (rfind_c k _ H.out).mono ?_; rintro e w1 ⟨hi, rfl⟩; have hi' : e = .returned (vz (-1)) := (by rcases hi with h | ⟨i, hi, _, h⟩; (exact h.1); (rw [HF.out] at h; cases h)); subst hi'; clear hi)
    exact bodyPost_ret (v := .tuple #[noOb.val, .bool false]) (by simp [results, Try.results97, go_sem, Ob.val, noOb]) rfl ⟨rfl, HB.out⟩
  · have HF := hid_ hf
    rw [hf]
    clear hf
    go_enter Try.func97, Try.ntmps97
    go_wp2_with (go_at_call 126; refine (rfind_c k _ H.out).mono ?_; rintro e w1 ⟨hi, rfl⟩; obtain ⟨i, hi', he, hfi⟩ : ∃ (i : Nat) (hi : i < R.fresh.length), e = .returned (vz i) ∧ R.fresh[i] = f := (by rcases hi with h | ⟨i, hi, h1, h2⟩; (rw [HF.out] at h; cases h.2); (rw [HF.out] at h2; exact ⟨i, hi, h1, (Option.some.inj h2).symm⟩)); subst he; clear hi; obtain ⟨b, o, rfl, g0, g1, g2, g3, g4, g5, g6, g7, g8⟩ := RdF.at HR.out (Below.refl _ _) hi'; rw [hfi] at g0 g1 g2 g3 g4 g5 g6 g7 g8; clear hfi)
    exact bodyPost_ret (v := .tuple #[f.val, .bool true]) (by simp [results, Try.results97, go_sem, Ob.val]) rfl ⟨rfl, balloc' _ _⟩

/-! ### Noted -/
set_option maxHeartbeats 1000000 in
theorem rnoted_c (w : World) (h : RTx w rb wv fv gv R) (hb : BdL R.words) :
    Calls Try.prog 99 #[.pointer (some ⟨rb, 0, none⟩), vz 300] w fun e w' => ∃ v, e = .returned v ∧ RdS w' v (rnotedL R 300) ∧ Below w.heap.size w w' := by
  have hc := h.c2
  have H := hid_ h
  have HB := hid_ hb
  clear h hb
  go_enter Try.func99, Try.ntmps99
  go_wp2_with (go_at_call 29; refine (of_c 0 300 R.words _ ⟨0, 0⟩ 0 _ H.out.rw_ HB.out ⟨by decide, by decide, by decide, by decide⟩ (by decide) (by decide) (by decide)).mono ?_; rintro e w1 ⟨v, rfl, hr, hb⟩; have HR := hid_ hr.rd; have HBL := hid_ hb; clear hr hb)
  go_ret
  exact ⟨_, rfl, HR.out, HBL.out⟩

/-! ### May -/
theorem all_range_succ (p : Nat → Bool) (k : Nat) : (List.range (k + 1)).all p = ((List.range k).all p && p k) := by
  rw [List.range_succ, List.all_append]
  simp only [List.all_cons, List.all_nil, Bool.and_true]
theorem all_range_no {p : Nat → Bool} {k n : Nat} (hk : k < n) (h : p k = false) : (List.range n).all p = false := by
  rw [List.all_eq_false]
  exact ⟨k, List.mem_range.2 hk, by rw [h]; decide⟩
set_option maxHeartbeats 2000000 in
set_option maxRecDepth 100000 in
theorem rmay_c (s : Sp) (w : World) (h : RTx w rb wv fv gv R) (hok : ∀ f ∈ R.fresh, f.Ok) (hb : BdL R.words) (hs : Small s) :
    Calls Try.prog 88 #[.pointer (some ⟨rb, 0, none⟩), .agg #[.int .i64 s.f, .int .i64 s.m]] w fun e w' => e = .returned (.bool (rmayB R s s.m.toNat)) ∧ Below w.heap.size w w' := by
  have HOK := hid_ hok
  have HBD := hid_ hb
  have f0 := hs.f0; have f1 := hs.f1; have m0 := hs.m0; have m1 := hs.m1
  have HB := hid_ (balloc' w (.cells #[.int .i64 s.f, .int .i64 s.m] 25))
  have H := hid_ (h.mono HB.out)
  have e0 : (w.alloc (.cells #[.int .i64 s.f, .int .i64 s.m] 25)).cell? ⟨w.heap.size, 0, none⟩ = some (.int .i64 s.f) := cell_new 0 rfl
  have e1 : (w.alloc (.cells #[.int .i64 s.f, .int .i64 s.m] 25)).cell? ⟨w.heap.size, 1, none⟩ = some (.int .i64 s.m) := cell_new 1 rfl
  obtain ⟨W, hW⟩ : ∃ W, w.alloc (.cells #[.int .i64 s.f, .int .i64 s.m] 25) = W := ⟨_, rfl⟩
  rw [hW] at HB H e0 e1
  clear h hok hb hs
  go_enter Try.func88, Try.ntmps88
  go_wp2
  clear hW
  go_loopw [5] (fun i wr => ∃ k : Nat, k ≤ s.m.toNat ∧ i = .int .i64 (s.f + k) ∧ Hid ((List.range k).all (fun j => ownB R.fresh (s.f + j) || hasB R.words (s.f + j)) = true) ∧ Below W.heap.size W wr) (fun i _ => (s.f + s.m - intOf i).toNat)
  case atStart => exact ⟨0, Nat.zero_le _, by go_num, rfl, Below.refl _ _⟩
  case round =>
    obtain ⟨k, hk, rfl, hh, hB⟩ := hrel
    have HT := hid_ (H.out.mono hB)
    have d0 := cmono hB e0
    have d1 := cmono hB e1
    have d2 := HT.out.c2
    by_cases hlt : k < s.m.toNat
    · have HA := hid_ (all_range_succ (fun j => ownB R.fresh (s.f + j) || hasB R.words (s.f + j)) k)
      have HN : Hid ((ownB R.fresh (s.f + k) || hasB R.words (s.f + k)) = false → rmayB R s s.m.toNat = false) := fun h => all_range_no hlt h
      cases ho : ownB R.fresh (s.f + k) <;> cases hw : hasB R.words (s.f + k)
      · have HO := hid_ ho
        have HW := hid_ hw
        have HQ : Hid (rmayB R s s.m.toNat = false) := HN.out (by rw [ho, hw]; rfl)
        clear ho hw
        go_wp2_with (first
          | (go_at_call 122; go_loud (refine (rown_c (s.f + k) _ HT.out HOK.out (by omega)).mono ?_; rintro e w1 ⟨rfl, hb⟩; rw [HO.out]; replace HT := hid_ (HT.out.mono hb); have B1 := hid_ hb; replace d2 := cmono hb d2; clear hb))
          | (go_at_call 80; go_loud (refine (has_c R.words _ (s.f + k) _ HT.out.rw_ HBD.out (by omega) (by omega)).mono ?_; rintro e w2 ⟨rfl, hb⟩; rw [HW.out]; have B2 := hid_ (btr B1.out hb); clear hb)))
        go_ret
        exact ⟨by rw [HQ.out]; rfl, btr HB.out (btr hB B2.out)⟩
      all_goals
        have HO := hid_ ho
        have HW := hid_ hw
        clear ho hw
        go_wp2_with (first
          | (go_at_call 122; refine (rown_c (s.f + k) _ HT.out HOK.out (by omega)).mono ?_; rintro e w1 ⟨rfl, hb⟩; rw [HO.out]; replace HT := hid_ (HT.out.mono hb); have B1 := hid_ hb; replace d2 := cmono hb d2; clear hb)
          | (go_at_call 80; refine (has_c R.words _ (s.f + k) _ HT.out.rw_ HBD.out (by omega) (by omega)).mono ?_; rintro e w2 ⟨rfl, hb⟩; rw [HW.out]; have B2 := hid_ (btr B1.out hb); clear hb))
        go_roundw
        case rel => exact ⟨k + 1, by omega, by go_num, by show _ = _; rw [HA.out, hh.out, HO.out, HW.out]; rfl, btr hB B2.out⟩
        case measure => simp [intOf]; omega
    · obtain rfl : k = s.m.toNat := by omega
      have HQ : Hid (rmayB R s s.m.toNat = true) := hh.out
      go_wp2
      go_ret
      exact ⟨by rw [HQ.out]; rfl, btr HB.out hB⟩
end
end Go.Proofs.Ytncdkbhkjamdpaa
