/- The walk of the reference's Of: the right list of the words that are asked for. -/
import Derived.Test.YtncdkbhkjamdpaaS3
namespace Go.Proofs.Ytncdkbhkjamdpaa
open Go.RowKit

def bump (l : List Sp) : List Sp := match l.getLast? with
  | none => l
  | some s => l.dropLast ++ [⟨s.f, s.m + 1⟩]
def isB (l : List Sp) (s : Sp) (what : Int) (x : Int) : Bool := if what = 1 then inB s x && !hasB l x else hasB l x || inB s x
def ofStep (l : List Sp) (s : Sp) (what : Int) (st : List Sp × Bool) (x : Int) : List Sp × Bool :=
  (if isB l s what x then (if st.2 then bump st.1 else st.1 ++ [⟨x, 1⟩]) else st.1, isB l s what x)
def ofGo (low : Int) (l : List Sp) (s : Sp) (what : Int) : Nat → List Sp × Bool
  | 0 => ([], false)
  | k + 1 => ofStep l s what (ofGo low l s what k) (low + k)
def ofL (low high : Int) (l : List Sp) (s : Sp) (what : Int) : List Sp := (ofGo low l s what (high - low).toNat).1

/-- An open list isn't empty, and is no longer than the rounds; its numbers are small. -/
theorem ofGo_inv (low : Int) (l : List Sp) (s : Sp) (what : Int) (k : Nat) :
    ((ofGo low l s what k).2 = true → (ofGo low l s what k).1 ≠ []) ∧ (ofGo low l s what k).1.length ≤ k ∧ ∀ x ∈ (ofGo low l s what k).1, 1 ≤ x.m ∧ x.m ≤ k := by
  induction k with
  | zero => simp [ofGo]
  | succ k ih =>
    obtain ⟨h1, h2, h3⟩ := ih
    simp only [ofGo, ofStep]
    generalize ofGo low l s what k = st at *
    obtain ⟨out, op⟩ := st
    dsimp only at h1 h2 h3 ⊢
    cases isB l s what (low + k) with
    | false => exact ⟨by simp, by simp only [Bool.false_eq_true, if_false]; omega, fun x hx => by have := h3 x (by simpa using hx); omega⟩
    | true =>
      cases op with
      | true =>
        have hne := h1 rfl
        obtain ⟨y, hy⟩ : ∃ y, out.getLast? = some y := by
          cases h : out.getLast? with
          | none => exact absurd (List.getLast?_eq_none_iff.1 h) hne
          | some y => exact ⟨y, rfl⟩
        have hmem : y ∈ out := List.mem_of_getLast? hy
        simp only [if_true, bump, hy]
        refine ⟨by simp, ?_, fun x hx => ?_⟩
        · have : out.length ≠ 0 := fun h => hne (List.length_eq_zero_iff.1 h)
          simp; omega
        · rcases List.mem_append.1 hx with hx | hx
          · have := h3 x (List.dropLast_subset _ hx); omega
          · have hyy := h3 y hmem
            simp only [List.mem_singleton] at hx; subst hx; dsimp only; omega
      | false =>
        simp only [if_true, Bool.false_eq_true, if_false]
        refine ⟨by simp, by simp; omega, fun x hx => ?_⟩
        rcases List.mem_append.1 hx with hx | hx
        · have := h3 x hx; omega
        · simp only [List.mem_singleton] at hx; subst hx; dsimp only; omega

theorem flat_bump {l : List Sp} {s : Sp} (h : l.getLast? = some s) : (flat Sp.enc l).set ((l.length - 1) * 2 + 1) (.int .i64 (s.m + 1)) = flat Sp.enc (bump l) ∧ (bump l).length = l.length := by
  obtain ⟨ys, rfl⟩ := List.getLast?_eq_some_iff.1 h
  have hl := flat_length (enc := Sp.enc) (k := 2) Sp.enc_len ys
  refine ⟨?_, by simp [bump, h]⟩
  simp only [bump, h, List.dropLast_concat, flat_append, flat_one, List.length_append, List.length_cons, List.length_nil]
  rw [List.set_append_right _ _ (by rw [hl]; omega), hl]
  congr 1
  rw [show (ys.length + (0 + 1) - 1) * 2 + 1 - ys.length * 2 = 1 by omega]
  rfl
theorem flat_last {l : List Sp} {s : Sp} (h : l.getLast? = some s) : (flat Sp.enc l)[(l.length - 1) * 2 + 1]? = some (.int .i64 s.m) := by
  obtain ⟨ys, rfl⟩ := List.getLast?_eq_some_iff.1 h
  have hl := flat_length (enc := Sp.enc) (k := 2) Sp.enc_len ys
  rw [flat_append, flat_one, List.getElem?_append_right (by rw [hl]; simp only [List.length_append, List.length_cons, List.length_nil]; omega), hl]
  simp only [List.length_append, List.length_cons, List.length_nil]
  rw [show (ys.length + (0 + 1) - 1) * 2 + 1 - ys.length * 2 = 1 by omega]
  rfl

theorem own_form {w : World} {base : Nat} {e : TypeId} {size : Nat} {v : Value} {n : Nat} {xs : List Value} (h : w.ownsRow base e size v n xs) (hn : 0 < n) : ∃ g cap, v = .slice (some ⟨g, 0, none⟩) n cap := by
  rcases h.2 with ⟨_, h0⟩ | ⟨g, cap, cur, hv, _⟩
  · omega
  · exact ⟨g, cap, hv⟩
/-- The relation of the loop. -/
structure OfRel (W0 : World) (low : Int) (l : List Sp) (s : Sp) (what : Int) (k : Nat) (out : Value) (op : Bool) (wr : World) : Prop where
  own : wr.ownsRow W0.heap.size 25 2 out (ofGo low l s what k).1.length (flat Sp.enc (ofGo low l s what k).1)
  opn : op = (ofGo low l s what k).2
  b : Below W0.heap.size W0 wr

set_option maxHeartbeats 4000000 in
set_option maxRecDepth 100000 in
theorem of_c (low high : Int) (l : List Sp) (v : Value) (s : Sp) (what : Int) (w : World) (hv : RdS w v l) (hb : BdL l) (hs : s.Bd)
    (h1 : -1000000 ≤ low) (h2 : high ≤ 1000000) (h3 : low ≤ high) :
    Calls Try.prog 29 #[.int .i64 low, .int .i64 high, v, .agg #[.int .i64 s.f, .int .i64 s.m], .int .i64 what] w fun e w' => ∃ v', e = .returned v' ∧ ResS w' w.heap.size v' (ofL low high l s what) ∧ Below w.heap.size w w' := by
  have HV := hid_ hv
  obtain ⟨A, c, rfl, hl, hl', _⟩ := hv
  obtain ⟨i0, hi, hz0, hz1, hz2⟩ := info_parts info25
  have hI := hid_ hi; have hZ0 := hid_ hz0; have hZ1 := hid_ hz1; have hZ2 := hid_ hz2
  clear hi hz0 hz1 hz2
  have HB := hid_ hb
  have HS := hid_ hs
  obtain ⟨s1, s2, s3, s4⟩ := hs
  clear hb
  obtain ⟨N, hN⟩ : ∃ N : Nat, high = low + N := ⟨(high - low).toNat, by omega⟩
  subst hN
  go_enter Try.func29, Try.ntmps29
  go_wp2
  have E1 := cell_new (wr := w) (cs := #[.int .i64 s.f, .int .i64 s.m]) (e := 25) 0 rfl
  have E2 := cell_new (wr := w) (cs := #[.int .i64 s.f, .int .i64 s.m]) (e := 25) 1 rfl
  have HW := hid_ (balloc' w (.cells #[.int .i64 s.f, .int .i64 s.m] 25))
  generalize w.alloc (.cells #[.int .i64 s.f, .int .i64 s.m] 25) = W0 at E1 E2 HW ⊢
  have HV0 := hid_ (HV.out.mono HW.out)
  go_loopw [11, 12, 13] (fun out op x wr => ∃ (k : Nat) (ob : Bool), k ≤ N ∧ x = .int .i64 (low + k) ∧ op = .bool ob ∧ OfRel W0 low l s what k out ob wr) (fun _ _ x _ => (low + N - intOf x).toNat)
  case atStart => exact ⟨0, false, by omega, by simp, rfl, World.ownsRow_nil _ _ _ _, rfl, Below.refl _ _⟩
  case round =>
    obtain ⟨k, ob, hk, rfl, rfl, hR⟩ := hrel
    by_cases hlt : k < N
    · obtain ⟨hO, rfl, hB⟩ := hR
      have HO := hid_ hO
      clear hO
      have HG : Hid (ofGo low l s what (k + 1) = ofStep l s what (ofGo low l s what k) (low + k)) := rfl
      have HN := hid_ (ofGo_inv low l s what k)
      obtain ⟨x, hx⟩ : ∃ x : Int, x = low + k := ⟨_, rfl⟩
      have hx1 : low ≤ x := by omega
      have hx2 : x < low + N := by omega
      rw [← hx] at HG ⊢
      have HX := hid_ hx
      clear hx
      generalize ofGo low l s what k = st at *
      obtain ⟨ol, ob⟩ := st
      replace HO := hid_ (show World.ownsRow wr W0.heap.size 25 2 _ ol.length (flat Sp.enc ol) from HO.out)
      by_cases hw : what = 1
      · subst hw
        cases hh : hasB l x <;> cases hi : inB s x
        · have HH := hid_ hh
          have HI := hid_ hi
          have HIs : Hid (isB l s 1 x = false) := by show _ = _; simp [isB, hh, hi]
          clear hh hi
          go_wp2_with (first | (go_at_call 80; refine (has_c l _ _ _ (HV0.out.mono hB) HB.out (by omega) (by omega)).mono ?_; rintro e w1 ⟨rfl, hb1⟩; rw [HH.out]; have B1 := btr hB hb1; have F1 := cmono B1 E1; have F2 := cmono B1 E2) | (go_at_call 81; refine (in_c s _ _ (by omega) (by omega)).mono ?_; rintro e w2 ⟨rfl, hb2⟩; rw [HI.out]; have B2 := btr B1 hb2; have O2 := hid_ (ownsRow_below (ownsRow_below HO.out hb1) hb2)))
          go_roundw
          case rel => exact ⟨k + 1, false, by omega, by rw [HX.out]; go_num, rfl, by rw [HG.out, ofStep, HIs.out]; exact O2.out, by rw [HG.out, ofStep, HIs.out], B2⟩
          case measure => simp [intOf]; omega
        · have HH := hid_ hh
          have HI := hid_ hi
          have HIs : Hid (isB l s 1 x = true) := by show _ = _; simp [isB, hh, hi]
          clear hh hi
          cases ob
          · go_wp2_with (first | (go_at_call 80; refine (has_c l _ _ _ (HV0.out.mono hB) HB.out (by omega) (by omega)).mono ?_; rintro e w1 ⟨rfl, hb1⟩; rw [HH.out]; have B1 := btr hB hb1; have F1 := cmono B1 E1; have F2 := cmono B1 E2) | (go_at_call 81; refine (in_c s _ _ (by omega) (by omega)).mono ?_; rintro e w2 ⟨rfl, hb2⟩; rw [HI.out]; have B2 := btr B1 hb2; have O2 := hid_ (ownsRow_below (ownsRow_below HO.out hb1) hb2)) | (at_builtin; refine wpList_append_own _ rfl _ _ 22 rfl W0.heap.size 25 i0 (.agg #[.int .i64 0, .int .i64 0]) 2 16 Try.underlying22 hI.out hZ0.out hZ1.out hZ2.out rfl (by decide) _ _ _ rfl (O2.out.alloc _) ⟨w2.heap.size, 0, none⟩ 1 1 [.int .i64 x, .int .i64 1] rfl rfl ?c1 ?c2 ?c3 ?c4 ?c5 ?_; rotate_left 5; intro v' w3 hO1 hg1 _; have HO1 := hid_ hO1; have HG1 := hid_ hg1; clear hO1 hg1))
            case c1 => exact cells_new _ _ _
            case c2 => simp [Value.oneCell']
            case c3 => have hq : ol.length ≤ k := HN.out.2.1; unfold maxLen; omega
            case c4 => have hq : ol.length ≤ k := HN.out.2.1; omega
            case c5 => have := B2.size; simp; omega
            go_roundw
            case rel =>
              refine ⟨k + 1, true, by omega, by rw [HX.out]; go_num, rfl, ?_, by rw [HG.out, ofStep, HIs.out], bgrown (balloc B2 _) HG1.out fun k' hk' => (O2.out.lt k' hk').1⟩
              rw [HG.out]
              simp only [ofStep, HIs.out, if_true, Bool.false_eq_true, if_false, List.length_append, List.length_cons, List.length_nil]
              rw [flat_append, flat_one]
              exact HO1.out
            case measure => simp [intOf]; omega
          · obtain ⟨y, hy⟩ : ∃ y, ol.getLast? = some y := by
              cases h : ol.getLast? with
              | none => exact absurd (List.getLast?_eq_none_iff.1 h) (HN.out.1 rfl)
              | some y => exact ⟨y, rfl⟩
            have hyb := HN.out.2.2 y (List.mem_of_getLast? hy)
            have hpos : 0 < ol.length := List.length_pos_iff.2 (HN.out.1 rfl)
            have hlen : ol.length ≤ k := HN.out.2.1
            obtain ⟨hy1, hy2⟩ := hyb
            obtain ⟨g, cap, hv⟩ := own_form HO.out hpos
            subst hv
            have HF := hid_ (flat_bump hy)
            have HL := hid_ (flat_last hy)
            clear hy
            have hn1 : ((ol.length : Int) - 1).toNat = ol.length - 1 := by omega
            have hn2 : (0 : Int) ≤ (ol.length : Int) - 1 := by omega
            have hn3 : (ol.length : Int) - 1 < (ol.length : Int) := by omega
            go_wp2_with (first | (go_at_call 80; refine (has_c l _ _ _ (HV0.out.mono hB) HB.out (by omega) (by omega)).mono ?_; rintro e w1 ⟨rfl, hb1⟩; rw [HH.out]; have B1 := btr hB hb1; have F1 := cmono B1 E1; have F2 := cmono B1 E2) | (go_at_call 81; refine (in_c s _ _ (by omega) (by omega)).mono ?_; rintro e w2 ⟨rfl, hb2⟩; rw [HI.out]; have B2 := btr B1 hb2; have O2 := hid_ (ownsRow_below (ownsRow_below HO.out hb1) hb2); have C2 : w2.cell? ⟨g, (ol.length - 1) * 2 + 1, none⟩ = some (.int .i64 y.m) := (O2.out.cellAt _ (by omega)).trans HL.out; have Z2 := O2.out.frozenAt ((ol.length - 1) * 2 + 1)))
            go_roundw
            case rel =>
              obtain ⟨hq1, hq2⟩ := O2.out.stored ((ol.length - 1) * 2 + 1) (.int .i64 (y.m + 1))
              refine ⟨k + 1, true, by omega, by rw [HX.out]; go_num, rfl, ?_, by rw [HG.out, ofStep, HIs.out], bgrown B2 hq2 fun k' hk' => ?_⟩
              · rw [HG.out]
                simp only [ofStep, HIs.out, if_true]
                rw [HF.out.2, ← HF.out.1]
                exact hq1
              · cases hk'
                exact (O2.out.lt g rfl).1
            case measure => simp [intOf]; omega
        · have HH := hid_ hh
          have HI := hid_ hi
          have HIs : Hid (isB l s 1 x = false) := by show _ = _; simp [isB, hh, hi]
          clear hh hi
          go_wp2_with (first | (go_at_call 80; refine (has_c l _ _ _ (HV0.out.mono hB) HB.out (by omega) (by omega)).mono ?_; rintro e w1 ⟨rfl, hb1⟩; rw [HH.out]; have B1 := btr hB hb1; have F1 := cmono B1 E1; have F2 := cmono B1 E2) | (go_at_call 81; refine (in_c s _ _ (by omega) (by omega)).mono ?_; rintro e w2 ⟨rfl, hb2⟩; rw [HI.out]; have B2 := btr B1 hb2; have O2 := hid_ (ownsRow_below (ownsRow_below HO.out hb1) hb2)))
          go_roundw
          case rel => exact ⟨k + 1, false, by omega, by rw [HX.out]; go_num, rfl, by rw [HG.out, ofStep, HIs.out]; exact O2.out, by rw [HG.out, ofStep, HIs.out], B2⟩
          case measure => simp [intOf]; omega
        · have HH := hid_ hh
          have HI := hid_ hi
          have HIs : Hid (isB l s 1 x = false) := by show _ = _; simp [isB, hh, hi]
          clear hh hi
          go_wp2_with (first | (go_at_call 80; refine (has_c l _ _ _ (HV0.out.mono hB) HB.out (by omega) (by omega)).mono ?_; rintro e w1 ⟨rfl, hb1⟩; rw [HH.out]; have B1 := btr hB hb1; have F1 := cmono B1 E1; have F2 := cmono B1 E2) | (go_at_call 81; refine (in_c s _ _ (by omega) (by omega)).mono ?_; rintro e w2 ⟨rfl, hb2⟩; rw [HI.out]; have B2 := btr B1 hb2; have O2 := hid_ (ownsRow_below (ownsRow_below HO.out hb1) hb2)))
          go_roundw
          case rel => exact ⟨k + 1, false, by omega, by rw [HX.out]; go_num, rfl, by rw [HG.out, ofStep, HIs.out]; exact O2.out, by rw [HG.out, ofStep, HIs.out], B2⟩
          case measure => simp [intOf]; omega
      · have hwd : (what == 1) = false := by simpa using hw
        cases hh : hasB l x <;> cases hi : inB s x
        · have HH := hid_ hh
          have HI := hid_ hi
          have HIs : Hid (isB l s what x = false) := by show _ = _; simp [isB, hh, hi, hw]
          clear hh hi
          go_wp2_with (first | (go_at_call 80; refine (has_c l _ _ _ (HV0.out.mono hB) HB.out (by omega) (by omega)).mono ?_; rintro e w1 ⟨rfl, hb1⟩; rw [HH.out]; have B1 := btr hB hb1; have F1 := cmono B1 E1; have F2 := cmono B1 E2) | (go_at_call 81; refine (in_c s _ _ (by omega) (by omega)).mono ?_; rintro e w2 ⟨rfl, hb2⟩; rw [HI.out]; have B2 := btr B1 hb2; have O2 := hid_ (ownsRow_below (ownsRow_below HO.out hb1) hb2)))
          go_roundw
          case rel => exact ⟨k + 1, false, by omega, by rw [HX.out]; go_num, rfl, by rw [HG.out, ofStep, HIs.out]; exact O2.out, by rw [HG.out, ofStep, HIs.out], B2⟩
          case measure => simp [intOf]; omega
        · have HH := hid_ hh
          have HI := hid_ hi
          have HIs : Hid (isB l s what x = true) := by show _ = _; simp [isB, hh, hi, hw]
          clear hh hi
          cases ob
          · go_wp2_with (first | (go_at_call 80; refine (has_c l _ _ _ (HV0.out.mono hB) HB.out (by omega) (by omega)).mono ?_; rintro e w1 ⟨rfl, hb1⟩; rw [HH.out]; have B1 := btr hB hb1; have F1 := cmono B1 E1; have F2 := cmono B1 E2) | (go_at_call 81; refine (in_c s _ _ (by omega) (by omega)).mono ?_; rintro e w2 ⟨rfl, hb2⟩; rw [HI.out]; have B2 := btr B1 hb2; have O2 := hid_ (ownsRow_below (ownsRow_below HO.out hb1) hb2)) | (at_builtin; refine wpList_append_own _ rfl _ _ 22 rfl W0.heap.size 25 i0 (.agg #[.int .i64 0, .int .i64 0]) 2 16 Try.underlying22 hI.out hZ0.out hZ1.out hZ2.out rfl (by decide) _ _ _ rfl (O2.out.alloc _) ⟨w2.heap.size, 0, none⟩ 1 1 [.int .i64 x, .int .i64 1] rfl rfl ?c1 ?c2 ?c3 ?c4 ?c5 ?_; rotate_left 5; intro v' w3 hO1 hg1 _; have HO1 := hid_ hO1; have HG1 := hid_ hg1; clear hO1 hg1))
            case c1 => exact cells_new _ _ _
            case c2 => simp [Value.oneCell']
            case c3 => have hq : ol.length ≤ k := HN.out.2.1; unfold maxLen; omega
            case c4 => have hq : ol.length ≤ k := HN.out.2.1; omega
            case c5 => have := B2.size; simp; omega
            go_roundw
            case rel =>
              refine ⟨k + 1, true, by omega, by rw [HX.out]; go_num, rfl, ?_, by rw [HG.out, ofStep, HIs.out], bgrown (balloc B2 _) HG1.out fun k' hk' => (O2.out.lt k' hk').1⟩
              rw [HG.out]
              simp only [ofStep, HIs.out, if_true, Bool.false_eq_true, if_false, List.length_append, List.length_cons, List.length_nil]
              rw [flat_append, flat_one]
              exact HO1.out
            case measure => simp [intOf]; omega
          · obtain ⟨y, hy⟩ : ∃ y, ol.getLast? = some y := by
              cases h : ol.getLast? with
              | none => exact absurd (List.getLast?_eq_none_iff.1 h) (HN.out.1 rfl)
              | some y => exact ⟨y, rfl⟩
            have hyb := HN.out.2.2 y (List.mem_of_getLast? hy)
            have hpos : 0 < ol.length := List.length_pos_iff.2 (HN.out.1 rfl)
            have hlen : ol.length ≤ k := HN.out.2.1
            obtain ⟨hy1, hy2⟩ := hyb
            obtain ⟨g, cap, hv⟩ := own_form HO.out hpos
            subst hv
            have HF := hid_ (flat_bump hy)
            have HL := hid_ (flat_last hy)
            clear hy
            have hn1 : ((ol.length : Int) - 1).toNat = ol.length - 1 := by omega
            have hn2 : (0 : Int) ≤ (ol.length : Int) - 1 := by omega
            have hn3 : (ol.length : Int) - 1 < (ol.length : Int) := by omega
            go_wp2_with (first | (go_at_call 80; refine (has_c l _ _ _ (HV0.out.mono hB) HB.out (by omega) (by omega)).mono ?_; rintro e w1 ⟨rfl, hb1⟩; rw [HH.out]; have B1 := btr hB hb1; have F1 := cmono B1 E1; have F2 := cmono B1 E2) | (go_at_call 81; refine (in_c s _ _ (by omega) (by omega)).mono ?_; rintro e w2 ⟨rfl, hb2⟩; rw [HI.out]; have B2 := btr B1 hb2; have O2 := hid_ (ownsRow_below (ownsRow_below HO.out hb1) hb2); have C2 : w2.cell? ⟨g, (ol.length - 1) * 2 + 1, none⟩ = some (.int .i64 y.m) := (O2.out.cellAt _ (by omega)).trans HL.out; have Z2 := O2.out.frozenAt ((ol.length - 1) * 2 + 1)))
            go_roundw
            case rel =>
              obtain ⟨hq1, hq2⟩ := O2.out.stored ((ol.length - 1) * 2 + 1) (.int .i64 (y.m + 1))
              refine ⟨k + 1, true, by omega, by rw [HX.out]; go_num, rfl, ?_, by rw [HG.out, ofStep, HIs.out], bgrown B2 hq2 fun k' hk' => ?_⟩
              · rw [HG.out]
                simp only [ofStep, HIs.out, if_true]
                rw [HF.out.2, ← HF.out.1]
                exact hq1
              · cases hk'
                exact (O2.out.lt g rfl).1
            case measure => simp [intOf]; omega
        · have HH := hid_ hh
          have HI := hid_ hi
          have HIs : Hid (isB l s what x = true) := by show _ = _; simp [isB, hh, hi, hw]
          clear hh hi
          cases ob
          · go_wp2_with (first | (go_at_call 80; refine (has_c l _ _ _ (HV0.out.mono hB) HB.out (by omega) (by omega)).mono ?_; rintro e w1 ⟨rfl, hb1⟩; rw [HH.out]; have B1 := btr hB hb1; have F1 := cmono B1 E1; have F2 := cmono B1 E2) | (go_at_call 81; refine (in_c s _ _ (by omega) (by omega)).mono ?_; rintro e w2 ⟨rfl, hb2⟩; rw [HI.out]; have B2 := btr B1 hb2; have O2 := hid_ (ownsRow_below (ownsRow_below HO.out hb1) hb2)) | (at_builtin; refine wpList_append_own _ rfl _ _ 22 rfl W0.heap.size 25 i0 (.agg #[.int .i64 0, .int .i64 0]) 2 16 Try.underlying22 hI.out hZ0.out hZ1.out hZ2.out rfl (by decide) _ _ _ rfl (O2.out.alloc _) ⟨w2.heap.size, 0, none⟩ 1 1 [.int .i64 x, .int .i64 1] rfl rfl ?c1 ?c2 ?c3 ?c4 ?c5 ?_; rotate_left 5; intro v' w3 hO1 hg1 _; have HO1 := hid_ hO1; have HG1 := hid_ hg1; clear hO1 hg1))
            case c1 => exact cells_new _ _ _
            case c2 => simp [Value.oneCell']
            case c3 => have hq : ol.length ≤ k := HN.out.2.1; unfold maxLen; omega
            case c4 => have hq : ol.length ≤ k := HN.out.2.1; omega
            case c5 => have := B2.size; simp; omega
            go_roundw
            case rel =>
              refine ⟨k + 1, true, by omega, by rw [HX.out]; go_num, rfl, ?_, by rw [HG.out, ofStep, HIs.out], bgrown (balloc B2 _) HG1.out fun k' hk' => (O2.out.lt k' hk').1⟩
              rw [HG.out]
              simp only [ofStep, HIs.out, if_true, Bool.false_eq_true, if_false, List.length_append, List.length_cons, List.length_nil]
              rw [flat_append, flat_one]
              exact HO1.out
            case measure => simp [intOf]; omega
          · obtain ⟨y, hy⟩ : ∃ y, ol.getLast? = some y := by
              cases h : ol.getLast? with
              | none => exact absurd (List.getLast?_eq_none_iff.1 h) (HN.out.1 rfl)
              | some y => exact ⟨y, rfl⟩
            have hyb := HN.out.2.2 y (List.mem_of_getLast? hy)
            have hpos : 0 < ol.length := List.length_pos_iff.2 (HN.out.1 rfl)
            have hlen : ol.length ≤ k := HN.out.2.1
            obtain ⟨hy1, hy2⟩ := hyb
            obtain ⟨g, cap, hv⟩ := own_form HO.out hpos
            subst hv
            have HF := hid_ (flat_bump hy)
            have HL := hid_ (flat_last hy)
            clear hy
            have hn1 : ((ol.length : Int) - 1).toNat = ol.length - 1 := by omega
            have hn2 : (0 : Int) ≤ (ol.length : Int) - 1 := by omega
            have hn3 : (ol.length : Int) - 1 < (ol.length : Int) := by omega
            go_wp2_with (first | (go_at_call 80; refine (has_c l _ _ _ (HV0.out.mono hB) HB.out (by omega) (by omega)).mono ?_; rintro e w1 ⟨rfl, hb1⟩; rw [HH.out]; have B1 := btr hB hb1; have F1 := cmono B1 E1; have F2 := cmono B1 E2) | (go_at_call 81; refine (in_c s _ _ (by omega) (by omega)).mono ?_; rintro e w2 ⟨rfl, hb2⟩; rw [HI.out]; have B2 := btr B1 hb2; have O2 := hid_ (ownsRow_below (ownsRow_below HO.out hb1) hb2); have C2 : w2.cell? ⟨g, (ol.length - 1) * 2 + 1, none⟩ = some (.int .i64 y.m) := (O2.out.cellAt _ (by omega)).trans HL.out; have Z2 := O2.out.frozenAt ((ol.length - 1) * 2 + 1)))
            go_roundw
            case rel =>
              obtain ⟨hq1, hq2⟩ := O2.out.stored ((ol.length - 1) * 2 + 1) (.int .i64 (y.m + 1))
              refine ⟨k + 1, true, by omega, by rw [HX.out]; go_num, rfl, ?_, by rw [HG.out, ofStep, HIs.out], bgrown B2 hq2 fun k' hk' => ?_⟩
              · rw [HG.out]
                simp only [ofStep, HIs.out, if_true]
                rw [HF.out.2, ← HF.out.1]
                exact hq1
              · cases hk'
                exact (O2.out.lt g rfl).1
            case measure => simp [intOf]; omega
        · have HH := hid_ hh
          have HI := hid_ hi
          have HIs : Hid (isB l s what x = true) := by show _ = _; simp [isB, hh, hi, hw]
          clear hh hi
          cases ob
          · go_wp2_with (first | (go_at_call 80; refine (has_c l _ _ _ (HV0.out.mono hB) HB.out (by omega) (by omega)).mono ?_; rintro e w1 ⟨rfl, hb1⟩; rw [HH.out]; have B1 := btr hB hb1; have F1 := cmono B1 E1; have F2 := cmono B1 E2) | (go_at_call 81; refine (in_c s _ _ (by omega) (by omega)).mono ?_; rintro e w2 ⟨rfl, hb2⟩; rw [HI.out]; have B2 := btr B1 hb2; have O2 := hid_ (ownsRow_below (ownsRow_below HO.out hb1) hb2)) | (at_builtin; refine wpList_append_own _ rfl _ _ 22 rfl W0.heap.size 25 i0 (.agg #[.int .i64 0, .int .i64 0]) 2 16 Try.underlying22 hI.out hZ0.out hZ1.out hZ2.out rfl (by decide) _ _ _ rfl (O2.out.alloc _) ⟨w2.heap.size, 0, none⟩ 1 1 [.int .i64 x, .int .i64 1] rfl rfl ?c1 ?c2 ?c3 ?c4 ?c5 ?_; rotate_left 5; intro v' w3 hO1 hg1 _; have HO1 := hid_ hO1; have HG1 := hid_ hg1; clear hO1 hg1))
            case c1 => exact cells_new _ _ _
            case c2 => simp [Value.oneCell']
            case c3 => have hq : ol.length ≤ k := HN.out.2.1; unfold maxLen; omega
            case c4 => have hq : ol.length ≤ k := HN.out.2.1; omega
            case c5 => have := B2.size; simp; omega
            go_roundw
            case rel =>
              refine ⟨k + 1, true, by omega, by rw [HX.out]; go_num, rfl, ?_, by rw [HG.out, ofStep, HIs.out], bgrown (balloc B2 _) HG1.out fun k' hk' => (O2.out.lt k' hk').1⟩
              rw [HG.out]
              simp only [ofStep, HIs.out, if_true, Bool.false_eq_true, if_false, List.length_append, List.length_cons, List.length_nil]
              rw [flat_append, flat_one]
              exact HO1.out
            case measure => simp [intOf]; omega
          · obtain ⟨y, hy⟩ : ∃ y, ol.getLast? = some y := by
              cases h : ol.getLast? with
              | none => exact absurd (List.getLast?_eq_none_iff.1 h) (HN.out.1 rfl)
              | some y => exact ⟨y, rfl⟩
            have hyb := HN.out.2.2 y (List.mem_of_getLast? hy)
            have hpos : 0 < ol.length := List.length_pos_iff.2 (HN.out.1 rfl)
            have hlen : ol.length ≤ k := HN.out.2.1
            obtain ⟨hy1, hy2⟩ := hyb
            obtain ⟨g, cap, hv⟩ := own_form HO.out hpos
            subst hv
            have HF := hid_ (flat_bump hy)
            have HL := hid_ (flat_last hy)
            clear hy
            have hn1 : ((ol.length : Int) - 1).toNat = ol.length - 1 := by omega
            have hn2 : (0 : Int) ≤ (ol.length : Int) - 1 := by omega
            have hn3 : (ol.length : Int) - 1 < (ol.length : Int) := by omega
            go_wp2_with (first | (go_at_call 80; refine (has_c l _ _ _ (HV0.out.mono hB) HB.out (by omega) (by omega)).mono ?_; rintro e w1 ⟨rfl, hb1⟩; rw [HH.out]; have B1 := btr hB hb1; have F1 := cmono B1 E1; have F2 := cmono B1 E2) | (go_at_call 81; refine (in_c s _ _ (by omega) (by omega)).mono ?_; rintro e w2 ⟨rfl, hb2⟩; rw [HI.out]; have B2 := btr B1 hb2; have O2 := hid_ (ownsRow_below (ownsRow_below HO.out hb1) hb2); have C2 : w2.cell? ⟨g, (ol.length - 1) * 2 + 1, none⟩ = some (.int .i64 y.m) := (O2.out.cellAt _ (by omega)).trans HL.out; have Z2 := O2.out.frozenAt ((ol.length - 1) * 2 + 1)))
            go_roundw
            case rel =>
              obtain ⟨hq1, hq2⟩ := O2.out.stored ((ol.length - 1) * 2 + 1) (.int .i64 (y.m + 1))
              refine ⟨k + 1, true, by omega, by rw [HX.out]; go_num, rfl, ?_, by rw [HG.out, ofStep, HIs.out], bgrown B2 hq2 fun k' hk' => ?_⟩
              · rw [HG.out]
                simp only [ofStep, HIs.out, if_true]
                rw [HF.out.2, ← HF.out.1]
                exact hq1
              · cases hk'
                exact (O2.out.lt g rfl).1
            case measure => simp [intOf]; omega
    · go_wp2
      go_ret
      obtain rfl : k = N := by omega
      refine ⟨_, rfl, ?_, btr HW.out hR.b⟩
      have : ofL low (low + k) l s what = (ofGo low l s what k).1 := by unfold ofL; rw [show (low + (k : Int) - low).toNat = k by omega]
      rw [this]
      exact (Res.of_own Sp.enc_len hR.own rfl).base HW.out.size
end Go.Proofs.Ytncdkbhkjamdpaa
