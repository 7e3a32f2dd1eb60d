/- The walk of the reference's Lock of chapter 18. -/
import Derived.Test.YtncdkbhkjamdpaaK4
import Derived.Test.YtncdkbhkjamdpaaS4
namespace Go.Proofs.Ytncdkbhkjamdpaa
open Go.RowKit Go.Maps

theorem flat_take_get {α : Type} {enc : α → List Value} (l : List α) (n j : Nat) (u : Value) (h : (flat enc (l.take n))[j]? = some u) : (flat enc l)[j]? = some u := by
  have e : flat enc l = flat enc (l.take n) ++ flat enc (l.drop n) := by rw [← flat_append, List.take_append_drop]
  rw [e, List.getElem?_append_left (List.getElem?_eq_some_iff.1 h).1]
  exact h
theorem flat_drop_get {α : Type} {enc : α → List Value} {k : Nat} (hk : ∀ a, (enc a).length = k) (l : List α) (n j : Nat) (hn : n ≤ l.length) (u : Value) (h : (flat enc (l.drop n))[j]? = some u) : (flat enc l)[n * k + j]? = some u := by
  have e : flat enc l = flat enc (l.take n) ++ flat enc (l.drop n) := by rw [← flat_append, List.take_append_drop]
  have hl : (flat enc (l.take n)).length = n * k := by rw [flat_length hk, List.length_take, Nat.min_eq_left hn]
  rw [e, List.getElem?_append_right (by omega), hl, Nat.add_sub_cancel_left]
  exact h
theorem flat_pr_cell (l : List Pr) : ∀ u ∈ flat Pr.enc l, u.oneCell' = true := by
  intro u hu
  simp only [flat, List.mem_flatMap] at hu
  obtain ⟨p, _, hp⟩ := hu
  simp [Pr.enc] at hp
  rcases hp with rfl | rfl <;> simp [Value.oneCell']

def atOf (L : List Pr) (k : Int) : Nat → Nat
  | 0 => 0
  | j + 1 => match L[j]? with
    | some p => if p.k < k then j + 1 else atOf L k j
    | none => atOf L k j
theorem atOf_le (L : List Pr) (k : Int) (j : Nat) : atOf L k j ≤ j := by
  induction j with
  | zero => exact Nat.le_refl _
  | succ j ih =>
    rw [atOf]
    split
    · split <;> omega
    · omega
theorem atOf_succ {L : List Pr} {k : Int} {j : Nat} (hj : j < L.length) : atOf L k (j + 1) = if L[j].k < k then j + 1 else atOf L k j := by
  rw [atOf, List.getElem?_eq_getElem hj]
def rOk (L : List Pr) (k a : Int) : Bool := match L.find? (hasK k) with
  | some p => p.a == a
  | none => true
def rIns (L : List Pr) (k a : Int) : List Pr := L.take (atOf L k L.length) ++ [⟨k, a⟩] ++ L.drop (atOf L k L.length)
def rL (L : List Pr) (k a : Int) : List Pr := match L.find? (hasK k) with
  | some _ => L
  | none => rIns L k a

structure RLRes (w w' : World) (rb : Nat) (L : List Pr) : Prop where
  tab : ∃ sv', RTab w' rb L sv'
  gb : w.grownBy w' (some rb)

set_option maxHeartbeats 4000000 in
set_option maxRecDepth 100000 in
theorem rlock_c (rb : Nat) (L : List Pr) (sv : Value) (k a : Int) (w : World) (h : RTab w rb L sv) (hn : L.length ≤ 100000) :
    Calls Try.prog 45 #[.pointer (some ⟨rb, 0, none⟩), vz k, vz a] w fun e w' => e = .returned (.bool (rOk L k a)) ∧ RLRes w w' rb (rL L k a) := by
  have hc := h.cell
  have H := hid_ h
  have HR := hid_ h.rd
  obtain ⟨i0, hi, hz0, hz1, hz2⟩ := info_parts info149
  have hI := hid_ hi; have hZ0 := hid_ hz0; have hZ1 := hid_ hz1; have hZ2 := hid_ hz2
  clear hi hz0 hz1 hz2
  rcases h.own.2 with ⟨rfl, h0⟩ | ⟨g, cap, cur, rfl, _, _, hcap1, hcap2, _⟩
  · have hL : L = [] := List.length_eq_zero_iff.1 (by omega)
    subst hL
    have hfr := h.frz
    have hlt := hid_ h.lt
    have hblk := hid_ h.blk
    clear h
    have tok1 : True := trivial
    have tok2 : True := trivial
    go_enter Try.func45, Try.ntmps45
    go_wp2
    go_loopw [7, 8] (fun at_ i wr => i = .int .i64 0 ∧ at_ = .int .i64 0 ∧ wr = w) (fun _ i _ => 0)
    case atStart => exact ⟨rfl, rfl, rfl⟩
    case round =>
      obtain ⟨rfl, rfl, rfl⟩ := hrel
      go_upto_region 11 with (fail)
      obtain ⟨v0, hv0⟩ : ∃ v0, v0 = Value.slice none 0 0 := ⟨_, rfl⟩
      rw [← hv0]
      have HO0 : Hid (∀ W : World, W.ownsRow wr.heap.size 149 2 v0 0 []) := fun W => by rw [hv0]; exact World.ownsRow_nil _ _ _ _
      clear hv0
      go_wp2_with (first
        | (at_builtin; have _t := tok2; refine wpList_append_own _ rfl _ _ 78 rfl wr.heap.size 149 i0 (.agg #[.int .i64 0, .int .i64 0]) 2 16 Try.underlying78 hI.out hZ0.out hZ1.out hZ2.out rfl (by decide) v0 0 [] rfl (HO0.out _) ⟨wr.heap.size, 0, none⟩ 1 1 [vz k, vz a] rfl rfl ?c1 ?c2 ?c3 ?c4 ?c5 ?_; rotate_left 5; intro v' w3 hO1 hg1 _; have hfm := own_form hO1 (Nat.zero_lt_succ 0); obtain ⟨g1, cap1, rfl⟩ := hfm; have HO1 := hid_ hO1; have HG1 := hid_ (bgrown (balloc' wr _) hg1 (fun k' hk' => ((HO0.out wr).lt k' hk').1)); have hc3 := cmono HG1.out hc; have hf3 := frozen_blk (j := 0) (hmono HG1.out hblk.out); clear hO1 hg1 tok2)
        | (at_builtin; refine wpList_append_own_none rfl _ _ 78 rfl wr.heap.size 149 i0 2 Try.underlying78 hI.out _ (0 + 1) _ rfl HO1.out rfl ?_))
      case c1 => exact cells_new _ _ _
      case c2 => simp [Value.oneCell']
      case c3 => decide
      case c4 => decide
      case c5 => simp
      go_ret
      have hrl : rL [] k a = [⟨k, a⟩] := rfl
      refine ⟨rfl, ⟨.slice (some ⟨g1, 0, none⟩) 1 cap1, ?_⟩, gb_trans (gb_below HG1.out _) (gb_setCell _ _ _)⟩
      rw [hrl]
      exact RTab.store (hmono HG1.out hblk.out) (by exact HO1.out) hlt.out
  · have hfr := h.frz
    have hlt := hid_ h.lt
    have hblk := hid_ h.blk
    clear h
    go_enter Try.func45, Try.ntmps45
    go_wp2
    go_loopw [7, 8] (fun at_ i wr => ∃ j : Nat, j ≤ L.length ∧ i = .int .i64 j ∧ at_ = .int .i64 (atOf L k j) ∧ Hid (∀ q (hq : q < L.length), q < j → hasK k L[q] = false) ∧ wr = w) (fun _ i _ => L.length - (intOf i).toNat)
    case atStart => exact ⟨0, Nat.zero_le _, rfl, rfl, by simp [Hid], rfl⟩
    case round =>
      obtain ⟨j, hj, rfl, rfl, hh, rfl⟩ := hrel
      by_cases hlt1 : j < L.length
      · obtain ⟨b, o, he, h1, h2⟩ := RdP.at HR.out (Below.refl _ _) hlt1
        injection he with he
        injection he with e1 e2
        subst e1 e2
        simp only [Nat.zero_add] at h1 h2
        have HAT := hid_ (atOf_succ (k := k) hlt1)
        obtain ⟨p, hp⟩ : ∃ p, L[j] = p := ⟨_, rfl⟩
        rw [hp] at h1 h2 HAT
        have HP := hid_ hp
        clear hp
        by_cases he : p.k = k
        · have he1 : (p.k == k) = true := by simp [he]
          have HF : Hid (L.find? (hasK k) = some p) := by
            show _ = _
            rw [find_first L j hlt1 (fun q hq => hh.out q (by omega) hq) (by rw [HP.out]; exact he1), HP.out]
          go_wp2
          go_ret
          exact ⟨by simp only [rOk, HF.out]; rfl, ⟨_, by simp only [rL, HF.out]; exact H.out⟩, gb_refl _ _⟩
        · have he1 : (p.k == k) = false := by simp [he]
          by_cases hl : p.k < k
          · rw [if_pos hl] at HAT
            go_wp2
            go_roundw
            case rel =>
              refine ⟨j + 1, by omega, by go_num, by rw [HAT.out]; go_num, fun q hq hqj => ?_, trivial⟩
              by_cases hqj' : q < j
              · exact hh.out q hq hqj'
              · obtain rfl : q = j := by omega
                rw [HP.out]; exact he1
            case measure => simp [intOf]; omega
          · rw [if_neg hl] at HAT
            go_wp2
            go_roundw
            case rel =>
              refine ⟨j + 1, by omega, by go_num, by rw [HAT.out], fun q hq hqj => ?_, trivial⟩
              by_cases hqj' : q < j
              · exact hh.out q hq hqj'
              · obtain rfl : q = j := by omega
                rw [HP.out]; exact he1
            case measure => simp [intOf]; omega
      · obtain rfl : j = L.length := by omega
        have hat := atOf_le L k L.length
        have HF : Hid (rOk L k a = true ∧ rL L k a = rIns L k a) := by
          have hf := find_none' L (fun q hq => hh.out q hq hq)
          show _ ∧ _
          simp only [rOk, rL, hf]
          exact ⟨trivial, trivial⟩
        have HIN : Hid (rIns L k a = L.take (atOf L k L.length) ++ [⟨k, a⟩] ++ L.drop (atOf L k L.length)) := rfl
        obtain ⟨m, hm⟩ : ∃ m, atOf L k L.length = m := ⟨_, rfl⟩
        rw [hm] at hat HIN ⊢
        clear hm
        have hcells := hid_ (Rd.cells Pr.enc_len HR.out)
        have hl1 : (flat Pr.enc (L.take m)).length = m * 2 := by rw [flat_length Pr.enc_len, List.length_take, Nat.min_eq_left hat]
        have hl2 : (flat Pr.enc (L.drop m)).length = (L.length - m) * 2 := by rw [flat_length Pr.enc_len, List.length_drop]
        have HL1 := hid_ hl1; have HL2 := hid_ hl2
        clear hl1 hl2
        by_cases hcm : cap = m
        · have tok1 : True := trivial
          have tok2 : True := trivial
          go_wp2_with (first
            | (at_builtin; have _t := tok1; refine wpList_append_own _ rfl _ _ 78 rfl wr.heap.size 149 i0 (.agg #[.int .i64 0, .int .i64 0]) 2 16 Try.underlying78 hI.out hZ0.out hZ1.out hZ2.out rfl (by decide) (.slice none 0 0) 0 [] rfl (World.ownsRow_nil _ _ _ _) ⟨g, 0, none⟩ m _ (flat Pr.enc (L.take m)) rfl HL1.out ?pc1 ?pc2 ?pc3 ?pc4 ?pc5 ?_; rotate_left 5; intro v1 w1 hO1 hg1 _; have HO1 := hid_ hO1; have HB1 := hid_ (bgrown (Below.refl _ _) hg1 (by rintro _ ⟨⟩)); clear hO1 hg1 tok1)
            | (at_builtin; have _t := tok2; refine wpList_append_own _ rfl _ _ 78 rfl wr.heap.size 149 i0 (.agg #[.int .i64 0, .int .i64 0]) 2 16 Try.underlying78 hI.out hZ0.out hZ1.out hZ2.out rfl (by decide) v1 (0 + m) _ rfl (HO1.out.alloc _) ⟨w1.heap.size, 0, none⟩ 1 1 [vz k, vz a] rfl rfl ?pd1 ?pd2 ?pd3 ?pd4 ?pd5 ?_; rotate_left 5; intro v2 w2 hO2 hg2 _; have HO2 := hid_ hO2; have HB2 := hid_ (bgrown (balloc HB1.out _) hg2 fun k' hk' => (HO1.out.lt k' hk').1); have hc2 := cmono HB2.out hc; clear hO2 hg2 tok2)
            | (at_builtin; refine wpList_append_own _ rfl _ _ 78 rfl wr.heap.size 149 i0 (.agg #[.int .i64 0, .int .i64 0]) 2 16 Try.underlying78 hI.out hZ0.out hZ1.out hZ2.out rfl (by decide) v2 (0 + m + 1) _ rfl HO2.out _ (L.length - m) _ (flat Pr.enc (L.drop m)) rfl HL2.out ?pe1 ?pe2 ?pe3 ?pe4 ?pe5 ?_; rotate_left 5; intro v3 w3 hO3 hg3 _; rw [Nat.zero_add] at hO3; obtain ⟨g3, cap3, rfl⟩ := own_form hO3 (by omega); have HO3 := hid_ hO3; have HB3 := hid_ (bgrown HB2.out hg3 fun k' hk' => (HO2.out.lt k' hk').1); have hc3 := cmono HB3.out hc; have hf3 := frozen_blk (j := 0) (hmono HB3.out hblk.out); clear hO3 hg3))
          case pe1 =>
            intro j u hu
            have h1 := (List.getElem?_eq_some_iff.1 hu).1
            rw [HL2.out] at h1
            omega
          case pe2 => exact fun u hu => flat_pr_cell _ u hu
          case pe3 => unfold maxLen; omega
          case pe4 => omega
          case pe5 => exact HB2.out.size
          case pd2 => simp [Value.oneCell']
          case pd3 => unfold maxLen; omega
          case pd4 => omega
          case pd5 => have := HB1.out.size; omega
          case pc1 => exact fun j u hu => hcells.out j u (flat_take_get L m j u hu)
          case pc2 => exact fun u hu => flat_pr_cell _ u hu
          case pc3 => unfold maxLen; omega
          case pc4 => omega
          case pc5 => exact Nat.le_refl _
          go_ret
          refine ⟨by rw [HF.out.1]; rfl, ⟨.slice (some ⟨g3, 0, none⟩) (m + 1 + (L.length - m)) cap3, ?_⟩, gb_trans (gb_below HB3.out _) (gb_setCell _ _ _)⟩
          have hlenL : (L.take m ++ [⟨k, a⟩] ++ L.drop m : List Pr).length = m + 1 + (L.length - m) := by simp; omega
          have hfl : flat Pr.enc (L.take m ++ [⟨k, a⟩] ++ L.drop m) = [] ++ flat Pr.enc (L.take m) ++ [vz k, vz a] ++ flat Pr.enc (L.drop m) := by rw [flat_append, flat_append, flat_one]; rfl
          rw [HF.out.2, HIN.out]
          refine RTab.store (hmono HB3.out hblk.out) ?_ hlt.out
          rw [hlenL, hfl]
          exact HO3.out
        · have tok1 : True := trivial
          have tok2 : True := trivial
          go_wp2_with (first
            | (at_builtin; have _t := tok1; refine wpList_append_own _ rfl _ _ 78 rfl wr.heap.size 149 i0 (.agg #[.int .i64 0, .int .i64 0]) 2 16 Try.underlying78 hI.out hZ0.out hZ1.out hZ2.out rfl (by decide) (.slice none 0 0) 0 [] rfl (World.ownsRow_nil _ _ _ _) ⟨g, 0, none⟩ m _ (flat Pr.enc (L.take m)) rfl HL1.out ?qc1 ?qc2 ?qc3 ?qc4 ?qc5 ?_; rotate_left 5; intro v1 w1 hO1 hg1 _; have HO1 := hid_ hO1; have HB1 := hid_ (bgrown (Below.refl _ _) hg1 (by rintro _ ⟨⟩)); clear hO1 hg1 tok1)
            | (at_builtin; have _t := tok2; refine wpList_append_own _ rfl _ _ 78 rfl wr.heap.size 149 i0 (.agg #[.int .i64 0, .int .i64 0]) 2 16 Try.underlying78 hI.out hZ0.out hZ1.out hZ2.out rfl (by decide) v1 (0 + m) _ rfl (HO1.out.alloc _) ⟨w1.heap.size, 0, none⟩ 1 1 [vz k, vz a] rfl rfl ?qd1 ?qd2 ?qd3 ?qd4 ?qd5 ?_; rotate_left 5; intro v2 w2 hO2 hg2 _; have HO2 := hid_ hO2; have HB2 := hid_ (bgrown (balloc HB1.out _) hg2 fun k' hk' => (HO1.out.lt k' hk').1); have hc2 := cmono HB2.out hc; clear hO2 hg2 tok2)
            | (at_builtin; refine wpList_append_own _ rfl _ _ 78 rfl wr.heap.size 149 i0 (.agg #[.int .i64 0, .int .i64 0]) 2 16 Try.underlying78 hI.out hZ0.out hZ1.out hZ2.out rfl (by decide) v2 (0 + m + 1) _ rfl HO2.out _ (L.length - m) _ (flat Pr.enc (L.drop m)) rfl HL2.out ?qe1 ?qe2 ?qe3 ?qe4 ?qe5 ?_; rotate_left 5; intro v3 w3 hO3 hg3 _; rw [Nat.zero_add] at hO3; obtain ⟨g3, cap3, rfl⟩ := own_form hO3 (by omega); have HO3 := hid_ hO3; have HB3 := hid_ (bgrown HB2.out hg3 fun k' hk' => (HO2.out.lt k' hk').1); have hc3 := cmono HB3.out hc; have hf3 := frozen_blk (j := 0) (hmono HB3.out hblk.out); clear hO3 hg3))
          case qe1 =>
            intro j u hu
            have := cmono HB2.out (hcells.out _ u (flat_drop_get Pr.enc_len L m j hat u hu))
            rw [show (⟨g, m * 2 + j, none⟩ : Addr) = (⟨g, 0, none⟩ : Addr).add (m * 2 + j) by unfold Addr.add; split <;> simp_all]
            exact this
          case qe2 => exact fun u hu => flat_pr_cell _ u hu
          case qe3 => unfold maxLen; omega
          case qe4 => omega
          case qe5 => exact HB2.out.size
          case qd2 => simp [Value.oneCell']
          case qd3 => unfold maxLen; omega
          case qd4 => omega
          case qd5 => have := HB1.out.size; omega
          case qc1 => exact fun j u hu => hcells.out j u (flat_take_get L m j u hu)
          case qc2 => exact fun u hu => flat_pr_cell _ u hu
          case qc3 => unfold maxLen; omega
          case qc4 => omega
          case qc5 => exact Nat.le_refl _
          go_ret
          refine ⟨by rw [HF.out.1]; rfl, ⟨.slice (some ⟨g3, 0, none⟩) (m + 1 + (L.length - m)) cap3, ?_⟩, gb_trans (gb_below HB3.out _) (gb_setCell _ _ _)⟩
          have hlenL : (L.take m ++ [⟨k, a⟩] ++ L.drop m : List Pr).length = m + 1 + (L.length - m) := by simp; omega
          have hfl : flat Pr.enc (L.take m ++ [⟨k, a⟩] ++ L.drop m) = [] ++ flat Pr.enc (L.take m) ++ [vz k, vz a] ++ flat Pr.enc (L.drop m) := by rw [flat_append, flat_append, flat_one]; rfl
          rw [HF.out.2, HIN.out]
          refine RTab.store (hmono HB3.out hblk.out) ?_ hlt.out
          rw [hlenL, hfl]
          exact HO3.out
end Go.Proofs.Ytncdkbhkjamdpaa
