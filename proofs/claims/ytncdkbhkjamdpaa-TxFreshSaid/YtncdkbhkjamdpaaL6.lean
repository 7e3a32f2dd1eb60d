/- The walk of the statement SpanOrder: it returns true. -/
import Derived.Test.YtncdkbhkjamdpaaL4
namespace Go.Proofs.Ytncdkbhkjamdpaa
open Go.RowKit

theorem fold_ok {p lo hi : Int} (hp : p < lo) (h1 : -100000000000000000 ≤ lo) (h2 : hi ≤ 100000000000000000) : ∀ (l acc : List Sp), RF p acc → Win lo hi acc → Win lo hi l →
    RF p (l.foldl addW acc) ∧ Win lo hi (l.foldl addW acc) ∧ ∀ y, Has (l.foldl addW acc) y ↔ Has acc y ∨ Has l y := by
  intro l
  induction l with
  | nil => intro acc a b _; exact ⟨a, b, fun y => by rw [has_nil, or_false]; rfl⟩
  | cons s l ih =>
    intro acc a b c
    obtain ⟨c1, c2⟩ := win_cons.1 c
    obtain ⟨d1, d2, d3⟩ := addW_ok a b h1 h2 c1.1 c1.2 hp
    obtain ⟨e1, e2, e3⟩ := ih _ d1 d2 c2
    refine ⟨e1, e2, fun y => ?_⟩
    rw [List.foldl_cons, e3, d3, has_cons, or_assoc]
theorem fold_len (l : List Sp) : ∀ acc : List Sp, (l.foldl addW acc).length ≤ acc.length + l.length := by
  induction l with
  | nil => intro acc; simp
  | cons s l ih =>
    intro acc
    have := ih (addW acc s)
    have := addW_len acc s
    simp only [List.foldl_cons, List.length_cons]; omega
def rot (l : List Sp) (by_ : Nat) (k : Nat) : List Sp := (List.range k).map fun j => l[(j + by_) % l.length]?.getD default
theorem rot_succ {l : List Sp} {by_ k : Nat} (h : (k + by_) % l.length < l.length) : rot l by_ (k + 1) = rot l by_ k ++ [l[(k + by_) % l.length]] := by
  simp [rot, List.range_succ, List.getElem?_eq_getElem h]
theorem rot_mem (l : List Sp) (by_ : Nat) (s : Sp) : s ∈ rot l by_ l.length ↔ s ∈ l := by
  rcases Nat.eq_zero_or_pos l.length with h0 | h0
  · have : l = [] := List.length_eq_zero_iff.1 h0
    subst this; simp [rot]
  simp only [rot, List.mem_map, List.mem_range]
  constructor
  · rintro ⟨j, hj, rfl⟩
    have := Nat.mod_lt (j + by_) h0
    rw [List.getElem?_eq_getElem this]
    exact List.getElem_mem _
  · intro hs
    obtain ⟨i, hi, rfl⟩ := List.getElem_of_mem hs
    refine ⟨(i + (l.length - by_ % l.length)) % l.length, Nat.mod_lt _ h0, ?_⟩
    have e : ((i + (l.length - by_ % l.length)) % l.length + by_) % l.length = i := by
      have hb := Nat.mod_lt by_ h0
      have hd := Nat.div_add_mod by_ l.length
      rw [Nat.mod_add_mod, show i + (l.length - by_ % l.length) + by_ = i + l.length * (by_ / l.length + 1) by rw [Nat.mul_add, Nat.mul_one]; omega, Nat.add_mul_mod_self_left, Nat.mod_eq_of_lt hi]
    rw [e, List.getElem?_eq_getElem hi]
    rfl
structure OrderLaw (l : List Sp) (a b : List Sp) : Prop where
  near : ∀ s ∈ l, -1048576 ≤ s.f ∧ s.f ≤ 1048576 ∧ -1048576 ≤ s.m ∧ s.m ≤ 1048576
  same : a = b
  right : rightB a = true
  bd : BdL a
  cov : ∀ s ∈ l, coversB a s = true
  add : ∀ s ∈ l, addW a s = a
  len : a.length ≤ 24
def Near (s : Sp) : Prop := -1048576 ≤ s.f ∧ s.f ≤ 1048576 ∧ -1048576 ≤ s.m ∧ s.m ≤ 1048576
theorem order_law (l : List Sp) (by_ : Nat) (h : ∀ s ∈ l, Near s) (hl : l.length ≤ 24) : OrderLaw l (l.foldl addW []) ((rot l by_ l.length).foldl addW []) := by
  have hw : Win (-1048576) 2097152 l := fun s hs => by have := h s hs; unfold Near at this; omega
  have hw' : Win (-1048576) 2097152 (rot l by_ l.length) := fun s hs => hw s ((rot_mem l by_ s).1 hs)
  have hn : Win (-1048576) 2097152 [] := fun s hs => by cases hs
  obtain ⟨a1, a2, a3⟩ := fold_ok (p := -1048577) (by decide) (by decide) (by decide) l [] trivial hn hw
  obtain ⟨b1, b2, b3⟩ := fold_ok (p := -1048577) (by decide) (by decide) (by decide) (rot l by_ l.length) [] trivial hn hw'
  have hhas : ∀ y, Has (rot l by_ l.length) y ↔ Has l y := fun y => by simp only [Has, rot_mem]
  refine ⟨h, a1.uniq b1 fun y => by rw [a3, b3, hhas], a1.rightB, a2.bd a1 (by decide) (by decide), fun s hs => ?_, fun s hs => ?_, ?_⟩
  · exact (coversB_iff a1 s).2 fun y h1 h2 => (a3 y).2 (.inr ⟨s, hs, h1, h2⟩)
  · have := hw s hs
    obtain ⟨d1, _, d3⟩ := addW_ok a1 a2 (by decide) (by decide) this.1 this.2 (by decide)
    refine d1.uniq a1 fun y => ?_
    rw [d3, a3]
    constructor
    · rintro (h | h)
      · exact h
      · exact .inr ⟨s, hs, h⟩
    · exact .inl
  · have := fold_len l []
    simp at this; omega

structure OrdRel (W : World) (l : List Sp) (by_ k : Nat) (a b : Value) (wr : World) : Prop where
  near : ∀ j (hj : j < l.length), j < k → Near l[j]
  ra : RdS wr a ((l.take k).foldl addW [])
  rb : RdS wr b ((rot l by_ k).foldl addW [])
  b : Below W.heap.size W wr

set_option maxHeartbeats 4000000 in
set_option maxRecDepth 100000 in
theorem spanOrder_walk (l : List Sp) (v : Value) (by_ : Int) (w : World) (hv : RdS w v l) (y1 : 0 ≤ by_) (y2 : by_ ≤ 255) :
    Calls Try.prog 6 #[v, .int .u8 by_] w fun e w' => e = .returned (.bool true) ∧ Below w.heap.size w w' := by
  obtain ⟨m, rfl⟩ : ∃ m : Nat, by_ = m := ⟨by_.toNat, by omega⟩
  have HV := hid_ hv
  obtain ⟨A, c, rfl, hl, hl', _⟩ := hv
  by_cases hlen : 24 < l.length
  · go_enter Try.func6, Try.ntmps6
    go_wp2_with (go_at_call 22; refine (awake_c _).mono ?_; rintro e w1 ⟨rfl, hb⟩; have B1 := hid_ hb; clear hb)
    go_ret
    exact ⟨rfl, B1.out⟩
  · go_enter Try.func6, Try.ntmps6
    go_wp2_with (go_at_call 22; refine (awake_c _).mono ?_; rintro e w1 ⟨rfl, hb⟩; have B1 := hid_ hb; clear hb)
    go_loopw [6, 7, 8] (fun a b i wr => ∃ k : Nat, k ≤ l.length ∧ i = .int .i64 k ∧ Hid (OrdRel w l m k a b wr)) (fun _ _ i _ => l.length - (intOf i).toNat)
    case atStart => exact ⟨0, Nat.zero_le _, rfl, ⟨fun j _ h => absurd h (Nat.not_lt_zero _), Rd.nil _, Rd.nil _, B1.out⟩⟩
    case round =>
      obtain ⟨k, hk, rfl, HR⟩ := hrel
      have hB := HR.out.b
      by_cases hlt : k < l.length
      · obtain ⟨b, o, rfl, h1, h2⟩ := RdS.at HV.out hB hlt
        obtain ⟨j, hj, hjl⟩ : ∃ j : Nat, ((k : Int) + m).tmod l.length = j ∧ (k + m) % l.length = j ∧ j < l.length := ⟨(k + m) % l.length, by rw [Int.tmod_eq_emod_of_nonneg (by omega), ← Int.natCast_add, ← Int.natCast_emod], rfl, Nat.mod_lt _ (by omega)⟩
        obtain ⟨hjm, hjl⟩ := hjl
        obtain ⟨b', o', he, h3, h4⟩ := RdS.at HV.out hB hjl
        obtain ⟨rfl, rfl⟩ : b' = b ∧ o' = o := by injection he with he; injection he with h1 h2; exact ⟨h1.symm, h2.symm⟩
        clear he
        have HRO : Hid (rot l m (k + 1) = rot l m k ++ [l[j]]) := by
          show _ = _
          rw [rot_succ (by rw [hjm]; exact hjl)]
          simp only [hjm]
        have HTK : Hid (l.take (k + 1) = l.take k ++ [l[k]]) := by show _ = _; rw [List.take_add_one, List.getElem?_eq_getElem hlt]; rfl
        have HLA : Hid (((l.take k).foldl addW []).length ≤ 24 ∧ ((rot l m k).foldl addW []).length ≤ 24) := by
          have q1 := fold_len (l.take k) []
          have q2 := fold_len (rot l m k) []
          simp [rot] at q1 q2
          exact ⟨by omega, by simp only [rot]; omega⟩
        obtain ⟨s, hs⟩ : ∃ s, l[k] = s := ⟨_, rfl⟩
        obtain ⟨t, ht⟩ : ∃ t, l[j] = t := ⟨_, rfl⟩
        rw [hs] at h1 h2 HTK
        rw [ht] at h3 h4 HRO
        have HS := hid_ hs
        clear hs ht hjm
        by_cases hin : -1048576 ≤ s.f ∧ s.f ≤ 1048576 ∧ -1048576 ≤ s.m ∧ s.m ≤ 1048576
        · have HNR : Hid (Near s) := hin
          obtain ⟨i1, i2, i3, i4⟩ := hin
          have tok1 : True := trivial
          go_wp2_with (first
            | (go_at_call 27; have _t := tok1; refine (add_c _ _ s _ HR.out.ra (by have := HLA.out.1; omega)).mono ?_; rintro e w2 ⟨va, rfl, hO, hb⟩; have RA := hid_ (Rd.own hO); have RB := hid_ (HR.out.rb.mono hb); have B2 := hid_ (btr hB hb); replace h3 := cmono hb h3; replace h4 := cmono hb h4; clear hb hO tok1)
            | (go_at_call 27; refine (add_c _ _ t _ RB.out (by have := HLA.out.2; omega)).mono ?_; rintro e w3 ⟨vb, rfl, hO, hb⟩; have RB2 := hid_ (Rd.own hO); have RA2 := hid_ (RA.out.mono hb); have B3 := hid_ (btr B2.out hb); clear hb hO))
          go_roundw
          case rel =>
            refine ⟨k + 1, by omega, by go_num, ⟨fun i hi hik => ?_, ?_, ?_, B3.out⟩⟩
            · by_cases hik' : i < k
              · exact HR.out.near i hi hik'
              · obtain rfl : i = k := by omega
                rw [HS.out]; exact HNR.out
            · rw [HTK.out, List.foldl_append]; exact RA2.out
            · rw [HRO.out, List.foldl_append]; exact RB2.out
          case measure => simp [intOf]; omega
        · rcases Int.lt_or_le s.f (-1048576) with c1 | c1
          · go_wp2
            go_ret
            exact ⟨rfl, hB⟩
          rcases Int.lt_or_le 1048576 s.f with c2 | c2
          · go_wp2
            go_ret
            exact ⟨rfl, hB⟩
          rcases Int.lt_or_le s.m (-1048576) with c3 | c3
          · go_wp2
            go_ret
            exact ⟨rfl, hB⟩
          have c4 : 1048576 < s.m := by omega
          clear hin
          go_wp2
          go_ret
          exact ⟨rfl, hB⟩
      · obtain rfl : k = l.length := by omega
        have hra := HR.out.ra
        rw [List.take_length] at hra
        have HLW := hid_ (order_law l m (fun s hs => by obtain ⟨i, hi, rfl⟩ := List.getElem_of_mem hs; exact HR.out.near i hi hi) (by omega))
        have hrb := HR.out.rb
        have HRA := hid_ hra
        have HRB := hid_ hrb
        clear hra hrb HR
        generalize l.foldl addW [] = al at HRA HLW
        generalize (rot l m l.length).foldl addW [] = bl at HRB HLW
        obtain ⟨Aa, ca, rfl, hal, hal', _⟩ := id HRA.out
        have hB1 := hB
        clear hB
        go_wp2
        go_loopw [9] (fun i wr2 => ∃ k : Nat, k ≤ l.length ∧ i = .int .i64 k ∧ Hid (RdS wr2 (.slice Aa al.length ca) al ∧ RdS wr2 u7 bl ∧ Below w.heap.size w wr2)) (fun i _ => l.length - (intOf i).toNat)
        case atStart => exact ⟨0, Nat.zero_le _, rfl, HRA.out, HRB.out, hB1⟩
        case round =>
          obtain ⟨k, hk, rfl, HR⟩ := hrel
          obtain ⟨ra, rb, hB⟩ := HR.out
          have RA := hid_ ra; have RB := hid_ rb
          clear ra rb HR HRA HRB
          by_cases hlt : k < l.length
          · obtain ⟨b, o, rfl, h1, h2⟩ := RdS.at HV.out hB hlt
            have HC := hid_ (HLW.out.cov _ (List.getElem_mem hlt))
            have HA := hid_ (HLW.out.add _ (List.getElem_mem hlt))
            have HS := hid_ (HLW.out.near _ (List.getElem_mem hlt))
            have hlen2 := HLW.out.len
            generalize l[k] = s at h1 h2 HC HA HS
            go_wp2_with (first
              | (go_at_call 31; refine (covers_c al s _ _ RA.out HLW.out.bd (by obtain ⟨_, _, _, _⟩ := HS.out; exact ⟨by omega, by omega, by omega, by omega⟩)).mono ?_; rintro e w2 ⟨rfl, hb⟩; rw [HC.out]; replace RA := hid_ (RA.out.mono hb); replace RB := hid_ (RB.out.mono hb); have B2 := hid_ (btr hB hb); replace h1 := cmono hb h1; replace h2 := cmono hb h2; clear hb)
              | (go_at_call 27; refine (add_c al _ s _ RA.out (by omega)).mono ?_; rintro e w3 ⟨vb, rfl, hO, hb⟩; rw [HA.out] at hO; have RC := hid_ (Rd.own hO); replace RA := hid_ (RA.out.mono hb); replace RB := hid_ (RB.out.mono hb); replace B2 := hid_ (btr B2.out hb); clear hb hO)
              | (go_at_call 28; refine (same_c al al _ _ _ RC.out RA.out).mono ?_; rintro e w4 ⟨rfl, hb⟩; rw [decide_eq_true rfl]; replace RA := hid_ (RA.out.mono hb); replace RB := hid_ (RB.out.mono hb); replace B2 := hid_ (btr B2.out hb); clear hb))
            go_roundw
            case rel => exact ⟨k + 1, by omega, by go_num, RA.out, RB.out, B2.out⟩
            case measure => simp [intOf]; omega
          · go_wp2_with (first
              | (go_at_call 28; refine (same_c al bl _ _ _ RA.out RB.out).mono ?_; rintro e w2 ⟨rfl, hb⟩; rw [decide_eq_true HLW.out.same]; replace RA := hid_ (RA.out.mono hb); have B2 := hid_ (btr hB hb); clear hb)
              | (go_at_call 24; refine (right_c al _ _ RA.out HLW.out.bd).mono ?_; rintro e w3 ⟨rfl, hb⟩; rw [HLW.out.right]; replace B2 := hid_ (btr B2.out hb); clear hb))
            go_ret
            exact ⟨rfl, B2.out⟩
end Go.Proofs.Ytncdkbhkjamdpaa
