/- The statement's own helpers of chapter 03: few, do, also. -/
import Derived.Test.YtncdkbhkjamdpaaE3
import Derived.Test.YtncdkbhkjamdpaaE4
import Derived.Test.YtncdkbhkjamdpaaD12
namespace Go.Proofs.Ytncdkbhkjamdpaa
open Go.RowKit Go.Maps

structure O3 where
  k : Int
  at_ : Int
  many : Int
  v : Int
  kv : Value
  keep : List Int
def O3.enc (o : O3) : List Value := [.int .u8 o.k, vz o.at_, vz o.many, vu o.v, o.kv]
theorem O3.enc_len (o : O3) : o.enc.length = 5 := rfl
structure O3.Ok (w : World) (o : O3) : Prop where
  k0 : 0 ≤ o.k ∧ o.k ≤ 255
  rk : RdB w o.kv o.keep
  by_ : Bytes o.keep
  za : InZ o.at_
  zm : InZ o.many
def few3 (o : O3) : Bool := decide (o.keep.length ≤ 40) && decide (-1099511627776 ≤ o.at_) && decide (o.at_ ≤ 1099511627776) && decide (-1099511627776 ≤ o.many) && decide (o.many ≤ 1099511627776)
structure O3.Small (o : O3) : Prop where
  kl : o.keep.length ≤ 40
  a1 : -1099511627776 ≤ o.at_
  a2 : o.at_ ≤ 1099511627776
  m1 : -1099511627776 ≤ o.many
  m2 : o.many ≤ 1099511627776
theorem few3_iff (o : O3) : few3 o = true ↔ o.Small := by
  simp only [few3, Bool.and_eq_true, decide_eq_true_eq]
  constructor
  · rintro ⟨⟨⟨⟨a, b⟩, c⟩, d⟩, e⟩; exact ⟨a, b, c, d, e⟩
  · rintro ⟨a, b, c, d, e⟩; exact ⟨⟨⟨⟨a, b⟩, c⟩, d⟩, e⟩
abbrev RdO3 (w : World) (v : Value) (l : List O3) : Prop := Rd 5 O3.enc w v l
theorem RdO3.at {w wr : World} {A : Option Addr} {n c : Nat} {l : List O3} (h : RdO3 w (.slice A n c) l) (hb : Below w.heap.size w wr) {k : Nat} (hk : k < l.length) :
    ∃ b o, A = some ⟨b, o, none⟩ ∧ wr.cell? ⟨b, o + k * 5, none⟩ = some (.int .u8 l[k].k) ∧ wr.cell? ⟨b, o + k * 5 + 1, none⟩ = some (vz l[k].at_) ∧ wr.cell? ⟨b, o + k * 5 + 2, none⟩ = some (vz l[k].many) ∧ wr.cell? ⟨b, o + k * 5 + 3, none⟩ = some (vu l[k].v) ∧ wr.cell? ⟨b, o + k * 5 + 4, none⟩ = some l[k].kv := by
  obtain ⟨A', c', e, _, _, hc⟩ := h
  injection e with e1 e2 e3
  subst e1
  obtain ⟨b, o, ea, hh⟩ := hc k hk
  exact ⟨b, o, ea, cmono hb (hh 0 _ rfl), cmono hb (hh 1 _ rfl), cmono hb (hh 2 _ rfl), cmono hb (hh 3 _ rfl), cmono hb (hh 4 _ rfl)⟩
def fewL (l : List O3) : Bool := l.all few3 && decide (l.length ≤ 60)
theorem all_take {α : Type} {p : α → Bool} {l : List α} {k : Nat} (hk : k < l.length) : (l.take (k + 1)).all p = ((l.take k).all p && p l[k]) := by
  rw [List.take_add_one, List.getElem?_eq_getElem hk]
  simp only [Option.toList_some, List.all_append, List.all_cons, List.all_nil, Bool.and_true]
theorem all_false {α : Type} {p : α → Bool} {l : List α} {k : Nat} (hk : k < l.length) (h : p l[k] = false) : l.all p = false := by
  rw [List.all_eq_false]
  exact ⟨_, List.getElem_mem hk, by rw [h]; decide⟩

set_option maxHeartbeats 4000000 in
set_option maxRecDepth 100000 in
theorem few3_c (l : List O3) (v : Value) (w : World) (hv : RdO3 w v l) (hb : ∀ o ∈ l, o.Ok w) :
    Calls Try.prog 64 #[v] w fun e w' => e = .returned (.bool (fewL l)) ∧ w = w' := by
  have HV := hid_ hv
  have HOK := hid_ hb
  clear hb
  obtain ⟨A, c, rfl, hl, hl', _⟩ := hv
  go_enter Try.func64, Try.ntmps64
  go_wp2
  go_loopw [3] (fun i wr => ∃ k : Nat, k ≤ l.length ∧ i = .int .i64 k ∧ Hid ((l.take k).all few3 = true) ∧ wr = w) (fun i _ => l.length - (intOf i).toNat)
  case atStart => exact ⟨0, Nat.zero_le _, rfl, by simp [Hid], rfl⟩
  case round =>
    obtain ⟨k, hk, rfl, hh, rfl⟩ := hrel
    by_cases hlt : k < l.length
    · obtain ⟨b, o, rfl, h0, h1, h2, h3, h4⟩ := RdO3.at HV.out (Below.refl _ _) hlt
      have HO := hid_ (HOK.out _ (List.getElem_mem hlt))
      have HT := hid_ (all_take (p := few3) hlt)
      have HNO := hid_ (fun h => all_false (p := few3) hlt h)
      obtain ⟨x, hx⟩ : ∃ x, l[k] = x := ⟨_, rfl⟩
      rw [hx] at h0 h1 h2 h3 h4 HO HT HNO
      clear hx
      obtain ⟨A2, c2, hkv, hk1, hk2, _⟩ := HO.out.rk
      rw [hkv] at h4
      clear hkv
      by_cases hs : x.Small
      · have HP : Hid (few3 x = true) := (few3_iff x).2 hs
        obtain ⟨s1, s2, s3, s4, s5⟩ := hs
        go_wp2
        go_roundw
        case rel => exact ⟨k + 1, by omega, by go_num, by show _ = _; rw [HT.out, hh.out, HP.out]; rfl, trivial⟩
        case measure => simp [intOf]; omega
      · have HP : Hid (fewL l = false) := by
          show _ = _
          have hf : few3 x = false := by rw [← Bool.not_eq_true, few3_iff]; exact hs
          rw [fewL, HNO.out hf]; rfl
        have key : 40 < x.keep.length ∨ (x.keep.length ≤ 40 ∧ x.at_ < -1099511627776) ∨ (x.keep.length ≤ 40 ∧ -1099511627776 ≤ x.at_ ∧ 1099511627776 < x.at_) ∨ (x.keep.length ≤ 40 ∧ -1099511627776 ≤ x.at_ ∧ x.at_ ≤ 1099511627776 ∧ x.many < -1099511627776) ∨ (x.keep.length ≤ 40 ∧ -1099511627776 ≤ x.at_ ∧ x.at_ ≤ 1099511627776 ∧ -1099511627776 ≤ x.many ∧ 1099511627776 < x.many) := by
          by_cases a : 40 < x.keep.length
          · exact .inl a
          · by_cases b1 : x.at_ < -1099511627776
            · exact .inr (.inl ⟨by omega, b1⟩)
            · by_cases b2 : 1099511627776 < x.at_
              · exact .inr (.inr (.inl ⟨by omega, by omega, b2⟩))
              · by_cases b3 : x.many < -1099511627776
                · exact .inr (.inr (.inr (.inl ⟨by omega, by omega, by omega, b3⟩)))
                · by_cases b4 : 1099511627776 < x.many
                  · exact .inr (.inr (.inr (.inr ⟨by omega, by omega, by omega, by omega, b4⟩)))
                  · exact absurd ⟨by omega, by omega, by omega, by omega, by omega⟩ hs
        clear hs
        rcases key with q1 | ⟨q1, q2⟩ | ⟨q1, q2, q3⟩ | ⟨q1, q2, q3, q4⟩ | ⟨q1, q2, q3, q4, q5⟩
        all_goals
          go_wp2
          go_ret
          exact ⟨by rw [HP.out]; rfl, rfl⟩
    · obtain rfl : k = l.length := by omega
      have HA := hh.out
      rw [List.take_length] at HA
      have HP : Hid (fewL l = decide ((l.length : Int) ≤ 60)) := by
        show _ = _
        rw [fewL, HA, Bool.true_and, decide_eq_decide]
        omega
      clear HA
      go_wp2
      go_ret
      exact ⟨by rw [HP.out]; rfl, rfl⟩
end Go.Proofs.Ytncdkbhkjamdpaa
