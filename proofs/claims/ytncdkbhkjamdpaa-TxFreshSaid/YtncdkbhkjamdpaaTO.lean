/- Chapter 20: an operation; a list of them; which are of a size that is looked at. -/
import Derived.Test.YtncdkbhkjamdpaaTP
import Derived.Test.YtncdkbhkjamdpaaD0
namespace Go.Proofs.Ytncdkbhkjamdpaa
open Go.RowKit Go.Maps

/-! ### An operation -/
structure O20 where
  k : Int
  s : Sp
  f : Ob
def O20.enc (o : O20) : List Value := [.int .u8 o.k, vz o.s.f, vz o.s.m, vz o.f.ch, vz o.f.ix, vz o.f.cl, vz o.f.mn, .bool o.f.fr, vz o.f.at_, vz o.f.ty, vz o.f.sz, vu o.f.sr]
theorem O20.enc_len (o : O20) : o.enc.length = 12 := rfl
def O20.cs (o : O20) : Array Value := #[.int .u8 o.k, .int .i64 o.s.f, .int .i64 o.s.m, .int .i64 o.f.ch, .int .i64 o.f.ix, .int .i64 o.f.cl, .int .i64 o.f.mn, .bool o.f.fr, .int .i64 o.f.at_, .int .i64 o.f.ty, .int .i64 o.f.sz, .int .u64 o.f.sr]
def few20 (o : O20) : Bool := decide (0 ≤ o.s.f ∧ o.s.f ≤ 200 ∧ 0 ≤ o.s.m ∧ o.s.m ≤ 60 ∧ 0 ≤ o.f.at_ ∧ o.f.at_ ≤ 200 ∧ o.f.at_ % 20 = 0 ∧ 0 ≤ o.f.sz ∧ o.f.sz ≤ 18)
theorem few20_iff (o : O20) : few20 o = true ↔ Small o.s ∧ o.f.Ok := by
  rw [few20, decide_eq_true_eq]
  constructor
  · rintro ⟨a, b, c, d, e, f, g, h, i⟩; exact ⟨⟨a, b, c, d⟩, ⟨e, f, g, h, i⟩⟩
  · rintro ⟨⟨a, b, c, d⟩, ⟨e, f, g, h, i⟩⟩; exact ⟨a, b, c, d, e, f, g, h, i⟩
abbrev RdO20 (w : World) (v : Value) (l : List O20) : Prop := Rd 12 O20.enc w v l
structure O20C (wr : World) (b p : Nat) (o : O20) : Prop where
  c0 : wr.cell? ⟨b, p, none⟩ = some (.int .u8 o.k)
  c1 : wr.cell? ⟨b, p + 1, none⟩ = some (vz o.s.f)
  c2 : wr.cell? ⟨b, p + 2, none⟩ = some (vz o.s.m)
  c3 : wr.cell? ⟨b, p + 3, none⟩ = some (vz o.f.ch)
  c4 : wr.cell? ⟨b, p + 4, none⟩ = some (vz o.f.ix)
  c5 : wr.cell? ⟨b, p + 5, none⟩ = some (vz o.f.cl)
  c6 : wr.cell? ⟨b, p + 6, none⟩ = some (vz o.f.mn)
  c7 : wr.cell? ⟨b, p + 7, none⟩ = some (.bool o.f.fr)
  c8 : wr.cell? ⟨b, p + 8, none⟩ = some (vz o.f.at_)
  c9 : wr.cell? ⟨b, p + 9, none⟩ = some (vz o.f.ty)
  c10 : wr.cell? ⟨b, p + 10, none⟩ = some (vz o.f.sz)
  c11 : wr.cell? ⟨b, p + 11, none⟩ = some (vu o.f.sr)
theorem O20C.mono {w w' : World} {b p : Nat} {o : O20} (h : O20C w b p o) (hb : Below w.heap.size w w') : O20C w' b p o :=
  ⟨cmono hb h.c0, cmono hb h.c1, cmono hb h.c2, cmono hb h.c3, cmono hb h.c4, cmono hb h.c5, cmono hb h.c6, cmono hb h.c7, cmono hb h.c8, cmono hb h.c9, cmono hb h.c10, cmono hb h.c11⟩
theorem RdO20.at {w wr : World} {A : Option Addr} {n c : Nat} {l : List O20} (h : RdO20 w (.slice A n c) l) (hb : Below w.heap.size w wr) {k : Nat} (hk : k < l.length) : ∃ b o, A = some ⟨b, o, none⟩ ∧ O20C wr b (o + k * 12) l[k] := by
  obtain ⟨A', c', e, _, _, hc⟩ := h
  injection e with e1 e2 e3
  subst e1
  obtain ⟨b, o, ea, hh⟩ := hc k hk
  exact ⟨b, o, ea, ⟨cmono hb (hh 0 _ rfl), cmono hb (hh 1 _ rfl), cmono hb (hh 2 _ rfl), cmono hb (hh 3 _ rfl), cmono hb (hh 4 _ rfl), cmono hb (hh 5 _ rfl), cmono hb (hh 6 _ rfl), cmono hb (hh 7 _ rfl), cmono hb (hh 8 _ rfl), cmono hb (hh 9 _ rfl), cmono hb (hh 10 _ rfl), cmono hb (hh 11 _ rfl)⟩⟩
def fewL20 (l : List O20) : Bool := l.all few20 && decide (l.length ≤ 40)
theorem fewL20_iff (l : List O20) : fewL20 l = true ↔ (∀ o ∈ l, Small o.s ∧ o.f.Ok) ∧ l.length ≤ 40 := by
  rw [fewL20, Bool.and_eq_true, decide_eq_true_eq, List.all_eq_true]
  constructor
  · rintro ⟨a, b⟩; exact ⟨fun o ho => (few20_iff o).1 (a o ho), b⟩
  · rintro ⟨a, b⟩; exact ⟨fun o ho => (few20_iff o).2 (a o ho), b⟩

end Go.Proofs.Ytncdkbhkjamdpaa
