/- Small words that all the walks of this seat use: facts laid aside; a region that draws its order, over the class of worlds grown from one; slices that read as lists. -/
import Derived.Test.YtncdkbhkjamdpaaProg
import Derived.WalkKit
import Derived.WalkSpells
import Derived.WalkLawsBesides
import Derived.Deep.QuietTactic
import Derived.BigQuiet
import Derived.Deep.LoopGhost
import Derived.Laws.StructEq
namespace Go.Proofs.Ytncdkbhkjamdpaa
open Go.RowKit

theorem hid_ {p : Prop} (h : p) : Hid p := h

theorem hid_iff {p q : Prop} (h : p ↔ q) : Hid p ↔ Hid q := h

theorem wrap_in {n : Int} (h1 : -9223372036854775808 ≤ n) (h2 : n ≤ 9223372036854775807) : IntKind.i64.wrap n = n := IntWalk.i64_in _ ⟨h1, h2⟩
theorem wrap64_id {n : Int} (h1 : -9223372036854775808 ≤ n) (h2 : n ≤ 9223372036854775807) : wrap64 n = n := by unfold wrap64; omega
theorem wrap64_lo (n : Int) : -9223372036854775808 ≤ wrap64 n := by unfold wrap64; omega
theorem wrap64_hi (n : Int) : wrap64 n ≤ 9223372036854775807 := by unfold wrap64; omega

/-! ### Worlds grown from a world -/
theorem cmono {W W' : World} (hb : Below W.heap.size W W') {a : Addr} {v : Value} (h : W.cell? a = some v) : W'.cell? a = some v :=
  (hb.cell (World.block_lt_of_cell? W a h)).trans h
theorem hmono {W W' : World} (hb : Below W.heap.size W W') {b : Nat} {o : Obj} (h : W.heap[b]? = some o) : W'.heap[b]? = some o :=
  (hb.block b (Array.getElem?_eq_some_iff.1 h).1).trans h
theorem btrans {W W1 W2 : World} {n : Nat} (h : Below n W W1) (h2 : Below W1.heap.size W1 W2) (hn : n ≤ W1.heap.size) : Below n W W2 :=
  h.trans (h2.mono hn)
theorem btr {W W1 W2 : World} (h : Below W.heap.size W W1) (h2 : Below W1.heap.size W1 W2) : Below W.heap.size W W2 :=
  h.trans (h2.mono h.size)
theorem balloc {W W1 : World} (h : Below W.heap.size W W1) (o : Obj) : Below W.heap.size W (W1.alloc o) := h.alloc h.size o
theorem balloc' (W : World) (o : Obj) : Below W.heap.size W (W.alloc o) := (Below.refl _ _).alloc (Nat.le_refl _) o

structure Ext (W : World) where
  w : World
  h : Below W.heap.size W w
instance (W : World) : Inhabited (Ext W) := ⟨⟨W, Below.refl _ _⟩⟩
theorem Ext.cell {W : World} {a : Addr} {v : Value} (h : W.cell? a = some v) (p : Ext W) : p.w.cell? a = some v := cmono p.h h

/-- A region that draws its order, walked once, in the order of the text: its calls may make memory of their own. -/
theorem wp_region_ext {P : Program} {id : Nat} {Q : Exit → Act → World → Prop} {a : Act} {w : World} {l : List Oper} (hm : P.follows .mixedOrders = true) (hB : Region.lexB .any l.toArray = true)
    (h : wpQuiet P l.toArray (fun w' => ∃ p : Ext w, w' = p.w) (fun a' => ∀ w', (∃ p : Ext w, w' = p.w) → Q .normal a' w') l a) : (Code.region id l.toArray true).wp P Q a w :=
  wp_region_quiet (C := fun w' => ∃ p : Ext w, w' = p.w) hm hB ⟨⟨w.drew, (Below.refl _ _).drew⟩, rfl⟩ (by simpa using h)

/-- A callee's contract, met in a grown world. -/
theorem Calls.ext {P : Program} {f : FuncId} {args : Array Value} {W : World} {p : Ext W} {v : Value}
    (h : Calls P f args p.w fun e w' => e = .returned v ∧ Below p.w.heap.size p.w w') : Calls P f args p.w fun e w'' => e = .returned v ∧ ∃ q : Ext W, w'' = q.w :=
  h.mono fun _ w' ⟨he, hb⟩ => ⟨he, ⟨w', btr p.h hb⟩, rfl⟩

theorem cell_new {wr : World} {cs : Array Value} {e : TypeId} {v : Value} (j : Nat) (h : cs[j]? = some v) : (wr.alloc (.cells cs e)).cell? ⟨wr.heap.size, j, none⟩ = some v := by
  have : (wr.alloc (.cells cs e)).heap[wr.heap.size]? = some (.cells cs e) := heap_alloc_new wr _
  unfold World.cell?
  rw [this]
  simpa using h
theorem cells_new (wr : World) (cs : List Value) (e : TypeId) (j : Nat) (u : Value) (h : cs[j]? = some u) : (wr.alloc (.cells cs.toArray e)).cell? ((⟨wr.heap.size, 0, none⟩ : Addr).add j) = some u := by
  have : (⟨wr.heap.size, 0, none⟩ : Addr).add j = ⟨wr.heap.size, j, none⟩ := by unfold Addr.add; split <;> simp_all
  rw [this]
  exact cell_new j (by simpa using h)
theorem bgrown {W W1 W2 : World} {row : Option Nat} (h : Below W.heap.size W W1) (hg : W1.grownBy W2 row) (hr : ∀ k, row = some k → W.heap.size ≤ k) : Below W.heap.size W W2 := h.grown hg h.size hr
theorem cell_old (w : World) (o : Obj) {a : Addr} {v : Value} (h : w.cell? a = some v) : (w.alloc o).cell? a = some v := cmono (balloc' w o) h
theorem cell_blk {w : World} {b j : Nat} {cs : Array Value} {e : TypeId} {fz : Nat × Nat} {v : Value} (h : w.heap[b]? = some (.cells cs e fz)) (hj : cs[j]? = some v) : w.cell? ⟨b, j, none⟩ = some v := by
  unfold World.cell?
  rw [show (⟨b, j, none⟩ : Addr).block = b from rfl, h]
  simpa using hj
theorem frozen_blk {w : World} {b j : Nat} {cs : Array Value} {e : TypeId} (h : w.heap[b]? = some (.cells cs e (0, 0))) : w.frozen? ⟨b, j, none⟩ = false := by
  unfold World.frozen?
  rw [show (⟨b, j, none⟩ : Addr).block = b from rfl, h]
  simp

/-! ### A slice that reads as a list: k cells an element -/
def Rd {α : Type} (k : Nat) (enc : α → List Value) (w : World) (v : Value) (l : List α) : Prop :=
  ∃ A c, v = .slice A l.length c ∧ l.length ≤ c ∧ c ≤ 9223372036854775807 ∧ ∀ j (_ : j < l.length), ∃ b o, A = some ⟨b, o, none⟩ ∧ ∀ i u, (enc l[j])[i]? = some u → w.cell? ⟨b, o + j * k + i, none⟩ = some u

theorem Rd.mono {α : Type} {k : Nat} {enc : α → List Value} {w w' : World} {v : Value} {l : List α} (h : Rd k enc w v l) (hb : Below w.heap.size w w') : Rd k enc w' v l := by
  obtain ⟨A, c, e, h1, h2, hc⟩ := h
  refine ⟨A, c, e, h1, h2, fun j hj => ?_⟩
  obtain ⟨b, o, ea, hh⟩ := hc j hj
  exact ⟨b, o, ea, fun i u hu => cmono hb (hh i u hu)⟩

theorem Rd.nil {α : Type} {k : Nat} {enc : α → List Value} (w : World) : Rd k enc w (.slice none 0 0) ([] : List α) :=
  ⟨none, 0, rfl, Nat.le_refl _, by omega, fun j hj => absurd hj (Nat.not_lt_zero _)⟩

/-- The flat cells of a list. -/
def flat {α : Type} (enc : α → List Value) (l : List α) : List Value := l.flatMap enc
theorem flat_nil {α : Type} {enc : α → List Value} : flat enc ([] : List α) = [] := rfl
theorem flat_append {α : Type} {enc : α → List Value} (a b : List α) : flat enc (a ++ b) = flat enc a ++ flat enc b := by simp [flat]
theorem flat_one {α : Type} {enc : α → List Value} (a : α) : flat enc [a] = enc a := by simp [flat]
theorem flat_length {α : Type} {enc : α → List Value} {k : Nat} (hk : ∀ a, (enc a).length = k) (l : List α) : (flat enc l).length = l.length * k := by
  induction l with
  | nil => simp [flat]
  | cons a l ih => simp only [flat, List.flatMap_cons, List.length_append, List.length_cons] at ih ⊢; rw [ih, hk, Nat.succ_mul]; omega
theorem flat_get {α : Type} {enc : α → List Value} {k : Nat} (hk : ∀ a, (enc a).length = k) : ∀ (l : List α) (j : Nat) (hj : j < l.length) (i : Nat) (u : Value), (enc l[j])[i]? = some u → (flat enc l)[j * k + i]? = some u
  | a :: l, 0, _, i, u, h => by
    have hi : i < (enc a).length := by simpa using (List.getElem?_eq_some_iff.1 h).1
    simp only [flat, List.flatMap_cons, Nat.zero_mul, Nat.zero_add]
    rw [List.getElem?_append_left hi]; exact h
  | a :: l, j + 1, hj, i, u, h => by
    have := flat_get hk l j (by simpa using hj) i u (by simpa using h)
    simp only [flat, List.flatMap_cons] at this ⊢
    rw [List.getElem?_append_right (by rw [hk, Nat.succ_mul]; omega), hk]
    rw [show (j + 1) * k + i - k = j * k + i by rw [Nat.succ_mul]; omega]
    exact this

theorem flat_at {α : Type} {enc : α → List Value} {k : Nat} (hk : ∀ a, (enc a).length = k) : ∀ (l : List α) (j : Nat) (u : Value), (flat enc l)[j]? = some u → ∃ (q r : Nat) (hq : q < l.length), j = q * k + r ∧ (enc l[q])[r]? = some u
  | [], j, u, h => by simp [flat] at h
  | a :: l, j, u, h => by
    simp only [flat, List.flatMap_cons] at h
    by_cases hj : j < k
    · rw [List.getElem?_append_left (by rw [hk]; exact hj)] at h
      exact ⟨0, j, by simp, by omega, h⟩
    · rw [List.getElem?_append_right (by rw [hk]; omega), hk] at h
      obtain ⟨q, r, hq, e, hh⟩ := flat_at hk l (j - k) u h
      exact ⟨q + 1, r, by simpa using hq, by rw [Nat.succ_mul]; omega, by simpa using hh⟩
theorem Rd.cells {α : Type} {enc : α → List Value} {k : Nat} (hk : ∀ a, (enc a).length = k) {w : World} {a : Addr} {n c : Nat} {l : List α} (h : Rd k enc w (.slice (some a) n c) l) (j : Nat) (u : Value) (hj : (flat enc l)[j]? = some u) : w.cell? (a.add j) = some u := by
  obtain ⟨q, r, hq, rfl, hh⟩ := flat_at hk l j u hj
  obtain ⟨A', c', e, _, _, hc⟩ := h
  injection e with e1 e2 e3
  subst e1
  obtain ⟨b, o, ea, hcc⟩ := hc q hq
  injection ea with ea
  subst ea
  rw [show (⟨b, o, none⟩ : Addr).add (q * k + r) = ⟨b, o + q * k + r, none⟩ by unfold Addr.add; split <;> simp_all [Nat.add_assoc]]
  exact hcc r u hh
theorem Rd.none_nil {α : Type} {enc : α → List Value} {k : Nat} {w : World} {n c : Nat} {l : List α} (h : Rd k enc w (.slice none n c) l) : l = [] := by
  obtain ⟨A', c', e, _, _, hc⟩ := h
  injection e with e1 e2 e3
  subst e1
  rcases Nat.eq_zero_or_pos l.length with h0 | h0
  · exact List.length_eq_zero_iff.1 h0
  · obtain ⟨b, o, ea, _⟩ := hc 0 h0
    cases ea
theorem eql_nil {P : Program} (w : World) (t e : TypeId) (a : Option Addr) (n c n' c' : Nat) (h : P.underlying t = some (.slice e)) :
    (binOp .eql t (.slice a n c) (.slice none n' c')).run P w = .ok (.bool a.isNone) w := by
  simp only [binOp]
  simp [Op.equal, Op.maxDepth, Lib.run_equalIn_slice_nil w 9999 t e a n c n' c' h]

/-- What is owned reads. -/
theorem Rd.of_own {α : Type} {k : Nat} {enc : α → List Value} (hk : ∀ a, (enc a).length = k) {w : World} {base : Nat} {e : TypeId} {v : Value} {n : Nat} {l : List α} (h : w.ownsRow base e k v n (flat enc l)) (hn : n = l.length) : Rd k enc w v l := by
  subst hn
  rcases h.2 with ⟨rfl, h0⟩ | ⟨g, cap, cur, rfl, hb, hh, h1, h2, h3, h4⟩
  · exact ⟨none, 0, by rw [h0], by omega, by omega, fun j hj => absurd hj (by omega)⟩
  · refine ⟨_, cap, rfl, h1, by simp only [maxLen] at h2; omega, fun j hj => ⟨g, 0, rfl, fun i u hu => ?_⟩⟩
    have := h.cells (g := g) rfl (j * k + i) u (flat_get hk l j hj i u hu)
    rw [show (⟨g, 0, none⟩ : Addr).add (j * k + i) = ⟨g, 0 + j * k + i, none⟩ by unfold Addr.add; split <;> simp_all] at this
    exact this

/-- A result: it reads as l, and where l isn't empty its cells are the call's own (from block 'base' on). -/
structure Res {α : Type} (k : Nat) (enc : α → List Value) (e : TypeId) (w : World) (base : Nat) (v : Value) (l : List α) : Prop where
  rd : Rd k enc w v l
  own : l ≠ [] → w.ownsRow base e k v l.length (flat enc l)

theorem ownsRow_below {w w' : World} {base : Nat} {e : TypeId} {size : Nat} {v : Value} {n : Nat} {xs : List Value} (h : w.ownsRow base e size v n xs) (hb : Below w.heap.size w w') : w'.ownsRow base e size v n xs :=
  h.kept (row := none) ⟨hb.os, hb.tape, hb.output, hb.size, fun i hi _ => hb.block i hi⟩ (by cases v.ownBlock <;> simp)

theorem Res.of_own {α : Type} {k : Nat} {enc : α → List Value} {e : TypeId} (hk : ∀ a, (enc a).length = k) {w : World} {base : Nat} {v : Value} {n : Nat} {l : List α} (h : w.ownsRow base e k v n (flat enc l)) (hn : n = l.length) : Res k enc e w base v l :=
  ⟨Rd.of_own hk h hn, fun _ => hn ▸ h⟩
theorem Res.mono {α : Type} {k : Nat} {enc : α → List Value} {e : TypeId} {w w' : World} {base : Nat} {v : Value} {l : List α} (h : Res k enc e w base v l) (hb : Below w.heap.size w w') : Res k enc e w' base v l :=
  ⟨h.rd.mono hb, fun hl => ownsRow_below (h.own hl) hb⟩
theorem ownsRow_base {w : World} {base base' : Nat} {e : TypeId} {size : Nat} {v : Value} {n : Nat} {xs : List Value} (h : w.ownsRow base e size v n xs) (hb : base' ≤ base) : w.ownsRow base' e size v n xs := by
  refine ⟨h.1, ?_⟩
  rcases h.2 with hn | ⟨g, cap, cur, rfl, hg, rest⟩
  · exact .inl hn
  · exact .inr ⟨g, cap, cur, rfl, Nat.le_trans hb hg, rest⟩
theorem Res.base {α : Type} {k : Nat} {enc : α → List Value} {e : TypeId} {w : World} {base base' : Nat} {v : Value} {l : List α} (h : Res k enc e w base v l) (hb : base' ≤ base) : Res k enc e w base' v l :=
  ⟨h.rd, fun hl => ownsRow_base (h.own hl) hb⟩

/-! ### Spans -/
structure Sp where
  f : Int
  m : Int
deriving DecidableEq, Inhabited

def Sp.enc (s : Sp) : List Value := [.int .i64 s.f, .int .i64 s.m]
theorem Sp.enc_len (s : Sp) : s.enc.length = 2 := rfl
abbrev RdS (w : World) (v : Value) (l : List Sp) : Prop := Rd 2 Sp.enc w v l
abbrev ResS (w : World) (base : Nat) (v : Value) (l : List Sp) : Prop := Res 2 Sp.enc 25 w base v l

/-- An element of a slice of spans, in a world grown from the one that it was told of. -/
theorem RdS.at {w wr : World} {A : Option Addr} {n c : Nat} {l : List Sp} (h : RdS w (.slice A n c) l) (hb : Below w.heap.size w wr) {k : Nat} (hk : k < l.length) :
    ∃ b o, A = some ⟨b, o, none⟩ ∧ wr.cell? ⟨b, o + k * 2, none⟩ = some (.int .i64 l[k].f) ∧ wr.cell? ⟨b, o + k * 2 + 1, none⟩ = some (.int .i64 l[k].m) := by
  obtain ⟨A', c', e, _, _, hc⟩ := h
  injection e with e1 e2 e3
  subst e1
  obtain ⟨b, o, ea, hh⟩ := hc k hk
  exact ⟨b, o, ea, cmono hb (hh 0 _ rfl), cmono hb (hh 1 _ rfl)⟩

theorem neq25 (a b c d : Int) (w : World) : (binOp .neq 25 (.agg #[.int .i64 a, .int .i64 b]) (.agg #[.int .i64 c, .int .i64 d])).run Try.prog w = .ok (.bool (!(a == c && b == d))) w := by
  have h : ∀ n : Nat, (Op.equalIn (n + 2) 25 (.agg #[.int .i64 a, .int .i64 b]) (.agg #[.int .i64 c, .int .i64 d])).run Try.prog w = .ok (a == c && b == d) w := fun n => by
    rw [run_equalIn_struct (P := Try.prog) w (n + 1) 25 _ _ (by kernel_rfl) (by kernel_rfl)]
    have hu3 := Try.underlying3
    simp [Program.fieldsOf, Try.underlying25, Op.eqFields, part, go_sem]
    by_cases h1 : a = c <;> by_cases h2 : b = d <;> simp [h1, h2]
  simp only [binOp]
  simp [Op.equal, Op.maxDepth, h 9998]
end Go.Proofs.Ytncdkbhkjamdpaa
