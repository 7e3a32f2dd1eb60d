/- Maps with int keys, as functions; what a call that writes one block leaves. -/
import Derived.Test.YtncdkbhkjamdpaaS3
import Derived.Maps.OwnSet
import Derived.Maps.Range
import Derived.Lib.SlKeysI
import Derived.OpenShut
namespace Go.Proofs.Ytncdkbhkjamdpaa
open Go.RowKit Go.Maps

theorem key3 : Keyed Try.prog 3 := int_keyed Try.underlying3
/-- Each value reads as itself. -/
abbrev tokR : Value → Option (DataW Value × List MemPlace) := fun v => some (.held v, [])
def InZ (x : Int) : Prop := -9223372036854775808 ≤ x ∧ x ≤ 9223372036854775807
theorem inZ_wf {x : Int} (h : InZ x) : (Lit.int .i64 x).wf = true := by
  obtain ⟨h1, h2⟩ := h
  simp [Lit.wf, IntKind.min, IntKind.max, IntKind.signed, IntKind.bits]
  omega
theorem inZ_of_wf {x : Int} (h : (Lit.int .i64 x).wf = true) : InZ x := bounds_i64 h
theorem keyOf3 {x : Int} (h : InZ x) : keyOf Try.prog 3 (.int .i64 x) = some (.int .i64 x) := keyOf_int_mk Try.underlying3 (inZ_wf h)

/-- Block b is a map of at most n entries that reads as f. -/
structure OM (w : World) (b n : Nat) (f : Int → Option Value) : Prop where
  ex : ∃ D : DataW Value, w.ownsMap Try.prog 3 tokR b n D ∧ ∀ x, has D (.int .i64 x) = (f x).isSome ∧ ∀ v, f x = some v → ∀ z, D.atKey (.int .i64 x) z = .held v
  inz : ∀ x, (f x).isSome = true → InZ x

def upd (f : Int → Option Value) (k : Int) (v : Option Value) : Int → Option Value := fun x => if x = k then v else f x
theorem upd_same (f : Int → Option Value) (k : Int) (v : Option Value) : upd f k v k = v := by simp [upd]
theorem upd_other {f : Int → Option Value} {k x : Int} {v : Option Value} (h : x ≠ k) : upd f k v x = f x := by simp [upd, h]

theorem OM.made (w : World) : OM (w.alloc (.map #[] 0)) w.heap.size 0 (fun _ => none) :=
  ⟨⟨_, World.ownsMap_made w _ _ _, fun x => ⟨rfl, fun v h => by cases h⟩⟩, fun x h => by cases h⟩
theorem OM.blk {w : World} {b n : Nat} {f : Int → Option Value} (h : OM w b n f) : ∃ es c, w.heap[b]? = some (.map es c) := by
  obtain ⟨⟨D, ⟨es, c, hb, _⟩, _⟩, _⟩ := h
  exact ⟨es, c, hb⟩
theorem OM.lt {w : World} {b n : Nat} {f : Int → Option Value} (h : OM w b n f) : b < w.heap.size := by
  obtain ⟨⟨D, h, _⟩, _⟩ := h
  exact h.lt
theorem OM.kept {w w' : World} {b n : Nat} {f : Int → Option Value} {row : Option Nat} (h : OM w b n f) (hg : w.grownBy w' row) (hr : some b ≠ row) : OM w' b n f := by
  obtain ⟨⟨D, h1, h2⟩, h3⟩ := h
  exact ⟨⟨D, h1.kept hg hr, h2⟩, h3⟩
theorem OM.size {w : World} {b n : Nat} {f : Int → Option Value} (h : OM w b n f) {n' : Nat} (hn : n ≤ n') : OM w b n' f := by
  obtain ⟨⟨D, h1, h2⟩, h3⟩ := h
  exact ⟨⟨D, h1.mono hn, h2⟩, h3⟩

section
variable {w : World} {b n : Nat} {f : Int → Option Value} {t e : TypeId}
/-- 'm[k]', with 'ok' or without. -/
theorem OM.look_ok (h : OM w b n f) (ht : Try.prog.underlying t = some (.map 3 e)) {z : Value} (hz : (zeroValue e).run Try.prog w = .ok z w) {k : Int} (hk : InZ k) :
    (Instr.lookup t (.map (some b)) (.int .i64 k) true).run Try.prog w = .ok (.tuple #[(f k).getD z, .bool (f k).isSome]) w := by
  obtain ⟨⟨D, h1, h2⟩, h3⟩ := h
  obtain ⟨v, ps, hrun, hv⟩ := h1.look_ok key3 ht hz (zd := .held z) (zp := []) rfl (keyOf3 hk)
  obtain ⟨e1, e2⟩ := h2 k
  rw [hrun, e1]
  simp only [Option.some.injEq, Prod.mk.injEq] at hv
  cases hf : f k with
  | none =>
    rw [hf] at e1
    rw [atKey_of_not_has e1] at hv
    have hv1 := DataW.held.inj hv.1
    rw [hv1]; rfl
  | some u =>
    rw [e2 u hf] at hv
    have hv1 := DataW.held.inj hv.1
    rw [hv1]; rfl
theorem OM.look (h : OM w b n f) (ht : Try.prog.underlying t = some (.map 3 e)) {z : Value} (hz : (zeroValue e).run Try.prog w = .ok z w) {k : Int} (hk : InZ k) :
    (Instr.lookup t (.map (some b)) (.int .i64 k) false).run Try.prog w = .ok ((f k).getD z) w := by
  obtain ⟨⟨D, h1, h2⟩, h3⟩ := h
  obtain ⟨v, ps, hrun, hv⟩ := h1.lookup key3 ht hz (zd := .held z) (zp := []) rfl (keyOf3 hk)
  obtain ⟨e1, e2⟩ := h2 k
  rw [hrun]
  simp only [Option.some.injEq, Prod.mk.injEq] at hv
  cases hf : f k with
  | none =>
    rw [hf] at e1
    rw [atKey_of_not_has e1] at hv
    have hv1 := DataW.held.inj hv.1
    rw [hv1]; rfl
  | some u =>
    rw [e2 u hf] at hv
    have hv1 := DataW.held.inj hv.1
    rw [hv1]; rfl
/-- 'm[k] = v'. -/
theorem OM.store (h : OM w b n f) (ht : Try.prog.underlying t = some (.map 3 e)) (hn : n < maxLen) {k : Int} (hk : InZ k) (v : Value) :
    ∃ w', (Instr.mapUpdate t (.map (some b)) (.int .i64 k) v).run Try.prog w = .ok () w' ∧ OM w' b (n + 1) (upd f k (some v)) ∧ w.mapTurned w' b := by
  obtain ⟨⟨D, h1, h2⟩, h3⟩ := h
  obtain ⟨w', hrun, ho, hg⟩ := h1.store key3 ht hn (keyOf3 hk) (val := v) (d := .held v) (ps := []) rfl
  refine ⟨w', hrun, ⟨⟨_, ho, fun x => ?_⟩, fun x hx => ?_⟩, hg⟩
  · by_cases hx : x = k
    · subst hx
      rw [upd_same]
      refine ⟨has_put_same h1.isMap (key3.key (keyOf3 hk)) _, fun u hu z => ?_⟩
      obtain rfl : v = u := Option.some.inj hu
      exact atKey_put_same h1.isMap (key3.key (keyOf3 hk)) _ _
    · rw [upd_other hx, has_put_other (by simpa using hx)]
      exact ⟨(h2 x).1, fun u hu z => by rw [atKey_put_other (by simpa using hx)]; exact (h2 x).2 u hu z⟩
  · by_cases hxk : x = k
    · subst hxk; exact hk
    · rw [upd_other hxk] at hx; exact h3 x hx
/-- 'delete(m, k)'. -/
theorem OM.drop (h : OM w b n f) (ht : Try.prog.underlying t = some (.map 3 e)) {k : Int} (hk : InZ k) (ty : TypeId) :
    ∃ w', (Builtin.delete_ #[t, 3] ty #[.map (some b), .int .i64 k]).run Try.prog w = .ok (.tuple #[]) w' ∧ OM w' b n (upd f k none) ∧ w.mapTurned w' b := by
  obtain ⟨⟨D, h1, h2⟩, h3⟩ := h
  obtain ⟨w', hrun, ho, hg⟩ := h1.drop key3 ht (keyOf3 hk) ty
  refine ⟨w', hrun, ⟨⟨_, ho, fun x => ?_⟩, fun x hx => ?_⟩, hg⟩
  · by_cases hx : x = k
    · subst hx
      rw [upd_same]
      exact ⟨has_del_same, fun u hu => by cases hu⟩
    · rw [upd_other hx, has_del_other (by simpa using hx)]
      exact ⟨(h2 x).1, fun u hu z => by rw [atKey_del_other (by simpa using hx)]; exact (h2 x).2 u hu z⟩
  · by_cases hxk : x = k
    · subst hxk; rw [upd_same] at hx; cases hx
    · rw [upd_other hxk] at hx; exact h3 x hx
end

/-- The keys, strictly rising. -/
structure KeysOf (f : Int → Option Value) (ks : List Int) : Prop where
  up : ks.Pairwise (· < ·)
  mem : ∀ x, x ∈ ks ↔ (f x).isSome = true
theorem KeysOf.uniq {f : Int → Option Value} {a b : List Int} (ha : KeysOf f a) (hb : KeysOf f b) : a = b := by
  refine List.Perm.eq_of_pairwise (le := (· < ·)) (fun x y _ _ h1 h2 => by omega) ha.up hb.up ?_
  refine (List.perm_ext_iff_of_nodup (ha.up.imp fun h => by omega) (hb.up.imp fun h => by omega)).2 fun x => ?_
  rw [ha.mem, hb.mem]
theorem OM.keysOf {w : World} {b n : Nat} {f : Int → Option Value} (h : OM w b n f) : ∃ D : DataW Value, w.ownsMap Try.prog 3 tokR b n D ∧ Maps.size D ≤ n ∧ ∀ ss : List Int, ss.Perm (intKeys D) → KeysOf f (ss.mergeSort (fun x y => decide (x ≤ y))) ∧ ss.length = Maps.size D := by
  obtain ⟨⟨D, h1, h2⟩, h3⟩ := h
  refine ⟨D, h1, h1.size_le, fun ss hp => ?_⟩
  obtain ⟨es, rfl, hpw, _⟩ := h1.entries key3
  obtain ⟨es', hD', hko⟩ := h1.keysOf
  obtain rfl : es = es' := by simpa using hD'
  have hint : ∀ p ∈ es, ∃ x, p.1 = .int .i64 x := fun p hp => by
    obtain ⟨v, hv⟩ := hko p hp
    obtain ⟨x, _, hx, _⟩ := Maps.keyOf_i64 Try.underlying3 hv
    exact ⟨x, hx⟩
  have hmem : ∀ x, x ∈ intKeys (.map es : DataW Value) ↔ (f x).isSome = true := fun x => by
    rw [← (h2 x).1, has_eq, List.any_eq_true]
    show x ∈ es.map (fun p => intOf p.1) ↔ _
    rw [List.mem_map]
    constructor
    · rintro ⟨p, hp', rfl⟩
      obtain ⟨a, ha⟩ := hint p hp'
      exact ⟨p, hp', by rw [ha]; simp [Lit.sameKey, Go.intOf]⟩
    · rintro ⟨p, hp', hs⟩
      obtain ⟨a, ha⟩ := hint p hp'
      rw [ha] at hs
      exact ⟨p, hp', by rw [ha]; simpa [Lit.sameKey, Go.intOf] using hs⟩
  have hnd : (intKeys (.map es : DataW Value)).Nodup := by
    show (es.map fun p => Go.intOf p.1).Nodup
    refine List.pairwise_map.2 (hpw.imp_of_mem fun {p q} hp' hq' hne e => hne ?_)
    obtain ⟨a, ha⟩ := hint p hp'
    obtain ⟨c, hc⟩ := hint q hq'
    rw [ha, hc] at e ⊢
    exact congrArg _ e
  have tr : ∀ a b c : Int, leI a b = true → leI b c = true → leI a c = true := fun a b c h1 h2 => by simp only [leI, decide_eq_true_eq] at *; exact Int.le_trans h1 h2
  have to : ∀ a b : Int, (leI a b || leI b a) = true := fun a b => by simp only [leI, Bool.or_eq_true, decide_eq_true_eq]; exact Int.le_total a b
  have hs := List.pairwise_mergeSort (le := leI) tr to ss
  have hpm := (List.mergeSort_perm ss leI).trans hp
  refine ⟨⟨?_, fun x => ?_⟩, ?_⟩
  · have hn : (ss.mergeSort leI).Nodup := hpm.nodup_iff.2 hnd
    refine (hs.and hn).imp fun {a c} h => ?_
    have h1 := h.1
    have h2 := h.2
    simp only [leI, decide_eq_true_eq] at h1
    omega
  · rw [← hmem x]; exact hpm.mem_iff
  · rw [hp.length_eq]; simp [intKeys, Maps.size]

/-! ### What a call that writes one block leaves -/
theorem gb_refl (w : World) (row : Option Nat) : w.grownBy w row := ⟨rfl, rfl, rfl, Nat.le_refl _, fun _ _ _ => rfl⟩
theorem gb_trans {w w1 w2 : World} {row : Option Nat} (h : w.grownBy w1 row) (h2 : w1.grownBy w2 row) : w.grownBy w2 row :=
  ⟨h2.os.trans h.os, h2.tape.trans h.tape, h2.output.trans h.output, Nat.le_trans h.size h2.size, fun k hk hr => (h2.block k (Nat.lt_of_lt_of_le hk h.size) hr).trans (h.block k hk hr)⟩
theorem gb_below {w w' : World} (h : Below w.heap.size w w') (row : Option Nat) : w.grownBy w' row := ⟨h.os, h.tape, h.output, h.size, fun k hk _ => h.block k hk⟩
theorem gb_weak {w w' : World} (h : w.grownBy w' none) (row : Option Nat) : w.grownBy w' row := ⟨h.os, h.tape, h.output, h.size, fun k hk _ => h.block k hk (by simp)⟩
theorem below_gb {W w w' : World} {b : Nat} (h : Below W.heap.size W w) (hg : w.grownBy w' (some b)) (hb : W.heap.size ≤ b) : Below W.heap.size W w' :=
  h.grown hg h.size (fun k hk => by cases hk; exact hb)
/-- A cell outlives a write to another block. -/
theorem gcell {w w' : World} {b : Nat} (hg : w.grownBy w' (some b)) {a : Addr} {v : Value} (h : w.cell? a = some v) (hb : a.block ≠ b) : w'.cell? a = some v := by
  rw [World.cell?_of_block (hg.block a.block (World.block_lt_of_cell? w a h) (by simpa using hb))]; exact h
theorem map_ne {w : World} {b n : Nat} {f : Int → Option Value} (h : OM w b n f) {a : Addr} {v : Value} (hc : w.cell? a = some v) : a.block ≠ b := by
  obtain ⟨es, c, hb⟩ := h.blk
  intro e
  subst e
  unfold World.cell? at hc
  rw [hb] at hc
  simp at hc
theorem Rd.kept {α : Type} {k : Nat} {enc : α → List Value} {w w' : World} {v : Value} {l : List α} {b : Nat} (h : Rd k enc w v l) (hg : w.grownBy w' (some b)) (hb : ∀ a u, w.cell? a = some u → v.ownBlock = some a.block → a.block ≠ b) : Rd k enc w' v l := by
  obtain ⟨A, c, e, h1, h2, hc⟩ := h
  subst e
  refine ⟨A, c, rfl, h1, h2, fun j hj => ?_⟩
  obtain ⟨b', o, ea, hh⟩ := hc j hj
  subst ea
  exact ⟨b', o, rfl, fun i u hu => gcell hg (hh i u hu) (hb _ u (hh i u hu) rfl)⟩
theorem Rd.keptM {α : Type} {k : Nat} {enc : α → List Value} {w w' : World} {v : Value} {l : List α} {b n : Nat} {f : Int → Option Value} (h : Rd k enc w v l) (hm : OM w b n f) (hg : w.grownBy w' (some b)) : Rd k enc w' v l :=
  h.kept hg fun _ _ hc _ => map_ne hm hc
end Go.Proofs.Ytncdkbhkjamdpaa
