/- The region of TxFresh that calls few: two appends, drawn in whatever order. -/
import Derived.Test.YtncdkbhkjamdpaaU0
import Derived.Deep.RegionHeld3
import Derived.Deep.CutRange
namespace Go.Proofs.Ytncdkbhkjamdpaa
open Go.RowKit Go.Maps

theorem build57 (f : Ob) (w : World) : (Instr.build 57 #[(2, .agg #[.int .i64 f.ch, .int .i64 f.ix, .int .i64 f.cl, .int .i64 f.mn, .bool f.fr, .int .i64 f.at_, .int .i64 f.ty, .int .i64 f.sz, .int .u64 f.sr])]).run Try.prog w = .ok (.agg #[.int .u8 0, .int .i64 0, .int .i64 0, .int .i64 f.ch, .int .i64 f.ix, .int .i64 f.cl, .int .i64 f.mn, .bool f.fr, .int .i64 f.at_, .int .i64 f.ty, .int .i64 f.sz, .int .u64 f.sr]) w := run_build w 57 _ _ (by kernel_rfl)
theorem bs57z (w : World) : (Instr.buildSlice 39 0 #[]).run Try.prog w = .ok (.slice (some ⟨w.heap.size, 0, none⟩) 0 0) (w.alloc (.cells #[] 57)) := by kernel_rfl
theorem bs57 (f : Ob) (w : World) : (Instr.buildSlice 39 1 #[(0, .agg #[.int .u8 0, .int .i64 0, .int .i64 0, .int .i64 f.ch, .int .i64 f.ix, .int .i64 f.cl, .int .i64 f.mn, .bool f.fr, .int .i64 f.at_, .int .i64 f.ty, .int .i64 f.sz, .int .u64 f.sr])]).run Try.prog w = .ok (.slice (some ⟨w.heap.size, 0, none⟩) 1 1) (w.alloc (.cells #[.int .u8 0, .int .i64 0, .int .i64 0, .int .i64 f.ch, .int .i64 f.ix, .int .i64 f.cl, .int .i64 f.mn, .bool f.fr, .int .i64 f.at_, .int .i64 f.ty, .int .i64 f.sz, .int .u64 f.sr] 57)) := by kernel_rfl
theorem info57 : (Try.prog.info? 57).map (fun i => (i.zero, i.size, i.bytes)) = some (some (.agg #[.int .u8 0, .int .i64 0, .int .i64 0, .int .i64 0, .int .i64 0, .int .i64 0, .int .i64 0, .bool false, .int .i64 0, .int .i64 0, .int .i64 0, .int .u64 0]), 12, 96) := by kernel_rfl
theorem flat_op_cell (l : List O20) : ∀ u ∈ flat O20.enc l, u.oneCell' = true := by
  intro u hu
  obtain ⟨s, _, hs⟩ := List.mem_flatMap.1 hu
  simp only [O20.enc, List.mem_cons, List.not_mem_nil, or_false] at hs
  rcases hs with rfl | rfl | rfl | rfl | rfl | rfl | rfl | rfl | rfl | rfl | rfl | rfl <;> rfl
/-- append onto an own row, as one step of a region that draws; the source may be nil. -/
theorem step_append_any {P : Program} {ops : Array Oper} {o : Oper} {a : Act} {w : World} {K : Act → World → Prop} {Q : Exit → Act → World → Prop} {E : Prop}
    (hg : o.guard = none) (s x : Operand) (t : TypeId) (hop : o.op = Op.call { callee := Callee.builtin Builtin.append, args := #[s, x], argTypes := #[t, t] })
    (base : Nat) (e : TypeId) (i : TypeInfo) (z : Value) (size bytes : Nat) (h1 : P.underlying t = some (.slice e)) (h2 : P.info? e = some i) (h3 : i.zero = some z) (h4 : i.size = size) (h5 : i.bytes = bytes) (h6 : z.cells.size = size) (h7 : 0 < size)
    (v : Value) (k : Nat) (xs : List Value) (hs : a.eval s = v) (hown : w.ownsRow base e size v k xs) (A : Option Addr) (m c : Nat) (news : List Value) (hx : a.eval x = .slice A m c) (hA : A = none → m = 0 ∧ c = 0) (hn : news.length = m * size)
    (hc : ∀ ad, A = some ad → ∀ j u, news[j]? = some u → w.cell? (ad.add j) = some u) (h1c : ∀ u ∈ news, u.oneCell' = true) (b1 : k + m ≤ maxLen) (b2 : (k + m) * bytes ≤ 140737488355328) (b3 : base ≤ w.heap.size)
    (hK : ∀ v' w', w'.ownsRow base e size v' (k + m) (xs ++ news) → w.grownBy w' v.ownBlock → K (a.put o.dst v') w') :
    if Region.wanted o (yielded ops a.tmps) = true then Oper.wp P o a w K Q else E := by
  have hw : Region.wanted o (yielded ops a.tmps) = true := by simp [Region.wanted, hg]
  rw [if_pos hw]
  cases A with
  | none =>
    obtain ⟨rfl, rfl⟩ := hA rfl
    have hnn : news = [] := List.length_eq_zero_iff.1 (by rw [hn]; simp)
    subst hnn
    have hrun := run_append_owned_none (P := P) (w := w) base t o.type e i size h1 h2 v k xs hown
    unfold Oper.wp
    simp [execOp, hop, resolve, invoke, builtin, hs, hx, hrun, Result.andThen]
    exact hK v w (by simpa using hown) (World.grownBy.refl _ _)
  | some ad =>
    obtain ⟨v', w', hrun, r1, r2, r3⟩ := run_append_own (P := P) (w := w) base t o.type e i z size bytes h1 h2 h3 h4 h5 h6 h7 v k xs hown ad m c news hn (hc ad rfl) h1c b1 b2 b3
    unfold Oper.wp
    simp [execOp, hop, resolve, invoke, builtin, hs, hx, hrun, Result.andThen]
    exact hK _ _ r1 r2
theorem f9_mono {bx : Nat} {f : Ob} {W W' : World} (h : W.cell? ⟨bx, 0, none⟩ = some (.int .i64 f.ch) ∧ W.cell? ⟨bx, 1, none⟩ = some (.int .i64 f.ix) ∧ W.cell? ⟨bx, 2, none⟩ = some (.int .i64 f.cl) ∧ W.cell? ⟨bx, 3, none⟩ = some (.int .i64 f.mn) ∧ W.cell? ⟨bx, 4, none⟩ = some (.bool f.fr) ∧ W.cell? ⟨bx, 5, none⟩ = some (.int .i64 f.at_) ∧ W.cell? ⟨bx, 6, none⟩ = some (.int .i64 f.ty) ∧ W.cell? ⟨bx, 7, none⟩ = some (.int .i64 f.sz) ∧ W.cell? ⟨bx, 8, none⟩ = some (.int .u64 f.sr)) (hb : Below W.heap.size W W') : W'.cell? ⟨bx, 0, none⟩ = some (.int .i64 f.ch) ∧ W'.cell? ⟨bx, 1, none⟩ = some (.int .i64 f.ix) ∧ W'.cell? ⟨bx, 2, none⟩ = some (.int .i64 f.cl) ∧ W'.cell? ⟨bx, 3, none⟩ = some (.int .i64 f.mn) ∧ W'.cell? ⟨bx, 4, none⟩ = some (.bool f.fr) ∧ W'.cell? ⟨bx, 5, none⟩ = some (.int .i64 f.at_) ∧ W'.cell? ⟨bx, 6, none⟩ = some (.int .i64 f.ty) ∧ W'.cell? ⟨bx, 7, none⟩ = some (.int .i64 f.sz) ∧ W'.cell? ⟨bx, 8, none⟩ = some (.int .u64 f.sr) :=
  ⟨cmono hb h.1, cmono hb h.2.1, cmono hb h.2.2.1, cmono hb h.2.2.2.1, cmono hb h.2.2.2.2.1, cmono hb h.2.2.2.2.2.1, cmono hb h.2.2.2.2.2.2.1, cmono hb h.2.2.2.2.2.2.2.1, cmono hb h.2.2.2.2.2.2.2.2⟩
theorem f9_of {bx : Nat} {f : Ob} {W : World} (hb1 : W.heap[bx]? = some (.cells #[.int .i64 f.ch, .int .i64 f.ix, .int .i64 f.cl, .int .i64 f.mn, .bool f.fr, .int .i64 f.at_, .int .i64 f.ty, .int .i64 f.sz, .int .u64 f.sr] 55 (0, 0))) : W.cell? ⟨bx, 0, none⟩ = some (.int .i64 f.ch) ∧ W.cell? ⟨bx, 1, none⟩ = some (.int .i64 f.ix) ∧ W.cell? ⟨bx, 2, none⟩ = some (.int .i64 f.cl) ∧ W.cell? ⟨bx, 3, none⟩ = some (.int .i64 f.mn) ∧ W.cell? ⟨bx, 4, none⟩ = some (.bool f.fr) ∧ W.cell? ⟨bx, 5, none⟩ = some (.int .i64 f.at_) ∧ W.cell? ⟨bx, 6, none⟩ = some (.int .i64 f.ty) ∧ W.cell? ⟨bx, 7, none⟩ = some (.int .i64 f.sz) ∧ W.cell? ⟨bx, 8, none⟩ = some (.int .u64 f.sr) :=
  ⟨cell_blk (j := 0) hb1 rfl, cell_blk (j := 1) hb1 rfl, cell_blk (j := 2) hb1 rfl, cell_blk (j := 3) hb1 rfl, cell_blk (j := 4) hb1 rfl, cell_blk (j := 5) hb1 rfl, cell_blk (j := 6) hb1 rfl, cell_blk (j := 7) hb1 rfl, cell_blk (j := 8) hb1 rfl⟩
theorem app0 {w : World} {base n : Nat} {e : TypeId} {k : Nat} {v : Value} {xs : List Value} (h : w.ownsRow base e k v (0 + n) ([] ++ xs)) : w.ownsRow base e k v n xs := by simpa using h
/-- The block of the one operation, still there. -/
theorem xkept {w w2 : World} {g b : Nat} {o : Obj} (h : w.heap[b]? = some o) (hne : b ≠ g) (hg : w.grownBy w2 (some g)) : w2.heap[b]? = some o :=
  (hg.block b (Array.getElem?_eq_some_iff.1 h).1 (fun e => hne (by simpa using e))).trans h
theorem opcells {w : World} {f : Ob} {b : Nat} (h : w.heap[b]? = some (.cells #[.int .u8 0, .int .i64 0, .int .i64 0, .int .i64 f.ch, .int .i64 f.ix, .int .i64 f.cl, .int .i64 f.mn, .bool f.fr, .int .i64 f.at_, .int .i64 f.ty, .int .i64 f.sz, .int .u64 f.sr] 57 (0, 0))) (j : Nat) (u : Value) (hj : (O20.enc ⟨0, ⟨0, 0⟩, f⟩)[j]? = some u) : w.cell? ((⟨b, 0, none⟩ : Addr).add j) = some u := by
  have : (⟨b, 0, none⟩ : Addr).add j = ⟨b, j, none⟩ := by unfold Addr.add; split <;> simp_all
  rw [this]
  exact cell_blk (j := j) h (by simpa [O20.enc] using hj)
end Go.Proofs.Ytncdkbhkjamdpaa
