/- The walk of slices.Insert at spans: one span into a list that the caller owns. -/
import Derived.Test.YtncdkbhkjamdpaaS5
import Derived.Laws.CopyOwn
import Derived.Lib.Overlaps
import Derived.Lib.AppendZerosOnto
import Derived.Laws.Externs
import Derived.Deep.RegionLaw
import Derived.Lib.SliceRun
namespace Go.Proofs.Ytncdkbhkjamdpaa
open Go.RowKit

theorem flat_take {α : Type} {enc : α → List Value} {k : Nat} (hk : ∀ a, (enc a).length = k) (l : List α) (i : Nat) (hi : i ≤ l.length) : (flat enc l).take (i * k) = flat enc (l.take i) := by
  have h : flat enc l = flat enc (l.take i) ++ flat enc (l.drop i) := by rw [← flat_append, List.take_append_drop]
  have hl := flat_length hk (l.take i)
  rw [List.length_take, Nat.min_eq_left hi] at hl
  rw [h, ← hl, List.take_left']
  rfl
theorem flat_drop {α : Type} {enc : α → List Value} {k : Nat} (hk : ∀ a, (enc a).length = k) (l : List α) (i : Nat) (hi : i ≤ l.length) : (flat enc l).drop (i * k) = flat enc (l.drop i) := by
  have h : flat enc l = flat enc (l.take i) ++ flat enc (l.drop i) := by rw [← flat_append, List.take_append_drop]
  have hl := flat_length hk (l.take i)
  rw [List.length_take, Nat.min_eq_left hi] at hl
  rw [h, ← hl, List.drop_left']
  rfl
theorem flat_one_cell (l : List Sp) : ∀ u ∈ flat Sp.enc l, u.oneCell' = true := by
  intro u hu
  obtain ⟨s, _, hs⟩ := List.mem_flatMap.1 hu
  simp [Sp.enc] at hs
  rcases hs with rfl | rfl <;> rfl

/-- 'copy' into a row, elements of k cells. -/
theorem run_copyk {P : Program} (w : World) (dT sT ty elem : TypeId) (k g o dLen dCap : Nat) (a : Addr) (sLen sCap m : Nat) (cur : Array Value) (t : TypeId) (cs : List Value)
    (hu : P.underlying dT = some (.slice elem)) (hs : (P.info? elem).map (·.size) = some k)
    (hg : w.heap[g]? = some (.cells cur t (0, 0))) (hm : m = Nat.min sLen dLen) (hn : cs.length = m * k)
    (hsrc : ∀ j v, cs[j]? = some v → w.cell? (a.add j) = some v) (hfit : o + cs.length ≤ cur.size) (h1 : ∀ v ∈ cs, v.oneCell' = true) :
    (Builtin.copy_ #[dT, sT] ty #[.slice (some ⟨g, o, none⟩) dLen dCap, .slice (some a) sLen sCap]).run P w =
      .ok (goInt m) (w.setRow g (cur.toList.take o ++ cs ++ cur.toList.drop (o + cs.length)).toArray) := by
  have hl := run_loadCells_list (P := P) w a cs hsrc
  have hst := run_storeCells_at P g o t cs 0 cur w hg (by simpa using hfit) h1
  cases hq : P.info? elem with
  | none => simp [hq] at hs
  | some i =>
    have hi : i.size = k := by simpa [hq] using hs
    simp [Builtin.copy_, run_underlying hu, Builtin.lenOf, Builtin.firstCells, sizeOf, typeInfo, hq, hi, ← hm, ← hn, hl, hst]

theorem wpList_copy_run {P : Program} (w : World) {ops : Array Oper} {rest : List Oper} {o : Oper} {a : Act} {Q : Exit → Act → World → Prop} (hgd : o.guard = none) (d s : Operand) (t t' : TypeId)
    (ho : o.op = .call { callee := .builtin .copy, args := #[d, s], argTypes := #[t, t'] }) (v u : Value) (hd : a.eval d = v) (hs : a.eval s = u) {v' : Value} {w' : World}
    (hr : (Builtin.copy_ #[t, t'] o.type #[v, u]).run P w = .ok v' w') (h : wpList P ops Q rest (a.put o.dst v') w') : wpList P ops Q (o :: rest) a w :=
  wpList_plain hgd fun K hK => by
    unfold Oper.wp execOp
    simp only [ho, resolve, invoke, builtin, Sem.run_bind, Sem.run_pure, Result.andThen_ok, List.map_toArray, List.map_cons, List.map_nil, hd, hs, hr]
    exact hK _ _ h
theorem step_copy_run {P : Program} {ops : Array Oper} {o : Oper} {a : Act} {w : World} {K : Act → World → Prop} {Q : Exit → Act → World → Prop} {E : Prop}
    (hg : o.guard = none) (d x : Operand) (dT sT : TypeId) (hop : o.op = Op.call { callee := Callee.builtin Builtin.copy, args := #[d, x], argTypes := #[dT, sT] })
    (v u : Value) (hd : a.eval d = v) (hx : a.eval x = u) {v' : Value} {w' : World} (hr : (Builtin.copy_ #[dT, sT] o.type #[v, u]).run P w = .ok v' w') (hK : K (a.put o.dst v') w') :
    if Region.wanted o (yielded ops a.tmps) = true then Oper.wp P o a w K Q else E := by
  have hw : Region.wanted o (yielded ops a.tmps) = true := by simp [Region.wanted, hg]
  rw [if_pos hw]
  unfold Oper.wp
  simp [execOp, hop, resolve, invoke, builtin, hd, hx, hr, Result.andThen]
  exact hK

def insL (l : List Sp) (i : Nat) (s : Sp) : List Sp := l.take i ++ s :: l.drop i
theorem insL_len (l : List Sp) (i : Nat) (s : Sp) : (insL l i s).length = l.length + 1 := by simp [insL]; omega
theorem insL_flat (l : List Sp) (i : Nat) (s : Sp) : flat Sp.enc (insL l i s) = flat Sp.enc (l.take i) ++ (s.enc ++ flat Sp.enc (l.drop i)) := by
  rw [insL, flat_append, show s :: l.drop i = [s] ++ l.drop i from rfl, flat_append, flat_one]

set_option maxHeartbeats 1000000 in
set_option maxRecDepth 100000 in
theorem ins_end (l : List Sp) (v : Value) (s : Sp) (vb base : Nat) (w : World) (hO : w.ownsRow base 25 2 v l.length (flat Sp.enc l)) (hbase : base ≤ w.heap.size)
    (hvb : w.heap[vb]? = some (.cells #[.int .i64 s.f, .int .i64 s.m] 25)) (hn : l.length ≤ 1000000) :
    Calls Try.prog 79 #[v, .int .i64 l.length, .slice (some ⟨vb, 0, none⟩) 1 1] w fun e w' => ∃ v', e = .returned v' ∧ w'.ownsRow base 25 2 v' (l.length + 1) (flat Sp.enc (insL l l.length s)) ∧ Below base w w' := by
  have HO := hid_ hO
  have hF : flat Sp.enc (insL l l.length s) = flat Sp.enc l ++ s.enc := by rw [insL_flat]; simp [flat]
  have HF := hid_ hF
  clear hF
  obtain ⟨A, c, rfl, hl, hl', _⟩ := Rd.of_own Sp.enc_len hO rfl
  obtain ⟨i0, hi, hz0, hz1, hz2⟩ := info_parts info25
  have hI := hid_ hi; have hZ0 := hid_ hz0; have hZ1 := hid_ hz1; have hZ2 := hid_ hz2
  have HVB := hid_ hvb
  clear hi hz0 hz1 hz2 hO hvb
  by_cases hcl : c = l.length
  all_goals
    go_enter Try.func79, Try.ntmps79
    go_wp2_with (at_builtin; refine wpList_append_own _ rfl _ _ 22 rfl base 25 i0 (.agg #[.int .i64 0, .int .i64 0]) 2 16 Try.underlying22 hI.out hZ0.out hZ1.out hZ2.out rfl (by decide) _ _ _ rfl HO.out ⟨vb, 0, none⟩ 1 1 s.enc rfl rfl ?c1 ?c2 ?c3 ?c4 hbase ?_; rotate_left 4; intro v' w1 hO1 hg1 _; have HO1 := hid_ hO1; have HG1 := hid_ hg1; clear hO1 hg1)
    case c1 =>
      intro j u hj
      rw [show (⟨vb, 0, none⟩ : Addr).add j = ⟨vb, j, none⟩ by unfold Addr.add; split <;> simp_all]
      exact cell_blk HVB.out (by simpa [Sp.enc] using hj)
    case c2 => intro u hu; simp [Sp.enc] at hu; rcases hu with rfl | rfl <;> rfl
    case c3 => unfold maxLen; omega
    case c4 => omega
    go_ret
    refine ⟨v', rfl, by rw [HF.out]; exact HO1.out, ?_⟩
    exact (Below.refl base w).grown HG1.out hbase fun k hk => (HO.out.lt k hk).1
theorem zeros_len (z : Value) (cs : Array Value) (h : z.cells = cs) (n : Nat) : (Builtin.zeroCells z.cells n).size = n * cs.size := by simp [Builtin.zeroCells, h]

theorem splice_ins (l : List Sp) (i : Nat) (s : Sp) (hi : i ≤ l.length) (cur : List Value) (hcur : cur.take (i * 2) = flat Sp.enc (l.take i)) (hlen : (l.length + 1) * 2 ≤ cur.length) :
    let r1 := cur.take ((i + 1) * 2) ++ flat Sp.enc (l.drop i) ++ cur.drop ((i + 1) * 2 + (flat Sp.enc (l.drop i)).length)
    let r2 := r1.take (i * 2) ++ s.enc ++ r1.drop (i * 2 + s.enc.length)
    r2.length = cur.length ∧ r2.take ((l.length + 1) * 2) = flat Sp.enc (insL l i s) := by
  intro r1 r2
  have hd : (flat Sp.enc (l.drop i)).length = (l.length - i) * 2 := by rw [flat_length Sp.enc_len, List.length_drop]
  have ht : (flat Sp.enc (l.take i)).length = i * 2 := by rw [flat_length Sp.enc_len, List.length_take, Nat.min_eq_left hi]
  have e0 : (cur.take ((i + 1) * 2)).length = (i + 1) * 2 := by rw [List.length_take]; omega
  have hr1 : r1.length = cur.length := by
    simp only [r1, List.length_append, List.length_drop, e0, hd]; omega
  have e1 : r1.take (i * 2) = flat Sp.enc (l.take i) := by
    simp only [r1, List.append_assoc]
    rw [List.take_append_of_le_length (by rw [e0]; omega), List.take_take, Nat.min_eq_left (by omega), hcur]
  have e2 : r1.drop (i * 2 + s.enc.length) = flat Sp.enc (l.drop i) ++ cur.drop ((i + 1) * 2 + (flat Sp.enc (l.drop i)).length) := by
    simp only [r1, List.append_assoc]
    rw [Sp.enc_len, show i * 2 + 2 = (cur.take ((i + 1) * 2)).length by rw [e0]; omega, List.drop_left]
  have hr2 : r2 = flat Sp.enc (insL l i s) ++ cur.drop ((i + 1) * 2 + (flat Sp.enc (l.drop i)).length) := by
    simp only [r2, e1, e2, insL_flat, List.append_assoc]
  have hL : (flat Sp.enc (insL l i s)).length = (l.length + 1) * 2 := by rw [flat_length Sp.enc_len, insL_len]
  refine ⟨?_, ?_⟩
  · rw [hr2, List.length_append, hL, List.length_drop, hd]; omega
  · rw [hr2, ← hL, List.take_left]

set_option maxHeartbeats 4000000 in
set_option maxRecDepth 100000 in
theorem ins_shift (l : List Sp) (g c i : Nat) (s : Sp) (vb base : Nat) (w : World) (hO : w.ownsRow base 25 2 (.slice (some ⟨g, 0, none⟩) l.length c) l.length (flat Sp.enc l))
    (hvb : w.heap[vb]? = some (.cells #[.int .i64 s.f, .int .i64 s.m] 25)) (hne : vb ≠ g) (hi : i < l.length) (hroom : l.length + 1 ≤ c) :
    Calls Try.prog 79 #[.slice (some ⟨g, 0, none⟩) l.length c, .int .i64 i, .slice (some ⟨vb, 0, none⟩) 1 1] w fun e w' => ∃ v', e = .returned v' ∧ w'.ownsRow base 25 2 v' (l.length + 1) (flat Sp.enc (insL l i s)) ∧ Below base w w' := by
  rcases hO.2 with ⟨h0, _⟩ | ⟨g', cap, cur, hv, hb, hh, hcap, hmax, hsz, htake⟩
  · cases h0
  injection hv with e1 e2 e3
  injection e1 with e1
  injection e1 with e1
  subst e1
  subst e3
  have hc63 : c ≤ 9223372036854775807 := by simp only [maxLen] at hmax; omega
  have hsp := splice_ins l i s (by omega) cur.toList (by rw [← flat_take Sp.enc_len l i (by omega), ← htake, List.take_take, Nat.min_eq_left (by omega)]) (by simp; omega)
  have hinfo : (Try.prog.info? 25).map (·.size) = some 2 := by kernel_rfl
  have hdl : (flat Sp.enc (l.drop i)).length = (l.length - i) * 2 := by rw [flat_length Sp.enc_len, List.length_drop]
  have hov : ∀ lb cb, (callFunc 117 #[.slice (some ⟨vb, 0, none⟩) 1 1, .slice (some ⟨g, (i + 1) * 2, none⟩) lb cb]).run Try.prog w = .ok (.value (.bool false)) w := fun lb cb => by
    rw [run_callFunc_extern Try.func117 (by kernel_rfl) (by kernel_rfl) (by kernel_rfl) (e := Extern.SlicesOverlaps.overlaps #[22, 22] #[4]) (by kernel_rfl),
      Lib.run_overlaps_apart w 22 4 25 Try.underlying22 2 (fun w => by kernel_rfl) ⟨vb, 0, none⟩ ⟨g, (i + 1) * 2, none⟩ 1 1 lb cb hne 25 25 2 cur.size (by simp [World.shape?, hvb]) (by simp [World.shape?, hh]) (by omega) (frozen_blk hvb) (frozen_blk hvb)]
    rfl
  obtain ⟨W1, hW1⟩ : ∃ W1, W1 = w.drew.setRow g (cur.toList.take ((i + 1) * 2) ++ flat Sp.enc (l.drop i) ++ cur.toList.drop ((i + 1) * 2 + (flat Sp.enc (l.drop i)).length)).toArray := ⟨_, rfl⟩
  have hcp1 : ∀ ty dc sc, (Builtin.copy_ #[22, 22] ty #[.slice (some ⟨g, (i + 1) * 2, none⟩) (l.length - i) dc, .slice (some ⟨g, i * 2, none⟩) (l.length + 1 - i) sc]).run Try.prog w.drew = .ok (goInt ((l.length - i : Nat) : Int)) W1 := fun ty dc sc => by
    rw [hW1]
    refine run_copyk w.drew 22 22 ty 25 2 g ((i + 1) * 2) _ dc ⟨g, i * 2, none⟩ _ sc (l.length - i) cur 25 (flat Sp.enc (l.drop i)) Try.underlying22 hinfo hh (by simp only [Nat.min_def]; split <;> omega) hdl ?_ (by rw [hdl, hsz]; omega) (flat_one_cell _)
    intro j v hj
    rw [← flat_drop Sp.enc_len l i (by omega), List.getElem?_drop] at hj
    rw [show (⟨g, i * 2, none⟩ : Addr).add j = (⟨g, 0, none⟩ : Addr).add (i * 2 + j) by unfold Addr.add; split <;> split <;> simp_all]
    exact hO.cells (g := g) rfl _ _ hj
  have hh1 : W1.heap[g]? = some (.cells (cur.toList.take ((i + 1) * 2) ++ flat Sp.enc (l.drop i) ++ cur.toList.drop ((i + 1) * 2 + (flat Sp.enc (l.drop i)).length)).toArray 25 (0, 0)) := by
    rw [hW1]; exact setRow_heap w.drew g cur _ 25 (0, 0) hh
  have hb1 : Below base w W1 := by
    rw [hW1]; exact below_setRow (Below.refl base w).drew hb _
  have hvb1 : W1.heap[vb]? = some (.cells #[.int .i64 s.f, .int .i64 s.m] 25) := by
    rw [hW1, setRow_other _ _ _ _ hne]; exact hvb
  obtain ⟨r1, hr1⟩ : ∃ r1, r1 = cur.toList.take ((i + 1) * 2) ++ flat Sp.enc (l.drop i) ++ cur.toList.drop ((i + 1) * 2 + (flat Sp.enc (l.drop i)).length) := ⟨_, rfl⟩
  rw [← hr1] at hh1
  have hrl : r1.length = cur.size := by rw [hr1]; simp [hdl]; omega
  obtain ⟨W2, hW2⟩ : ∃ W2, W2 = W1.setRow g (r1.take (i * 2) ++ s.enc ++ r1.drop (i * 2 + s.enc.length)).toArray := ⟨_, rfl⟩
  have hcp2 : ∀ ty dc, (Builtin.copy_ #[22, 22] ty #[.slice (some ⟨g, i * 2, none⟩) (l.length + 1 - i) dc, .slice (some ⟨vb, 0, none⟩) 1 1]).run Try.prog W1 = .ok (goInt ((1 : Nat) : Int)) W2 := fun ty dc => by
    rw [hW2]
    have := run_copyk W1 22 22 ty 25 2 g (i * 2) (l.length + 1 - i) dc ⟨vb, 0, none⟩ 1 1 1 r1.toArray 25 s.enc Try.underlying22 hinfo hh1 (by simp only [Nat.min_def]; split <;> omega) rfl (fun j v hj => by
      rw [show (⟨vb, 0, none⟩ : Addr).add j = ⟨vb, j, none⟩ by unfold Addr.add; split <;> simp_all]
      exact cell_blk hvb1 (by simpa [Sp.enc] using hj)) (by simp [Sp.enc]; omega) (by intro u hu; simp [Sp.enc] at hu; rcases hu with rfl | rfl <;> rfl)
    simpa using this
  have hh2 : W2.heap[g]? = some (.cells (r1.take (i * 2) ++ s.enc ++ r1.drop (i * 2 + s.enc.length)).toArray 25 (0, 0)) := by
    rw [hW2]; exact setRow_heap W1 g _ _ 25 (0, 0) hh1
  have hb2 : Below base w W2 := by rw [hW2]; exact below_setRow hb1 hb _
  rw [← hr1] at hsp
  have HEND : Hid (W2.ownsRow base 25 2 (.slice (some ⟨g, 0, none⟩) (l.length + 1) c) (l.length + 1) (flat Sp.enc (insL l i s)) ∧ Below base w W2) := by
    refine ⟨⟨by rw [flat_length Sp.enc_len, insL_len], .inr ⟨g, c, _, rfl, hb, hh2, hroom, hmax, ?_, ?_⟩⟩, hb2⟩
    · rw [List.size_toArray, hsp.1]; simpa using hsz
    · simpa using hsp.2
  clear hO hsp hW1 hW2 hh1 hh2 hb1 hb2 hvb1 hr1 hrl htake hdl hsz hh hvb
  have hz2 : ¬ ((i : Int) = (l.length : Int)) := by omega
  have hw1 : IntKind.i64.wrap ((i : Int) + 1) = (i : Int) + 1 := wrap_in (by omega) (by omega)
  have hb1 : (0 : Int) ≤ (i : Int) + 1 := by omega
  have htn : ((i : Int) + 1).toNat = i + 1 := by omega
  have hb2 : ¬ (c = i + 1) := by omega
  have hb3 : (i : Int) + 1 ≤ (l.length : Int) + 1 := by omega
  have hb4 : ¬ (c = i) := by omega
  have hb5 : (i : Int) ≤ (l.length : Int) + 1 := by omega
  go_enter Try.func79, Try.ntmps79
  go_wp2_with (simp only [hov])
  go_region_law (refine step_copy_run rfl _ _ 22 22 rfl _ _ (by simp [Act.eval, Act.put]) (by simp [Act.eval, Act.put]) (hcp1 _ _ _) ?_)
  go_wp2_with (at_builtin; refine wpList_copy_run _ rfl _ _ 22 22 rfl _ _ rfl rfl (hcp2 _ _) ?_)
  go_ret
  exact ⟨_, rfl, HEND.out.1, HEND.out.2⟩
end Go.Proofs.Ytncdkbhkjamdpaa
