/- The walk of slices.Insert at spans, the last road (no room, ahead of the end), and all roads in one. -/
import Derived.Test.YtncdkbhkjamdpaaS6
namespace Go.Proofs.Ytncdkbhkjamdpaa
open Go.RowKit

theorem splice_ins2 (l : List Sp) (i : Nat) (s : Sp) (hi : i ≤ l.length) (cur : List Value) (hcur : cur.take (i * 2) = flat Sp.enc (l.take i)) (hlen : (l.length + 1) * 2 ≤ cur.length) :
    let r1 := cur.take (i * 2) ++ s.enc ++ cur.drop (i * 2 + s.enc.length)
    let r2 := r1.take ((i + 1) * 2) ++ flat Sp.enc (l.drop i) ++ r1.drop ((i + 1) * 2 + (flat Sp.enc (l.drop i)).length)
    r1.length = cur.length ∧ r2.length = cur.length ∧ r2.take ((l.length + 1) * 2) = flat Sp.enc (insL l i s) := by
  intro r1 r2
  have hd : (flat Sp.enc (l.drop i)).length = (l.length - i) * 2 := by rw [flat_length Sp.enc_len, List.length_drop]
  have ht : (flat Sp.enc (l.take i)).length = i * 2 := by rw [flat_length Sp.enc_len, List.length_take, Nat.min_eq_left hi]
  have e0 : (cur.take (i * 2)).length = i * 2 := by rw [List.length_take]; omega
  have hs2 : s.enc.length = 2 := rfl
  have hr1 : r1.length = cur.length := by
    simp only [r1, List.length_append, List.length_drop, e0, hs2]; omega
  have e1 : r1.take ((i + 1) * 2) = flat Sp.enc (l.take i) ++ s.enc := by
    simp only [r1, hcur]
    have : (flat Sp.enc (l.take i) ++ s.enc).length = (i + 1) * 2 := by rw [List.length_append, ht, hs2]; omega
    rw [← this, List.take_left]
  have hr2 : r2 = flat Sp.enc (insL l i s) ++ r1.drop ((i + 1) * 2 + (flat Sp.enc (l.drop i)).length) := by
    simp only [r2, e1, insL_flat, List.append_assoc]
  have hL : (flat Sp.enc (insL l i s)).length = (l.length + 1) * 2 := by rw [flat_length Sp.enc_len, insL_len]
  refine ⟨hr1, ?_, ?_⟩
  · rw [hr2, List.length_append, hL, List.length_drop, hd, hr1]; omega
  · rw [hr2, ← hL, List.take_left]

set_option maxHeartbeats 4000000 in
set_option maxRecDepth 100000 in
theorem ins_grow (l : List Sp) (g c i : Nat) (s : Sp) (vb base : Nat) (w : World) (hO : w.ownsRow base 25 2 (.slice (some ⟨g, 0, none⟩) l.length c) l.length (flat Sp.enc l)) (hbase : base ≤ w.heap.size)
    (hvb : w.heap[vb]? = some (.cells #[.int .i64 s.f, .int .i64 s.m] 25)) (hi : i < l.length) (hroom : c < l.length + 1) (hn : l.length ≤ 1000000) :
    Calls Try.prog 79 #[.slice (some ⟨g, 0, none⟩) l.length c, .int .i64 i, .slice (some ⟨vb, 0, none⟩) 1 1] w fun e w' => ∃ v', e = .returned v' ∧ w'.ownsRow base 25 2 v' (l.length + 1) (flat Sp.enc (insL l i s)) ∧ Below base w w' := by
  rcases hO.2 with ⟨h0, _⟩ | ⟨g', cap, cur, hv, hb, hh, hcap, hmax, hsz, htake⟩
  · cases h0
  injection hv with e1 e2 e3
  injection e1 with e1
  injection e1 with e1
  subst e1
  subst e3
  obtain rfl : c = l.length := by omega
  obtain ⟨i0, hi0, hz0, hz1, hz2⟩ := info_parts info25
  have hinfo : (Try.prog.info? 25).map (·.size) = some 2 := by kernel_rfl
  have hdl : (flat Sp.enc (l.drop i)).length = (l.length - i) * 2 := by rw [flat_length Sp.enc_len, List.length_drop]
  have htl : (flat Sp.enc (l.take i)).length = i * 2 := by rw [flat_length Sp.enc_len, List.length_take, Nat.min_eq_left (by omega)]
  have hgl : g < w.heap.size := (Array.getElem?_eq_some_iff.1 hh).1
  have hvl : vb < w.heap.size := (Array.getElem?_eq_some_iff.1 hvb).1
  have hkk : (l.length : Int) + 1 - (i : Int) = ((l.length + 1 - i : Nat) : Int) := by omega
  have hik : i + (l.length + 1 - i) = l.length + 1 := by omega
  have hold : (Builtin.firstCells i0.size i (.slice (some ⟨g, 0, none⟩) i l.length)).run Try.prog w.drew = .ok (flat Sp.enc (l.take i)).toArray w.drew := by
    rw [hz1]
    refine run_firstCells_some w.drew 2 i ⟨g, 0, none⟩ i l.length (flat Sp.enc (l.take i)) htl fun j v hj => ?_
    rw [← flat_take Sp.enc_len l i (by omega), List.getElem?_take] at hj
    split at hj
    · exact hO.cells (g := g) rfl j v hj
    · cases hj
  obtain ⟨G, hG⟩ : ∃ G, G = grownCap w (l.length + 1) l.length 25 := ⟨_, rfl⟩
  obtain ⟨ROW, hROW⟩ : ∃ ROW : Array Value, ROW = (flat Sp.enc (l.take i)).toArray ++ Builtin.zeroCells (Value.agg #[.int .i64 0, .int .i64 0]).cells (l.length + 1 - i) ++ Builtin.zeroCells (Value.agg #[.int .i64 0, .int .i64 0]).cells (G - (l.length + 1)) := ⟨_, rfl⟩
  obtain ⟨W1, hW1⟩ : ∃ W1, W1 = w.drew.alloc (.cells ROW 25) := ⟨_, rfl⟩
  have hrz : ∀ ty, (Builtin.append_ #[22, 3] ty #[.slice (some ⟨g, 0, none⟩) i l.length, .int .i64 ((l.length : Int) + 1 - (i : Int))]).run Try.prog w =
      .ok (.slice (some ⟨w.heap.size, 0, none⟩) (l.length + 1) G) W1 := fun ty => by
    have h := Lib.run_append_grow_zeros w 22 3 ty 25 i0 _ .i64 .i64 Try.underlying22 Try.underlying3 hi0 hz0 (some ⟨g, 0, none⟩) i l.length (flat Sp.enc (l.take i)) hold (l.length + 1 - i) (by omega) (by omega) (by omega) (by omega) (by rw [hz2]; omega) (by rw [hz2, hik]; exact growslice_fits hroom (by omega))
    rw [hik] at h
    rw [hkk, hW1, hROW, hG]
    exact h
  have hGn : l.length + 1 ≤ G := by rw [hG]; exact grownCap_ge w _ _ _
  have hGm : G ≤ maxLen := by rw [hG]; exact grownCap_le_maxLen w (l.length + 1) l.length 25 (by unfold maxLen; omega)
  have hG63 : G ≤ 9223372036854775807 := by simp only [maxLen] at hGm; omega
  have hRs : ROW.size = G * 2 := by
    rw [hROW]
    have hz : ∀ n, (Builtin.zeroCells (Value.agg #[.int .i64 0, .int .i64 0]).cells n).size = n * 2 := fun n => zeros_len (.agg #[.int .i64 0, .int .i64 0]) #[.int .i64 0, .int .i64 0] rfl n
    rw [Array.size_append, Array.size_append, hz, hz, List.size_toArray, htl]
    omega
  have hRt : ROW.toList.take (i * 2) = flat Sp.enc (l.take i) := by
    rw [hROW]
    simp only [Array.toList_append, List.append_assoc]
    rw [← htl, List.take_left]
  have hsp := splice_ins2 l i s (by omega) ROW.toList hRt (by simp; omega)
  have hh1 : W1.heap[w.heap.size]? = some (.cells ROW 25 (0, 0)) := by rw [hW1]; exact heap_alloc_new w.drew _
  have hB1 : Below w.heap.size w W1 := by rw [hW1]; exact (Below.refl _ w).drew.alloc (Nat.le_refl _) _
  have hvb1 : W1.heap[vb]? = some (.cells #[.int .i64 s.f, .int .i64 s.m] 25) := hmono hB1 hvb
  have hne : vb ≠ w.heap.size := by omega
  obtain ⟨W2, hW2⟩ : ∃ W2, W2 = W1.setRow w.heap.size (ROW.toList.take (i * 2) ++ s.enc ++ ROW.toList.drop (i * 2 + s.enc.length)).toArray := ⟨_, rfl⟩
  have hcp1 : ∀ ty dc, (Builtin.copy_ #[22, 22] ty #[.slice (some ⟨w.heap.size, i * 2, none⟩) (l.length + 1 - i) dc, .slice (some ⟨vb, 0, none⟩) 1 1]).run Try.prog W1 = .ok (goInt ((1 : Nat) : Int)) W2 := fun ty dc => by
    rw [hW2]
    exact run_copyk W1 22 22 ty 25 2 w.heap.size (i * 2) (l.length + 1 - i) dc ⟨vb, 0, none⟩ 1 1 1 ROW 25 s.enc Try.underlying22 hinfo hh1 (by simp only [Nat.min_def]; split <;> omega) rfl (fun j v hj => by
      rw [show (⟨vb, 0, none⟩ : Addr).add j = ⟨vb, j, none⟩ by unfold Addr.add; split <;> simp_all]
      exact cell_blk hvb1 (by simpa [Sp.enc] using hj)) (by simp [Sp.enc]; omega) (by intro u hu; simp [Sp.enc] at hu; rcases hu with rfl | rfl <;> rfl)
  obtain ⟨r1, hr1⟩ : ∃ r1, r1 = ROW.toList.take (i * 2) ++ s.enc ++ ROW.toList.drop (i * 2 + s.enc.length) := ⟨_, rfl⟩
  rw [← hr1] at hsp hW2
  have hh2 : W2.heap[w.heap.size]? = some (.cells r1.toArray 25 (0, 0)) := by rw [hW2]; exact setRow_heap W1 _ _ _ 25 (0, 0) hh1
  have hB2 : Below w.heap.size w W2 := by rw [hW2]; exact below_setRow hB1 (Nat.le_refl _) _
  have hg2 : W2.heap[g]? = some (.cells cur 25 (0, 0)) := hmono hB2 hh
  obtain ⟨W3, hW3⟩ : ∃ W3, W3 = W2.drew.setRow w.heap.size (r1.take ((i + 1) * 2) ++ flat Sp.enc (l.drop i) ++ r1.drop ((i + 1) * 2 + (flat Sp.enc (l.drop i)).length)).toArray := ⟨_, rfl⟩
  have hcp2 : ∀ ty dc sc, (Builtin.copy_ #[22, 22] ty #[.slice (some ⟨w.heap.size, (i + 1) * 2, none⟩) (l.length - i) dc, .slice (some ⟨g, i * 2, none⟩) (l.length - i) sc]).run Try.prog W2.drew = .ok (goInt ((l.length - i : Nat) : Int)) W3 := fun ty dc sc => by
    rw [hW3]
    have := run_copyk W2.drew 22 22 ty 25 2 w.heap.size ((i + 1) * 2) (l.length - i) dc ⟨g, i * 2, none⟩ (l.length - i) sc (l.length - i) r1.toArray 25 (flat Sp.enc (l.drop i)) Try.underlying22 hinfo hh2 (by simp only [Nat.min_def]; split <;> omega) hdl ?_ (by rw [hdl, List.size_toArray, hsp.1]; simp; omega) (flat_one_cell _)
    · simpa using this
    · intro j v hj
      rw [← flat_drop Sp.enc_len l i (by omega), List.getElem?_drop] at hj
      rw [show (⟨g, i * 2, none⟩ : Addr).add j = (⟨g, 0, none⟩ : Addr).add (i * 2 + j) by unfold Addr.add; split <;> split <;> simp_all]
      exact cmono (W' := W2.drew) hB2.drew (hO.cells (g := g) rfl _ _ hj)
  have hh3 : W3.heap[w.heap.size]? = some (.cells (r1.take ((i + 1) * 2) ++ flat Sp.enc (l.drop i) ++ r1.drop ((i + 1) * 2 + (flat Sp.enc (l.drop i)).length)).toArray 25 (0, 0)) := by rw [hW3]; exact setRow_heap W2.drew _ _ _ 25 (0, 0) hh2
  have hB3 : Below w.heap.size w W3 := by rw [hW3]; exact below_setRow hB2.drew (Nat.le_refl _) _
  have HEND : Hid (W3.ownsRow base 25 2 (.slice (some ⟨w.heap.size, 0, none⟩) (l.length + 1) G) (l.length + 1) (flat Sp.enc (insL l i s)) ∧ Below base w W3) := by
    refine ⟨⟨by rw [flat_length Sp.enc_len, insL_len], .inr ⟨w.heap.size, G, _, rfl, hbase, hh3, hGn, hGm, ?_, ?_⟩⟩, hB3.mono hbase⟩
    · rw [List.size_toArray, hsp.2.1]; simpa using hRs
    · simpa using hsp.2.2
  have hGi : ¬ (G = i) := by omega
  have hGim : ¬ (G = i + 1) := by omega
  clear hO hsp hW1 hW2 hW3 hh1 hh2 hh3 hB1 hB2 hB3 hvb1 hr1 hRt hRs hROW hG htake hdl htl hsz hh hvb hkk hik hold hg2
  have hz2' : ¬ ((i : Int) = (l.length : Int)) := by omega
  have hw1 : IntKind.i64.wrap ((i : Int) + 1) = (i : Int) + 1 := wrap_in (by omega) (by omega)
  have hb1 : (0 : Int) ≤ (i : Int) + 1 := by omega
  have htn : ((i : Int) + 1).toNat = i + 1 := by omega
  have hb6 : i ≤ l.length := by omega
  have hb3 : (i : Int) + 1 ≤ (l.length : Int) + 1 := by omega
  have hb4 : ¬ (l.length = i) := by omega
  have hb5 : (i : Int) ≤ (l.length : Int) + 1 := by omega
  go_enter Try.func79, Try.ntmps79
  go_wp2_with (first
    | (at_builtin; refine Lib.wpList_append_run _ rfl _ _ _ _ rfl _ _ rfl rfl _ _ (hrz _) ?_)
    | (at_builtin; refine wpList_copy_run _ rfl _ _ 22 22 rfl _ _ rfl rfl (hcp1 _ _) ?_))
  go_region_law (refine step_copy_run rfl _ _ 22 22 rfl _ _ (by simp [Act.eval, Act.put]) (by simp [Act.eval, Act.put]) (hcp2 _ _ _) ?_)
  go_wp2
  go_ret
  exact ⟨_, rfl, HEND.out.1, HEND.out.2⟩
/-- Insert of one span, all roads. -/
theorem ins_c (l : List Sp) (v : Value) (i : Nat) (s : Sp) (vb base : Nat) (w : World) (hO : w.ownsRow base 25 2 v l.length (flat Sp.enc l)) (hbase : base ≤ w.heap.size)
    (hvb : w.heap[vb]? = some (.cells #[.int .i64 s.f, .int .i64 s.m] 25)) (hne : v.ownBlock ≠ some vb) (hi : i ≤ l.length) (hn : l.length ≤ 1000000) :
    Calls Try.prog 79 #[v, .int .i64 i, .slice (some ⟨vb, 0, none⟩) 1 1] w fun e w' => ∃ v', e = .returned v' ∧ w'.ownsRow base 25 2 v' (l.length + 1) (flat Sp.enc (insL l i s)) ∧ Below base w w' := by
  by_cases h : i = l.length
  · subst h
    exact ins_end l v s vb base w hO hbase hvb hn
  · obtain ⟨g, cap, rfl⟩ := own_form hO (by omega)
    by_cases hr : l.length + 1 ≤ cap
    · exact ins_shift l g cap i s vb base w hO hvb (fun e => hne (by simp [Value.ownBlock, e])) (by omega) hr
    · exact ins_grow l g cap i s vb base w hO hbase hvb (by omega) (by omega) hn
end Go.Proofs.Ytncdkbhkjamdpaa
