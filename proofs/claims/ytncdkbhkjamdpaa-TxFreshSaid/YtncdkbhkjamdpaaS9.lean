/- The iterator of span.gaps: what it yields, whatever the loop's body does with memory of its own. -/
import Derived.Test.YtncdkbhkjamdpaaS8
import Derived.RangeFuncNested
import Derived.RangeFuncBound
import Derived.RangeFuncLeaves
import Derived.Shelf.Abstract
import Derived.OwnWalkIn
import Derived.TacticsInMore
import Derived.LoopNIn
import Derived.LoopIn
import Derived.Deep.Cut
namespace Go.Proofs.Ytncdkbhkjamdpaa
open Go.RowKit

structure GapSt where
  f : Int
  g : List Sp
def gapStep (t : Int) (st : GapSt) (x : Sp) : GapSt :=
  ⟨max st.f (x.f + x.m), if st.f < min x.f t then st.g ++ [⟨st.f, min x.f t - st.f⟩] else st.g⟩
def gapGo (l : List Sp) (s : Sp) : GapSt := l.foldl (gapStep (s.f + s.m)) ⟨s.f, []⟩
def gapsL (l : List Sp) (s : Sp) : List Sp :=
  if (gapGo l s).f < s.f + s.m then (gapGo l s).g ++ [⟨(gapGo l s).f, s.f + s.m - (gapGo l s).f⟩] else (gapGo l s).g
theorem gapGo_take {l : List Sp} {s : Sp} {k : Nat} (hk : k < l.length) : gapGo (l.take (k + 1)) s = gapStep (s.f + s.m) (gapGo (l.take k) s) l[k] := by
  unfold gapGo
  rw [List.take_add_one, List.getElem?_eq_getElem hk]
  simp only [Option.toList_some, List.foldl_append, List.foldl_cons, List.foldl_nil]
theorem gapGo_pre (l : List Sp) (s : Sp) (k : Nat) : (gapGo (l.take k) s).g <+: (gapGo l s).g := by
  have h : ∀ (b : List Sp) (t : Int) (st : GapSt), st.g <+: (b.foldl (gapStep t) st).g := by
    intro b t
    induction b with
    | nil => intro st; exact List.prefix_refl _
    | cons x b ih =>
      intro st
      refine List.IsPrefix.trans ?_ (ih _)
      unfold gapStep
      dsimp only
      split
      · exact List.prefix_append _ _
      · exact List.prefix_refl _
  have := h (l.drop k) (s.f + s.m) (gapGo (l.take k) s)
  unfold gapGo at this ⊢
  rw [← List.foldl_append, List.take_append_drop] at this
  exact this
theorem gapGo_pre' (l : List Sp) (s : Sp) : (gapGo l s).g <+: gapsL l s := by
  unfold gapsL
  split
  · exact List.prefix_append _ _
  · exact List.prefix_refl _
theorem gapGo_bd (l : List Sp) (s : Sp) (hb : BdL l) (hs : s.Bd) : -1000000000000000000 ≤ (gapGo l s).f ∧ (gapGo l s).f ≤ 2000000000000000000 := by
  have h : ∀ (b : List Sp) (t : Int) (st : GapSt), BdL b → -1000000000000000000 ≤ st.f ∧ st.f ≤ 2000000000000000000 → -1000000000000000000 ≤ (b.foldl (gapStep t) st).f ∧ (b.foldl (gapStep t) st).f ≤ 2000000000000000000 := by
    intro b t
    induction b with
    | nil => intro st _ h; exact h
    | cons x b ih =>
      intro st hb h
      refine ih _ (fun y hy => hb y (List.mem_cons_of_mem _ hy)) ?_
      obtain ⟨h1, h2, h3, h4⟩ := hb x List.mem_cons_self
      simp only [gapStep]
      omega
  obtain ⟨h1, h2, h3, h4⟩ := hs
  exact h l _ ⟨s.f, []⟩ hb ⟨by dsimp only; omega, by dsimp only; omega⟩

/-! ### What a round may turn: the box at block B, and the row that it points to -/
def rowOf (B : Nat) (W : World) : Option Nat := (W.cell? ⟨B, 0, none⟩).bind Value.ownBlock
structure KpA (n₀ B : Nat) (W W' : World) : Prop where
  b : Below n₀ W W'
  cells : ∀ k cs t fz, k ≠ B → rowOf B W ≠ some k → W.heap[k]? = some (.cells cs t fz) → W'.heap[k]? = some (.cells cs t fz)
  row : rowOf B W' = rowOf B W ∨ ∀ k, rowOf B W' = some k → W.heap.size ≤ k
  dang : (∀ k, rowOf B W = some k → k < W.heap.size) → ∀ k, rowOf B W' = some k → k < W'.heap.size
theorem KpA.trans {n₀ B : Nat} {X Y Z : World} (h : KpA n₀ B X Y) (k : KpA n₀ B Y Z) : KpA n₀ B X Z := by
  refine ⟨h.b.trans k.b, fun i cs t fz hi hr hc => ?_, ?_, fun hd => k.dang (h.dang hd)⟩
  · have h1 := h.cells i cs t fz hi hr hc
    refine k.cells i cs t fz hi (fun e => ?_) h1
    rcases h.row with h2 | h2
    · exact hr (h2 ▸ e)
    · have := h2 i e
      have := (Array.getElem?_eq_some_iff.1 hc).1
      omega
  · rcases k.row with h2 | h2
    · rw [h2]; exact h.row
    · exact .inr fun i hi => Nat.le_trans h.b.size (h2 i hi)
theorem rowOf_same {B : Nat} {W W' : World} (h : W'.heap[B]? = W.heap[B]?) : rowOf B W' = rowOf B W := by
  unfold rowOf; rw [World.cell?_of_block (w := W) (w' := W') (a := ⟨B, 0, none⟩) h]
theorem KpA.grow {n₀ B : Nat} {W W' : World} (hB : B < W.heap.size) (hd : ∀ k, rowOf B W = some k → k < W.heap.size) (hn : n₀ ≤ W.heap.size) (hb : Below W.heap.size W W') : KpA n₀ B W W' := by
  have hr : rowOf B W' = rowOf B W := rowOf_same (hb.block B hB)
  exact ⟨hb.mono hn, fun k cs t fz _ _ hc => hmono hb hc, .inl hr, fun _ k hk => Nat.lt_of_lt_of_le (hd k (hr ▸ hk)) hb.size⟩
theorem kpA_b {n₀ B : Nat} {w : World} (hB : B < w.heap.size) (hn : n₀ ≤ w.heap.size) (W : World) (l : Nat) (o o' : Obj) (hl : w.heap.size ≤ l) (h : W.heap[l]? = some o) (hc : o.isCells = false) (hw : o.isWalk = false) : KpA n₀ B W (W.putObj l o') := by
  have hsz : (W.putObj l o').heap.size = W.heap.size := by simp [World.putObj]
  have hr : rowOf B (W.putObj l o') = rowOf B W := rowOf_same (World.putObj_heap_other (by omega))
  refine ⟨belowK_b hn W l o o' hl h hc hw, fun k cs t fz _ _ hk => ?_, .inl hr, fun hd k hk => by rw [hsz]; exact hd k (hr ▸ hk)⟩
  refine (World.putObj_heap_other ?_).trans hk
  intro e; subst e; rw [h] at hk; cases hk; cases hc

abbrev encV (x : Sp) : Array Value := #[.agg #[.int .i64 x.f, .int .i64 x.m]]

theorem gaps_len_pos {l : List Sp} {s : Sp} {k : Nat} (hk : k < l.length) (h : (gapGo (l.take k) s).f < min l[k].f (s.f + s.m)) :
    (gapGo (l.take k) s).g.length < (gapsL l s).length ∧ (gapGo (l.take k) s).g ++ [⟨(gapGo (l.take k) s).f, min l[k].f (s.f + s.m) - (gapGo (l.take k) s).f⟩] = (gapGo (l.take (k + 1)) s).g := by
  have e : (gapGo (l.take (k + 1)) s).g = (gapGo (l.take k) s).g ++ [⟨(gapGo (l.take k) s).f, min l[k].f (s.f + s.m) - (gapGo (l.take k) s).f⟩] := by
    rw [gapGo_take hk]; simp only [gapStep]; rw [if_pos h]
  have h1 := ((gapGo_pre l s (k + 1)).trans (gapGo_pre' l s)).length_le
  rw [e] at h1
  refine ⟨?_, e.symm⟩
  simp at h1; omega

def GapPost (G : List Sp) (J Jx : List Sp → World → Prop) (e : Ending) (W' : World) : Prop :=
  (∃ v, e = .returned v) ∧ ((∃ xs, xs = G ∧ J xs W') ∨ (∃ pre, pre <+: G ∧ Jx pre W'))
structure GapRel (w0 : World) (B : Nat) (J : List Sp → World → Prop) (g : List Sp) (wr : World) : Prop where
  j : J g wr
  b : Below w0.heap.size w0 wr
  d : ∀ k, rowOf B wr = some k → k < wr.heap.size
  lt : B < wr.heap.size
theorem GapRel.grow {w0 : World} {B : Nat} {J : List Sp → World → Prop} {g : List Sp} {W W' : World} {N : Nat} (h : GapRel w0 B J g W) (hJ : AbidesFrom N J) (hb : Below W.heap.size W W') : GapRel w0 B J g W' :=
  ⟨hJ _ _ _ none h.j ⟨hb.os, hb.tape, hb.output, hb.size, fun i hi _ => hb.block i hi⟩ (fun r e => by cases e), btr h.b hb, fun k hk => Nat.lt_of_lt_of_le (h.d k (by rw [← hk]; exact (rowOf_same (hb.block B h.lt)).symm)) hb.size, Nat.lt_of_lt_of_le h.lt hb.size⟩

set_option maxHeartbeats 4000000 in
set_option maxRecDepth 100000 in
theorem gaps_stops (l : List Sp) (s : Sp) (v : Value) (w0 w : World) (hv : RdS w0 v l) (hb : BdL l) (hs : s.Bd) (hw : Below w0.heap.size w0 w) (Bl Bs B : Nat)
    (hBl : w.heap[Bl]? = some (.cells #[v] 22)) (hBs : w.heap[Bs]? = some (.cells #[.int .i64 s.f, .int .i64 s.m] 25)) (hB : B < w.heap.size) (hd : ∀ k, rowOf B w = some k → k < w.heap.size) :
    SeqStopsK Fence.wide 2 Try.prog 120 #[.pointer (some ⟨Bs, 0, none⟩), .pointer (some ⟨Bl, 0, none⟩)] encV (KpA w0.heap.size B) (fun xs => xs = gapsL l s) (fun pre => pre <+: gapsL l s) (gapsL l s).length w := by
  intro L J Jx W hW hJ hJx hY h0
  refine callsIn_wide.2 ?_
  refine Calls.mono (R := GapPost (gapsL l s) J Jx) ?_ (fun e W' h => h)
  have HV := hid_ hv
  obtain ⟨A, c, rfl, hl, hl', _⟩ := hv
  have HB := hid_ hb
  have HBd := hid_ (fun k => gapGo_bd (l.take k) s (fun x hx => hb x (List.mem_of_mem_take hx)) hs)
  obtain ⟨s1, s2, s3, s4⟩ := hs
  clear hb
  have HY := hid_ hY
  have HJ := hid_ hJ
  have HJx := hid_ hJx
  clear hY hJ hJx
  have e1 := Ext.cell (cell_blk (hmono hW hBs) (j := 0) rfl)
  have e2 := Ext.cell (cell_blk (hmono hW hBs) (j := 1) rfl)
  have e3 := cell_blk (hmono hW hBl) (j := 0) rfl
  have HW0 := hid_ (btr hw hW)
  have HD := hid_ (show ∀ k, rowOf B W = some k → k < W.heap.size from fun k hk => Nat.lt_of_lt_of_le (hd k (by rw [← hk]; exact (rowOf_same (hW.block B hB)).symm)) hW.size)
  have HBW := hid_ (show B < W.heap.size from Nat.lt_of_lt_of_le hB hW.size)
  clear hd hBl hBs hw hB hW
  go_enter Try.func120, Try.ntmps120
  go_wp2
  refine wp_region_ext (by kernel_rfl) (by kernel_rfl) ?_
  repeat (first | go_big_quiet_skip | (go_big_quiet_want; go_big_quiet_op; first | go_big_quiet_on | (apply Exists.intro; refine ⟨fun _ => ?_, ?_⟩; (focus (exact Calls.ext (end_c _ _ _ (by omega) (by omega)))); go_big_quiet_on)))
  refine wpQuiet_nil ?_
  intro wq hw'
  obtain ⟨pq, rfl⟩ := hw'
  have hG : GapRel w0 B J [] pq.w := GapRel.grow ⟨h0, HW0.out, HD.out, HBW.out⟩ HJ.out pq.h
  replace e3 := cmono pq.h e3
  generalize pq.w = W1 at hG e3 ⊢
  clear HW0 HD HBW h0
  go_wp2
  have HG := hid_ hG
  clear hG
  go_loopw [4, 15] (fun f i wr => ∃ k : Nat, k ≤ l.length ∧ i = .int .i64 k ∧ f = .int .i64 (gapGo (l.take k) s).f ∧ Hid (GapRel w0 B J (gapGo (l.take k) s).g wr)) (fun _ i _ => l.length - (intOf i).toNat)
  case atStart => exact ⟨0, Nat.zero_le _, rfl, rfl, HG.out⟩
  case round =>
    obtain ⟨k, hk, rfl, rfl, hR⟩ := hrel
    have hbd := HBd.out k
    obtain ⟨hbd1, hbd2⟩ := hbd
    by_cases hlt : k < l.length
    · obtain ⟨b, o, rfl, h1, h2⟩ := RdS.at HV.out hR.out.b hlt
      obtain ⟨g1, g2, g3, g4⟩ := HB.out.at hlt
      have HT := hid_ (gapGo_take (s := s) hlt)
      have HL := hid_ (gaps_len_pos (s := s) hlt)
      have HP := hid_ (gapGo_pre l s (k + 1))
      generalize l[k] = x at *
      generalize gapGo (l.take k) s = st at *
      obtain ⟨F, g⟩ := st
      dsimp only at hbd1 hbd2 ⊢
      by_cases hy : F < min x.f (s.f + s.m)
      · have HLy := hid_ (HL.out hy)
        have hG1 := hid_ (GapRel.grow hR.out HJ.out (balloc' wr (.cells #[.int .i64 x.f, .int .i64 x.m] 25)))
        obtain ⟨fn, tmps, assign, body, hY1, hRd⟩ := HY.out g ⟨F, min x.f (s.f + s.m) - F⟩ _ hG1.out.j HLy.out.1
        dsimp only [encV] at hY1
        have hw1 : IntKind.i64.wrap (min x.f (s.f + s.m) - F) = min x.f (s.f + s.m) - F := wrap_in (by omega) (by omega)
        have hmn : (if s.f + s.m < x.f then s.f + s.m else x.f) = min x.f (s.f + s.m) := gmin _ _
        go_upto_region 5 with (fail)
        refine (wpIn_wide (n := 2)).1 ?_
        gi_wp2
        refine hRd.mono ?_
        rintro e W3 (⟨rfl, hJ3, hK3⟩ | ⟨rfl, hJx3⟩)
        · have C1 : W3.heap[wr.heap.size]? = some (.cells #[.int .i64 x.f, .int .i64 x.m] 25) := hK3.cells _ _ _ _ (by have := hR.out.lt; omega) (fun h => by have := hR.out.d _ (by rw [← h]; exact (rowOf_same ((balloc' wr _).block B hR.out.lt)).symm); omega) (heap_alloc_new wr _)
          have C2 := cell_blk C1 (j := 0) rfl
          have C3 := cell_blk C1 (j := 1) rfl
          clear C1
          gi_wp2
          have hG3 : GapRel w0 B J (g ++ [⟨F, min x.f (s.f + s.m) - F⟩]) W3 := ⟨hJ3, hG1.out.b.trans hK3.b, hK3.dang hG1.out.d, Nat.lt_of_lt_of_le hG1.out.lt hK3.b.size⟩
          have HG3 := hid_ hG3
          clear hG3 hK3 hJ3
          go_wp2_with (go_at_call 77; refine (end_c _ _ _ (by omega) (by omega)).mono ?_; rintro e w2 ⟨rfl, hb2⟩)
          go_roundw
          case rel =>
            refine ⟨k + 1, by omega, by go_num, by rw [HT.out]; simp only [gapStep]; rw [gmax], ?_⟩
            rw [← HLy.out.2]
            exact GapRel.grow HG3.out HJ.out hb2
          case measure => simp [intOf]; omega
        · gi_wp2
          go_wp2
          refine bodyPost_ret (results_none rfl _ _ _) rfl ?_
          refine ⟨⟨_, rfl⟩, .inr ⟨_, ?_, hJx3⟩⟩
          show (g ++ _) <+: _
          rw [HLy.out.2]
          exact HP.out.trans (gapGo_pre' l s)
      · have HSt : Hid (gapStep (s.f + s.m) ⟨F, g⟩ x = ⟨max F (x.f + x.m), g⟩) := by show _ = _; simp only [gapStep]; rw [if_neg hy]
        have hmn : (if s.f + s.m < x.f then s.f + s.m else x.f) = min x.f (s.f + s.m) := gmin _ _
        have hB1 := hid_ (balloc' wr (.cells #[.int .i64 x.f, .int .i64 x.m] 25))
        go_wp2_with (go_at_call 77; refine (end_c _ _ _ (by omega) (by omega)).mono ?_; rintro e w2 ⟨rfl, hb2⟩)
        go_roundw
        case rel =>
          refine ⟨k + 1, by omega, by go_num, by rw [HT.out, HSt.out, gmax], ?_⟩
          rw [HT.out, HSt.out]
          exact GapRel.grow hR.out HJ.out (btr hB1.out hb2)
        case measure => simp [intOf]; omega
    · obtain rfl : k = l.length := by omega
      rw [List.take_length] at *
      have HL : Hid (gapsL l s = if (gapGo l s).f < s.f + s.m then (gapGo l s).g ++ [⟨(gapGo l s).f, s.f + s.m - (gapGo l s).f⟩] else (gapGo l s).g) := rfl
      generalize gapGo l s = st at *
      obtain ⟨F, g⟩ := st
      dsimp only at hbd1 hbd2 HL ⊢
      by_cases hy : F < s.f + s.m
      · have HLy : Hid (gapsL l s = g ++ [⟨F, s.f + s.m - F⟩]) := by have := HL.out; rw [if_pos hy] at this; exact this
        have hw1 : IntKind.i64.wrap (s.f + s.m - F) = s.f + s.m - F := wrap_in (by omega) (by omega)
        obtain ⟨fn, tmps, assign, body, hY1, hRd⟩ := HY.out g ⟨F, s.f + s.m - F⟩ _ hR.out.j (by rw [HLy.out]; simp)
        dsimp only [encV] at hY1
        go_upto_region 9 with (fail)
        refine (wpIn_wide (n := 2)).1 ?_
        gi_wp2
        refine hRd.mono ?_
        rintro e W3 (⟨rfl, hJ3, hK3⟩ | ⟨rfl, hJx3⟩)
        · gi_wp2
          go_end0
          exact ⟨⟨_, rfl⟩, .inl ⟨_, HLy.out.symm, hJ3⟩⟩
        · gi_wp2
          go_end0
          refine ⟨⟨_, rfl⟩, .inr ⟨_, ?_, hJx3⟩⟩
          show (g ++ _) <+: _
          rw [HLy.out]
          exact List.prefix_refl _
      · have HLy : Hid (gapsL l s = g) := by have := HL.out; rw [if_neg hy] at this; exact this
        go_wp2
        go_end0
        exact ⟨⟨_, rfl⟩, .inl ⟨_, HLy.out.symm, hR.out.j⟩⟩
end Go.Proofs.Ytncdkbhkjamdpaa
