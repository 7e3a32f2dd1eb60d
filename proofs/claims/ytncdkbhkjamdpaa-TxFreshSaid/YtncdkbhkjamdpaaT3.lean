/- The program's transaction (chapter 20): spans, Made, Make, Unmake. -/
import Derived.Test.YtncdkbhkjamdpaaT2
import Derived.Deep.RegionHeld3
namespace Go.Proofs.Ytncdkbhkjamdpaa
open Go.RowKit Go.Maps

theorem RdF.at {w wr : World} {A : Option Addr} {n c : Nat} {l : List Ob} (h : RdF w (.slice A n c) l) (hb : Below w.heap.size w wr) {k : Nat} (hk : k < l.length) :
    ∃ b o, A = some ⟨b, o, none⟩ ∧ wr.cell? ⟨b, o + k * 9, none⟩ = some (vz l[k].ch) ∧ wr.cell? ⟨b, o + k * 9 + 1, none⟩ = some (vz l[k].ix) ∧ wr.cell? ⟨b, o + k * 9 + 2, none⟩ = some (vz l[k].cl) ∧ wr.cell? ⟨b, o + k * 9 + 3, none⟩ = some (vz l[k].mn) ∧ wr.cell? ⟨b, o + k * 9 + 4, none⟩ = some (.bool l[k].fr) ∧
      wr.cell? ⟨b, o + k * 9 + 5, none⟩ = some (vz l[k].at_) ∧ wr.cell? ⟨b, o + k * 9 + 6, none⟩ = some (vz l[k].ty) ∧ wr.cell? ⟨b, o + k * 9 + 7, none⟩ = some (vz l[k].sz) ∧ wr.cell? ⟨b, o + k * 9 + 8, none⟩ = some (vu l[k].sr) := by
  obtain ⟨A', c', e, _, _, hc⟩ := h
  injection e with e1 e2 e3
  subst e1
  obtain ⟨b, o, ea, hh⟩ := hc k hk
  exact ⟨b, o, ea, cmono hb (hh 0 _ rfl), cmono hb (hh 1 _ rfl), cmono hb (hh 2 _ rfl), cmono hb (hh 3 _ rfl), cmono hb (hh 4 _ rfl), cmono hb (hh 5 _ rfl), cmono hb (hh 6 _ rfl), cmono hb (hh 7 _ rfl), cmono hb (hh 8 _ rfl)⟩
theorem spsF_take {L : List Ob} {k : Nat} (hk : k < L.length) : spsF (L.take (k + 1)) = spsF (L.take k) ++ [⟨L[k].at_, L[k].sz + 2⟩] := by
  rw [spsF, List.take_add_one, List.getElem?_eq_getElem hk, Option.toList_some, List.map_append]
  rfl
theorem cells_new2 (wr : World) (ob : Obj) (cs : List Value) (e : TypeId) (j : Nat) (u : Value) (h : cs[j]? = some u) : ((wr.alloc ob).alloc (.cells cs.toArray e)).cell? ((⟨wr.heap.size + 1, 0, none⟩ : Addr).add j) = some u := by
  have := cells_new (wr.alloc ob) cs e j u h
  rwa [World.size_alloc] at this
theorem spsF_len (L : List Ob) : (spsF L).length = L.length := by simp [spsF]

/-! ### spans -/
set_option maxHeartbeats 4000000 in
set_option maxRecDepth 100000 in
theorem spans_c {tb mb n : Nat} {wv gv : Value} {T : TS} (w : World) (h : TxT w tb mb n wv gv T) (hu : Up T.fresh) (hok : ∀ f ∈ T.fresh, f.Ok) (hn : n ≤ 1000000) (hln : T.fresh.length ≤ n) :
    Calls Try.prog 100 #[.pointer (some ⟨tb, 1, none⟩)] w fun e w' => ∃ v, e = .returned v ∧ w'.ownsRow w.heap.size 25 2 v (spsF T.fresh).length (flat Sp.enc (spsF T.fresh)) ∧ Below w.heap.size w w' := by
  have H := hid_ h
  have HU := hid_ hu
  have HOK := hid_ hok
  clear h hu hok
  obtain ⟨i0, hi, hz0, hz1, hz2⟩ := info_parts info25
  have hI := hid_ hi; have hZ0 := hid_ hz0; have hZ1 := hid_ hz1; have hZ2 := hid_ hz2
  clear hi hz0 hz1 hz2
  go_enter Try.func100, Try.ntmps100
  go_wp2_with (go_at_call 37; refine (all_c _ H.out HU.out hn hln).mono ?_; rintro e w2 ⟨v, rfl, hO, hb⟩; have HR := hid_ (Rd.of_own Ob.enc_len hO rfl); have HB := hid_ hb; obtain ⟨A, c, rfl, hcl, hcl', _⟩ := id HR.out; clear hO hb)
  go_loopw [3, 9] (fun out i wr => ∃ k : Nat, k ≤ T.fresh.length ∧ i = .int .i64 k ∧ Hid (wr.ownsRow w2.heap.size 25 2 out (spsF (T.fresh.take k)).length (flat Sp.enc (spsF (T.fresh.take k)))) ∧ Below w2.heap.size w2 wr) (fun _ i _ => T.fresh.length - (intOf i).toNat)
  case atStart => exact ⟨0, Nat.zero_le _, rfl, World.ownsRow_nil _ _ _ _, Below.refl _ _⟩
  case round =>
    obtain ⟨k, hk, rfl, HO, hB⟩ := hrel
    by_cases hlt : k < T.fresh.length
    · obtain ⟨b, o, rfl, e0, e1, e2, e3, e4, e5, e6, e7, e8⟩ := RdF.at HR.out hB hlt
      have HTK := hid_ (spsF_take hlt)
      have hfo := HOK.out _ (List.getElem_mem hlt)
      have htl : (spsF (T.fresh.take k)).length = k := by rw [spsF_len, List.length_take]; omega
      have HTL := hid_ htl
      have a0 := hfo.a0; have a1 := hfo.a1; have s0 := hfo.s0; have s1 := hfo.s1
      generalize T.fresh[k] = f at *
      clear hfo htl
      go_wp2_with (at_builtin; refine wpList_append_own _ rfl _ _ 22 rfl w2.heap.size 25 i0 (.agg #[.int .i64 0, .int .i64 0]) 2 16 Try.underlying22 hI.out hZ0.out hZ1.out hZ2.out rfl (by decide) _ _ _ rfl (ownsRow_below HO.out (balloc (balloc' _ _) _)) _ 1 1 [vz f.at_, vz (f.sz + 2)] rfl rfl ?c1 ?c2 ?c3 ?c4 ?c5 ?_; rotate_left 5; intro v' w3 hO1 hg1 _; have HO1 := hid_ hO1; have HG1 := hid_ hg1; clear hO1 hg1)
      case c1 => exact cells_new2 wr _ _ _
      case c2 => simp [Value.oneCell']
      case c3 => rw [HTL.out]; unfold maxLen; omega
      case c4 => rw [HTL.out]; omega
      case c5 => have := hB.size; simp; omega
      go_roundw
      case rel =>
        refine ⟨k + 1, by omega, by go_num, ?_, bgrown (balloc (balloc hB _) _) HG1.out fun k' hk' => (HO.out.lt k' hk').1⟩
        show World.ownsRow _ _ _ _ _ _ _
        rw [HTK.out, flat_append, flat_one]
        simpa [Sp.enc] using HO1.out
      case measure => simp [intOf]; omega
    · obtain rfl : k = T.fresh.length := by omega
      rw [List.take_length] at HO
      go_wp2
      go_ret
      exact ⟨_, rfl, ownsRow_base HO.out HB.out.size, btr HB.out hB⟩

/-! ### Made, Make, Unmake -/
def obOf (o : Option Ob) : Ob := o.getD noOb
theorem memF_look (L : List Ob) (k : Int) : (memF L k).getD noOb.val = (obOf (findF L k)).val ∧ (memF L k).isSome = (findF L k).isSome := by
  unfold memF obOf
  cases findF L k <;> exact ⟨rfl, rfl⟩
set_option maxHeartbeats 1000000 in
set_option maxRecDepth 100000 in
theorem tmade_c {tb mb n : Nat} {wv gv : Value} {T : TS} (k : Int) (w : World) (h : TxT w tb mb n wv gv T) (hk : InZ k) :
    Calls Try.prog 96 #[.pointer (some ⟨tb, 1, none⟩), vz k] w fun e w' => e = .returned (.tuple #[(obOf (findF T.fresh k)).val, .bool (findF T.fresh k).isSome]) ∧ Below w.heap.size w w' := by
  have hW := h.mono (balloc' w (.cells #[.int .i64 0, .int .i64 0, .int .i64 0, .int .i64 0, .bool false, .int .i64 0, .int .i64 0, .int .i64 0, .int .u64 0] 55))
  have hc := hW.c1
  have hl := hW.om.look_ok Try.underlying61 (zero55 _) hk
  obtain ⟨l1, l2⟩ := memF_look T.fresh k
  rw [l1, l2] at hl
  obtain ⟨f, hf⟩ : ∃ f, obOf (findF T.fresh k) = f := ⟨_, rfl⟩
  obtain ⟨q, hq⟩ : ∃ q, (findF T.fresh k).isSome = q := ⟨_, rfl⟩
  rw [hf, hq] at hl ⊢
  clear hf hq l1 l2 h hW
  have hl0 : (Instr.lookup 61 (.map (some mb)) (.int .i64 k) true).run Try.prog (w.alloc (.cells #[.int .i64 0, .int .i64 0, .int .i64 0, .int .i64 0, .bool false, .int .i64 0, .int .i64 0, .int .i64 0, .int .u64 0] 55)) = .ok (.tuple #[.agg #[vz f.ch, vz f.ix, vz f.cl, vz f.mn, .bool f.fr, vz f.at_, vz f.ty, vz f.sz, vu f.sr], .bool q]) (w.alloc (.cells #[.int .i64 0, .int .i64 0, .int .i64 0, .int .i64 0, .bool false, .int .i64 0, .int .i64 0, .int .i64 0, .int .u64 0] 55)) := hl
  clear hl
  go_enter Try.func96, Try.ntmps96
  go_wp2
  exact bodyPost_ret (v := .tuple #[f.val, .bool q]) (by simp [results, Try.results96, go_sem, Ob.val]) rfl ⟨rfl, balloc (balloc' _ _) _⟩

theorem memF_mk {L : List Ob} (h : Up L) (f : Ob) : upd (memF L) f.at_ (some f.val) = memF (mkL L f) := by
  funext x
  rw [upd, memF, memF, find_mk h]
  split <;> rfl
theorem memF_rm {L : List Ob} (h : Up L) (k : Int) : upd (memF L) k none = memF (rmL L k) := by
  funext x
  rw [upd, memF, memF, find_rm h]
  split <;> rfl
set_option maxHeartbeats 1000000 in
set_option maxRecDepth 100000 in
theorem make_c {tb mb n : Nat} {wv gv : Value} {T : TS} (f : Ob) (w : World) (h : TxT w tb mb n wv gv T) (hu : Up T.fresh) (hk : InZ f.at_) (hn : n ≤ 1000000) :
    Calls Try.prog 75 #[.pointer (some ⟨tb, 1, none⟩), f.val] w fun e w' => e = .returned (.tuple #[]) ∧ TRes w w' tb mb (n + 1) wv gv (makeT T f) := by
  have hv : f.val = .agg #[vz f.ch, vz f.ix, vz f.cl, vz f.mn, .bool f.fr, vz f.at_, vz f.ty, vz f.sz, vu f.sr] := rfl
  have HM := hid_ (memF_mk hu f)
  rw [hv]
  rw [hv] at HM
  obtain ⟨W, hW⟩ : ∃ W, w.alloc (.cells #[.int .i64 f.ch, .int .i64 f.ix, .int .i64 f.cl, .int .i64 f.mn, .bool f.fr, .int .i64 f.at_, .int .i64 f.ty, .int .i64 f.sz, .int .u64 f.sr] 55) = W := ⟨_, rfl⟩
  have HBW : Hid (Below w.heap.size w W) := by show Below _ _ _; rw [← hW]; exact balloc' _ _
  have hc : ∀ j u, (#[.int .i64 f.ch, .int .i64 f.ix, .int .i64 f.cl, .int .i64 f.mn, .bool f.fr, .int .i64 f.at_, .int .i64 f.ty, .int .i64 f.sz, .int .u64 f.sr] : Array Value)[j]? = some u → W.drew.cell? ⟨w.heap.size, j, none⟩ = some u := by
    intro j u hj
    rw [← hW]
    exact cell_new j hj
  have e0 := hc 0 _ rfl
  have e1 := hc 1 _ rfl
  have e2 := hc 2 _ rfl
  have e3 := hc 3 _ rfl
  have e4 := hc 4 _ rfl
  have e5 := hc 5 _ rfl
  have e6 := hc 6 _ rfl
  have e7 := hc 7 _ rfl
  have e8 := hc 8 _ rfl
  have HT := hid_ ((h.mono HBW.out).mono (w' := W.drew) (Below.refl _ _).drew)
  have hm := HT.out.c1
  obtain ⟨w3, hrun, ho, hg⟩ := HT.out.om.store Try.underlying61 (show n < maxLen by unfold maxLen; omega) hk (.agg #[vz f.ch, vz f.ix, vz f.cl, vz f.mn, .bool f.fr, vz f.at_, vz f.ty, vz f.sz, vu f.sr])
  rw [HM.out] at ho
  have HO := hid_ ho; have HG := hid_ hg.grown
  clear ho hg hc h hv hu
  go_enter Try.func75, Try.ntmps75
  go_upto_region 1 with (fail)
  clear hW
  go_still_tail 7, (by kernel_rfl)
  change wpList _ _ _ _ _ W.drew
  go_wp2
  go_end0
  exact ⟨rfl, TRes.same (HT.out.turn HG.out HO.out) ((Fr.of_below (HBW.out.drew)).trans (Fr.of_gb HG.out (tw_mb _ _ _)))⟩
theorem Fr.weak {bs bs' : List Nat} {w w' w'' : World} (h : Fr bs w w') (h2 : Fr bs' w' w'') (hb : ∀ b ∈ bs', w.heap.size ≤ b) : Fr bs w w'' :=
  ⟨h2.os.trans h.os, h2.tape.trans h.tape, h2.output.trans h.output, Nat.le_trans h.size h2.size, fun k hk hr => (h2.block k (Nat.lt_of_lt_of_le hk h.size) (fun e => by have := hb k e; omega)).trans (h.block k hk hr)⟩
def zobs : Array Value := #[.int .i64 0, .int .i64 0, .int .i64 0, .int .i64 0, .bool false, .int .i64 0, .int .i64 0, .int .i64 0, .int .u64 0]
def fobs (f : Ob) : Array Value := #[.int .i64 f.ch, .int .i64 f.ix, .int .i64 f.cl, .int .i64 f.mn, .bool f.fr, .int .i64 f.at_, .int .i64 f.ty, .int .i64 f.sz, .int .u64 f.sr]
theorem un_blk {w w4 : World} {f : Ob} {mb n : Nat} {g : Int → Option Value} (h : OM ((w.alloc (.cells zobs 55)).alloc (.cells (fobs f) 55)) mb n g) (hg : ((w.alloc (.cells zobs 55)).alloc (.cells (fobs f) 55)).grownBy w4 (some mb)) :
    w4.heap[w.heap.size]? = some (.cells zobs 55 (0, 0)) ∧ w4.heap[w.heap.size + 1]? = some (.cells (fobs f) 55 (0, 0)) := by
  have e1 : ((w.alloc (.cells zobs 55)).alloc (.cells (fobs f) 55)).heap[w.heap.size]? = some (.cells zobs 55 (0, 0)) := by
    rw [(balloc' (w.alloc (.cells zobs 55)) (.cells (fobs f) 55)).block w.heap.size (by simp)]
    exact heap_alloc_new w _
  have e2 : ((w.alloc (.cells zobs 55)).alloc (.cells (fobs f) 55)).heap[w.heap.size + 1]? = some (.cells (fobs f) 55 (0, 0)) := by
    have := heap_alloc_new (w.alloc (.cells zobs 55)) (.cells (fobs f) 55)
    rwa [World.size_alloc] at this
  refine ⟨(hg.block _ (Array.getElem?_eq_some_iff.1 e1).1 ?_).trans e1, (hg.block _ (Array.getElem?_eq_some_iff.1 e2).1 ?_).trans e2⟩
  · have := cells_ne_map e1 h
    simpa using this
  · have := cells_ne_map e2 h
    simpa using this
theorem un_cells {w w4 : World} {f : Ob} {mb n : Nat} {g : Int → Option Value} (h : OM ((w.alloc (.cells zobs 55)).alloc (.cells (fobs f) 55)) mb n g) (hg : ((w.alloc (.cells zobs 55)).alloc (.cells (fobs f) 55)).grownBy w4 (some mb)) :
    (w4.cell? ⟨w.heap.size, 0, none⟩ = some (.int .i64 0) ∧ w4.cell? ⟨w.heap.size, 1, none⟩ = some (.int .i64 0) ∧ w4.cell? ⟨w.heap.size, 2, none⟩ = some (.int .i64 0) ∧ w4.cell? ⟨w.heap.size, 3, none⟩ = some (.int .i64 0) ∧ w4.cell? ⟨w.heap.size, 4, none⟩ = some (.bool false) ∧
      w4.cell? ⟨w.heap.size, 5, none⟩ = some (.int .i64 0) ∧ w4.cell? ⟨w.heap.size, 6, none⟩ = some (.int .i64 0) ∧ w4.cell? ⟨w.heap.size, 7, none⟩ = some (.int .i64 0) ∧ w4.cell? ⟨w.heap.size, 8, none⟩ = some (.int .u64 0)) ∧ Hid (∀ j, w4.frozen? ⟨w.heap.size, j, none⟩ = false) := by
  have hb := (un_blk h hg).1
  exact ⟨⟨cell_blk hb rfl, cell_blk hb rfl, cell_blk hb rfl, cell_blk hb rfl, cell_blk hb rfl, cell_blk hb rfl, cell_blk hb rfl, cell_blk hb rfl, cell_blk hb rfl⟩, fun j => frozen_blk hb⟩
theorem un_box {w w4 : World} {f : Ob} {mb n : Nat} {g : Int → Option Value} (h : OM ((w.alloc (.cells zobs 55)).alloc (.cells (fobs f) 55)) mb n g) (hg : ((w.alloc (.cells zobs 55)).alloc (.cells (fobs f) 55)).grownBy w4 (some mb)) :
    w4.cell? ⟨w.heap.size + 1, 0, none⟩ = some (.int .i64 f.ch) ∧ w4.cell? ⟨w.heap.size + 1, 1, none⟩ = some (.int .i64 f.ix) ∧ w4.cell? ⟨w.heap.size + 1, 2, none⟩ = some (.int .i64 f.cl) ∧ w4.cell? ⟨w.heap.size + 1, 3, none⟩ = some (.int .i64 f.mn) ∧ w4.cell? ⟨w.heap.size + 1, 4, none⟩ = some (.bool f.fr) ∧
      w4.cell? ⟨w.heap.size + 1, 5, none⟩ = some (.int .i64 f.at_) ∧ w4.cell? ⟨w.heap.size + 1, 6, none⟩ = some (.int .i64 f.ty) ∧ w4.cell? ⟨w.heap.size + 1, 7, none⟩ = some (.int .i64 f.sz) ∧ w4.cell? ⟨w.heap.size + 1, 8, none⟩ = some (.int .u64 f.sr) := by
  have hb := (un_blk h hg).2
  exact ⟨cell_blk hb rfl, cell_blk hb rfl, cell_blk hb rfl, cell_blk hb rfl, cell_blk hb rfl, cell_blk hb rfl, cell_blk hb rfl, cell_blk hb rfl, cell_blk hb rfl⟩
set_option maxHeartbeats 1000000 in
set_option maxRecDepth 100000 in
theorem unmake_c {tb mb n : Nat} {wv gv : Value} {T : TS} (k : Int) (w : World) (h : TxT w tb mb n wv gv T) (hu : Up T.fresh) (hk : InZ k) :
    Calls Try.prog 76 #[.pointer (some ⟨tb, 1, none⟩), vz k] w fun e w' => e = .returned (.tuple #[(obOf (findF T.fresh k)).val, .bool (findF T.fresh k).isSome]) ∧ TRes w w' tb mb n wv gv (unmakeT T k) := by
  have HM := hid_ (memF_rm hu k)
  have H0 := hid_ h
  have hW := h.mono (balloc' w (.cells #[.int .i64 0, .int .i64 0, .int .i64 0, .int .i64 0, .bool false, .int .i64 0, .int .i64 0, .int .i64 0, .int .u64 0] 55))
  have hc := hW.c1
  have hl := hW.om.look_ok Try.underlying61 (zero55 _) hk
  obtain ⟨l1, l2⟩ := memF_look T.fresh k
  rw [l1, l2] at hl
  obtain ⟨f, hf⟩ : ∃ f, obOf (findF T.fresh k) = f := ⟨_, rfl⟩
  obtain ⟨q, hq⟩ : ∃ q, (findF T.fresh k).isSome = q := ⟨_, rfl⟩
  rw [hf, hq] at hl ⊢
  have HB1 := hid_ (balloc (balloc' w (.cells #[.int .i64 0, .int .i64 0, .int .i64 0, .int .i64 0, .bool false, .int .i64 0, .int .i64 0, .int .i64 0, .int .u64 0] 55)) (.cells #[.int .i64 f.ch, .int .i64 f.ix, .int .i64 f.cl, .int .i64 f.mn, .bool f.fr, .int .i64 f.at_, .int .i64 f.ty, .int .i64 f.sz, .int .u64 f.sr] 55))
  have HT := hid_ (h.mono HB1.out)
  have hc2 := HT.out.c1
  clear hf hq l1 l2 h hW
  have hl0 : (Instr.lookup 61 (.map (some mb)) (.int .i64 k) true).run Try.prog (w.alloc (.cells #[.int .i64 0, .int .i64 0, .int .i64 0, .int .i64 0, .bool false, .int .i64 0, .int .i64 0, .int .i64 0, .int .u64 0] 55)) = .ok (.tuple #[.agg #[vz f.ch, vz f.ix, vz f.cl, vz f.mn, .bool f.fr, vz f.at_, vz f.ty, vz f.sz, vu f.sr], .bool q]) (w.alloc (.cells #[.int .i64 0, .int .i64 0, .int .i64 0, .int .i64 0, .bool false, .int .i64 0, .int .i64 0, .int .i64 0, .int .u64 0] 55)) := hl
  clear hl
  go_enter Try.func76, Try.ntmps76
  go_wp2_with (at_delete; refine wpList_del rfl _ _ 61 rfl 55 Try.underlying61 mb n _ rfl HT.out.om k rfl hk ?_; intro w4 ho hg; have HO4 := hid_ ho; have HG4 := hid_ hg.grown; obtain ⟨⟨b0, b1, b2, b3, b4, b5, b6, b7, b8⟩, HZ⟩ := un_cells HT.out.om HG4.out; have z0 := HZ.out 0; have z1 := HZ.out 1; have z2 := HZ.out 2; have z3 := HZ.out 3; have z4 := HZ.out 4; have z5 := HZ.out 5; have z6 := HZ.out 6; have z7 := HZ.out 7; have z8 := HZ.out 8; obtain ⟨g0, g1, g2, g3, g4, g5, g6, g7, g8⟩ := un_box HT.out.om HG4.out; have HZB := hid_ (un_blk HT.out.om HG4.out).1; clear ho hg hc hc2)
  obtain ⟨W9, hW9⟩ : ∃ W9, ((((((((w4.setCell ⟨w.heap.size, 0, none⟩ (.int .i64 f.ch)).setCell ⟨w.heap.size, 1, none⟩ (.int .i64 f.ix)).setCell ⟨w.heap.size, 2, none⟩ (.int .i64 f.cl)).setCell ⟨w.heap.size, 3, none⟩ (.int .i64 f.mn)).setCell ⟨w.heap.size, 4, none⟩ (.bool f.fr)).setCell ⟨w.heap.size, 5, none⟩ (.int .i64 f.at_)).setCell ⟨w.heap.size, 6, none⟩ (.int .i64 f.ty)).setCell ⟨w.heap.size, 7, none⟩ (.int .i64 f.sz)).setCell ⟨w.heap.size, 8, none⟩ (.int .u64 f.sr) = W9 := ⟨_, rfl⟩
  have HF9 : Hid (Fr [w.heap.size] w4 W9) := by
    show Fr _ _ _
    rw [← hW9]
    exact ((((((((Fr.of_gb (gb_setCell _ _ _) (by simp)).trans (Fr.of_gb (gb_setCell _ _ _) (by simp))).trans (Fr.of_gb (gb_setCell _ _ _) (by simp))).trans (Fr.of_gb (gb_setCell _ _ _) (by simp))).trans (Fr.of_gb (gb_setCell _ _ _) (by simp))).trans (Fr.of_gb (gb_setCell _ _ _) (by simp))).trans (Fr.of_gb (gb_setCell _ _ _) (by simp))).trans (Fr.of_gb (gb_setCell _ _ _) (by simp))).trans (Fr.of_gb (gb_setCell _ _ _) (by simp))
  have HB9 : Hid (W9.heap[w.heap.size]? = some (.cells (fobs f) 55 (0, 0))) := by
    show _ = _
    rw [← hW9]
    have h0 := HZB.out
    have h1 := heap_setCell_same w4 w.heap.size 0 _ 55 (.int .i64 f.ch) h0
    have h2 := heap_setCell_same _ w.heap.size 1 _ 55 (.int .i64 f.ix) h1
    have h3 := heap_setCell_same _ w.heap.size 2 _ 55 (.int .i64 f.cl) h2
    have h4 := heap_setCell_same _ w.heap.size 3 _ 55 (.int .i64 f.mn) h3
    have h5 := heap_setCell_same _ w.heap.size 4 _ 55 (.bool f.fr) h4
    have h6 := heap_setCell_same _ w.heap.size 5 _ 55 (.int .i64 f.at_) h5
    have h7 := heap_setCell_same _ w.heap.size 6 _ 55 (.int .i64 f.ty) h6
    have h8 := heap_setCell_same _ w.heap.size 7 _ 55 (.int .i64 f.sz) h7
    have h9 := heap_setCell_same _ w.heap.size 8 _ 55 (.int .u64 f.sr) h8
    clear hW9
    simpa only [zobs, fobs, List.setIfInBounds_toArray, List.set_cons_zero, List.set_cons_succ] using h9
  rw [hW9]
  clear hW9 b0 b1 b2 b3 b4 b5 b6 b7 b8 z0 z1 z2 z3 z4 z5 z6 z7 z8 g0 g1 g2 g3 g4 g5 g6 g7 g8
  have q0 := cell_blk (j := 0) HB9.out rfl
  have q1 := cell_blk (j := 1) HB9.out rfl
  have q2 := cell_blk (j := 2) HB9.out rfl
  have q3 := cell_blk (j := 3) HB9.out rfl
  have q4 := cell_blk (j := 4) HB9.out rfl
  have q5 := cell_blk (j := 5) HB9.out rfl
  have q6 := cell_blk (j := 6) HB9.out rfl
  have q7 := cell_blk (j := 7) HB9.out rfl
  have q8 := cell_blk (j := 8) HB9.out rfl
  have ho := HO4.out
  rw [HM.out] at ho
  have HT4 := HT.out.turn HG4.out ho
  have l1 := H0.out.lt
  have l2 := H0.out.om.lt
  refine bodyPost_ret (v := .tuple #[f.val, .bool q]) (by simp [results, Try.results76, go_sem, Ob.val, fobs, q0, q1, q2, q3, q4, q5, q6, q7, q8]) rfl ⟨rfl, TRes.same (HT4.fr HF9.out (by simp; omega) (by simp; omega) ?_ ?_) (Fr.weak ((Fr.of_below HB1.out).trans (Fr.of_gb HG4.out (tw_mb _ _ _))) HF9.out (by simp))⟩
  · intro g hg
    have := ownBlk_lt H0.out.wo hg
    simp; omega
  · intro g hg
    have := ownBlk_lt H0.out.go hg
    simp; omega
end Go.Proofs.Ytncdkbhkjamdpaa
