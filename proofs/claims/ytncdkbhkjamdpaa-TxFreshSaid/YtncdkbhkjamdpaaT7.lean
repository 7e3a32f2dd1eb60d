/- The reference's transaction (chapter 20): Unmake, Make. -/
import Derived.Test.YtncdkbhkjamdpaaT6
import Derived.Test.YtncdkbhkjamdpaaT4
namespace Go.Proofs.Ytncdkbhkjamdpaa
open Go.RowKit Go.Maps

/-- What a method of the reference's leaves. -/
structure RtRes (w w' : World) (rb : Nat) (wv gv : Value) (R : TS) : Prop where
  ex : ∃ wv' fv' gv', RTx w' rb wv' fv' gv' R ∧ NewOr w wv wv' ∧ NewOr w gv gv'
  fr : Fr (rw' rb wv gv) w w'
theorem rw_rb (rb : Nat) (wv gv : Value) : rb ∈ rw' rb wv gv := by simp [rw']
theorem RtRes.behind {w w1 w' : World} {rb : Nat} {wv gv : Value} {R : TS} (h : RtRes w1 w' rb wv gv R) (hb : Below w.heap.size w w1) : RtRes w w' rb wv gv R := by
  obtain ⟨⟨wv', fv', gv', a, b, c⟩, f⟩ := h
  exact ⟨⟨wv', fv', gv', a, (NewOr.refl w wv).trans b hb.size, (NewOr.refl w gv).trans c hb.size⟩, (Fr.of_below hb).trans f⟩
theorem rm_take {L : List Ob} {a : Int} {k : Nat} (hk : k < L.length) : rmL (L.take (k + 1)) a = rmL (L.take k) a ++ (if (L[k].at_ != a) = true then [L[k]] else []) := by
  rw [rmL, List.take_add_one, List.getElem?_eq_getElem hk]
  simp only [Option.toList_some, List.filter_append, List.filter_cons, List.filter_nil]
  rfl
/-- Nine cells are written: the block holds the object. -/
theorem nine {w w0 : World} {f : Ob} {b : Nat} (h0 : w.heap[b]? = some (.cells zobs 55 (0, 0))) (he : ((((((((w.setCell ⟨b, 0, none⟩ (.int .i64 f.ch)).setCell ⟨b, 1, none⟩ (.int .i64 f.ix)).setCell ⟨b, 2, none⟩ (.int .i64 f.cl)).setCell ⟨b, 3, none⟩ (.int .i64 f.mn)).setCell ⟨b, 4, none⟩ (.bool f.fr)).setCell ⟨b, 5, none⟩ (.int .i64 f.at_)).setCell ⟨b, 6, none⟩ (.int .i64 f.ty)).setCell ⟨b, 7, none⟩ (.int .i64 f.sz)).setCell ⟨b, 8, none⟩ (.int .u64 f.sr) = w0) :
    w0.heap[b]? = some (.cells (fobs f) 55 (0, 0)) ∧ Fr [b] w w0 := by
  subst he
  constructor
  · have h1 := heap_setCell_same w b 0 _ 55 (.int .i64 f.ch) h0
    have h2 := heap_setCell_same _ b 1 _ 55 (.int .i64 f.ix) h1
    have h3 := heap_setCell_same _ b 2 _ 55 (.int .i64 f.cl) h2
    have h4 := heap_setCell_same _ b 3 _ 55 (.int .i64 f.mn) h3
    have h5 := heap_setCell_same _ b 4 _ 55 (.bool f.fr) h4
    have h6 := heap_setCell_same _ b 5 _ 55 (.int .i64 f.at_) h5
    have h7 := heap_setCell_same _ b 6 _ 55 (.int .i64 f.ty) h6
    have h8 := heap_setCell_same _ b 7 _ 55 (.int .i64 f.sz) h7
    have h9 := heap_setCell_same _ b 8 _ 55 (.int .u64 f.sr) h8
    simpa only [zobs, fobs, List.setIfInBounds_toArray, List.set_cons_zero, List.set_cons_succ] using h9
  · exact ((((((((Fr.of_gb (gb_setCell _ _ _) (by simp)).trans (Fr.of_gb (gb_setCell _ _ _) (by simp))).trans (Fr.of_gb (gb_setCell _ _ _) (by simp))).trans (Fr.of_gb (gb_setCell _ _ _) (by simp))).trans (Fr.of_gb (gb_setCell _ _ _) (by simp))).trans (Fr.of_gb (gb_setCell _ _ _) (by simp))).trans (Fr.of_gb (gb_setCell _ _ _) (by simp))).trans (Fr.of_gb (gb_setCell _ _ _) (by simp))).trans (Fr.of_gb (gb_setCell _ _ _) (by simp))
theorem ob_cells {w : World} {b : Nat} {f : Ob} (h : w.heap[b]? = some (.cells (fobs f) 55 (0, 0))) :
    w.cell? ⟨b, 0, none⟩ = some (.int .i64 f.ch) ∧ w.cell? ⟨b, 1, none⟩ = some (.int .i64 f.ix) ∧ w.cell? ⟨b, 2, none⟩ = some (.int .i64 f.cl) ∧ w.cell? ⟨b, 3, none⟩ = some (.int .i64 f.mn) ∧ w.cell? ⟨b, 4, none⟩ = some (.bool f.fr) ∧
      w.cell? ⟨b, 5, none⟩ = some (.int .i64 f.at_) ∧ w.cell? ⟨b, 6, none⟩ = some (.int .i64 f.ty) ∧ w.cell? ⟨b, 7, none⟩ = some (.int .i64 f.sz) ∧ w.cell? ⟨b, 8, none⟩ = some (.int .u64 f.sr) :=
  ⟨cell_blk h rfl, cell_blk h rfl, cell_blk h rfl, cell_blk h rfl, cell_blk h rfl, cell_blk h rfl, cell_blk h rfl, cell_blk h rfl, cell_blk h rfl⟩
theorem z_cells {w : World} {b : Nat} (h : w.heap[b]? = some (.cells zobs 55 (0, 0))) :
    (w.cell? ⟨b, 0, none⟩ = some (.int .i64 0) ∧ w.cell? ⟨b, 1, none⟩ = some (.int .i64 0) ∧ w.cell? ⟨b, 2, none⟩ = some (.int .i64 0) ∧ w.cell? ⟨b, 3, none⟩ = some (.int .i64 0) ∧ w.cell? ⟨b, 4, none⟩ = some (.bool false) ∧
      w.cell? ⟨b, 5, none⟩ = some (.int .i64 0) ∧ w.cell? ⟨b, 6, none⟩ = some (.int .i64 0) ∧ w.cell? ⟨b, 7, none⟩ = some (.int .i64 0) ∧ w.cell? ⟨b, 8, none⟩ = some (.int .u64 0)) ∧ Hid (∀ j, w.frozen? ⟨b, j, none⟩ = false) :=
  ⟨⟨cell_blk h rfl, cell_blk h rfl, cell_blk h rfl, cell_blk h rfl, cell_blk h rfl, cell_blk h rfl, cell_blk h rfl, cell_blk h rfl, cell_blk h rfl⟩, fun _ => frozen_blk h⟩

theorem rw_not {w : World} {rb : Nat} {wv fv gv : Value} {R : TS} (h : RTx w rb wv fv gv R) (b : Nat) (hb : w.heap.size ≤ b) : b ∉ rw' rb wv gv := by
  have h1 := h.lt
  simp only [rw', List.mem_cons, List.mem_append, not_or]
  exact ⟨by omega, fun e => by have := ownBlk_lt h.wo (mem_ob e); omega, fun e => by have := ownBlk_lt h.go (mem_ob e); omega⟩
section
variable {rb : Nat} {wv fv gv : Value} {R : TS}
/-! ### Unmake -/
set_option maxHeartbeats 8000000 in
set_option maxRecDepth 100000 in
theorem runmake_c (a : Int) (w : World) (h : RTx w rb wv fv gv R) (hn : R.fresh.length ≤ 10000) :
    Calls Try.prog 90 #[.pointer (some ⟨rb, 0, none⟩), vz a] w fun e w' => e = .returned (.tuple #[(obOf (findF R.fresh a)).val, .bool (findF R.fresh a).isSome]) ∧ RtRes w w' rb wv gv (unmakeT R a) := by
  have H0 := hid_ h
  have HB := hid_ (balloc' w (.cells zobs 55))
  have H := hid_ (h.mono HB.out)
  obtain ⟨A, c, hfv, hl, hl', _⟩ := id h.rf
  have HFV := hid_ hfv
  obtain ⟨f, hf⟩ : ∃ f, obOf (findF R.fresh a) = f := ⟨_, rfl⟩
  obtain ⟨q, hq⟩ : ∃ q, (findF R.fresh a).isSome = q := ⟨_, rfl⟩
  rw [hf, hq]
  have HF := hid_ hf
  have HQ := hid_ hq
  have HZ : Hid ((w.alloc (.cells zobs 55)).heap[w.heap.size]? = some (.cells zobs 55 (0, 0))) := heap_alloc_new w _
  clear h hf hq hfv
  obtain ⟨i0, hi, hz0, hz1, hz2⟩ := info_parts info55
  have hI := hid_ hi; have hZ0 := hid_ hz0; have hZ1 := hid_ hz1; have hZ2 := hid_ hz2
  clear hi hz0 hz1 hz2
  have hzob : zobs = #[.int .i64 0, .int .i64 0, .int .i64 0, .int .i64 0, .bool false, .int .i64 0, .int .i64 0, .int .i64 0, .int .u64 0] := rfl
  rw [hzob] at H HB
  clear hzob
  go_enter Try.func90, Try.ntmps90
  go_wp2_with (go_at_call 97; go_loud (refine (rmade_c a _ H.out).mono ?_; rintro e w1 ⟨rfl, hb⟩; rw [HF.out, HQ.out]; have H1 := hid_ (H.out.mono hb); have HB1 := hid_ (btr HB.out hb); have HZ1 := hid_ (hmono (show Below _ _ _ from hb) HZ.out); rw [show f.val = .agg #[.int .i64 f.ch, .int .i64 f.ix, .int .i64 f.cl, .int .i64 f.mn, .bool f.fr, .int .i64 f.at_, .int .i64 f.ty, .int .i64 f.sz, .int .u64 f.sr] from rfl]; clear hb))
  obtain ⟨W1, hW1⟩ : ∃ W1, w1.alloc (.cells #[.int .i64 f.ch, .int .i64 f.ix, .int .i64 f.cl, .int .i64 f.mn, .bool f.fr, .int .i64 f.at_, .int .i64 f.ty, .int .i64 f.sz, .int .u64 f.sr] 55) = W1 := ⟨_, rfl⟩
  obtain ⟨fb, hfb⟩ : ∃ fb, w1.heap.size = fb := ⟨_, rfl⟩
  have HBW : Hid (Below w.heap.size w W1) := by show Below _ _ _; rw [← hW1]; exact balloc HB1.out _
  have HT1 : Hid (RTx W1 rb wv fv gv R) := by show RTx _ _ _ _ _ _; rw [← hW1]; exact H1.out.mono (balloc' _ _)
  have HZW : Hid (W1.heap[w.heap.size]? = some (.cells zobs 55 (0, 0))) := by show _ = _; rw [← hW1]; exact hmono (balloc' _ _) HZ1.out
  have HFW : Hid (W1.heap[fb]? = some (.cells (fobs f) 55 (0, 0))) := by show _ = _; rw [← hW1, ← hfb]; exact heap_alloc_new w1 _
  rw [hW1, hfb]
  clear hW1 hfb
  have HRF : Hid (RdF W1 (.slice A R.fresh.length c) R.fresh) := by show Rd _ _ _ _ _; rw [← HFV.out]; exact HT1.out.rf
  have hc1 := HT1.out.c3
  rw [HFV.out] at hc1
  go_loopw [8, 9] (fun out i wr => ∃ k : Nat, k ≤ R.fresh.length ∧ i = .int .i64 k ∧ Hid (wr.ownsRow W1.heap.size 55 9 out (rmL (R.fresh.take k) a).length (flat Ob.enc (rmL (R.fresh.take k) a))) ∧ Below W1.heap.size W1 wr) (fun _ i _ => R.fresh.length - (intOf i).toNat)
  case atStart => exact ⟨0, Nat.zero_le _, rfl, World.ownsRow_nil _ _ _ _, Below.refl _ _⟩
  case round =>
    obtain ⟨k, hk, rfl, HO, hB⟩ := hrel
    have hcr := cmono hB hc1
    by_cases hlt : k < R.fresh.length
    · obtain ⟨b, o, rfl, e0, e1, e2, e3, e4, e5, e6, e7, e8⟩ := RdF.at HRF.out hB hlt
      have HT := hid_ (rm_take (a := a) hlt)
      have hlen := rm_len (R.fresh.take k) a
      rw [List.length_take] at hlen
      generalize R.fresh[k] = x at *
      by_cases he : x.at_ = a
      · have he1 : (x.at_ != a) = false := by simp [he]
        rw [if_neg (by rw [he1]; decide)] at HT
        go_wp2
        go_roundw
        case rel =>
          refine ⟨k + 1, by omega, by go_num, ?_, hB⟩
          show World.ownsRow _ _ _ _ _ _ _
          rw [HT.out]
          simpa using HO.out
        case measure => simp [intOf]; omega
      · have he1 : (x.at_ != a) = true := by simp [he]
        rw [if_pos he1] at HT
        go_wp2_with (at_builtin; refine wpList_append_own _ rfl _ _ 44 rfl W1.heap.size 55 i0 (.agg #[.int .i64 0, .int .i64 0, .int .i64 0, .int .i64 0, .bool false, .int .i64 0, .int .i64 0, .int .i64 0, .int .u64 0]) 9 72 Try.underlying44 hI.out hZ0.out hZ1.out hZ2.out rfl (by decide) _ _ _ rfl (HO.out.alloc _) ⟨wr.heap.size, 0, none⟩ 1 1 x.enc rfl rfl ?c1 ?c2 ?c3 ?c4 ?c5 ?_; rotate_left 5; intro v' w3 hO1 hg1 _; have HO1 := hid_ hO1; have HG1 := hid_ hg1; clear hO1 hg1)
        case c1 => exact cells_new _ _ _
        case c2 => simp [Value.oneCell', Ob.enc]
        case c3 => unfold maxLen; omega
        case c4 => omega
        case c5 => have := hB.size; simp; omega
        go_roundw
        case rel =>
          refine ⟨k + 1, by omega, by go_num, ?_, bgrown (balloc hB _) HG1.out fun k' hk' => (HO.out.lt k' hk').1⟩
          show World.ownsRow _ _ _ _ _ _ _
          rw [HT.out, flat_append, flat_one]
          simpa using HO1.out
        case measure => simp [intOf]; omega
    · obtain rfl : k = R.fresh.length := by omega
      rw [List.take_length] at HO
      obtain ⟨Ao, co, rfl, _, _, _⟩ := Rd.of_own Ob.enc_len HO.out rfl
      have HTr := hid_ (HT1.out.mono hB)
      have hz3 := HTr.out.fz 3
      have hne : w.heap.size ≠ rb := by have := H0.out.lt; omega
      have hne2 : fb ≠ rb := cells_ne_cells HFW.out HT1.out.blk (by decide)
      have HZr := hid_ (hmono hB HZW.out)
      have HFr := hid_ (hmono hB HFW.out)
      have HTS := hid_ (HTr.out.setF (rmL R.fresh a) HO.out)
      obtain ⟨W2, hW2⟩ : ∃ W2, wr.setCell ⟨rb, 3, none⟩ (.slice Ao (rmL R.fresh a).length co) = W2 := ⟨_, rfl⟩
      have hgS := gb_setCell wr ⟨rb, 3, none⟩ (.slice Ao (rmL R.fresh a).length co)
      rw [hW2] at hgS HTS
      have HZ2' := hid_ ((hgS.block w.heap.size (Array.getElem?_eq_some_iff.1 HZr.out).1 (by simpa using hne)).trans HZr.out)
      have HF2' := hid_ ((hgS.block fb (Array.getElem?_eq_some_iff.1 HFr.out).1 (by simpa using hne2)).trans HFr.out)
      obtain ⟨⟨b0, b1, b2, b3, b4, b5, b6, b7, b8⟩, HZF⟩ := z_cells HZ2'.out
      obtain ⟨g0, g1, g2, g3, g4, g5, g6, g7, g8⟩ := ob_cells HF2'.out
      have z0 := HZF.out 0
      have z1 := HZF.out 1
      have z2 := HZF.out 2
      have z3 := HZF.out 3
      have z4 := HZF.out 4
      have z5 := HZF.out 5
      have z6 := HZF.out 6
      have z7 := HZF.out 7
      have z8 := HZF.out 8
      have HGS := hid_ hgS
      clear hgS hne hne2
      go_wp2
      obtain ⟨W9, hW9⟩ : ∃ W9, ((((((((W2.setCell ⟨w.heap.size, 0, none⟩ (.int .i64 f.ch)).setCell ⟨w.heap.size, 1, none⟩ (.int .i64 f.ix)).setCell ⟨w.heap.size, 2, none⟩ (.int .i64 f.cl)).setCell ⟨w.heap.size, 3, none⟩ (.int .i64 f.mn)).setCell ⟨w.heap.size, 4, none⟩ (.bool f.fr)).setCell ⟨w.heap.size, 5, none⟩ (.int .i64 f.at_)).setCell ⟨w.heap.size, 6, none⟩ (.int .i64 f.ty)).setCell ⟨w.heap.size, 7, none⟩ (.int .i64 f.sz)).setCell ⟨w.heap.size, 8, none⟩ (.int .u64 f.sr) = W9 := ⟨_, rfl⟩
      obtain ⟨hb9, hf9⟩ := nine HZ2'.out hW9
      rw [hW9]
      clear hW9 b0 b1 b2 b3 b4 b5 b6 b7 b8 z0 z1 z2 z3 z4 z5 z6 z7 z8 g0 g1 g2 g3 g4 g5 g6 g7 g8
      obtain ⟨q0, q1, q2, q3, q4, q5, q6, q7, q8⟩ := ob_cells hb9
      have l1 := H0.out.lt
      refine bodyPost_ret (v := .tuple #[f.val, .bool q]) (by simp [results, Try.results90, go_sem, Ob.val, q0, q1, q2, q3, q4, q5, q6, q7, q8]) rfl ⟨rfl, ⟨wv, _, gv, HTS.out.fr hf9 (by simp; omega) ?_ ?_ ?_, NewOr.refl _ _, NewOr.refl _ _⟩, Fr.weak (((Fr.of_below HBW.out).trans (Fr.of_below hB)).trans (Fr.of_gb HGS.out (rw_rb _ _ _))) hf9 (by simp)⟩
      · intro g hg
        have := ownBlk_lt H0.out.wo hg
        simp; omega
      · intro g hg
        have := (HO.out.lt g hg).1
        have := (Array.getElem?_eq_some_iff.1 HZW.out).1
        simp; omega
      · intro g hg
        have := ownBlk_lt H0.out.go hg
        simp; omega
end
end Go.Proofs.Ytncdkbhkjamdpaa
