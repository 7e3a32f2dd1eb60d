/- The walk of the statement TxFresh: it returns true. -/
import Derived.Test.YtncdkbhkjamdpaaF1
namespace Go.Proofs.Ytncdkbhkjamdpaa
open Go.RowKit Go.Maps

theorem own_slice20 {w : World} {base : Nat} {e : TypeId} {k : Nat} {v : Value} {n : Nat} {xs : List Value} (h : w.ownsRow base e k v n xs) : ∃ A c, v = .slice A n c := by
  rcases h.2 with ⟨rfl, h0⟩ | ⟨g, cap, cur, rfl, _⟩
  · exact ⟨none, 0, by rw [h0]⟩
  · exact ⟨_, _, rfl⟩
theorem len_of {T : TS} {n : Nat} (h : TOk T) (hf : T.fresh.length ≤ n) (hn : n ≤ 10000) (hg : T.gone.length ≤ 10000) : TLen T n := by
  have h1 := rf_len h.rf
  have h2 := sum_win h.rf h.win (by decide)
  exact ⟨by omega, hf, hn, hg⟩
theorem PB.keepB {w0 w w' : World} {tb mb rb n n' : Nat} {wv gv rwv rfv rgv : Value} {T T' R : TS} (h : PB w0 w tb mb rb n wv gv rwv rfv rgv T R) (hr : TRes w w' tb mb n' wv gv T') {b : Nat} {cs : Array Value} {e : TypeId} {fz : Nat × Nat} (hb : w.heap[b]? = some (.cells cs e fz)) (h1 : e ≠ 65) (h2 : e ≠ 3) : w'.heap[b]? = some (.cells cs e fz) := by
  refine (hr.fr.block b (Array.getElem?_eq_some_iff.1 hb).1 ?_).trans hb
  simp only [tw, List.mem_cons, not_or]
  exact ⟨(cells_ne_cells h.both.t.blk hb (fun q => h1 q.symm)).symm, cells_ne_map hb h.both.t.om, fun q => own_ne_cells h.both.t.go hb (fun q => h2 q.symm) (mem_ob q)⟩
theorem PB.wr {w0 w w' : World} {tb mb rb n : Nat} {wv gv rwv rfv rgv : Value} {T R : TS} (h : PB w0 w tb mb rb n wv gv rwv rfv rgv T R) {b : Nat} {cs : Array Value} {fz : Nat × Nat} (hb : w.heap[b]? = some (.cells cs 55 fz)) (hf : Fr [b] w w') (hlt : ∀ g, rfv.ownBlock = some g → g ≠ b) (h0 : w0.heap.size ≤ b) :
    PB w0 w' tb mb rb n wv gv rwv rfv rgv T R := by
  refine ⟨⟨h.both.t.fr hf ?_ ?_ ?_ ?_, h.both.r.fr hf ?_ ?_ ?_ ?_, h.both.sw, h.both.sg⟩, h.g, h.rw_, h.rg, h.h1, h.h2, h.h3, hf.below h.b (by simpa using h0)⟩
  · simpa using cells_ne_cells h.both.t.blk hb (by decide)
  · simpa using (cells_ne_map hb h.both.t.om).symm
  · intro g hg; simp only [List.mem_singleton]; rintro rfl; exact own_ne_cells h.both.t.wo hb (by decide) hg
  · intro g hg; simp only [List.mem_singleton]; rintro rfl; exact own_ne_cells h.both.t.go hb (by decide) hg
  · simpa using cells_ne_cells h.both.r.blk hb (by decide)
  · intro g hg; simp only [List.mem_singleton]; rintro rfl; exact own_ne_cells h.both.r.wo hb (by decide) hg
  · intro g hg; simp only [List.mem_singleton]; exact hlt g hg
  · intro g hg; simp only [List.mem_singleton]; rintro rfl; exact own_ne_cells h.both.r.go hb (by decide) hg
structure UPost (W wx : World) (tb mb rb n bs b13 : Nat) (f g : Ob) (T R : TS) : Prop where
  ex : ∃ wv gv rwv rfv rgv, PB W wx tb mb rb n wv gv rwv rfv rgv T R
  hs : wx.heap[bs]? = some (.cells #[.int .i64 f.at_, .int .i64 (f.sz + 2)] 25 (0, 0))
  hb : wx.heap[b13]? = some (.cells (fobs g) 55 (0, 0))
theorem app1 {w : World} {base : Nat} {v : Value} {l : List O20} {o : O20} (h : w.ownsRow base 57 12 v (l.length + 1) (flat O20.enc l ++ O20.enc o)) : RdO20 w v (l ++ [o]) :=
  Rd.of_own O20.enc_len (l := l ++ [o]) (n := l.length + 1) (by rw [flat_append, flat_one]; exact h) (by simp)
set_option maxHeartbeats 16000000 in
set_option maxRecDepth 100000 in
theorem txFresh_walk (l : List O20) (v : Value) (f : Ob) (w : World) (hv : RdO20 w v l) (hnil : ∀ n c, v = .slice none n c → c = 0) (hy : l.length * 96 ≤ 140737488351232) :
    Calls Try.prog 20 #[v, .agg #[.int .i64 f.ch, .int .i64 f.ix, .int .i64 f.cl, .int .i64 f.mn, .bool f.fr, .int .i64 f.at_, .int .i64 f.ty, .int .i64 f.sz, .int .u64 f.sr]] w fun e w' => e = .returned (.bool true) ∧ Below w.heap.size w w' := by
  have HB0 := hid_ (balloc' w (.cells #[.int .i64 f.ch, .int .i64 f.ix, .int .i64 f.cl, .int .i64 f.mn, .bool f.fr, .int .i64 f.at_, .int .i64 f.ty, .int .i64 f.sz, .int .u64 f.sr] 55))
  have HV0 := hid_ (hv.mono HB0.out)
  have hbk : (w.alloc (.cells #[.int .i64 f.ch, .int .i64 f.ix, .int .i64 f.cl, .int .i64 f.mn, .bool f.fr, .int .i64 f.at_, .int .i64 f.ty, .int .i64 f.sz, .int .u64 f.sr] 55)).heap[w.heap.size]? = some (.cells #[.int .i64 f.ch, .int .i64 f.ix, .int .i64 f.cl, .int .i64 f.mn, .bool f.fr, .int .i64 f.at_, .int .i64 f.ty, .int .i64 f.sz, .int .u64 f.sr] 55 (0, 0)) := heap_alloc_new w _
  obtain ⟨bx, hbx⟩ : ∃ bx, w.heap.size = bx := ⟨_, rfl⟩
  obtain ⟨W, hW⟩ : ∃ W, w.alloc (.cells #[.int .i64 f.ch, .int .i64 f.ix, .int .i64 f.cl, .int .i64 f.mn, .bool f.fr, .int .i64 f.at_, .int .i64 f.ty, .int .i64 f.sz, .int .u64 f.sr] 55) = W := ⟨_, rfl⟩
  rw [hW] at HB0 HV0
  rw [hbx, hW] at hbk
  have HBK := hid_ hbk
  clear hbk
  have HNIL2 : Hid (∀ A c, v = .slice A l.length c → A = none → l.length = 0 ∧ c = 0) := by
    rintro A c rfl rfl
    exact ⟨by rw [Rd.none_nil hv]; rfl, hnil _ _ rfl⟩
  clear hnil
  obtain ⟨A, c, rfl, hl, hl', _⟩ := hv
  replace HNIL2 := hid_ (HNIL2.out A c rfl)
  have HONE := hid_ (flat_op_cell l)
  have HONE1 : Hid (∀ u ∈ O20.enc ⟨0, ⟨0, 0⟩, f⟩, u.oneCell' = true) := by
    have := flat_op_cell [⟨0, ⟨0, 0⟩, f⟩]
    rwa [flat_one] at this
  have HM1 : Hid (0 + l.length ≤ maxLen) := by show _ ≤ _; unfold maxLen; omega
  have HM2 : Hid ((0 + l.length) * 96 ≤ 140737488355328) := by show _ ≤ _; omega
  have HM3 : Hid (l.length + 1 ≤ maxLen) := by show _ ≤ _; unfold maxLen; omega
  have HM4 : Hid ((l.length + 1) * 96 ≤ 140737488355328) := by show _ ≤ _; omega
  obtain ⟨i0, hi, hz0, hz1, hz2⟩ := info_parts info57
  have hI := hid_ hi; have hZ0 := hid_ hz0; have hZ1 := hid_ hz1; have hZ2 := hid_ hz2
  clear hi hz0 hz1 hz2 hy
  go_enter Try.func20, Try.ntmps20
  go_upto_region 2 with (go_at_call 32; refine (awake20_c _).mono ?_; rintro e w1 ⟨rfl, hb⟩; have B1 := hid_ hb; have HV1 := hid_ (HV0.out.mono hb); clear hb)
  clear hW hbx
  have HH1 := hid_ (f9_of (f := f) (hmono B1.out HBK.out))
  obtain ⟨q, hq⟩ : ∃ q, fewL20 (l ++ [⟨0, ⟨0, 0⟩, f⟩]) = q := ⟨_, rfl⟩
  have HQ := hid_ hq
  clear hq
  go_cut [6] from 18 to 25 (fun s6 wx => s6 = .bool q ∧ Hid (Below w1.heap.size w1 wx))
  case first =>
    have HBA : Hid (Below w1.heap.size w1 (w1.alloc (.cells #[] 57)).drew) := (balloc' _ _).drew
    have KA := hid_ (f9_mono (f := f) HH1.out HBA.out)
    have HBX : Hid (Below w1.heap.size w1 (w1.alloc (.cells #[.int .u8 0, .int .i64 0, .int .i64 0, .int .i64 f.ch, .int .i64 f.ix, .int .i64 f.cl, .int .i64 f.mn, .bool f.fr, .int .i64 f.at_, .int .i64 f.ty, .int .i64 f.sz, .int .u64 f.sr] 57)).drew) := (balloc' _ _).drew
    have KX := hid_ (f9_mono (f := f) HH1.out HBX.out)
    have HBB : Hid (Below w1.heap.size w1 ((w1.alloc (.cells #[] 57)).alloc (.cells #[.int .u8 0, .int .i64 0, .int .i64 0, .int .i64 f.ch, .int .i64 f.ix, .int .i64 f.cl, .int .i64 f.mn, .bool f.fr, .int .i64 f.at_, .int .i64 f.ty, .int .i64 f.sz, .int .u64 f.sr] 57)).drew) := (balloc (balloc' _ _) _).drew
    have KB := hid_ (f9_mono (f := f) HH1.out HBB.out)
    have HBC : Hid (Below w1.heap.size w1 ((w1.alloc (.cells #[.int .u8 0, .int .i64 0, .int .i64 0, .int .i64 f.ch, .int .i64 f.ix, .int .i64 f.cl, .int .i64 f.mn, .bool f.fr, .int .i64 f.at_, .int .i64 f.ty, .int .i64 f.sz, .int .u64 f.sr] 57)).alloc (.cells #[] 57)).drew) := (balloc (balloc' _ _) _).drew
    have KC := hid_ (f9_mono (f := f) HH1.out HBC.out)
    have HVA := hid_ (HV1.out.mono HBA.out)
    have HSA := hid_ HBA.out.size
    have HGA : Hid (∀ q, (Value.slice (some ⟨w1.heap.size, 0, none⟩) 0 0).ownBlock = some q → w1.heap.size ≤ q) := fun q hq => by simp [Value.ownBlock] at hq; omega
    have HVB := hid_ (HV1.out.mono HBB.out)
    have HSB := hid_ HBB.out.size
    have HGB : Hid (∀ q, (Value.slice (some ⟨w1.heap.size, 0, none⟩) 0 0).ownBlock = some q → w1.heap.size ≤ q) := fun q hq => by simp [Value.ownBlock] at hq; omega
    have HVC := hid_ (HV1.out.mono HBC.out)
    have HSC := hid_ HBC.out.size
    have HGC : Hid (∀ q, (Value.slice (some ⟨w1.heap.size + 1, 0, none⟩) 0 0).ownBlock = some q → w1.heap.size ≤ q) := fun q hq => by simp [Value.ownBlock] at hq; omega
    have HOA : Hid ((w1.alloc (.cells #[] 57)).drew.ownsRow w1.heap.size 57 12 (.slice (some ⟨w1.heap.size, 0, none⟩) 0 0) 0 []) := World.ownsRow_made w1 #[] 0 (Nat.le_refl _) (Nat.zero_le _) rfl
    have HOB : Hid (((w1.alloc (.cells #[] 57)).alloc (.cells #[.int .u8 0, .int .i64 0, .int .i64 0, .int .i64 f.ch, .int .i64 f.ix, .int .i64 f.cl, .int .i64 f.mn, .bool f.fr, .int .i64 f.at_, .int .i64 f.ty, .int .i64 f.sz, .int .u64 f.sr] 57)).drew.ownsRow w1.heap.size 57 12 (.slice (some ⟨w1.heap.size, 0, none⟩) 0 0) 0 []) := (World.ownsRow_made w1 #[] 0 (Nat.le_refl _) (Nat.zero_le _) rfl : (w1.alloc (.cells #[] 57)).ownsRow w1.heap.size 57 12 (.slice (some ⟨w1.heap.size, 0, none⟩) 0 0) 0 []).alloc (.cells #[.int .u8 0, .int .i64 0, .int .i64 0, .int .i64 f.ch, .int .i64 f.ix, .int .i64 f.cl, .int .i64 f.mn, .bool f.fr, .int .i64 f.at_, .int .i64 f.ty, .int .i64 f.sz, .int .u64 f.sr] 57)
    have HOC : Hid (((w1.alloc (.cells #[.int .u8 0, .int .i64 0, .int .i64 0, .int .i64 f.ch, .int .i64 f.ix, .int .i64 f.cl, .int .i64 f.mn, .bool f.fr, .int .i64 f.at_, .int .i64 f.ty, .int .i64 f.sz, .int .u64 f.sr] 57)).alloc (.cells #[] 57)).drew.ownsRow w1.heap.size 57 12 (.slice (some ⟨w1.heap.size + 1, 0, none⟩) 0 0) 0 []) := by
      have h := World.ownsRow_made (base := w1.heap.size) (e := 57) (size := 12) (w1.alloc (.cells #[.int .u8 0, .int .i64 0, .int .i64 0, .int .i64 f.ch, .int .i64 f.ix, .int .i64 f.cl, .int .i64 f.mn, .bool f.fr, .int .i64 f.at_, .int .i64 f.ty, .int .i64 f.sz, .int .u64 f.sr] 57)) #[] 0 (by simp) (Nat.zero_le _) rfl
      rw [World.size_alloc] at h
      exact h
    have HXB : Hid (((w1.alloc (.cells #[] 57)).alloc (.cells #[.int .u8 0, .int .i64 0, .int .i64 0, .int .i64 f.ch, .int .i64 f.ix, .int .i64 f.cl, .int .i64 f.mn, .bool f.fr, .int .i64 f.at_, .int .i64 f.ty, .int .i64 f.sz, .int .u64 f.sr] 57)).drew.heap[w1.heap.size + 1]? = some (.cells #[.int .u8 0, .int .i64 0, .int .i64 0, .int .i64 f.ch, .int .i64 f.ix, .int .i64 f.cl, .int .i64 f.mn, .bool f.fr, .int .i64 f.at_, .int .i64 f.ty, .int .i64 f.sz, .int .u64 f.sr] 57 (0, 0))) := by
      have h := heap_alloc_new (w1.alloc (.cells #[] 57)) (.cells #[.int .u8 0, .int .i64 0, .int .i64 0, .int .i64 f.ch, .int .i64 f.ix, .int .i64 f.cl, .int .i64 f.mn, .bool f.fr, .int .i64 f.at_, .int .i64 f.ty, .int .i64 f.sz, .int .u64 f.sr] 57)
      rw [World.size_alloc] at h
      exact h
    have HXC : Hid (((w1.alloc (.cells #[.int .u8 0, .int .i64 0, .int .i64 0, .int .i64 f.ch, .int .i64 f.ix, .int .i64 f.cl, .int .i64 f.mn, .bool f.fr, .int .i64 f.at_, .int .i64 f.ty, .int .i64 f.sz, .int .u64 f.sr] 57)).alloc (.cells #[] 57)).drew.heap[w1.heap.size]? = some (.cells #[.int .u8 0, .int .i64 0, .int .i64 0, .int .i64 f.ch, .int .i64 f.ix, .int .i64 f.cl, .int .i64 f.mn, .bool f.fr, .int .i64 f.at_, .int .i64 f.ty, .int .i64 f.sz, .int .u64 f.sr] 57 (0, 0))) := hmono (balloc' (w1.alloc (.cells #[.int .u8 0, .int .i64 0, .int .i64 0, .int .i64 f.ch, .int .i64 f.ix, .int .i64 f.cl, .int .i64 f.mn, .bool f.fr, .int .i64 f.at_, .int .i64 f.ty, .int .i64 f.sz, .int .u64 f.sr] 57)) (.cells #[] 57)) (heap_alloc_new w1 (.cells #[.int .u8 0, .int .i64 0, .int .i64 0, .int .i64 f.ch, .int .i64 f.ix, .int .i64 f.cl, .int .i64 f.mn, .bool f.fr, .int .i64 f.at_, .int .i64 f.ty, .int .i64 f.sz, .int .u64 f.sr] 57))
    have HXkB : Hid (∀ w2, ((w1.alloc (.cells #[] 57)).alloc (.cells #[.int .u8 0, .int .i64 0, .int .i64 0, .int .i64 f.ch, .int .i64 f.ix, .int .i64 f.cl, .int .i64 f.mn, .bool f.fr, .int .i64 f.at_, .int .i64 f.ty, .int .i64 f.sz, .int .u64 f.sr] 57)).drew.grownBy w2 (Value.slice (some ⟨w1.heap.size, 0, none⟩) 0 0).ownBlock → w2.heap[w1.heap.size + 1]? = some (.cells #[.int .u8 0, .int .i64 0, .int .i64 0, .int .i64 f.ch, .int .i64 f.ix, .int .i64 f.cl, .int .i64 f.mn, .bool f.fr, .int .i64 f.at_, .int .i64 f.ty, .int .i64 f.sz, .int .u64 f.sr] 57 (0, 0))) := fun w2 hg => xkept HXB.out (Nat.succ_ne_self _) hg
    have HXkC : Hid (∀ w2, ((w1.alloc (.cells #[.int .u8 0, .int .i64 0, .int .i64 0, .int .i64 f.ch, .int .i64 f.ix, .int .i64 f.cl, .int .i64 f.mn, .bool f.fr, .int .i64 f.at_, .int .i64 f.ty, .int .i64 f.sz, .int .u64 f.sr] 57)).alloc (.cells #[] 57)).drew.grownBy w2 (Value.slice (some ⟨w1.heap.size + 1, 0, none⟩) 0 0).ownBlock → w2.heap[w1.heap.size]? = some (.cells #[.int .u8 0, .int .i64 0, .int .i64 0, .int .i64 f.ch, .int .i64 f.ix, .int .i64 f.cl, .int .i64 f.mn, .bool f.fr, .int .i64 f.at_, .int .i64 f.ty, .int .i64 f.sz, .int .u64 f.sr] 57 (0, 0))) := fun w2 hg => xkept HXC.out (Nat.succ_ne_self _).symm hg
    obtain ⟨r0, r1, r2, r3, r4, r5, r6, r7, r8⟩ : w1.drew.cell? ⟨bx, 0, none⟩ = some (.int .i64 f.ch) ∧ w1.drew.cell? ⟨bx, 1, none⟩ = some (.int .i64 f.ix) ∧ w1.drew.cell? ⟨bx, 2, none⟩ = some (.int .i64 f.cl) ∧ w1.drew.cell? ⟨bx, 3, none⟩ = some (.int .i64 f.mn) ∧ w1.drew.cell? ⟨bx, 4, none⟩ = some (.bool f.fr) ∧ w1.drew.cell? ⟨bx, 5, none⟩ = some (.int .i64 f.at_) ∧ w1.drew.cell? ⟨bx, 6, none⟩ = some (.int .i64 f.ty) ∧ w1.drew.cell? ⟨bx, 7, none⟩ = some (.int .i64 f.sz) ∧ w1.drew.cell? ⟨bx, 8, none⟩ = some (.int .u64 f.sr) := HH1.out
    have hbd : ∀ w, (Instr.build 57 #[(2, .agg #[.int .i64 f.ch, .int .i64 f.ix, .int .i64 f.cl, .int .i64 f.mn, .bool f.fr, .int .i64 f.at_, .int .i64 f.ty, .int .i64 f.sz, .int .u64 f.sr])]).run Try.prog w = .ok (.agg #[.int .u8 0, .int .i64 0, .int .i64 0, .int .i64 f.ch, .int .i64 f.ix, .int .i64 f.cl, .int .i64 f.mn, .bool f.fr, .int .i64 f.at_, .int .i64 f.ty, .int .i64 f.sz, .int .u64 f.sr]) w := build57 f
    have hs0 : ∀ w, (Instr.buildSlice 39 0 #[]).run Try.prog w = .ok (.slice (some ⟨w.heap.size, 0, none⟩) 0 0) (w.alloc (.cells #[] 57)) := bs57z
    have hs1 : ∀ w, (Instr.buildSlice 39 1 #[(0, .agg #[.int .u8 0, .int .i64 0, .int .i64 0, .int .i64 f.ch, .int .i64 f.ix, .int .i64 f.cl, .int .i64 f.mn, .bool f.fr, .int .i64 f.at_, .int .i64 f.ty, .int .i64 f.sz, .int .u64 f.sr])]).run Try.prog w = .ok (.slice (some ⟨w.heap.size, 0, none⟩) 1 1) (w.alloc (.cells #[.int .u8 0, .int .i64 0, .int .i64 0, .int .i64 f.ch, .int .i64 f.ix, .int .i64 f.cl, .int .i64 f.mn, .bool f.fr, .int .i64 f.at_, .int .i64 f.ty, .int .i64 f.sz, .int .u64 f.sr] 57)) := bs57 f
    go_region_held3 (fun W' => W'.cell? ⟨bx, 0, none⟩ = some (.int .i64 f.ch) ∧ W'.cell? ⟨bx, 1, none⟩ = some (.int .i64 f.ix) ∧ W'.cell? ⟨bx, 2, none⟩ = some (.int .i64 f.cl) ∧ W'.cell? ⟨bx, 3, none⟩ = some (.int .i64 f.mn) ∧ W'.cell? ⟨bx, 4, none⟩ = some (.bool f.fr) ∧ W'.cell? ⟨bx, 5, none⟩ = some (.int .i64 f.at_) ∧ W'.cell? ⟨bx, 6, none⟩ = some (.int .i64 f.ty) ∧ W'.cell? ⟨bx, 7, none⟩ = some (.int .i64 f.sz) ∧ W'.cell? ⟨bx, 8, none⟩ = some (.int .u64 f.sr))
      (first | with_reducible exact ⟨r0, r1, r2, r3, r4, r5, r6, r7, r8⟩ | with_reducible exact KA.out | with_reducible exact KX.out | with_reducible exact KB.out | with_reducible exact KC.out | exact f9_mono ⟨r0, r1, r2, r3, r4, r5, r6, r7, r8⟩ (balloc' _ _))
      (first
        | (refine step_append_any rfl (.tmp 18) (.tmp 19) 39 rfl w1.heap.size 57 i0 (.agg #[.int .u8 0, .int .i64 0, .int .i64 0, .int .i64 0, .int .i64 0, .int .i64 0, .int .i64 0, .bool false, .int .i64 0, .int .i64 0, .int .i64 0, .int .u64 0]) 12 96 Try.underlying39 hI.out hZ0.out hZ1.out hZ2.out rfl (by decide) (.slice (some ⟨w1.heap.size, 0, none⟩) 0 0) 0 [] rfl HOA.out A l.length c (flat O20.enc l) rfl HNIL2.out (flat_length O20.enc_len l) (fun ad e j u hj => Rd.cells O20.enc_len (e ▸ HVA.out) j u hj) HONE.out HM1.out HM2.out HSA.out ?_; intro v2 w2 hO hg; have HB2 := hid_ (bgrown HBA.out hg (fun q hq => HGA.out q hq)); have HO2 : Hid (w2.ownsRow w1.heap.size 57 12 v2 l.length (flat O20.enc l)) := (app0 hO); clear r0 r1 r2 r3 r4 r5 r6 r7 r8; obtain ⟨r0, r1, r2, r3, r4, r5, r6, r7, r8⟩ := f9_mono (f := f) HH1.out HB2.out; clear hO hg)
        | (refine step_append_any rfl (.tmp 18) (.tmp 19) 39 rfl w1.heap.size 57 i0 (.agg #[.int .u8 0, .int .i64 0, .int .i64 0, .int .i64 0, .int .i64 0, .int .i64 0, .int .i64 0, .bool false, .int .i64 0, .int .i64 0, .int .i64 0, .int .u64 0]) 12 96 Try.underlying39 hI.out hZ0.out hZ1.out hZ2.out rfl (by decide) (.slice (some ⟨w1.heap.size, 0, none⟩) 0 0) 0 [] rfl HOB.out A l.length c (flat O20.enc l) rfl HNIL2.out (flat_length O20.enc_len l) (fun ad e j u hj => Rd.cells O20.enc_len (e ▸ HVB.out) j u hj) HONE.out HM1.out HM2.out HSB.out ?_; intro v2 w2 hO hg; have HB2 := hid_ (bgrown HBB.out hg (fun q hq => HGB.out q hq)); have HO2 : Hid (w2.ownsRow w1.heap.size 57 12 v2 l.length (flat O20.enc l)) := (app0 hO); have HX2 := hid_ (HXkB.out _ hg); clear r0 r1 r2 r3 r4 r5 r6 r7 r8; obtain ⟨r0, r1, r2, r3, r4, r5, r6, r7, r8⟩ := f9_mono (f := f) HH1.out HB2.out; clear hO hg)
        | (refine step_append_any rfl (.tmp 18) (.tmp 19) 39 rfl w1.heap.size 57 i0 (.agg #[.int .u8 0, .int .i64 0, .int .i64 0, .int .i64 0, .int .i64 0, .int .i64 0, .int .i64 0, .bool false, .int .i64 0, .int .i64 0, .int .i64 0, .int .u64 0]) 12 96 Try.underlying39 hI.out hZ0.out hZ1.out hZ2.out rfl (by decide) (.slice (some ⟨w1.heap.size + 1, 0, none⟩) 0 0) 0 [] rfl HOC.out A l.length c (flat O20.enc l) rfl HNIL2.out (flat_length O20.enc_len l) (fun ad e j u hj => Rd.cells O20.enc_len (e ▸ HVC.out) j u hj) HONE.out HM1.out HM2.out HSC.out ?_; intro v2 w2 hO hg; have HB2 := hid_ (bgrown HBC.out hg (fun q hq => HGC.out q hq)); have HO2 : Hid (w2.ownsRow w1.heap.size 57 12 v2 l.length (flat O20.enc l)) := (app0 hO); have HX2 := hid_ (HXkC.out _ hg); clear r0 r1 r2 r3 r4 r5 r6 r7 r8; obtain ⟨r0, r1, r2, r3, r4, r5, r6, r7, r8⟩ := f9_mono (f := f) HH1.out HB2.out; clear hO hg)
        | (refine step_append_any rfl (.tmp 20) (.tmp 23) 39 rfl w1.heap.size 57 i0 (.agg #[.int .u8 0, .int .i64 0, .int .i64 0, .int .i64 0, .int .i64 0, .int .i64 0, .int .i64 0, .bool false, .int .i64 0, .int .i64 0, .int .i64 0, .int .u64 0]) 12 96 Try.underlying39 hI.out hZ0.out hZ1.out hZ2.out rfl (by decide) v2 l.length (flat O20.enc l) rfl (HO2.out.alloc _) (some ⟨w2.heap.size, 0, none⟩) 1 1 (O20.enc ⟨0, ⟨0, 0⟩, f⟩) rfl (fun e => by cases e) rfl (fun ad e j u hj => by injection e with e; subst e; exact cells_new w2 #[.int .u8 0, .int .i64 0, .int .i64 0, .int .i64 f.ch, .int .i64 f.ix, .int .i64 f.cl, .int .i64 f.mn, .bool f.fr, .int .i64 f.at_, .int .i64 f.ty, .int .i64 f.sz, .int .u64 f.sr].toList 57 j u (by simpa [O20.enc] using hj)) HONE1.out HM3.out HM4.out (balloc HB2.out _).size ?_; intro v3 w3 hO hg; have HB3 := hid_ (bgrown (balloc HB2.out _) hg (fun q hq => (HO2.out.lt q hq).1)); have HR3 : Hid (RdO20 w3 v3 (l ++ [⟨0, ⟨0, 0⟩, f⟩])) := (app1 hO); clear r0 r1 r2 r3 r4 r5 r6 r7 r8; obtain ⟨r0, r1, r2, r3, r4, r5, r6, r7, r8⟩ := f9_mono (f := f) HH1.out HB3.out; clear hO hg)
        | (refine step_append_any rfl (.tmp 20) (.tmp 23) 39 rfl w1.heap.size 57 i0 (.agg #[.int .u8 0, .int .i64 0, .int .i64 0, .int .i64 0, .int .i64 0, .int .i64 0, .int .i64 0, .bool false, .int .i64 0, .int .i64 0, .int .i64 0, .int .u64 0]) 12 96 Try.underlying39 hI.out hZ0.out hZ1.out hZ2.out rfl (by decide) v2 l.length (flat O20.enc l) rfl HO2.out (some ⟨w1.heap.size + 1, 0, none⟩) 1 1 (O20.enc ⟨0, ⟨0, 0⟩, f⟩) rfl (fun e => by cases e) rfl (fun ad e j u hj => by injection e with e; subst e; exact opcells HX2.out j u hj) HONE1.out HM3.out HM4.out HB2.out.size ?_; intro v3 w3 hO hg; have HB3 := hid_ (bgrown HB2.out hg (fun q hq => (HO2.out.lt q hq).1)); have HR3 : Hid (RdO20 w3 v3 (l ++ [⟨0, ⟨0, 0⟩, f⟩])) := (app1 hO); clear r0 r1 r2 r3 r4 r5 r6 r7 r8; obtain ⟨r0, r1, r2, r3, r4, r5, r6, r7, r8⟩ := f9_mono (f := f) HH1.out HB3.out; clear hO hg)
        | (refine step_append_any rfl (.tmp 20) (.tmp 23) 39 rfl w1.heap.size 57 i0 (.agg #[.int .u8 0, .int .i64 0, .int .i64 0, .int .i64 0, .int .i64 0, .int .i64 0, .int .i64 0, .bool false, .int .i64 0, .int .i64 0, .int .i64 0, .int .u64 0]) 12 96 Try.underlying39 hI.out hZ0.out hZ1.out hZ2.out rfl (by decide) v2 l.length (flat O20.enc l) rfl HO2.out (some ⟨w1.heap.size, 0, none⟩) 1 1 (O20.enc ⟨0, ⟨0, 0⟩, f⟩) rfl (fun e => by cases e) rfl (fun ad e j u hj => by injection e with e; subst e; exact opcells HX2.out j u hj) HONE1.out HM3.out HM4.out HB2.out.size ?_; intro v3 w3 hO hg; have HB3 := hid_ (bgrown HB2.out hg (fun q hq => (HO2.out.lt q hq).1)); have HR3 : Hid (RdO20 w3 v3 (l ++ [⟨0, ⟨0, 0⟩, f⟩])) := (app1 hO); clear r0 r1 r2 r3 r4 r5 r6 r7 r8; obtain ⟨r0, r1, r2, r3, r4, r5, r6, r7, r8⟩ := f9_mono (f := f) HH1.out HB3.out; clear hO hg)
        | (go_at_call 33; go_loud (refine (few20_c (l ++ [⟨0, ⟨0, 0⟩, f⟩]) _ _ HR3.out).mono ?_; rintro e w4 ⟨rfl, hb⟩; rw [HQ.out]; have HBF := hid_ (btr HB3.out hb); clear r0 r1 r2 r3 r4 r5 r6 r7 r8; obtain ⟨r0, r1, r2, r3, r4, r5, r6, r7, r8⟩ := f9_mono (f := f) HH1.out HBF.out; clear hb)))
    all_goals
      go_wp2_with (fail)
      go_meet
      exact ⟨rfl, HBF.out⟩
  case rest =>
    obtain ⟨rfl, HB2⟩ := hcut
    have HBw := hid_ (btr B1.out HB2.out)
    cases q with
    | false =>
      go_wp2
      go_ret
      exact ⟨rfl, btr HB0.out HBw.out⟩
    | true =>
      have hfw := (fewL20_iff _).1 HQ.out
      have HSM : Hid (∀ o ∈ l, Small o.s ∧ o.f.Ok) := fun o ho => hfw.1 o (by simp [ho])
      have HF : Hid f.Ok := (hfw.1 ⟨0, ⟨0, 0⟩, f⟩ (by simp)).2
      have hlen : l.length ≤ 39 := by have := hfw.2; simp at this; omega
      clear hfw
      go_wp2_with (go_at_call 34; refine (tnew_c _).mono ?_; rintro e w3 ⟨tb, mb, rfl, ht, hb, h1, h2⟩; have HP0 := hid_ (pe_new ht HBw.out hb h1 h2); clear ht hb h1 h2)
      go_loopw [9] (fun i wr => ∃ k : Nat, k ≤ l.length ∧ i = .int .i64 k ∧ Hid (PE W tb mb w3.heap.size k wr)) (fun i _ => l.length - (intOf i).toNat)
      case atStart => exact ⟨0, Nat.zero_le _, rfl, HP0.out⟩
      case round =>
        obtain ⟨k, hk, rfl, HP⟩ := hrel
        by_cases hlt : k < l.length
        · have HC := hid_ (fun (W' : World) (hW : Below W.heap.size W W') => RdO20.at HV0.out hW hlt)
          have HSO := hid_ (HSM.out _ (List.getElem_mem hlt))
          generalize l[k] = x at HC HSO
          obtain ⟨b, o, rfl, hC⟩ := HC.out wr HP.out.b
          have c0 := hC.c0; have c1 := hC.c1; have c2 := hC.c2; have c3 := hC.c3; have c4 := hC.c4; have c5 := hC.c5; have c6 := hC.c6; have c7 := hC.c7; have c8 := hC.c8; have c9 := hC.c9; have c10 := hC.c10; have c11 := hC.c11
          clear hC
          have HK1 : Hid (k ≤ 50) := by show _ ≤ _; omega
          go_wp2_with (go_at_call 35; go_loud (refine (do20_c x _ HP.out HK1.out HSO.out.1 HSO.out.2).mono ?_; rintro e w4 ⟨rfl, hp⟩; have HP5 := hid_ hp; clear hp))
          go_roundw
          case rel => exact ⟨k + 1, by omega, by go_num, HP5.out⟩
          case measure => simp [intOf]; omega
        · obtain rfl : k = l.length := by omega
          obtain ⟨n, wv, gv, rwv, rfv, rgv, T, R, hp2, ha2⟩ := HP.out.ex
          have HX := hid_ hp2
          have HOK := hid_ ha2.ok
          have HOK1 := hid_ (make_ok ha2.ok HF.out)
          have HOK2 := hid_ (unmake_ok HOK1.out f.at_)
          have HLW := hid_ (fresh_law ha2.ok HF.out)
          have HLN1 : Hid (TLen (makeT T f) (n + 1)) := len_of HOK1.out (by have h1 := mkL_len T.fresh f; have h2 := ha2.fl; show (mkL T.fresh f).length ≤ _; omega) (by have := ha2.nk; omega) (show T.gone.length ≤ 10000 by have := ha2.gl; omega)
          have HLN2 : Hid (TLen (unmakeT (makeT T f) f.at_) (n + 1)) := len_of HOK2.out (by have h1 := mkL_len T.fresh f; have h2 := ha2.fl; have h3 := rm_len (mkL T.fresh f) f.at_; show (rmL (mkL T.fresh f) f.at_).length ≤ _; omega) (by have := ha2.nk; omega) (show T.gone.length ≤ 10000 by have := ha2.gl; omega)
          have HNN : Hid (n ≤ 1000000) := by show _ ≤ _; have := ha2.nk; omega
          have HWL : Hid (T.words.length ≤ 100000) := by show _ ≤ _; have := (ha2.len (by omega)).w; omega
          have HBT : Hid (BdL T.words) := ha2.ok.win.bd ha2.ok.rf (by decide) (by decide)
          have g1 := HF.out.a0; have g2 := HF.out.a1; have g3 := HF.out.s0; have g4 := HF.out.s1
          have HZ : Hid (InZ f.at_) := ⟨by omega, by omega⟩
          have HSP : Hid (Small f.sp) := ⟨g1, g2, by simp only [Ob.sp]; omega, by simp only [Ob.sp]; omega⟩
          clear hp2 ha2
          obtain ⟨r0, r1, r2, r3, r4, r5, r6, r7, r8⟩ : wr.cell? ⟨bx, 0, none⟩ = some (.int .i64 f.ch) ∧ wr.cell? ⟨bx, 1, none⟩ = some (.int .i64 f.ix) ∧ wr.cell? ⟨bx, 2, none⟩ = some (.int .i64 f.cl) ∧ wr.cell? ⟨bx, 3, none⟩ = some (.int .i64 f.mn) ∧ wr.cell? ⟨bx, 4, none⟩ = some (.bool f.fr) ∧ wr.cell? ⟨bx, 5, none⟩ = some (.int .i64 f.at_) ∧ wr.cell? ⟨bx, 6, none⟩ = some (.int .i64 f.ty) ∧ wr.cell? ⟨bx, 7, none⟩ = some (.int .i64 f.sz) ∧ wr.cell? ⟨bx, 8, none⟩ = some (.int .u64 f.sr) := f9_of (hmono HX.out.b HBK.out)
          go_upto_region 14 with (fail)
          have HX13 := hid_ ((HX.out.mono (balloc' wr (.cells #[.int .i64 f.at_, .int .i64 (f.sz + 2)] 25))).mono (w' := (wr.alloc (.cells #[.int .i64 f.at_, .int .i64 (f.sz + 2)] 25)).drew) (Below.refl _ _).drew)
          have HS13 : Hid ((wr.alloc (.cells #[.int .i64 f.at_, .int .i64 (f.sz + 2)] 25)).drew.heap[wr.heap.size]? = some (.cells #[.int .i64 f.at_, .int .i64 (f.sz + 2)] 25 (0, 0))) := heap_alloc_new wr _
          obtain ⟨bs, hbs⟩ : ∃ bs, wr.heap.size = bs := ⟨_, rfl⟩
          obtain ⟨W13, hW13⟩ : ∃ W13, wr.alloc (.cells #[.int .i64 f.at_, .int .i64 (f.sz + 2)] 25) = W13 := ⟨_, rfl⟩
          rw [hW13] at HX13 HS13
          rw [hbs] at HS13
          rw [hbs, hW13]
          clear hbs hW13 r0 r1 r2 r3 r4 r5 r6 r7 r8
          obtain ⟨r0, r1, r2, r3, r4, r5, r6, r7, r8⟩ : W13.drew.cell? ⟨bx, 0, none⟩ = some (.int .i64 f.ch) ∧ W13.drew.cell? ⟨bx, 1, none⟩ = some (.int .i64 f.ix) ∧ W13.drew.cell? ⟨bx, 2, none⟩ = some (.int .i64 f.cl) ∧ W13.drew.cell? ⟨bx, 3, none⟩ = some (.int .i64 f.mn) ∧ W13.drew.cell? ⟨bx, 4, none⟩ = some (.bool f.fr) ∧ W13.drew.cell? ⟨bx, 5, none⟩ = some (.int .i64 f.at_) ∧ W13.drew.cell? ⟨bx, 6, none⟩ = some (.int .i64 f.ty) ∧ W13.drew.cell? ⟨bx, 7, none⟩ = some (.int .i64 f.sz) ∧ W13.drew.cell? ⟨bx, 8, none⟩ = some (.int .u64 f.sr) := f9_of (hmono HX13.out.b HBK.out)
          go_region_held3 (fun W' => W'.cell? ⟨bx, 0, none⟩ = some (.int .i64 f.ch) ∧ W'.cell? ⟨bx, 1, none⟩ = some (.int .i64 f.ix) ∧ W'.cell? ⟨bx, 2, none⟩ = some (.int .i64 f.cl) ∧ W'.cell? ⟨bx, 3, none⟩ = some (.int .i64 f.mn) ∧ W'.cell? ⟨bx, 4, none⟩ = some (.bool f.fr) ∧ W'.cell? ⟨bx, 5, none⟩ = some (.int .i64 f.at_) ∧ W'.cell? ⟨bx, 6, none⟩ = some (.int .i64 f.ty) ∧ W'.cell? ⟨bx, 7, none⟩ = some (.int .i64 f.sz) ∧ W'.cell? ⟨bx, 8, none⟩ = some (.int .u64 f.sr))
            (exact ⟨r0, r1, r2, r3, r4, r5, r6, r7, r8⟩)
            ((go_at_call 75; go_loud (refine (make_c f _ HX13.out.both.t HOK.out.up HZ.out HNN.out).mono ?_; rintro e w14 ⟨rfl, hr⟩; obtain ⟨wv2, gv2, hx2⟩ := HX13.out.sT hr; have HX14 := hid_ hx2; have HS14 := hid_ (HX13.out.keepB hr HS13.out (by decide) (by decide)); clear r0 r1 r2 r3 r4 r5 r6 r7 r8; obtain ⟨r0, r1, r2, r3, r4, r5, r6, r7, r8⟩ := f9_of (f := f) (hmono hx2.b HBK.out); clear hr hx2)))
          have c0 := cell_blk (j := 0) HS14.out rfl
          have c1 := cell_blk (j := 1) HS14.out rfl
          clear r0 r1 r2 r3 r4 r5 r6 r7 r8
          go_upto_region 17 with (first
            | (go_at_call 40; go_loud (refine (may_c f.sp _ HX14.out.both.t HOK1.out HLN1.out HSP.out).mono ?_; rintro e w15 ⟨rfl, hb⟩; rw [HLW.out.may]; have HX15 := hid_ (HX14.out.mono hb); have HS15 := hid_ (hmono hb HS14.out); replace c0 := cmono hb c0; replace c1 := cmono hb c1; clear hb))
            | (go_at_call 41; go_loud (refine (note_c f.sp _ HX15.out.both.t HOK1.out HLN1.out HSP.out).mono ?_; rintro e w16 ⟨va, rfl, hr⟩; obtain ⟨wv3, gv3, hx3⟩ := HX15.out.sT hr.t; rw [HLW.out.same] at hx3; have HX16 := hid_ hx3; have HS16 := hid_ (HX15.out.keepB hr.t HS15.out (by decide) (by decide)); have ho := hr.o; rw [HLW.out.none_] at ho; replace ho : w16.ownsRow _ 25 2 va 0 [] := ho; obtain ⟨Aa, ca, rfl⟩ := own_slice20 ho; clear hr hx3 ho c0 c1)))
          obtain ⟨⟨r5, _⟩⟩ : (w16.drew.cell? ⟨bx, 5, none⟩ = some (.int .i64 f.at_) ∧ True) ∧ True := ⟨⟨cell_blk (j := 5) (hmono HX16.out.b HBK.out) rfl, trivial⟩, trivial⟩
          have HGOT : Hid (obOf (findF (makeT T f).fresh f.at_) = f) := by show _ = _; rw [HLW.out.got]; rfl
          have HIS : Hid ((findF (makeT T f).fresh f.at_).isSome = true) := by show _ = _; rw [HLW.out.got]; rfl
          have HV : Hid (f.val = .agg #[.int .i64 f.ch, .int .i64 f.ix, .int .i64 f.cl, .int .i64 f.mn, .bool f.fr, .int .i64 f.at_, .int .i64 f.ty, .int .i64 f.sz, .int .u64 f.sr]) := rfl
          have HXa := hid_ (HX16.out.mono (w' := w16.drew) (Below.refl _ _).drew)
          have HSa : Hid (w16.drew.heap[bs]? = some (.cells #[.int .i64 f.at_, .int .i64 (f.sz + 2)] 25 (0, 0))) := HS16.out
          have HXb := hid_ (HX16.out.mono (w' := (w16.alloc (.cells #[.int .i64 0, .int .i64 0, .int .i64 0, .int .i64 0, .bool false, .int .i64 0, .int .i64 0, .int .i64 0, .int .u64 0] 55)).drew) (balloc' _ _).drew)
          have HSb : Hid ((w16.alloc (.cells #[.int .i64 0, .int .i64 0, .int .i64 0, .int .i64 0, .bool false, .int .i64 0, .int .i64 0, .int .i64 0, .int .u64 0] 55)).drew.heap[bs]? = some (.cells #[.int .i64 f.at_, .int .i64 (f.sz + 2)] 25 (0, 0))) := hmono (balloc' _ _) HS16.out
          have HZb : Hid ((w16.alloc (.cells #[.int .i64 0, .int .i64 0, .int .i64 0, .int .i64 0, .bool false, .int .i64 0, .int .i64 0, .int .i64 0, .int .u64 0] 55)).drew.heap[w16.heap.size]? = some (.cells #[.int .i64 0, .int .i64 0, .int .i64 0, .int .i64 0, .bool false, .int .i64 0, .int .i64 0, .int .i64 0, .int .u64 0] 55 (0, 0))) := heap_alloc_new w16 _
          have r5b : (w16.alloc (.cells #[.int .i64 0, .int .i64 0, .int .i64 0, .int .i64 0, .bool false, .int .i64 0, .int .i64 0, .int .i64 0, .int .u64 0] 55)).drew.cell? ⟨bx, 5, none⟩ = some (.int .i64 f.at_) := cmono (balloc' w16 (.cells #[.int .i64 0, .int .i64 0, .int .i64 0, .int .i64 0, .bool false, .int .i64 0, .int .i64 0, .int .i64 0, .int .u64 0] 55)).drew r5
          go_cut [13, 14] from 65 to 73 (fun s13 s14 wx => ∃ b13, s13 = .pointer (some ⟨b13, 0, none⟩) ∧ s14 = .bool true ∧ Hid (UPost W wx tb mb w3.heap.size (n + 1) bs b13 f f (unmakeT (makeT T f) f.at_) R))
          case first =>
            refine wp_region_noPanic ?_
            go_region_with (first
                | (go_at_call 76; (with_reducible refine (unmake_c f.at_ _ HXa.out.both.t HOK1.out.up HZ.out).mono ?_); go_loud (rintro e w17 ⟨rfl, hr⟩; rw [HGOT.out, HIS.out, HV.out]; obtain ⟨wv4, gv4, hx4⟩ := HXa.out.sT hr; have HXc := hid_ hx4; have HSc := hid_ (HXa.out.keepB hr HSa.out (by decide) (by decide)); clear hr hx4))
                | (go_at_call 76; go_loud (refine (unmake_c f.at_ _ HXb.out.both.t HOK1.out.up HZ.out).mono ?_; rintro e w17 ⟨rfl, hr⟩; rw [HGOT.out, HIS.out, HV.out]; obtain ⟨wv4, gv4, hx4⟩ := HXb.out.sT hr; have HXe := hid_ hx4; have HSe := hid_ (HXb.out.keepB hr HSb.out (by decide) (by decide)); have HZe := hid_ (HXb.out.keepB hr HZb.out (by decide) (by decide)); obtain ⟨⟨z0, z1, z2, z3, z4, z5, z6, z7, z8⟩, HZF⟩ := z_cells HZe.out; have y0 := HZF.out 0; have y1 := HZF.out 1; have y2 := HZF.out 2; have y3 := HZF.out 3; have y4 := HZF.out 4; have y5 := HZF.out 5; have y6 := HZF.out 6; have y7 := HZF.out 7; have y8 := HZF.out 8; clear hr hx4)))
            all_goals
              refine NoPanic.normal ?_
              go_wp2_with (fail)
              go_meet
              first
                | exact ⟨_, rfl, rfl, ⟨⟨_, _, _, _, _, HXc.out.mono (balloc' _ _)⟩, hmono (balloc' _ _) HSc.out, heap_alloc_new _ _⟩⟩
                | exact ⟨_, rfl, rfl, ⟨⟨_, _, _, _, _, HXe.out.wr HZe.out (nine (f := f) HZe.out rfl).2 (fun g hg => Nat.ne_of_lt (ownBlk_lt HX16.out.both.r.fo hg)) HX16.out.b.size⟩, ((nine (f := f) HZe.out rfl).2.block bs (Array.getElem?_eq_some_iff.1 HSe.out).1 (by simpa using (cells_ne_cells HSe.out HZe.out (by decide)))).trans HSe.out, (nine (f := f) HZe.out rfl).1⟩⟩
          case rest =>
            obtain ⟨b13, rfl, rfl, HU⟩ := hcut
            obtain ⟨⟨wv5, gv5, rwv5, rfv5, rgv5, hx5⟩, hs5, hb5⟩ := HU.out
            have HX18 := hid_ hx5
            have HS18 := hid_ hs5
            have HB18 := hid_ hb5
            clear hx5 hs5 hb5 HGOT HIS HV HXa HSa HXb HSb HZb r5 r5b HX14 HX15 HX16 HS14 HS15 HS16 HX13 HS13
            have r5 : wc.drew.cell? ⟨bx, 5, none⟩ = some (.int .i64 f.at_) := cell_blk (j := 5) (hmono HX18.out.b HBK.out) rfl
            have HGOT : Hid (obOf (findF (unmakeT (makeT T f) f.at_).fresh f.at_) = noOb) := by show _ = _; rw [HLW.out.gone]; rfl
            have HIS : Hid ((findF (unmakeT (makeT T f) f.at_).fresh f.at_).isSome = false) := by show _ = _; rw [HLW.out.gone]; rfl
            have HV : Hid (noOb.val = .agg #[.int .i64 0, .int .i64 0, .int .i64 0, .int .i64 0, .bool false, .int .i64 0, .int .i64 0, .int .i64 0, .int .u64 0]) := rfl
            have HXa := hid_ (HX18.out.mono (w' := wc.drew) (Below.refl _ _).drew)
            have HSa : Hid (wc.drew.heap[bs]? = some (.cells #[.int .i64 f.at_, .int .i64 (f.sz + 2)] 25 (0, 0))) := HS18.out
            have HBa : Hid (wc.drew.heap[b13]? = some (.cells (fobs f) 55 (0, 0))) := HB18.out
            have HXb := hid_ (HX18.out.mono (w' := (wc.alloc (.cells #[.int .i64 0, .int .i64 0, .int .i64 0, .int .i64 0, .bool false, .int .i64 0, .int .i64 0, .int .i64 0, .int .u64 0] 55)).drew) (balloc' _ _).drew)
            have HSb : Hid ((wc.alloc (.cells #[.int .i64 0, .int .i64 0, .int .i64 0, .int .i64 0, .bool false, .int .i64 0, .int .i64 0, .int .i64 0, .int .u64 0] 55)).drew.heap[bs]? = some (.cells #[.int .i64 f.at_, .int .i64 (f.sz + 2)] 25 (0, 0))) := hmono (balloc' _ _) HS18.out
            have HBb : Hid ((wc.alloc (.cells #[.int .i64 0, .int .i64 0, .int .i64 0, .int .i64 0, .bool false, .int .i64 0, .int .i64 0, .int .i64 0, .int .u64 0] 55)).drew.heap[b13]? = some (.cells (fobs f) 55 (0, 0))) := hmono (balloc' _ _) HB18.out
            have HZb : Hid ((wc.alloc (.cells #[.int .i64 0, .int .i64 0, .int .i64 0, .int .i64 0, .bool false, .int .i64 0, .int .i64 0, .int .i64 0, .int .u64 0] 55)).drew.heap[wc.heap.size]? = some (.cells #[.int .i64 0, .int .i64 0, .int .i64 0, .int .i64 0, .bool false, .int .i64 0, .int .i64 0, .int .i64 0, .int .u64 0] 55 (0, 0))) := heap_alloc_new wc _
            have r5b : (wc.alloc (.cells #[.int .i64 0, .int .i64 0, .int .i64 0, .int .i64 0, .bool false, .int .i64 0, .int .i64 0, .int .i64 0, .int .u64 0] 55)).drew.cell? ⟨bx, 5, none⟩ = some (.int .i64 f.at_) := cmono (balloc' wc (.cells #[.int .i64 0, .int .i64 0, .int .i64 0, .int .i64 0, .bool false, .int .i64 0, .int .i64 0, .int .i64 0, .int .u64 0] 55)).drew r5
            go_upto_region 18 with (fail)
            go_cut [15, 16] from 74 to 82 (fun s15 s16 wx => ∃ b15, s15 = .pointer (some ⟨b15, 0, none⟩) ∧ s16 = .bool false ∧ Hid (UPost W wx tb mb w3.heap.size (n + 1) bs b13 f f (unmakeT (makeT T f) f.at_) R))
            case first =>
              refine wp_region_noPanic ?_
              go_region_with (first
                  | (go_at_call 76; (with_reducible refine (unmake_c f.at_ _ HXa.out.both.t HOK2.out.up HZ.out).mono ?_); go_loud (rintro e w17 ⟨rfl, hr⟩; rw [HGOT.out, HIS.out, HV.out]; obtain ⟨wv4, gv4, hx4⟩ := HXa.out.sT hr; rw [HLW.out.twice] at hx4; have HXc := hid_ hx4; have HSc := hid_ (HXa.out.keepB hr HSa.out (by decide) (by decide)); have HBc := hid_ (HXa.out.keepB hr HBa.out (by decide) (by decide)); clear hr hx4))
                  | (go_at_call 76; go_loud (refine (unmake_c f.at_ _ HXb.out.both.t HOK2.out.up HZ.out).mono ?_; rintro e w17 ⟨rfl, hr⟩; rw [HGOT.out, HIS.out, HV.out]; obtain ⟨wv4, gv4, hx4⟩ := HXb.out.sT hr; rw [HLW.out.twice] at hx4; have HXe := hid_ hx4; have HSe := hid_ (HXb.out.keepB hr HSb.out (by decide) (by decide)); have HBe := hid_ (HXb.out.keepB hr HBb.out (by decide) (by decide)); have HZe := hid_ (HXb.out.keepB hr HZb.out (by decide) (by decide)); obtain ⟨⟨z0, z1, z2, z3, z4, z5, z6, z7, z8⟩, HZF⟩ := z_cells HZe.out; have y0 := HZF.out 0; have y1 := HZF.out 1; have y2 := HZF.out 2; have y3 := HZF.out 3; have y4 := HZF.out 4; have y5 := HZF.out 5; have y6 := HZF.out 6; have y7 := HZF.out 7; have y8 := HZF.out 8; clear hr hx4)))
              all_goals
                refine NoPanic.normal ?_
                go_wp2_with (fail)
                go_meet
                first
                  | exact ⟨_, rfl, rfl, ⟨⟨_, _, _, _, _, HXc.out.mono (balloc' _ _)⟩, hmono (balloc' _ _) HSc.out, hmono (balloc' _ _) HBc.out⟩⟩
                  | exact ⟨_, rfl, rfl, ⟨⟨_, _, _, _, _, HXe.out.wr HZe.out (nine (f := noOb) HZe.out rfl).2 (fun g hg => Nat.ne_of_lt (ownBlk_lt HX18.out.both.r.fo hg)) HX18.out.b.size⟩, ((nine (f := noOb) HZe.out rfl).2.block bs (Array.getElem?_eq_some_iff.1 HSe.out).1 (by simpa using (cells_ne_cells HSe.out HZe.out (by decide)))).trans HSe.out, ((nine (f := noOb) HZe.out rfl).2.block b13 (Array.getElem?_eq_some_iff.1 HBe.out).1 (by simpa using Nat.ne_of_lt (Array.getElem?_eq_some_iff.1 HB18.out).1)).trans HBe.out⟩⟩
            case rest =>
              obtain ⟨b15, rfl, rfl, HU2⟩ := hcut
              obtain ⟨⟨wv6, gv6, rwv6, rfv6, rgv6, hx6⟩, hs6, hb6⟩ := HU2.out
              have HX19 := hid_ (hx6.mono (w' := wc.drew) (Below.refl _ _).drew)
              obtain ⟨r0, r1, r2, r3, r4, r5, r6, r7, r8⟩ : wc.drew.cell? ⟨bx, 0, none⟩ = some (.int .i64 f.ch) ∧ wc.drew.cell? ⟨bx, 1, none⟩ = some (.int .i64 f.ix) ∧ wc.drew.cell? ⟨bx, 2, none⟩ = some (.int .i64 f.cl) ∧ wc.drew.cell? ⟨bx, 3, none⟩ = some (.int .i64 f.mn) ∧ wc.drew.cell? ⟨bx, 4, none⟩ = some (.bool f.fr) ∧ wc.drew.cell? ⟨bx, 5, none⟩ = some (.int .i64 f.at_) ∧ wc.drew.cell? ⟨bx, 6, none⟩ = some (.int .i64 f.ty) ∧ wc.drew.cell? ⟨bx, 7, none⟩ = some (.int .i64 f.sz) ∧ wc.drew.cell? ⟨bx, 8, none⟩ = some (.int .u64 f.sr) := f9_of (hmono HX19.out.b HBK.out)
              have p0 : wc.drew.cell? ⟨b13, 0, none⟩ = some (.int .i64 f.ch) := cell_blk (j := 0) hb6 rfl
              have p1 : wc.drew.cell? ⟨b13, 1, none⟩ = some (.int .i64 f.ix) := cell_blk (j := 1) hb6 rfl
              have p2 : wc.drew.cell? ⟨b13, 2, none⟩ = some (.int .i64 f.cl) := cell_blk (j := 2) hb6 rfl
              have p3 : wc.drew.cell? ⟨b13, 3, none⟩ = some (.int .i64 f.mn) := cell_blk (j := 3) hb6 rfl
              have p4 : wc.drew.cell? ⟨b13, 4, none⟩ = some (.bool f.fr) := cell_blk (j := 4) hb6 rfl
              have p5 : wc.drew.cell? ⟨b13, 5, none⟩ = some (.int .i64 f.at_) := cell_blk (j := 5) hb6 rfl
              have p6 : wc.drew.cell? ⟨b13, 6, none⟩ = some (.int .i64 f.ty) := cell_blk (j := 6) hb6 rfl
              have p7 : wc.drew.cell? ⟨b13, 7, none⟩ = some (.int .i64 f.sz) := cell_blk (j := 7) hb6 rfl
              have p8 : wc.drew.cell? ⟨b13, 8, none⟩ = some (.int .u64 f.sr) := cell_blk (j := 8) hb6 rfl
              have s0 : wc.drew.cell? ⟨bs, 0, none⟩ = some (.int .i64 f.at_) := cell_blk (j := 0) hs6 rfl
              have s1 : wc.drew.cell? ⟨bs, 1, none⟩ = some (.int .i64 (f.sz + 2)) := cell_blk (j := 1) hs6 rfl
              obtain ⟨cv, hcv⟩ : ∃ cv, coversB T.words f.sp = cv := ⟨_, rfl⟩
              have HCV := hid_ hcv
              have hcc : (cv == cv) = true := by simp
              have heq : ∀ w, (binOp .eql 55 (.agg #[.int .i64 f.ch, .int .i64 f.ix, .int .i64 f.cl, .int .i64 f.mn, .bool f.fr, .int .i64 f.at_, .int .i64 f.ty, .int .i64 f.sz, .int .u64 f.sr]) (.agg #[.int .i64 f.ch, .int .i64 f.ix, .int .i64 f.cl, .int .i64 f.mn, .bool f.fr, .int .i64 f.at_, .int .i64 f.ty, .int .i64 f.sz, .int .u64 f.sr])).run Try.prog w = .ok (.bool true) w := eql55 f
              clear hx6 hs6 hb6 hcv HGOT HIS HV HXa HSa HBa HXb HSb HBb HZb r5b HX18 HS18 HB18 HU HU2
              go_upto_region 19 with (fail)
              go_region_held3 (fun W' => W'.cell? ⟨bx, 0, none⟩ = some (.int .i64 f.ch) ∧ W'.cell? ⟨bx, 1, none⟩ = some (.int .i64 f.ix) ∧ W'.cell? ⟨bx, 2, none⟩ = some (.int .i64 f.cl) ∧ W'.cell? ⟨bx, 3, none⟩ = some (.int .i64 f.mn) ∧ W'.cell? ⟨bx, 4, none⟩ = some (.bool f.fr) ∧ W'.cell? ⟨bx, 5, none⟩ = some (.int .i64 f.at_) ∧ W'.cell? ⟨bx, 6, none⟩ = some (.int .i64 f.ty) ∧ W'.cell? ⟨bx, 7, none⟩ = some (.int .i64 f.sz) ∧ W'.cell? ⟨bx, 8, none⟩ = some (.int .u64 f.sr) ∧ W'.cell? ⟨b13, 0, none⟩ = some (.int .i64 f.ch) ∧ W'.cell? ⟨b13, 1, none⟩ = some (.int .i64 f.ix) ∧ W'.cell? ⟨b13, 2, none⟩ = some (.int .i64 f.cl) ∧ W'.cell? ⟨b13, 3, none⟩ = some (.int .i64 f.mn) ∧ W'.cell? ⟨b13, 4, none⟩ = some (.bool f.fr) ∧ W'.cell? ⟨b13, 5, none⟩ = some (.int .i64 f.at_) ∧ W'.cell? ⟨b13, 6, none⟩ = some (.int .i64 f.ty) ∧ W'.cell? ⟨b13, 7, none⟩ = some (.int .i64 f.sz) ∧ W'.cell? ⟨b13, 8, none⟩ = some (.int .u64 f.sr) ∧ W'.cell? ⟨bs, 0, none⟩ = some (.int .i64 f.at_) ∧ W'.cell? ⟨bs, 1, none⟩ = some (.int .i64 (f.sz + 2)))
                (exact ⟨r0, r1, r2, r3, r4, r5, r6, r7, r8, p0, p1, p2, p3, p4, p5, p6, p7, p8, s0, s1⟩)
                (first
                  | (go_at_call 40; go_loud (refine (may_c f.sp _ HX19.out.both.t HOK2.out HLN2.out HSP.out).mono ?_; rintro e w20 ⟨rfl, hb⟩; rw [HLW.out.last, HCV.out]; replace HX19 := hid_ (HX19.out.mono hb); replace r0 := cmono hb r0; replace r1 := cmono hb r1; replace r2 := cmono hb r2; replace r3 := cmono hb r3; replace r4 := cmono hb r4; replace r5 := cmono hb r5; replace r6 := cmono hb r6; replace r7 := cmono hb r7; replace r8 := cmono hb r8; replace p0 := cmono hb p0; replace p1 := cmono hb p1; replace p2 := cmono hb p2; replace p3 := cmono hb p3; replace p4 := cmono hb p4; replace p5 := cmono hb p5; replace p6 := cmono hb p6; replace p7 := cmono hb p7; replace p8 := cmono hb p8; replace s0 := cmono hb s0; replace s1 := cmono hb s1; (try replace RN := hid_ (RN.out.mono hb)); clear hb))
                  | (go_at_call 36; go_loud (refine (noted_c _ HX19.out.both.t HWL.out).mono ?_; rintro e w20 ⟨vn, rfl, hO, hb⟩; replace HX19 := hid_ (HX19.out.mono hb); replace r0 := cmono hb r0; replace r1 := cmono hb r1; replace r2 := cmono hb r2; replace r3 := cmono hb r3; replace r4 := cmono hb r4; replace r5 := cmono hb r5; replace r6 := cmono hb r6; replace r7 := cmono hb r7; replace r8 := cmono hb r8; replace p0 := cmono hb p0; replace p1 := cmono hb p1; replace p2 := cmono hb p2; replace p3 := cmono hb p3; replace p4 := cmono hb p4; replace p5 := cmono hb p5; replace p6 := cmono hb p6; replace p7 := cmono hb p7; replace p8 := cmono hb p8; replace s0 := cmono hb s0; replace s1 := cmono hb s1; (try replace RN := hid_ (RN.out.mono hb)); have RN : Hid (RdS w20 vn T.words) := Rd.of_own Sp.enc_len hO rfl; clear hO hb))
                  | (go_at_call 31; go_loud (refine (covers_c T.words f.sp _ _ RN.out HBT.out HSP.out.bd).mono ?_; rintro e w20 ⟨rfl, hb⟩; rw [HCV.out]; replace HX19 := hid_ (HX19.out.mono hb); replace r0 := cmono hb r0; replace r1 := cmono hb r1; replace r2 := cmono hb r2; replace r3 := cmono hb r3; replace r4 := cmono hb r4; replace r5 := cmono hb r5; replace r6 := cmono hb r6; replace r7 := cmono hb r7; replace r8 := cmono hb r8; replace p0 := cmono hb p0; replace p1 := cmono hb p1; replace p2 := cmono hb p2; replace p3 := cmono hb p3; replace p4 := cmono hb p4; replace p5 := cmono hb p5; replace p6 := cmono hb p6; replace p7 := cmono hb p7; replace p8 := cmono hb p8; replace s0 := cmono hb s0; replace s1 := cmono hb s1; (try replace RN := hid_ (RN.out.mono hb)); clear hb)))
              all_goals
                go_wp2
                go_ret
                exact ⟨rfl, btr HB0.out HX19.out.b⟩
end Go.Proofs.Ytncdkbhkjamdpaa
