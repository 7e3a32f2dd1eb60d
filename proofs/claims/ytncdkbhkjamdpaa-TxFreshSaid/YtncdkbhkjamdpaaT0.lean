/- A transaction in memory (chapter 20): the program's and the reference's. -/
import Derived.Test.YtncdkbhkjamdpaaTP
import Derived.Test.YtncdkbhkjamdpaaD1
import Derived.Test.YtncdkbhkjamdpaaK5
namespace Go.Proofs.Ytncdkbhkjamdpaa
open Go.RowKit Go.Maps

def Ob.enc (f : Ob) : List Value := [vz f.ch, vz f.ix, vz f.cl, vz f.mn, .bool f.fr, vz f.at_, vz f.ty, vz f.sz, vu f.sr]
theorem Ob.enc_len (f : Ob) : f.enc.length = 9 := rfl
def Ob.val (f : Ob) : Value := .agg #[vz f.ch, vz f.ix, vz f.cl, vz f.mn, .bool f.fr, vz f.at_, vz f.ty, vz f.sz, vu f.sr]
theorem zero55 (w : World) : (zeroValue 55).run Try.prog w = .ok (noOb.val) w := by kernel_rfl
theorem info55 : (Try.prog.info? 55).map (fun i => (i.zero, i.size, i.bytes)) = some (some (.agg #[.int .i64 0, .int .i64 0, .int .i64 0, .int .i64 0, .bool false, .int .i64 0, .int .i64 0, .int .i64 0, .int .u64 0]), 9, 72) := by kernel_rfl
abbrev RdF (w : World) (v : Value) (l : List Ob) : Prop := Rd 9 Ob.enc w v l
def memF (L : List Ob) : Int → Option Value := fun k => (findF L k).map Ob.val

/-! ### Blocks of unlike kinds are apart -/
theorem own_blk {w : World} {base : Nat} {e : TypeId} {k : Nat} {v : Value} {n : Nat} {xs : List Value} (h : w.ownsRow base e k v n xs) {g : Nat} (hg : v.ownBlock = some g) : ∃ cur, w.heap[g]? = some (.cells cur e (0, 0)) := by
  rcases h.2 with ⟨rfl, _⟩ | ⟨g', cap, cur, rfl, _, hh, _⟩
  · cases hg
  · simp [Value.ownBlock] at hg
    subst hg
    exact ⟨cur, hh⟩
theorem own_ne {w : World} {base base' : Nat} {e e' : TypeId} {k k' : Nat} {v v' : Value} {n n' : Nat} {xs xs' : List Value} (h : w.ownsRow base e k v n xs) (h' : w.ownsRow base' e' k' v' n' xs') (he : e ≠ e') {g : Nat} (hg : v.ownBlock = some g) : v'.ownBlock ≠ some g := by
  intro hg'
  obtain ⟨c, h1⟩ := own_blk h hg
  obtain ⟨c', h2⟩ := own_blk h' hg'
  rw [h1] at h2
  simp only [Option.some.injEq, Obj.cells.injEq] at h2
  exact he h2.2.1
theorem own_ne_cells {w : World} {base : Nat} {e e' : TypeId} {k : Nat} {v : Value} {n : Nat} {xs : List Value} (h : w.ownsRow base e k v n xs) {b : Nat} {cs : Array Value} {fz : Nat × Nat} (hb : w.heap[b]? = some (.cells cs e' fz)) (he : e ≠ e') : v.ownBlock ≠ some b := by
  intro hg
  obtain ⟨c, h1⟩ := own_blk h hg
  rw [h1] at hb
  simp only [Option.some.injEq, Obj.cells.injEq] at hb
  exact he hb.2.1
theorem own_ne_map {w : World} {base : Nat} {e : TypeId} {k : Nat} {v : Value} {n : Nat} {xs : List Value} (h : w.ownsRow base e k v n xs) {b m : Nat} {f : Int → Option Value} (hb : OM w b m f) : v.ownBlock ≠ some b := by
  intro hg
  obtain ⟨c, h1⟩ := own_blk h hg
  obtain ⟨es, cc, h2⟩ := hb.blk
  rw [h1] at h2
  cases h2
theorem cells_ne_map {w : World} {t : Nat} {cs : Array Value} {e : TypeId} {fz : Nat × Nat} (ht : w.heap[t]? = some (.cells cs e fz)) {b m : Nat} {f : Int → Option Value} (hb : OM w b m f) : t ≠ b := by
  rintro rfl
  obtain ⟨es, cc, h2⟩ := hb.blk
  rw [ht] at h2
  cases h2
theorem cells_ne_cells {w : World} {t r : Nat} {cs cs' : Array Value} {e e' : TypeId} {fz fz' : Nat × Nat} (ht : w.heap[t]? = some (.cells cs e fz)) (hr : w.heap[r]? = some (.cells cs' e' fz')) (he : e ≠ e') : t ≠ r := by
  rintro rfl
  rw [ht] at hr
  simp only [Option.some.injEq, Obj.cells.injEq] at hr
  exact he hr.2.1
theorem ownBlk_lt {w : World} {base : Nat} {e : TypeId} {k : Nat} {v : Value} {n : Nat} {xs : List Value} (h : w.ownsRow base e k v n xs) {g : Nat} (hg : v.ownBlock = some g) : g < w.heap.size := (h.lt g hg).2
/-- A slice's block is the elder one's, or made behind a world. -/
def NewOr (w : World) (v v' : Value) : Prop := ∀ g, v'.ownBlock = some g → v.ownBlock = some g ∨ w.heap.size ≤ g
theorem NewOr.refl (w : World) (v : Value) : NewOr w v v := fun _ h => .inl h
theorem NewOr.trans {w w' : World} {v v' v'' : Value} (h : NewOr w v v') (h' : NewOr w' v' v'') (hw : w.heap.size ≤ w'.heap.size) : NewOr w v v'' := fun g hg => by
  rcases h' g hg with h1 | h1
  · exact h g h1
  · exact .inr (by omega)

/-! ### The program's transaction -/
structure TxT (w : World) (tb mb n : Nat) (wv gv : Value) (T : TS) : Prop where
  blk : w.heap[tb]? = some (.cells #[wv, .map (some mb), vz T.depth, .bool T.bad, gv, vz T.root, .bool T.is] 65 (0, 0))
  wo : w.ownsRow 0 25 2 wv T.words.length (flat Sp.enc T.words)
  om : OM w mb n (memF T.fresh)
  go : w.ownsRow 0 3 1 gv T.gone.length (T.gone.map vz)
/-- What a method of it may write. -/
def tw (tb mb : Nat) (gv : Value) : List Nat := tb :: mb :: gv.ownBlock.toList
section
variable {w w' : World} {tb mb n : Nat} {wv gv : Value} {T : TS}
theorem TxT.c0 (h : TxT w tb mb n wv gv T) : w.cell? ⟨tb, 0, none⟩ = some wv := cell_blk h.blk rfl
theorem TxT.c1 (h : TxT w tb mb n wv gv T) : w.cell? ⟨tb, 1, none⟩ = some (.map (some mb)) := cell_blk h.blk rfl
theorem TxT.c2 (h : TxT w tb mb n wv gv T) : w.cell? ⟨tb, 2, none⟩ = some (vz T.depth) := cell_blk h.blk rfl
theorem TxT.c3 (h : TxT w tb mb n wv gv T) : w.cell? ⟨tb, 3, none⟩ = some (.bool T.bad) := cell_blk h.blk rfl
theorem TxT.c4 (h : TxT w tb mb n wv gv T) : w.cell? ⟨tb, 4, none⟩ = some gv := cell_blk h.blk rfl
theorem TxT.c5 (h : TxT w tb mb n wv gv T) : w.cell? ⟨tb, 5, none⟩ = some (vz T.root) := cell_blk h.blk rfl
theorem TxT.c6 (h : TxT w tb mb n wv gv T) : w.cell? ⟨tb, 6, none⟩ = some (.bool T.is) := cell_blk h.blk rfl
theorem TxT.fz (h : TxT w tb mb n wv gv T) (j : Nat) : w.frozen? ⟨tb, j, none⟩ = false := frozen_blk h.blk
theorem TxT.lt (h : TxT w tb mb n wv gv T) : tb < w.heap.size := (Array.getElem?_eq_some_iff.1 h.blk).1
theorem TxT.rw_ (h : TxT w tb mb n wv gv T) : RdS w wv T.words := Rd.of_own Sp.enc_len h.wo rfl
theorem TxT.rg (h : TxT w tb mb n wv gv T) : RdI w gv T.gone := RdI.own h.go rfl
theorem TxT.size (h : TxT w tb mb n wv gv T) {n' : Nat} (hn : n ≤ n') : TxT w tb mb n' wv gv T := ⟨h.blk, h.wo, h.om.size hn, h.go⟩
theorem TxT.mono (h : TxT w tb mb n wv gv T) (hb : Below w.heap.size w w') : TxT w' tb mb n wv gv T :=
  ⟨hmono hb h.blk, ownsRow_below h.wo hb, h.om.kept (gb_below hb none) (by simp), ownsRow_below h.go hb⟩
theorem TxT.tm (h : TxT w tb mb n wv gv T) : tb ≠ mb := cells_ne_map h.blk h.om
theorem TxT.fr {bs : List Nat} (h : TxT w tb mb n wv gv T) (hf : Fr bs w w') (h1 : tb ∉ bs) (h2 : mb ∉ bs) (h3 : ∀ g, wv.ownBlock = some g → g ∉ bs) (h4 : ∀ g, gv.ownBlock = some g → g ∉ bs) : TxT w' tb mb n wv gv T :=
  ⟨(hf.block tb h.lt h1).trans h.blk, hf.own h.wo h3, hf.om h.om h2, hf.own h.go h4⟩
/-- A cell of the struct is written. -/
theorem TxT.set (h : TxT w tb mb n wv gv T) (j : Nat) (v : Value) (T' : TS) (he : (#[wv, .map (some mb), vz T.depth, .bool T.bad, gv, vz T.root, .bool T.is] : Array Value).setIfInBounds j v = #[wv, .map (some mb), vz T'.depth, .bool T'.bad, gv, vz T'.root, .bool T'.is])
    (hw : T'.words = T.words) (hf : T'.fresh = T.fresh) (hg : T'.gone = T.gone) : TxT (w.setCell ⟨tb, j, none⟩ v) tb mb n wv gv T' := by
  refine ⟨?_, ?_, ?_, ?_⟩
  · rw [← he]; exact heap_setCell_same w tb j _ 65 v h.blk
  · rw [hw]
    exact ownsRow_setCell_other h.wo (own_ne_cells h.wo h.blk (by decide)) _
  · rw [hf]
    exact h.om.kept (gb_setCell w ⟨tb, j, none⟩ v) (by have := h.tm; simpa using fun e => this e.symm)
  · rw [hg]
    exact ownsRow_setCell_other h.go (own_ne_cells h.go h.blk (by decide)) _
/-- The words are other ones. -/
theorem TxT.setW (h : TxT w tb mb n wv gv T) (l : List Sp) {base : Nat} {wv' : Value} (ho : w.ownsRow base 25 2 wv' l.length (flat Sp.enc l)) : TxT (w.setCell ⟨tb, 0, none⟩ wv') tb mb n wv' gv { T with words := l } := by
  refine ⟨?_, ?_, ?_, ?_⟩
  · have := heap_setCell_same w tb 0 _ 65 wv' h.blk
    simpa using this
  · exact ownsRow_base (ownsRow_setCell_other ho (own_ne_cells ho h.blk (by decide)) _) (Nat.zero_le _)
  · exact h.om.kept (gb_setCell w ⟨tb, 0, none⟩ wv') (by have := h.tm; simpa using fun e => this e.symm)
  · exact ownsRow_setCell_other h.go (own_ne_cells h.go h.blk (by decide)) _
/-- The freed ones are other ones. -/
theorem TxT.setG (h : TxT w tb mb n wv gv T) (l : List Int) {base : Nat} {gv' : Value} (ho : w.ownsRow base 3 1 gv' l.length (l.map vz)) : TxT (w.setCell ⟨tb, 4, none⟩ gv') tb mb n wv gv' { T with gone := l } := by
  refine ⟨?_, ?_, ?_, ?_⟩
  · have := heap_setCell_same w tb 4 _ 65 gv' h.blk
    simpa using this
  · exact ownsRow_setCell_other h.wo (own_ne_cells h.wo h.blk (by decide)) _
  · exact h.om.kept (gb_setCell w ⟨tb, 4, none⟩ gv') (by have := h.tm; simpa using fun e => this e.symm)
  · exact ownsRow_base (ownsRow_setCell_other ho (own_ne_cells ho h.blk (by decide)) _) (Nat.zero_le _)
/-- The map's block turns. -/
theorem TxT.turn {n' : Nat} {L : List Ob} (h : TxT w tb mb n wv gv T) (hg : w.grownBy w' (some mb)) (ho : OM w' mb n' (memF L)) : TxT w' tb mb n' wv gv { T with fresh := L } :=
  ⟨(hg.block tb h.lt (by simpa using h.tm)).trans h.blk, h.wo.kept hg (.inr (own_ne_map h.wo h.om)), ho, h.go.kept hg (.inr (own_ne_map h.go h.om))⟩
end

/-! ### The reference's transaction -/
structure RTx (w : World) (rb : Nat) (wv fv gv : Value) (R : TS) : Prop where
  blk : w.heap[rb]? = some (.cells #[vz R.depth, .bool R.bad, wv, fv, gv, vz R.root, .bool R.is] 47 (0, 0))
  wo : w.ownsRow 0 25 2 wv R.words.length (flat Sp.enc R.words)
  fo : w.ownsRow 0 55 9 fv R.fresh.length (flat Ob.enc R.fresh)
  go : w.ownsRow 0 3 1 gv R.gone.length (R.gone.map vz)
def rw' (rb : Nat) (wv gv : Value) : List Nat := rb :: (wv.ownBlock.toList ++ gv.ownBlock.toList)
section
variable {w w' : World} {rb : Nat} {wv fv gv : Value} {R : TS}
theorem RTx.c0 (h : RTx w rb wv fv gv R) : w.cell? ⟨rb, 0, none⟩ = some (vz R.depth) := cell_blk h.blk rfl
theorem RTx.c1 (h : RTx w rb wv fv gv R) : w.cell? ⟨rb, 1, none⟩ = some (.bool R.bad) := cell_blk h.blk rfl
theorem RTx.c2 (h : RTx w rb wv fv gv R) : w.cell? ⟨rb, 2, none⟩ = some wv := cell_blk h.blk rfl
theorem RTx.c3 (h : RTx w rb wv fv gv R) : w.cell? ⟨rb, 3, none⟩ = some fv := cell_blk h.blk rfl
theorem RTx.c4 (h : RTx w rb wv fv gv R) : w.cell? ⟨rb, 4, none⟩ = some gv := cell_blk h.blk rfl
theorem RTx.c5 (h : RTx w rb wv fv gv R) : w.cell? ⟨rb, 5, none⟩ = some (vz R.root) := cell_blk h.blk rfl
theorem RTx.c6 (h : RTx w rb wv fv gv R) : w.cell? ⟨rb, 6, none⟩ = some (.bool R.is) := cell_blk h.blk rfl
theorem RTx.fz (h : RTx w rb wv fv gv R) (j : Nat) : w.frozen? ⟨rb, j, none⟩ = false := frozen_blk h.blk
theorem RTx.lt (h : RTx w rb wv fv gv R) : rb < w.heap.size := (Array.getElem?_eq_some_iff.1 h.blk).1
theorem RTx.rw_ (h : RTx w rb wv fv gv R) : RdS w wv R.words := Rd.of_own Sp.enc_len h.wo rfl
theorem RTx.rf (h : RTx w rb wv fv gv R) : RdF w fv R.fresh := Rd.of_own Ob.enc_len h.fo rfl
theorem RTx.rg (h : RTx w rb wv fv gv R) : RdI w gv R.gone := RdI.own h.go rfl
theorem RTx.mono (h : RTx w rb wv fv gv R) (hb : Below w.heap.size w w') : RTx w' rb wv fv gv R := ⟨hmono hb h.blk, ownsRow_below h.wo hb, ownsRow_below h.fo hb, ownsRow_below h.go hb⟩
theorem RTx.fr {bs : List Nat} (h : RTx w rb wv fv gv R) (hf : Fr bs w w') (h1 : rb ∉ bs) (h2 : ∀ g, wv.ownBlock = some g → g ∉ bs) (h3 : ∀ g, fv.ownBlock = some g → g ∉ bs) (h4 : ∀ g, gv.ownBlock = some g → g ∉ bs) : RTx w' rb wv fv gv R :=
  ⟨(hf.block rb h.lt h1).trans h.blk, hf.own h.wo h2, hf.own h.fo h3, hf.own h.go h4⟩
theorem RTx.set (h : RTx w rb wv fv gv R) (j : Nat) (v : Value) (R' : TS) (he : (#[vz R.depth, .bool R.bad, wv, fv, gv, vz R.root, .bool R.is] : Array Value).setIfInBounds j v = #[vz R'.depth, .bool R'.bad, wv, fv, gv, vz R'.root, .bool R'.is])
    (hw : R'.words = R.words) (hf : R'.fresh = R.fresh) (hg : R'.gone = R.gone) : RTx (w.setCell ⟨rb, j, none⟩ v) rb wv fv gv R' := by
  refine ⟨?_, ?_, ?_, ?_⟩
  · rw [← he]; exact heap_setCell_same w rb j _ 47 v h.blk
  · rw [hw]; exact ownsRow_setCell_other h.wo (own_ne_cells h.wo h.blk (by decide)) _
  · rw [hf]; exact ownsRow_setCell_other h.fo (own_ne_cells h.fo h.blk (by decide)) _
  · rw [hg]; exact ownsRow_setCell_other h.go (own_ne_cells h.go h.blk (by decide)) _
theorem RTx.setW (h : RTx w rb wv fv gv R) (l : List Sp) {base : Nat} {wv' : Value} (ho : w.ownsRow base 25 2 wv' l.length (flat Sp.enc l)) : RTx (w.setCell ⟨rb, 2, none⟩ wv') rb wv' fv gv { R with words := l } := by
  refine ⟨?_, ?_, ?_, ?_⟩
  · have := heap_setCell_same w rb 2 _ 47 wv' h.blk
    simpa using this
  · exact ownsRow_base (ownsRow_setCell_other ho (own_ne_cells ho h.blk (by decide)) _) (Nat.zero_le _)
  · exact ownsRow_setCell_other h.fo (own_ne_cells h.fo h.blk (by decide)) _
  · exact ownsRow_setCell_other h.go (own_ne_cells h.go h.blk (by decide)) _
theorem RTx.setF (h : RTx w rb wv fv gv R) (l : List Ob) {base : Nat} {fv' : Value} (ho : w.ownsRow base 55 9 fv' l.length (flat Ob.enc l)) : RTx (w.setCell ⟨rb, 3, none⟩ fv') rb wv fv' gv { R with fresh := l } := by
  refine ⟨?_, ?_, ?_, ?_⟩
  · have := heap_setCell_same w rb 3 _ 47 fv' h.blk
    simpa using this
  · exact ownsRow_setCell_other h.wo (own_ne_cells h.wo h.blk (by decide)) _
  · exact ownsRow_base (ownsRow_setCell_other ho (own_ne_cells ho h.blk (by decide)) _) (Nat.zero_le _)
  · exact ownsRow_setCell_other h.go (own_ne_cells h.go h.blk (by decide)) _
theorem RTx.setG (h : RTx w rb wv fv gv R) (l : List Int) {base : Nat} {gv' : Value} (ho : w.ownsRow base 3 1 gv' l.length (l.map vz)) : RTx (w.setCell ⟨rb, 4, none⟩ gv') rb wv fv gv' { R with gone := l } := by
  refine ⟨?_, ?_, ?_, ?_⟩
  · have := heap_setCell_same w rb 4 _ 47 gv' h.blk
    simpa using this
  · exact ownsRow_setCell_other h.wo (own_ne_cells h.wo h.blk (by decide)) _
  · exact ownsRow_setCell_other h.fo (own_ne_cells h.fo h.blk (by decide)) _
  · exact ownsRow_base (ownsRow_setCell_other ho (own_ne_cells ho h.blk (by decide)) _) (Nat.zero_le _)
end

/-! ### Both, side by side -/
structure Both (w : World) (tb mb n rb : Nat) (wv gv rwv rfv rgv : Value) (T R : TS) : Prop where
  t : TxT w tb mb n wv gv T
  r : RTx w rb rwv rfv rgv R
  sw : ∀ g, wv.ownBlock = some g → rwv.ownBlock ≠ some g
  sg : ∀ g, gv.ownBlock = some g → rgv.ownBlock ≠ some g
section
variable {w w' : World} {tb mb n n' rb : Nat} {wv gv rwv rfv rgv : Value} {T R T' R' : TS}
theorem Both.mono (h : Both w tb mb n rb wv gv rwv rfv rgv T R) (hb : Below w.heap.size w w') : Both w' tb mb n rb wv gv rwv rfv rgv T R := ⟨h.t.mono hb, h.r.mono hb, h.sw, h.sg⟩
theorem mem_ob {v : Value} {g : Nat} (h : g ∈ v.ownBlock.toList) : v.ownBlock = some g := by simpa using h
/-- A method of the program's wrote. -/
theorem Both.stepT (h : Both w tb mb n rb wv gv rwv rfv rgv T R) {wv' gv' : Value} (ht : TxT w' tb mb n' wv' gv' T') (hf : Fr (tw tb mb gv) w w') (hw : NewOr w wv wv') (hg : NewOr w gv gv') : Both w' tb mb n' rb wv' gv' rwv rfv rgv T' R := by
  refine ⟨ht, h.r.fr hf ?_ ?_ ?_ ?_, ?_, ?_⟩
  · simp only [tw, List.mem_cons, not_or]
    exact ⟨(cells_ne_cells h.t.blk h.r.blk (by decide)).symm, cells_ne_map h.r.blk h.t.om, fun e => own_ne_cells h.t.go h.r.blk (by decide) (mem_ob e)⟩
  · intro g hg
    simp only [tw, List.mem_cons, not_or]
    exact ⟨fun e => own_ne_cells h.r.wo h.t.blk (by decide) (e ▸ hg), fun e => own_ne_map h.r.wo h.t.om (e ▸ hg), fun e => own_ne h.r.wo h.t.go (by decide) hg (mem_ob e)⟩
  · intro g hg
    simp only [tw, List.mem_cons, not_or]
    exact ⟨fun e => own_ne_cells h.r.fo h.t.blk (by decide) (e ▸ hg), fun e => own_ne_map h.r.fo h.t.om (e ▸ hg), fun e => own_ne h.r.fo h.t.go (by decide) hg (mem_ob e)⟩
  · intro g hg
    simp only [tw, List.mem_cons, not_or]
    exact ⟨fun e => own_ne_cells h.r.go h.t.blk (by decide) (e ▸ hg), fun e => own_ne_map h.r.go h.t.om (e ▸ hg), fun e => h.sg g (mem_ob e) hg⟩
  · intro g hg he
    rcases hw g hg with h1 | h1
    · exact h.sw g h1 he
    · have := ownBlk_lt h.r.wo he; omega
  · intro g hg' he
    rcases hg g hg' with h1 | h1
    · exact h.sg g h1 he
    · have := ownBlk_lt h.r.go he; omega
/-- A method of the reference's wrote. -/
theorem Both.stepR (h : Both w tb mb n rb wv gv rwv rfv rgv T R) {rwv' rfv' rgv' : Value} (hr : RTx w' rb rwv' rfv' rgv' R') (hf : Fr (rw' rb rwv rgv) w w') (hw : NewOr w rwv rwv') (hg : NewOr w rgv rgv') : Both w' tb mb n rb wv gv rwv' rfv' rgv' T R' := by
  refine ⟨h.t.fr hf ?_ ?_ ?_ ?_, hr, ?_, ?_⟩
  · simp only [rw', List.mem_cons, List.mem_append, not_or]
    exact ⟨cells_ne_cells h.t.blk h.r.blk (by decide), fun e => own_ne_cells h.r.wo h.t.blk (by decide) (mem_ob e), fun e => own_ne_cells h.r.go h.t.blk (by decide) (mem_ob e)⟩
  · simp only [rw', List.mem_cons, List.mem_append, not_or]
    exact ⟨(cells_ne_map h.r.blk h.t.om).symm, fun e => own_ne_map h.r.wo h.t.om (mem_ob e), fun e => own_ne_map h.r.go h.t.om (mem_ob e)⟩
  · intro g hg
    simp only [rw', List.mem_cons, List.mem_append, not_or]
    exact ⟨fun e => own_ne_cells h.t.wo h.r.blk (by decide) (e ▸ hg), fun e => h.sw g hg (mem_ob e), fun e => own_ne h.t.wo h.r.go (by decide) hg (mem_ob e)⟩
  · intro g hg
    simp only [rw', List.mem_cons, List.mem_append, not_or]
    exact ⟨fun e => own_ne_cells h.t.go h.r.blk (by decide) (e ▸ hg), fun e => own_ne h.t.go h.r.wo (by decide) hg (mem_ob e), fun e => h.sg g hg (mem_ob e)⟩
  · intro g hg he
    rcases hw g he with h1 | h1
    · exact h.sw g hg h1
    · have := ownBlk_lt h.t.wo hg; omega
  · intro g hg' he
    rcases hg g he with h1 | h1
    · exact h.sg g hg' h1
    · have := ownBlk_lt h.t.go hg'; omega
end
end Go.Proofs.Ytncdkbhkjamdpaa
