/- Chapter 20: an operation; both transactions side by side, whatever their slices; what each step keeps. -/
import Derived.Test.YtncdkbhkjamdpaaTO
import Derived.Test.YtncdkbhkjamdpaaT10
import Derived.Test.YtncdkbhkjamdpaaT8
import Derived.Test.YtncdkbhkjamdpaaT9
namespace Go.Proofs.Ytncdkbhkjamdpaa
open Go.RowKit Go.Maps

/-! ### Alike, behind k steps -/
theorem rf_len {l : List Sp} : ∀ {p : Int}, RF p l → (l.length : Int) ≤ sumM l := by
  induction l with
  | nil => intro p _; rw [sumM_nil]; simp
  | cons s l ih =>
    intro p h
    obtain ⟨_, h2, h3⟩ := h
    have := ih h3
    rw [sumM_cons, List.length_cons]
    omega
structure Alike (k n : Nat) (T R : TS) : Prop where
  ok : TOk T
  sim : TSim T R
  bd : BdL R.words
  rl : R.words.length ≤ 60 * k
  fl : T.fresh.length ≤ n
  nk : n ≤ k
  gl : T.gone.length ≤ k
  d0 : 0 ≤ T.depth
  d1 : T.depth ≤ k
section
variable {k n : Nat} {T R : TS}
theorem Alike.up (h : Alike k n T R) : Alike (k + 1) n T R := ⟨h.ok, h.sim, h.bd, by have := h.rl; omega, h.fl, by have := h.nk; omega, by have := h.gl; omega, h.d0, by have := h.d1; omega⟩
theorem Alike.len (h : Alike k n T R) (hk : k ≤ 1000) : TLen T n := by
  have h1 := rf_len h.ok.rf
  have h2 := sum_win h.ok.rf h.ok.win (by decide)
  exact ⟨by omega, h.fl, by have := h.nk; omega, by have := h.gl; omega⟩
theorem Alike.rf (h : Alike k n T R) : ∀ f ∈ R.fresh, f.Ok := by rw [h.sim.fresh]; exact h.ok.fok
theorem Alike.rn (h : Alike k n T R) (hk : k ≤ 1000) : R.fresh.length ≤ 10000 := by rw [h.sim.fresh]; have := h.fl; have := h.nk; omega
theorem Alike.rw_ (h : Alike k n T R) (hk : k ≤ 100) : R.words.length ≤ 10000 := by have := h.rl; omega
theorem al_new : Alike 0 0 newT newT := ⟨newT_ok, ⟨fun _ => Iff.rfl, (fun s hs => by cases hs), rfl, rfl, rfl, rfl, rfl, rfl⟩, (fun s hs => by cases hs), by decide, by decide, by decide, by decide, by decide, by decide⟩
theorem al_begin (h : Alike k n T R) : Alike (k + 1) n { T with depth := T.depth + 1 } { R with depth := T.depth + 1 } := by
  obtain ⟨⟨a1, a2, a3, a4⟩, ⟨b1, b2, b3, b4, b5, b6, b7, b8⟩, c, d, e, f, g, i, j⟩ := h.up
  have j' := h.d1
  exact ⟨⟨a1, a2, a3, a4⟩, ⟨b1, b2, b3, rfl, b5, b6, b7, b8⟩, c, d, e, f, g, (by show 0 ≤ T.depth + 1; omega), (by show T.depth + 1 ≤ _; omega)⟩
theorem al_end (h : Alike k n T R) : Alike (k + 1) n { T with depth := max 0 (T.depth - 1) } { R with depth := max 0 (T.depth - 1) } := by
  obtain ⟨⟨a1, a2, a3, a4⟩, ⟨b1, b2, b3, b4, b5, b6, b7, b8⟩, c, d, e, f, g, i, j⟩ := h.up
  exact ⟨⟨a1, a2, a3, a4⟩, ⟨b1, b2, b3, rfl, b5, b6, b7, b8⟩, c, d, e, f, g, (by show 0 ≤ max 0 (T.depth - 1); omega), (by show max 0 (T.depth - 1) ≤ _; omega)⟩
theorem al_spoil (h : Alike k n T R) : Alike (k + 1) n { T with bad := true } { R with bad := true } := by
  obtain ⟨⟨a1, a2, a3, a4⟩, ⟨b1, b2, b3, b4, b5, b6, b7, b8⟩, c, d, e, f, g, i, j⟩ := h.up
  exact ⟨⟨a1, a2, a3, a4⟩, ⟨b1, b2, b3, b4, rfl, b6, b7, b8⟩, c, d, e, f, g, i, j⟩
theorem al_name (h : Alike k n T R) (x : Int) : Alike (k + 1) n { T with root := x, is := true } { R with root := x, is := true } := by
  obtain ⟨⟨a1, a2, a3, a4⟩, ⟨b1, b2, b3, b4, b5, b6, b7, b8⟩, c, d, e, f, g, i, j⟩ := h.up
  exact ⟨⟨a1, a2, a3, a4⟩, ⟨b1, b2, b3, b4, b5, b6, rfl, rfl⟩, c, d, e, f, g, i, j⟩
theorem rnote_bd {R : TS} (h : BdL R.words) (s : Sp) (hs : Small s) : BdL (rnoteT R s).words := by
  intro x hx
  rcases List.mem_append.1 hx with hx | hx
  · exact h x hx
  · have := rOut_bd R s s.m.toNat x hx
    have h1 := hs.f0; have h2 := hs.f1; have h3 := hs.m0; have h4 := hs.m1
    exact ⟨by omega, by omega, by omega, by omega⟩
theorem al_note (h : Alike k n T R) (s : Sp) (hs : Small s) : noteO T s = rnoteO R s ∧ Alike (k + 1) n (noteT T s) (rnoteT R s) := by
  obtain ⟨h1, h2⟩ := note_sim h.ok h.sim s hs
  have hm := hs.m1; have hm0 := hs.m0
  have hl := rOut_len R s s.m.toNat
  refine ⟨h1, ⟨noteT_ok h.ok s hs, h2, rnote_bd h.bd s hs, ?_, h.fl, by have := h.nk; omega, (by have := h.gl; show T.gone.length ≤ _; omega), h.d0, (by have := h.d1; show T.depth ≤ _; omega)⟩⟩
  show (R.words ++ rnoteO R s).length ≤ _
  have := h.rl
  rw [List.length_append, rnoteO]
  omega
theorem al_make (h : Alike k n T R) {f : Ob} (hf : f.Ok) : Alike (k + 1) (n + 1) (makeT T f) (makeT R f) :=
  ⟨make_ok h.ok hf, make_sim h.sim f, h.bd, (by have := h.rl; show R.words.length ≤ _; omega), (by have := mkL_len T.fresh f; have := h.fl; show (mkL T.fresh f).length ≤ _; omega), by have := h.nk; omega, (by have := h.gl; show T.gone.length ≤ _; omega), h.d0, (by have := h.d1; show T.depth ≤ _; omega)⟩
theorem al_unmake (h : Alike k n T R) (x : Int) : Alike (k + 1) n (unmakeT T x) (unmakeT R x) :=
  ⟨unmake_ok h.ok x, unmake_sim h.sim x, h.bd, (by have := h.rl; show R.words.length ≤ _; omega), (by have := rm_len T.fresh x; have := h.fl; show (rmL T.fresh x).length ≤ _; omega), by have := h.nk; omega, (by have := h.gl; show T.gone.length ≤ _; omega), h.d0, (by have := h.d1; show T.depth ≤ _; omega)⟩
theorem al_free (h : Alike k n T R) (x : Int) : Alike (k + 1) n (freeT T x) (freeT R x) := by
  have h1 := (free_sim h.sim x).1
  have h2 := free_ok h.ok x
  have e1 : (freeT T x).fresh = T.fresh ∧ (freeT T x).depth = T.depth ∧ (freeT T x).gone.length ≤ T.gone.length + 1 := by
    rw [freeT]; cases freedB T x <;> simp
  have e2 : (freeT R x).words = R.words := by rw [freeT]; cases freedB R x <;> rfl
  exact ⟨h2, h1, by rw [e2]; exact h.bd, by rw [e2]; have := h.rl; omega, by rw [e1.1]; exact h.fl, by have := h.nk; omega, by have := h.gl; omega, by rw [e1.2.1]; exact h.d0, by rw [e1.2.1]; have := h.d1; omega⟩
end

/-! ### Both, in memory, behind a world -/
structure PB (w0 w : World) (tb mb rb n : Nat) (wv gv rwv rfv rgv : Value) (T R : TS) : Prop where
  both : Both w tb mb n rb wv gv rwv rfv rgv T R
  g : ∀ g, gv.ownBlock = some g → w0.heap.size ≤ g
  rw_ : ∀ g, rwv.ownBlock = some g → w0.heap.size ≤ g
  rg : ∀ g, rgv.ownBlock = some g → w0.heap.size ≤ g
  h1 : w0.heap.size ≤ tb
  h2 : w0.heap.size ≤ mb
  h3 : w0.heap.size ≤ rb
  b : Below w0.heap.size w0 w
structure PE (w0 : World) (tb mb rb k : Nat) (w : World) : Prop where
  ex : ∃ n wv gv rwv rfv rgv T R, PB w0 w tb mb rb n wv gv rwv rfv rgv T R ∧ Alike k n T R
section
variable {w0 w w' : World} {tb mb rb n n' : Nat} {wv gv rwv rfv rgv : Value} {T T' R R' : TS}
theorem PB.mono (h : PB w0 w tb mb rb n wv gv rwv rfv rgv T R) (hb : Below w.heap.size w w') : PB w0 w' tb mb rb n wv gv rwv rfv rgv T R :=
  ⟨h.both.mono hb, h.g, h.rw_, h.rg, h.h1, h.h2, h.h3, btr h.b hb⟩
theorem newOr_le {w0 w : World} {v v' : Value} (h : NewOr w v v') (hv : ∀ g, v.ownBlock = some g → w0.heap.size ≤ g) (hb : w0.heap.size ≤ w.heap.size) : ∀ g, v'.ownBlock = some g → w0.heap.size ≤ g := fun g hg => by
  rcases h g hg with h1 | h1
  · exact hv g h1
  · omega
theorem PB.sT (h : PB w0 w tb mb rb n wv gv rwv rfv rgv T R) (hr : TRes w w' tb mb n' wv gv T') : ∃ wv' gv', PB w0 w' tb mb rb n' wv' gv' rwv rfv rgv T' R := by
  obtain ⟨⟨wv', gv', ht, hw, hg⟩, hf⟩ := hr
  refine ⟨wv', gv', h.both.stepT ht hf hw hg, newOr_le hg h.g h.b.size, h.rw_, h.rg, h.h1, h.h2, h.h3, hf.below h.b fun b hb => ?_⟩
  simp only [tw, List.mem_cons] at hb
  rcases hb with rfl | rfl | hb
  · exact h.h1
  · exact h.h2
  · exact h.g b (mem_ob hb)
theorem PB.sR (h : PB w0 w tb mb rb n wv gv rwv rfv rgv T R) (hr : RtRes w w' rb rwv rgv R') : ∃ rwv' rfv' rgv', PB w0 w' tb mb rb n wv gv rwv' rfv' rgv' T R' := by
  obtain ⟨⟨rwv', rfv', rgv', ht, hw, hg⟩, hf⟩ := hr
  refine ⟨rwv', rfv', rgv', h.both.stepR ht hf hw hg, h.g, newOr_le hw h.rw_ h.b.size, newOr_le hg h.rg h.b.size, h.h1, h.h2, h.h3, hf.below h.b fun b hb => ?_⟩
  simp only [rw', List.mem_cons, List.mem_append] at hb
  rcases hb with rfl | hb | hb
  · exact h.h3
  · exact h.rw_ b (mem_ob hb)
  · exact h.rg b (mem_ob hb)
theorem RtRes.same {w w' : World} {rb : Nat} {wv fv gv : Value} {R : TS} (h : RTx w' rb wv fv gv R) (hf : Fr (rw' rb wv gv) w w') : RtRes w w' rb wv gv R := ⟨⟨wv, fv, gv, h, NewOr.refl _ _, NewOr.refl _ _⟩, hf⟩
/-- A row that is no transaction's own stays. -/
theorem PB.keepT (h : PB w0 w tb mb rb n wv gv rwv rfv rgv T R) (hr : TRes w w' tb mb n' wv gv T') {base : Nat} {e : TypeId} {k : Nat} {v : Value} {m : Nat} {xs : List Value} (ho : w.ownsRow base e k v m xs) (h1 : e ≠ 65) (h2 : e ≠ 3) : w'.ownsRow base e k v m xs := by
  refine hr.fr.own ho fun b hb => ?_
  simp only [tw, List.mem_cons, not_or]
  exact ⟨fun q => own_ne_cells ho h.both.t.blk h1 (q ▸ hb), fun q => own_ne_map ho h.both.t.om (q ▸ hb), fun q => own_ne ho h.both.t.go h2 hb (mem_ob q)⟩
theorem PB.keepR (h : PB w0 w tb mb rb n wv gv rwv rfv rgv T R) (hr : RtRes w w' rb rwv rgv R') {base : Nat} {e : TypeId} {k : Nat} {v : Value} {m : Nat} {xs : List Value} (ho : w.ownsRow base e k v m xs) (h1 : e ≠ 47) (h2 : e ≠ 3) (h3 : ∀ g, rwv.ownBlock = some g → v.ownBlock ≠ some g) : w'.ownsRow base e k v m xs := by
  refine hr.fr.own ho fun b hb => ?_
  simp only [rw', List.mem_cons, List.mem_append, not_or]
  exact ⟨fun q => own_ne_cells ho h.both.r.blk h1 (q ▸ hb), fun q => h3 b (mem_ob q) hb, fun q => own_ne ho h.both.r.go h2 hb (mem_ob q)⟩
end

/-! ### Steps that do writes itself -/
theorem al_begin' {k n : Nat} {T R : TS} (h : Alike k n T R) {d : Int} (hd : T.depth = d) : Alike (k + 1) n { T with depth := T.depth + 1 } { R with depth := d + 1 } := by subst hd; exact al_begin h
theorem al_end' {k n : Nat} {T R : TS} (h : Alike k n T R) {q : Int} (hd : max 0 (T.depth - 1) = q) : Alike (k + 1) n { T with depth := max 0 (T.depth - 1) } { R with depth := q } := by subst hd; exact al_end h
theorem frR {w w' : World} {rb : Nat} {wv fv gv : Value} {R : TS} (h : RTx w rb wv fv gv R) (hg : w.grownBy w' gv.ownBlock) : w'.heap[rb]? = some (.cells #[vz R.depth, .bool R.bad, wv, fv, gv, vz R.root, .bool R.is] 47 (0, 0)) :=
  (hg.block rb h.lt (by have := own_ne_cells h.go h.blk (by decide); exact fun e => this e.symm)).trans h.blk
theorem RTx.growG {w w' : World} {rb : Nat} {wv fv gv gv' : Value} {R : TS} (h : RTx w rb wv fv gv R) (hg : w.grownBy w' gv.ownBlock) (l : List Int) (ho : w'.ownsRow 0 3 1 gv' l.length (l.map vz)) : RTx (w'.setCell ⟨rb, 4, none⟩ gv') rb wv fv gv' { R with gone := l } := by
  have hb := frR h hg
  have hwo := kept_row h.wo h.go (by decide) hg
  have hfo := kept_row h.fo h.go (by decide) hg
  refine ⟨?_, ?_, ?_, ?_⟩
  · have := heap_setCell_same w' rb 4 _ 47 gv' hb
    simpa using this
  · exact ownsRow_setCell_other hwo (own_ne_cells hwo hb (by decide)) _
  · exact ownsRow_setCell_other hfo (own_ne_cells hfo hb (by decide)) _
  · exact ownsRow_setCell_other ho (own_ne_cells ho hb (by decide)) _
theorem PE.of {w0 w : World} {tb mb rb k n : Nat} {wv gv rwv rfv rgv : Value} {T R : TS} (h : PB w0 w tb mb rb n wv gv rwv rfv rgv T R) (ha : Alike k n T R) : PE w0 tb mb rb k w := ⟨⟨_, _, _, _, _, _, _, _, h, ha⟩⟩
theorem PB.set {w0 w : World} {tb mb rb n : Nat} {wv gv rwv rfv rgv : Value} {T R R' : TS} (h : PB w0 w tb mb rb n wv gv rwv rfv rgv T R) (j : Nat) (v : Value) (hr : RTx (w.setCell ⟨rb, j, none⟩ v) rb rwv rfv rgv R') : PB w0 (w.setCell ⟨rb, j, none⟩ v) tb mb rb n wv gv rwv rfv rgv T R' :=
  ⟨h.both.stepR hr (Fr.of_gb (gb_setCell _ ⟨rb, j, none⟩ _) (rw_rb _ _ _)) (NewOr.refl _ _) (NewOr.refl _ _), h.g, h.rw_, h.rg, h.h1, h.h2, h.h3, (Fr.of_gb (bs := [rb]) (gb_setCell _ ⟨rb, j, none⟩ _) (by simp)).below h.b (by intro b hb; simp at hb; subst hb; exact h.h3)⟩
end Go.Proofs.Ytncdkbhkjamdpaa
