/- Chapter 20, in plain Lean: a transaction and the reference's go alike; what was noted, and made. -/
import Derived.Test.YtncdkbhkjamdpaaL8
namespace Go.Proofs.Ytncdkbhkjamdpaa

/-! ### A transaction, in plain Lean: the program's and the reference's -/
structure Ob where
  ch : Int
  ix : Int
  cl : Int
  mn : Int
  fr : Bool
  at_ : Int
  ty : Int
  sz : Int
  sr : Int
deriving DecidableEq, Inhabited
def noOb : Ob := ⟨0, 0, 0, 0, false, 0, 0, 0, 0⟩
def Ob.sp (f : Ob) : Sp := ⟨f.at_, f.sz + 2⟩
structure Ob.Ok (f : Ob) : Prop where
  a0 : 0 ≤ f.at_
  a1 : f.at_ ≤ 200
  a2 : f.at_ % 20 = 0
  s0 : 0 ≤ f.sz
  s1 : f.sz ≤ 18
structure TS where
  depth : Int
  bad : Bool
  words : List Sp
  fresh : List Ob
  gone : List Int
  root : Int
  is : Bool
def newT : TS := ⟨0, false, [], [], [], 0, false⟩
def atB (k : Int) (f : Ob) : Bool := f.at_ == k
def findF (L : List Ob) (k : Int) : Option Ob := L.find? (atB k)
def rmL (L : List Ob) (k : Int) : List Ob := L.filter fun f => !atB k f
def insF (f : Ob) : List Ob → List Ob
  | [] => [f]
  | x :: l => if f.at_ < x.at_ then f :: x :: l else x :: insF f l
def mkL (L : List Ob) (f : Ob) : List Ob := insF f (rmL L f.at_)
def Up (L : List Ob) : Prop := L.Pairwise fun a b => a.at_ < b.at_
theorem rm_up {L : List Ob} (h : Up L) (k : Int) : Up (rmL L k) := h.filter _
theorem rm_mem {L : List Ob} {k : Int} {f : Ob} : f ∈ rmL L k ↔ f ∈ L ∧ f.at_ ≠ k := by simp [rmL, atB]
theorem ins_mem {f x : Ob} {L : List Ob} : x ∈ insF f L ↔ x = f ∨ x ∈ L := by
  induction L with
  | nil => simp [insF]
  | cons y l ih =>
    rw [insF]
    split
    · simp
    · rw [List.mem_cons, ih, List.mem_cons]
      constructor
      · rintro (h | h | h)
        · exact .inr (.inl h)
        · exact .inl h
        · exact .inr (.inr h)
      · rintro (h | h | h)
        · exact .inr (.inl h)
        · exact .inl h
        · exact .inr (.inr h)
theorem ins_up {f : Ob} {L : List Ob} (h : Up L) (hn : ∀ x ∈ L, x.at_ ≠ f.at_) : Up (insF f L) := by
  induction L with
  | nil => simp [insF, Up]
  | cons y l ih =>
    rw [Up, List.pairwise_cons] at h
    rw [insF]
    split
    · rename_i hlt
      rw [Up, List.pairwise_cons, List.pairwise_cons]
      refine ⟨fun x hx => ?_, h.1, h.2⟩
      rcases List.mem_cons.1 hx with rfl | hx
      · exact hlt
      · have := h.1 x hx; omega
    · rename_i hlt
      rw [Up, List.pairwise_cons]
      refine ⟨fun x hx => ?_, ih h.2 fun x hx => hn x (List.mem_cons_of_mem _ hx)⟩
      rcases ins_mem.1 hx with rfl | hx
      · have := hn y (by simp); omega
      · exact h.1 x hx
theorem mk_up {L : List Ob} (h : Up L) (f : Ob) : Up (mkL L f) := ins_up (rm_up h _) fun _ hx => (rm_mem.1 hx).2
theorem mk_mem {L : List Ob} {f x : Ob} : x ∈ mkL L f ↔ x = f ∨ (x ∈ L ∧ x.at_ ≠ f.at_) := by rw [mkL, ins_mem, rm_mem]
theorem find_some_iff {L : List Ob} (h : Up L) {k : Int} {f : Ob} : findF L k = some f ↔ f ∈ L ∧ f.at_ = k := by
  constructor
  · intro hf
    exact ⟨List.mem_of_find?_eq_some hf, by have := List.find?_some hf; simpa [atB] using this⟩
  · rintro ⟨hf, rfl⟩
    induction L with
    | nil => cases hf
    | cons y l ih =>
      rw [Up, List.pairwise_cons] at h
      rw [findF, List.find?_cons]
      rcases List.mem_cons.1 hf with rfl | hf
      · simp [atB]
      · have := h.1 f hf
        rw [show atB f.at_ y = false by simp [atB]; omega]
        exact ih h.2 hf
theorem find_ext {L M : List Ob} (hL : Up L) (hM : Up M) {k j : Int} (h : ∀ f, (f ∈ L ∧ f.at_ = k) ↔ (f ∈ M ∧ f.at_ = j)) : findF L k = findF M j := by
  cases h1 : findF L k with
  | some f => rw [find_some_iff hL, h, ← find_some_iff hM] at h1; exact h1.symm
  | none =>
    cases h2 : findF M j with
    | none => rfl
    | some f => rw [find_some_iff hM, ← h, ← find_some_iff hL, h1] at h2; cases h2
theorem find_mk {L : List Ob} (h : Up L) (f : Ob) (k : Int) : findF (mkL L f) k = if k = f.at_ then some f else findF L k := by
  split
  · rename_i hk
    exact (find_some_iff (mk_up h f)).2 ⟨mk_mem.2 (.inl rfl), hk.symm⟩
  · rename_i hk
    refine find_ext (mk_up h f) h fun x => ?_
    rw [mk_mem]
    constructor
    · rintro ⟨rfl | hx, rfl⟩
      · exact absurd rfl hk
      · exact ⟨hx.1, rfl⟩
    · rintro ⟨hx, rfl⟩
      exact ⟨.inr ⟨hx, hk⟩, rfl⟩
theorem find_rm {L : List Ob} (h : Up L) (j k : Int) : findF (rmL L j) k = if k = j then none else findF L k := by
  split
  · rename_i hk
    subst hk
    cases h1 : findF (rmL L k) k with
    | none => rfl
    | some f => rw [find_some_iff (rm_up h _), rm_mem] at h1; exact absurd h1.2 h1.1.2
  · rename_i hk
    refine find_ext (rm_up h _) h fun x => ?_
    rw [rm_mem]
    constructor
    · rintro ⟨hx, rfl⟩; exact ⟨hx.1, rfl⟩
    · rintro ⟨hx, rfl⟩; exact ⟨⟨hx, hk⟩, rfl⟩
theorem rm_len (L : List Ob) (k : Int) : (rmL L k).length ≤ L.length := List.length_filter_le _ _
theorem ins_len (f : Ob) (L : List Ob) : (insF f L).length = L.length + 1 := by
  induction L with
  | nil => rfl
  | cons y l ih => rw [insF]; split <;> simp [ih]
theorem mkL_len (L : List Ob) (f : Ob) : (mkL L f).length ≤ L.length + 1 := by rw [mkL, ins_len]; have := rm_len L f.at_; omega

/-! ### The words -/
def spsF (L : List Ob) : List Sp := L.map Ob.sp
def allT (T : TS) : List Sp := (spsF T.fresh).foldl addW T.words
def noteO (T : TS) (s : Sp) : List Sp := gapsL (allT T) s
def noteT (T : TS) (s : Sp) : TS := { T with words := (noteO T s).foldl addW T.words }
def mayT (T : TS) (s : Sp) : Bool := coversB (allT T) s
def ownB (L : List Ob) (y : Int) : Bool := hasB (spsF L) y
/-- The reference's Note, word by word. -/
def rOut (R : TS) (s : Sp) : Nat → List Sp
  | 0 => []
  | k + 1 => if ownB R.fresh (s.f + k) || hasB R.words (s.f + k) then rOut R s k else
      match (rOut R s k).getLast? with
      | some z => if z.f + z.m = s.f + k then bump (rOut R s k) else rOut R s k ++ [⟨s.f + k, 1⟩]
      | none => rOut R s k ++ [⟨s.f + k, 1⟩]
def rnoteO (R : TS) (s : Sp) : List Sp := rOut R s s.m.toNat
def rnoteT (R : TS) (s : Sp) : TS := { R with words := R.words ++ rnoteO R s }
def rmayB (R : TS) (s : Sp) (k : Nat) : Bool := (List.range k).all fun j => ownB R.fresh (s.f + j) || hasB R.words (s.f + j)
def rnotedL (R : TS) (most : Int) : List Sp := ofL 0 most R.words ⟨0, 0⟩ 0
structure TOk (T : TS) : Prop where
  rf : RF (-1) T.words
  win : Win 0 260 T.words
  up : Up T.fresh
  fok : ∀ f ∈ T.fresh, f.Ok
structure TSim (T R : TS) : Prop where
  words : ∀ y, Has T.words y ↔ Has R.words y
  win : Win 0 260 R.words
  fresh : R.fresh = T.fresh
  depth : R.depth = T.depth
  bad : R.bad = T.bad
  gone : R.gone = T.gone
  root : R.root = T.root
  is : R.is = T.is
structure Small (s : Sp) : Prop where
  f0 : 0 ≤ s.f
  f1 : s.f ≤ 200
  m0 : 0 ≤ s.m
  m1 : s.m ≤ 60
theorem sps_win {L : List Ob} (h : ∀ f ∈ L, f.Ok) : Win 0 260 (spsF L) := by
  intro s hs
  obtain ⟨f, hf, rfl⟩ := List.mem_map.1 hs
  have := h f hf
  have := this.a0; have := (h f hf).a1; have := (h f hf).s1
  exact ⟨by simp only [Ob.sp]; omega, by simp only [Ob.sp]; omega⟩
theorem all_ok {T : TS} (h : TOk T) : RF (-1) (allT T) ∧ Win 0 260 (allT T) ∧ ∀ y, Has (allT T) y ↔ Has T.words y ∨ Has (spsF T.fresh) y :=
  fold_ok (by decide) (by decide) (by decide) (spsF T.fresh) T.words h.rf h.win (sps_win h.fok)
theorem noteO_ok {T : TS} (h : TOk T) (s : Sp) (_ : Small s) : RF (s.f - 1) (noteO T s) ∧ Win s.f (s.f + s.m) (noteO T s) ∧ ∀ y, Has (noteO T s) y ↔ (s.f ≤ y ∧ y < s.f + s.m) ∧ ¬ (Has T.words y ∨ Has (spsF T.fresh) y) := by
  obtain ⟨a, _, c⟩ := all_ok h
  obtain ⟨d, e, f⟩ := gapsL_ok (s := s) a (Int.le_refl _) (Int.le_refl _)
  exact ⟨d, e, fun y => by rw [noteO, f, c]⟩
theorem win_mono {lo hi lo' hi' : Int} {l : List Sp} (h : Win lo hi l) (h1 : lo' ≤ lo) (h2 : hi ≤ hi') : Win lo' hi' l := fun s hs => by have := h s hs; omega
theorem noteT_words {T : TS} (h : TOk T) (s : Sp) (hs : Small s) : RF (-1) (noteT T s).words ∧ Win 0 260 (noteT T s).words ∧ ∀ y, Has (noteT T s).words y ↔ Has T.words y ∨ Has (noteO T s) y := by
  obtain ⟨_, b, _⟩ := noteO_ok h s hs
  have h1 := hs.f0; have h2 := hs.f1; have h3 := hs.m1
  exact fold_ok (by decide) (by decide) (by decide) (noteO T s) T.words h.rf h.win (win_mono b h1 (by omega))
theorem noteT_ok {T : TS} (h : TOk T) (s : Sp) (hs : Small s) : TOk (noteT T s) := by
  obtain ⟨a, b, _⟩ := noteT_words h s hs
  exact ⟨a, b, h.up, h.fok⟩
/-- The reference's list is Of's. -/
theorem rOut_of (R : TS) (s : Sp) (k : Nat) (hk : (k : Int) ≤ s.m) : rOut R s k = (ofGo s.f (R.words ++ spsF R.fresh) s 1 k).1 := by
  induction k with
  | zero => rfl
  | succ k ih =>
    obtain ⟨_, _, h3⟩ := of_ok s.f (R.words ++ spsF R.fresh) s 1 k
    have ih := ih (by omega)
    rw [rOut, ih, ofGo, ofStep]
    generalize ofGo s.f (R.words ++ spsF R.fresh) s 1 k = st at *
    obtain ⟨out, op⟩ := st
    dsimp only at h3 ⊢
    have hin : inB s (s.f + k) = true := by rw [inB_iff]; omega
    have hisb : isB (R.words ++ spsF R.fresh) s 1 (s.f + k) = !(ownB R.fresh (s.f + k) || hasB R.words (s.f + k)) := by
      rw [isB, if_pos rfl, hin, Bool.true_and, ownB]
      congr 1
      simp only [hasB, List.any_append]
      rw [Bool.or_comm]
    rw [hisb]
    cases ho : (ownB R.fresh (s.f + k) || hasB R.words (s.f + k)) with
    | true => rfl
    | false =>
      simp only [Bool.not_false, if_true, Bool.false_eq_true, if_false]
      cases op with
      | true =>
        simp only [if_true] at h3 ⊢
        obtain ⟨ys, z, rfl, hz⟩ := h3
        simp [hz]
      | false =>
        simp only [Bool.false_eq_true, if_false] at h3 ⊢
        cases hl : out.getLast? with
        | none => rfl
        | some z =>
          obtain ⟨ys, rfl⟩ := List.getLast?_eq_some_iff.1 hl
          rw [lastE_concat] at h3
          simp only
          rw [if_neg (by omega)]
theorem rOut_len (R : TS) (s : Sp) (k : Nat) : (rOut R s k).length ≤ k := by
  induction k with
  | zero => simp [rOut]
  | succ k ih =>
    rw [rOut]
    have hb : ∀ l : List Sp, (bump l).length = l.length := by
      intro l
      rw [bump]
      cases h : l.getLast? with
      | none => rfl
      | some z => obtain ⟨ys, rfl⟩ := List.getLast?_eq_some_iff.1 h; simp
    split
    · omega
    · split
      · split
        · rw [hb]; omega
        · simp; omega
      · simp; omega
theorem rnote_ok (R : TS) (s : Sp) (hs : Small s) : RF (s.f - 1) (rnoteO R s) ∧ ∀ y, Has (rnoteO R s) y ↔ (s.f ≤ y ∧ y < s.f + s.m) ∧ ¬ (Has R.words y ∨ Has (spsF R.fresh) y) := by
  have hm := hs.m0
  rw [rnoteO, rOut_of R s _ (by omega)]
  obtain ⟨a, b, _⟩ := of_ok s.f (R.words ++ spsF R.fresh) s 1 s.m.toNat
  refine ⟨a, fun y => ?_⟩
  rw [b, isB, if_pos rfl, Bool.and_eq_true, inB_iff, Bool.not_eq_true', ← Bool.not_eq_true, hasB_iff, has_append]
  constructor
  · rintro ⟨_, _, h3, h4⟩; exact ⟨h3, h4⟩
  · rintro ⟨h3, h4⟩; exact ⟨h3.1, by omega, h3, h4⟩
theorem note_sim {T R : TS} (h : TOk T) (hs : TSim T R) (s : Sp) (hm : Small s) : noteO T s = rnoteO R s ∧ TSim (noteT T s) (rnoteT R s) := by
  obtain ⟨a, b, c⟩ := noteO_ok h s hm
  obtain ⟨d, e⟩ := rnote_ok R s hm
  have he : noteO T s = rnoteO R s := by
    refine a.uniq d fun y => ?_
    rw [c, e, hs.words, hs.fresh]
  obtain ⟨f, g, i⟩ := noteT_words h s hm
  refine ⟨he, fun y => ?_, ?_, hs.fresh, hs.depth, hs.bad, hs.gone, hs.root, hs.is⟩
  · rw [i, hs.words, he, rnoteT, has_append]
  · intro x hx
    rcases List.mem_append.1 hx with hx | hx
    · exact hs.win x hx
    · rw [← he] at hx
      have h1 := hm.f0; have h2 := hm.f1; have h3 := hm.m1
      have := b x hx
      omega
theorem may_iff {T : TS} (h : TOk T) (s : Sp) : mayT T s = true ↔ ∀ y, s.f ≤ y → y < s.f + s.m → Has T.words y ∨ Has (spsF T.fresh) y := by
  obtain ⟨a, _, c⟩ := all_ok h
  rw [mayT, coversB_iff a]
  constructor
  · intro hh y h1 h2; exact (c y).1 (hh y h1 h2)
  · intro hh y h1 h2; exact (c y).2 (hh y h1 h2)
theorem may_sim {T R : TS} (h : TOk T) (hs : TSim T R) (s : Sp) (hm : Small s) : mayT T s = rmayB R s s.m.toNat := by
  have h0 := hm.m0
  rw [Bool.eq_iff_iff, may_iff h, rmayB, List.all_eq_true]
  constructor
  · intro hh j hj
    have hj := List.mem_range.1 hj
    rw [Bool.or_eq_true, ownB, hasB_iff, hasB_iff, hs.fresh, ← hs.words]
    exact (hh (s.f + j) (by omega) (by omega)).symm
  · intro hh y h1 h2
    have := hh (y - s.f).toNat (List.mem_range.2 (by omega))
    rw [Bool.or_eq_true, ownB, hasB_iff, hasB_iff, hs.fresh, ← hs.words, show s.f + ((y - s.f).toNat : Int) = y by omega] at this
    exact this.symm
theorem noted_sim {T R : TS} (h : TOk T) (hs : TSim T R) : T.words = rnotedL R 300 := by
  obtain ⟨a, b, _⟩ := of_ok 0 R.words ⟨0, 0⟩ 0 300
  have e : rnotedL R 300 = (ofGo 0 R.words ⟨0, 0⟩ 0 300).1 := rfl
  rw [e]
  refine h.rf.uniq a fun y => ?_
  rw [b, isB, if_neg (by decide), Bool.or_eq_true, hasB_iff, inB_iff, hs.words]
  constructor
  · intro hy
    obtain ⟨s, hsm, h1, h2⟩ := hy
    have := hs.win s hsm
    exact ⟨by omega, by omega, .inl ⟨s, hsm, h1, h2⟩⟩
  · rintro ⟨_, _, h1 | h1⟩
    · exact h1
    · exfalso; dsimp only at h1; omega

/-! ### Make, Unmake, and the rest -/
def makeT (T : TS) (f : Ob) : TS := { T with fresh := mkL T.fresh f }
def unmakeT (T : TS) (k : Int) : TS := { T with fresh := rmL T.fresh k }
def freedB (T : TS) (k : Int) : Bool := decide (k ∈ T.gone)
def freeT (T : TS) (k : Int) : TS := if freedB T k then T else { T with gone := T.gone ++ [k] }
theorem make_ok {T : TS} (h : TOk T) {f : Ob} (hf : f.Ok) : TOk (makeT T f) :=
  ⟨h.rf, h.win, mk_up h.up f, fun x hx => by
    rcases mk_mem.1 hx with rfl | hx
    · exact hf
    · exact h.fok x hx.1⟩
theorem unmake_ok {T : TS} (h : TOk T) (k : Int) : TOk (unmakeT T k) := ⟨h.rf, h.win, rm_up h.up k, fun x hx => h.fok x (rm_mem.1 hx).1⟩
theorem make_sim {T R : TS} (hs : TSim T R) (f : Ob) : TSim (makeT T f) (makeT R f) := ⟨hs.words, hs.win, by simp only [makeT, hs.fresh], hs.depth, hs.bad, hs.gone, hs.root, hs.is⟩
theorem unmake_sim {T R : TS} (hs : TSim T R) (k : Int) : TSim (unmakeT T k) (unmakeT R k) := ⟨hs.words, hs.win, by simp only [unmakeT, hs.fresh], hs.depth, hs.bad, hs.gone, hs.root, hs.is⟩
theorem free_sim {T R : TS} (hs : TSim T R) (k : Int) : TSim (freeT T k) (freeT R k) ∧ freedB R k = freedB T k := by
  have e : freedB R k = freedB T k := by simp only [freedB, hs.gone]
  refine ⟨?_, e⟩
  rw [freeT, freeT, e]
  cases freedB T k with
  | true => exact hs
  | false => exact ⟨hs.words, hs.win, hs.fresh, hs.depth, hs.bad, by simp [hs.gone], hs.root, hs.is⟩
theorem free_ok {T : TS} (h : TOk T) (k : Int) : TOk (freeT T k) := by
  rw [freeT]
  cases freedB T k with
  | true => exact h
  | false => exact ⟨h.rf, h.win, h.up, h.fok⟩

/-! ### What was noted, noted again -/
theorem sum_win {l : List Sp} : ∀ {p lo hi : Int}, RF p l → Win lo hi l → lo ≤ hi → 0 ≤ sumM l ∧ sumM l ≤ hi - lo := by
  induction l with
  | nil => intro p lo hi _ _ h; rw [sumM_nil]; omega
  | cons s l ih =>
    intro p lo hi hr hw _
    obtain ⟨r1, r2, r3⟩ := hr
    obtain ⟨w1, w2⟩ := win_cons.1 hw
    have hw3 : Win (s.f + s.m) hi l := by
      intro x hx
      refine ⟨?_, (w2 x hx).2⟩
      have hp : ∀ {l : List Sp} {p : Int}, RF p l → ∀ x ∈ l, p < x.f ∧ 1 ≤ x.m := by
        intro l
        induction l with
        | nil => intro p _ x hx; cases hx
        | cons y l ih =>
          intro p hr x hx
          rcases List.mem_cons.1 hx with rfl | hx
          · exact ⟨hr.1, hr.2.1⟩
          · have := ih hr.2.2 x hx
            have := hr.1; have := hr.2.1
            omega
      have := hp r3 x hx
      omega
    have := ih r3 hw3 w1.2
    rw [sumM_cons]
    omega
structure NotesLaw (T : TS) (s : Sp) : Prop where
  could : mayT T s = decide (noteO T s = [])
  again : noteO (noteT T s) s = []
  twice : noteT (noteT T s) s = noteT T s
  may : mayT (noteT T s) s = true
  ra : RF (s.f - 1) (noteO T s)
  wa : Win 0 260 (noteO T s)
  sum : sumM (noteO T s) ≤ s.m
  cov : ∀ x ∈ noteO T s, coversB (noteT T s).words x = true
theorem notes_law {T : TS} (h : TOk T) (s : Sp) (hs : Small s) : NotesLaw T s := by
  obtain ⟨a, b, c⟩ := noteO_ok h s hs
  obtain ⟨d, e, f⟩ := noteT_words h s hs
  have hok := noteT_ok h s hs
  obtain ⟨a2, b2, c2⟩ := noteO_ok hok s hs
  have h1 := hs.f0; have h2 := hs.f1; have h3 := hs.m1; have h4 := hs.m0
  have again : noteO (noteT T s) s = [] := by
    refine a2.nil_of fun y hy => ?_
    obtain ⟨hy1, hy2⟩ := (c2 y).1 hy
    refine hy2 ?_
    rw [f, c]
    by_cases hh : Has T.words y ∨ Has (spsF T.fresh) y
    · rcases hh with hh | hh
      · exact .inl (.inl hh)
      · exact .inr hh
    · exact .inl (.inr ⟨hy1, hh⟩)
  refine ⟨rfl, again, ?_, decide_eq_true again, a, win_mono b h1 (by omega), (by have := (sum_win a b (by omega)).2; omega), fun x hx => ?_⟩
  · show TS.mk _ _ _ _ _ _ _ = _
    rw [again]
    rfl
  · rw [coversB_iff d]
    intro y hy1 hy2
    rw [f]
    exact .inr ⟨x, hx, hy1, hy2⟩
structure FreshLaw (T : TS) (f : Ob) : Prop where
  may : mayT (makeT T f) f.sp = true
  none_ : noteO (makeT T f) f.sp = []
  same : noteT (makeT T f) f.sp = makeT T f
  got : findF (makeT T f).fresh f.at_ = some f
  gone : findF (unmakeT (makeT T f) f.at_).fresh f.at_ = none
  twice : unmakeT (unmakeT (makeT T f) f.at_) f.at_ = unmakeT (makeT T f) f.at_
  last : mayT (unmakeT (makeT T f) f.at_) f.sp = coversB T.words f.sp
theorem fresh_law {T : TS} (h : TOk T) {f : Ob} (hf : f.Ok) : FreshLaw T f := by
  have hok := make_ok h hf
  have huk := unmake_ok hok f.at_
  have g1 := hf.a0; have g2 := hf.a1; have g3 := hf.s0; have g4 := hf.s1; have g5 := hf.a2
  have hsm : Small f.sp := ⟨g1, g2, by simp only [Ob.sp]; omega, by simp only [Ob.sp]; omega⟩
  have may : mayT (makeT T f) f.sp = true := by
    rw [may_iff hok]
    intro y h1 h2
    exact .inr ⟨f.sp, List.mem_map.2 ⟨f, mk_mem.2 (.inl rfl), rfl⟩, h1, h2⟩
  have hno : noteO (makeT T f) f.sp = [] := by simpa [mayT, coversB, noteO] using may
  refine ⟨may, hno, ?_, ?_, ?_, ?_, ?_⟩
  · show TS.mk _ _ _ _ _ _ _ = _
    rw [hno]
    rfl
  · rw [makeT, find_mk h.up, if_pos rfl]
  · rw [unmakeT, find_rm hok.up, if_pos rfl]
  · simp only [unmakeT, TS.mk.injEq, true_and, and_true]
    rw [rmL, List.filter_eq_self]
    intro x hx
    have := (rm_mem.1 hx).2
    simpa [atB] using this
  · rw [Bool.eq_iff_iff, may_iff huk, coversB_iff h.rf]
    constructor
    · intro hh y h1 h2
      rcases hh y h1 h2 with h5 | ⟨s, hs, h5, h6⟩
      · exact h5
      · exfalso
        obtain ⟨x, hx, rfl⟩ := List.mem_map.1 hs
        have hx' := rm_mem.1 hx
        have hxo := hok.fok x hx'.1
        have k1 := hxo.a0; have k2 := hxo.a2; have k3 := hxo.s0; have k4 := hxo.s1
        have k5 := hx'.2
        simp only [Ob.sp] at h1 h2 h5 h6
        omega
    · intro hh y h1 h2
      exact .inl (hh y h1 h2)
end Go.Proofs.Ytncdkbhkjamdpaa
