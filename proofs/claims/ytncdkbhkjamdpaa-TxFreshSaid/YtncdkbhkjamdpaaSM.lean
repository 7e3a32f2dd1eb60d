/- The plain law of spans: right lists, by their words. -/
import Derived.Test.YtncdkbhkjamdpaaS12
namespace Go.Proofs.Ytncdkbhkjamdpaa
open Go.RowKit

/-! ### Right lists, from a word on -/
def RF (p : Int) : List Sp → Prop
  | [] => True
  | s :: l => p < s.f ∧ 1 ≤ s.m ∧ RF (s.f + s.m) l
def Has (l : List Sp) (y : Int) : Prop := ∃ s ∈ l, s.f ≤ y ∧ y < s.f + s.m
def Win (lo hi : Int) (l : List Sp) : Prop := ∀ s ∈ l, lo ≤ s.f ∧ s.f + s.m ≤ hi
theorem has_nil (y : Int) : Has [] y ↔ False := by simp [Has]
theorem has_cons (s : Sp) (l : List Sp) (y : Int) : Has (s :: l) y ↔ (s.f ≤ y ∧ y < s.f + s.m) ∨ Has l y := by simp [Has]
theorem has_append (a b : List Sp) (y : Int) : Has (a ++ b) y ↔ Has a y ∨ Has b y := by
  induction a with
  | nil => simp [has_nil]
  | cons s a ih => rw [List.cons_append, has_cons, has_cons, ih, or_assoc]
theorem win_cons {lo hi : Int} {s : Sp} {l : List Sp} : Win lo hi (s :: l) ↔ (lo ≤ s.f ∧ s.f + s.m ≤ hi) ∧ Win lo hi l := by simp [Win]
theorem inB_iff (s : Sp) (y : Int) : inB s y = true ↔ s.f ≤ y ∧ y < s.f + s.m := by simp [inB]; omega
theorem hasB_iff (l : List Sp) (y : Int) : hasB l y = true ↔ Has l y := by simp [hasB, Has, inB_iff]
theorem RF.mono {l : List Sp} {p q : Int} (h : RF p l) (hq : q ≤ p) : RF q l := by
  cases l with
  | nil => trivial
  | cons s l => exact ⟨by have := h.1; omega, h.2⟩
theorem RF.lt {l : List Sp} : ∀ {p y : Int}, RF p l → Has l y → p < y := by
  induction l with
  | nil => intro p y _ h; exact absurd h (by simp [has_nil])
  | cons s l ih =>
    intro p y h hy
    rw [has_cons] at hy
    obtain ⟨h1, h2, h3⟩ := h
    rcases hy with hy | hy
    · omega
    · have := ih h3 hy; omega
theorem RF.uniq {a : List Sp} : ∀ {b : List Sp} {p q : Int}, RF p a → RF q b → (∀ y, Has a y ↔ Has b y) → a = b := by
  induction a with
  | nil =>
    intro b p q _ hb h
    cases b with
    | nil => rfl
    | cons t b =>
      have := (h t.f).2 (by rw [has_cons]; left; have := hb.2.1; omega)
      simp [has_nil] at this
  | cons s a ih =>
    intro b p q ha hb h
    cases b with
    | nil =>
      have := (h s.f).1 (by rw [has_cons]; left; have := ha.2.1; omega)
      simp [has_nil] at this
    | cons t b =>
      obtain ⟨a1, a2, a3⟩ := ha
      obtain ⟨b1, b2, b3⟩ := hb
      have e1 : t.f ≤ s.f := by
        have := (h s.f).1 (by rw [has_cons]; left; omega)
        rw [has_cons] at this
        rcases this with h | h
        · omega
        · have := b3.lt h; omega
      have e2 : s.f ≤ t.f := by
        have := (h t.f).2 (by rw [has_cons]; left; omega)
        rw [has_cons] at this
        rcases this with h | h
        · omega
        · have := a3.lt h; omega
      have e3 : ¬ s.m < t.m := by
        intro hlt
        have := (h (s.f + s.m)).2 (by rw [has_cons]; left; omega)
        rw [has_cons] at this
        rcases this with h | h
        · omega
        · have := a3.lt h; omega
      have e4 : ¬ t.m < s.m := by
        intro hlt
        have := (h (t.f + t.m)).1 (by rw [has_cons]; left; omega)
        rw [has_cons] at this
        rcases this with h | h
        · omega
        · have := b3.lt h; omega
      obtain ⟨sf, sm⟩ := s
      obtain ⟨tf, tm⟩ := t
      obtain rfl : sf = tf := by simp only at e1 e2; omega
      obtain rfl : sm = tm := by simp only at e3 e4; omega
      congr 1
      refine ih a3 b3 fun y => ?_
      have := h y
      rw [has_cons, has_cons] at this
      dsimp only at this
      constructor
      · intro hy
        rcases this.1 (.inr hy) with h | h
        · have := a3.lt hy; dsimp only at this; omega
        · exact h
      · intro hy
        rcases this.2 (.inr hy) with h | h
        · have := b3.lt hy; dsimp only at this; omega
        · exact h
theorem RF.right {l : List Sp} : ∀ {p : Int}, RF p l → Right l := by
  induction l with
  | nil => intro p _ j hj; exact absurd hj (Nat.not_lt_zero _)
  | cons s l ih =>
    intro p h j hj
    obtain ⟨h1, h2, h3⟩ := h
    match j, hj with
    | 0, hj => exact ⟨h2, fun i hi => by omega⟩
    | j + 1, hj =>
      have hj' : j < l.length := by simpa using hj
      have := ih h3 j hj'
      refine ⟨this.1, fun i hi => ?_⟩
      obtain rfl : i = j := by omega
      match i, hj' with
      | 0, hj' =>
        cases l with
        | nil => exact absurd hj' (Nat.not_lt_zero _)
        | cons t l => exact h3.1
      | i + 1, hj' => exact this.2 i rfl
theorem RF.rightB {l : List Sp} {p : Int} (h : RF p l) : rightB l = true := rightB_true h.right
theorem Win.bd {lo hi p : Int} {l : List Sp} (h : Win lo hi l) (hr : RF p l) (h1 : -100000000000000000 ≤ lo) (h2 : hi ≤ 100000000000000000) : BdL l := by
  have : ∀ (l : List Sp) (p : Int), RF p l → ∀ s ∈ l, 1 ≤ s.m := by
    intro l
    induction l with
    | nil => intro _ _ s hs; cases hs
    | cons t l ih =>
      intro p h s hs
      rcases List.mem_cons.1 hs with rfl | hs
      · exact h.2.1
      · exact ih _ h.2.2 s hs
  intro s hs
  have a := h s hs
  have b := this l p hr s hs
  exact ⟨by omega, by omega, by omega, by omega⟩

/-! ### The last word -/
def lastE (p : Int) (l : List Sp) : Int := l.foldl (fun _ s => s.f + s.m) p
theorem RF.append {a b : List Sp} : ∀ {p : Int}, RF p (a ++ b) ↔ RF p a ∧ RF (lastE p a) b := by
  induction a with
  | nil => intro p; simp [RF, lastE]
  | cons s a ih => intro p; simp only [List.cons_append, RF, lastE, List.foldl_cons]; rw [ih]; simp only [lastE, and_assoc]
theorem lastE_concat (p : Int) (a : List Sp) (s : Sp) : lastE p (a ++ [s]) = s.f + s.m := by simp [lastE]

/-! ### Made -/
theorem mk_ok (from_ : Int) (l : List Int) (k : Nat) : RF from_ (mk from_ l k).2 ∧ lastE from_ (mk from_ l k).2 = (mk from_ l k).1 ∧ Win from_ (mk from_ l k).1 (mk from_ l k).2 := by
  induction k with
  | zero => exact ⟨trivial, rfl, by simp [Win, mk]⟩
  | succ k ih =>
    obtain ⟨h1, h2, h3⟩ := ih
    have hb := (mk_bd from_ l k).1
    simp only [mk]
    generalize mk from_ l k = st at *
    refine ⟨RF.append.2 ⟨h1, ?_⟩, ?_, ?_⟩
    · rw [h2]; refine ⟨?_, ?_, trivial⟩ <;> dsimp only <;> omega
    · rw [lastE_concat]
    · intro s hs
      rcases List.mem_append.1 hs with hs | hs
      · have := h3 s hs; omega
      · obtain rfl := List.mem_singleton.1 hs
        dsimp only; omega
theorem made_ok (from_ : Int) (l : List Int) : RF from_ (madeL from_ l) ∧ Win from_ (from_ + 9 * l.length) (madeL from_ l) ∧ (madeL from_ l).length ≤ l.length := by
  obtain ⟨h1, _, h3⟩ := mk_ok from_ l (l.length / 2)
  have hb := (mk_bd from_ l (l.length / 2)).2
  refine ⟨h1, fun s hs => ?_, ?_⟩
  · have := h3 s hs; omega
  · rw [madeL, mk_len]; omega

/-! ### Of -/
theorem of_ok (low : Int) (l : List Sp) (s : Sp) (what : Int) (k : Nat) :
    RF (low - 1) (ofGo low l s what k).1 ∧ (∀ y, Has (ofGo low l s what k).1 y ↔ low ≤ y ∧ y < low + k ∧ isB l s what y = true) ∧
      (if (ofGo low l s what k).2 then ∃ ys z, (ofGo low l s what k).1 = ys ++ [z] ∧ z.f + z.m = low + k else lastE (low - 1) (ofGo low l s what k).1 < low + k) := by
  induction k with
  | zero =>
    refine ⟨trivial, fun y => ?_, ?_⟩
    · rw [show (ofGo low l s what 0).1 = [] from rfl, has_nil]; constructor
      · intro h; cases h
      · intro h; omega
    · simp [ofGo, lastE]; omega
  | succ k ih =>
    obtain ⟨h1, h2, h3⟩ := ih
    simp only [ofGo, ofStep]
    generalize ofGo low l s what k = st at *
    obtain ⟨out, op⟩ := st
    dsimp only at h1 h2 h3 ⊢
    have key : ∀ y, (low ≤ y ∧ y < low + ((k + 1 : Nat) : Int) ∧ isB l s what y = true) ↔ (low ≤ y ∧ y < low + k ∧ isB l s what y = true) ∨ (y = low + k ∧ isB l s what (low + k) = true) := by
      intro y
      constructor
      · rintro ⟨a, b, c⟩
        by_cases hy : y = low + k
        · subst hy; exact .inr ⟨rfl, c⟩
        · exact .inl ⟨a, by omega, c⟩
      · rintro (⟨a, b, c⟩ | ⟨rfl, c⟩)
        · exact ⟨a, by omega, c⟩
        · exact ⟨by omega, by omega, c⟩
    by_cases hB : isB l s what (low + k) = true
    rotate_left
    · have hB' : isB l s what (low + k) = false := by simpa using hB
      simp only [hB', Bool.false_eq_true, if_false]
      refine ⟨h1, fun y => ?_, ?_⟩
      · rw [key, h2, hB']; simp
      · cases op with
        | true =>
          obtain ⟨ys, z, rfl, e⟩ := h3
          rw [lastE_concat]; omega
        | false => simp at h3; omega
    · simp only [hB, if_true]
      cases op with
      | true =>
        simp only [if_true] at h3 ⊢
        obtain ⟨ys, z, rfl, e⟩ := h3
        have hbp : bump (ys ++ [z]) = ys ++ [⟨z.f, z.m + 1⟩] := by simp [bump]
        rw [hbp]
        rw [RF.append] at h1
        obtain ⟨a1, a2, a3, _⟩ := h1
        refine ⟨RF.append.2 ⟨a1, a2, by dsimp only; omega, trivial⟩, fun y => ?_, _, _, rfl, by dsimp only; omega⟩
        rw [key, ← h2, has_append, has_append, has_cons, has_cons, has_nil, hB]
        dsimp only
        constructor
        · rintro (h | (h | h))
          · exact .inl (.inl h)
          · by_cases hy : y = low + k
            · exact .inr ⟨hy, rfl⟩
            · exact .inl (.inr (.inl (by omega)))
          · cases h
        · rintro ((h | (h | h)) | h)
          · exact .inl h
          · exact .inr (.inl (by omega))
          · cases h
          · exact .inr (.inl (by omega))
      | false =>
        simp only [Bool.false_eq_true, if_false] at h3 ⊢
        refine ⟨RF.append.2 ⟨h1, h3, Int.le_refl _, trivial⟩, fun y => ?_, _, _, rfl, by dsimp only; omega⟩
        rw [key, ← h2, has_append, has_cons, has_nil, hB]
        dsimp only
        constructor
        · rintro (h | (h | h))
          · exact .inl h
          · exact .inr ⟨by omega, rfl⟩
          · cases h
        · rintro (h | h)
          · exact .inl h
          · exact .inr (.inl (by omega))

/-! ### Add -/
def addRec (f t : Int) : List Sp → List Sp
  | [] => [⟨f, t - f⟩]
  | x :: l => if x.f + x.m < f then x :: addRec f t l else if t < x.f then ⟨f, t - f⟩ :: x :: l else addRec (min f x.f) (max t (x.f + x.m)) l
theorem addRec_ok {l : List Sp} : ∀ {p f t lo hi : Int}, RF p l → p < f → f < t → Win lo hi l → lo ≤ f → t ≤ hi →
    RF p (addRec f t l) ∧ Win lo hi (addRec f t l) ∧ ∀ y, Has (addRec f t l) y ↔ Has l y ∨ (f ≤ y ∧ y < t) := by
  induction l with
  | nil =>
    intro p f t lo hi _ h1 h2 _ h4 h5
    refine ⟨⟨h1, by dsimp only; omega, trivial⟩, ?_, fun y => ?_⟩
    · intro s hs; obtain rfl := List.mem_singleton.1 hs; dsimp only; omega
    · rw [addRec, has_cons, has_nil]; dsimp only
      constructor
      · rintro (h | h)
        · right; omega
        · cases h
      · rintro (h | h)
        · cases h
        · left; omega
  | cons x l ih =>
    intro p f t lo hi hr h1 h2 hw h4 h5
    obtain ⟨r1, r2, r3⟩ := hr
    obtain ⟨w1, w2⟩ := win_cons.1 hw
    rw [addRec]
    by_cases c1 : x.f + x.m < f
    · rw [if_pos c1]
      obtain ⟨i1, i2, i3⟩ := ih r3 (by omega) h2 w2 h4 h5
      refine ⟨⟨r1, r2, i1⟩, win_cons.2 ⟨w1, i2⟩, fun y => ?_⟩
      rw [has_cons, has_cons, i3, or_assoc]
    · rw [if_neg c1]
      by_cases c2 : t < x.f
      · rw [if_pos c2]
        refine ⟨⟨h1, by dsimp only; omega, by dsimp only; omega, r2, r3⟩, win_cons.2 ⟨by dsimp only; omega, hw⟩, fun y => ?_⟩
        rw [has_cons, has_cons]
        dsimp only
        constructor
        · rintro (h | h)
          · right; omega
          · exact .inl h
        · rintro (h | h)
          · exact .inr h
          · left; omega
      · rw [if_neg c2]
        obtain ⟨i1, i2, i3⟩ := ih (r3.mono (show p ≤ x.f + x.m by omega)) (show p < min f x.f by omega) (show min f x.f < max t (x.f + x.m) by omega) w2 (by omega) (by omega)
        refine ⟨i1, i2, fun y => ?_⟩
        rw [i3, has_cons]
        constructor
        · rintro (h | h)
          · exact .inl (.inr h)
          · by_cases hy : f ≤ y ∧ y < t
            · exact .inr hy
            · left; left; omega
        · rintro ((h | h) | h)
          · right; omega
          · exact .inl h
          · right; omega
theorem addGo_tail {l : List Sp} : ∀ {q : Int} {st : AddSt}, RF q l → (∀ x ∈ l, endW x = x.f + x.m) → st.f ≤ st.t → st.t ≤ q → l.foldl addStep st = ⟨st.out ++ l, st.f, st.t, st.at_⟩ := by
  induction l with
  | nil => intro q st _ _ _ _; simp
  | cons x l ih =>
    intro q st hr he h1 h2
    obtain ⟨r1, r2, r3⟩ := hr
    have e := he x (by simp)
    have hs : addStep st x = ⟨st.out ++ [x], st.f, st.t, st.at_⟩ := by
      rw [addStep, e, if_neg (by omega), if_pos (by omega)]
    rw [List.foldl_cons, hs, ih (st := ⟨st.out ++ [x], st.f, st.t, st.at_⟩) r3 (fun y hy => he y (by simp [hy])) h1 (by dsimp only; omega)]
    simp
theorem addGo_ok {l : List Sp} : ∀ {p lo hi : Int} {st : AddSt}, RF p l → (∀ x ∈ l, endW x = x.f + x.m) → Win lo hi l → lo ≤ st.f → st.f < st.t → st.t ≤ hi → st.at_ = st.out.length →
    insL (l.foldl addStep st).out (l.foldl addStep st).at_ ⟨(l.foldl addStep st).f, (l.foldl addStep st).t - (l.foldl addStep st).f⟩ = st.out ++ addRec st.f st.t l ∧
      lo ≤ (l.foldl addStep st).f ∧ (l.foldl addStep st).f < (l.foldl addStep st).t ∧ (l.foldl addStep st).t ≤ hi := by
  induction l with
  | nil =>
    intro p lo hi st _ _ _ h1 h2 h3 h4
    refine ⟨?_, h1, h2, h3⟩
    simp [insL, h4, addRec]
  | cons x l ih =>
    intro p lo hi st hr he hw h1 h2 h3 h4
    obtain ⟨r1, r2, r3⟩ := hr
    obtain ⟨w1, w2⟩ := win_cons.1 hw
    have e := he x (by simp)
    have he' : ∀ y ∈ l, endW y = y.f + y.m := fun y hy => he y (by simp [hy])
    rw [List.foldl_cons, addRec]
    by_cases c1 : x.f + x.m < st.f
    · have hs : addStep st x = ⟨st.out ++ [x], st.f, st.t, st.out.length + 1⟩ := by rw [addStep, e, if_pos c1]
      rw [hs, if_pos c1]
      obtain ⟨i1, i2⟩ := ih (st := ⟨st.out ++ [x], st.f, st.t, st.out.length + 1⟩) r3 he' w2 h1 h2 h3 (by simp)
      exact ⟨by rw [i1]; simp, i2⟩
    · rw [if_neg c1]
      by_cases c2 : st.t < x.f
      · have hs : addStep st x = ⟨st.out ++ [x], st.f, st.t, st.at_⟩ := by rw [addStep, e, if_neg c1, if_pos c2]
        rw [hs, if_pos c2, addGo_tail (q := x.f + x.m) r3 he' (by dsimp only; omega) (by dsimp only; omega)]
        dsimp only
        refine ⟨?_, h1, h2, h3⟩
        simp [insL, h4]
      · have hs : addStep st x = ⟨st.out, min st.f x.f, max st.t (x.f + x.m), st.at_⟩ := by rw [addStep, e, if_neg c1, if_neg c2]
        rw [hs, if_neg c2]
        exact ih (st := ⟨st.out, min st.f x.f, max st.t (x.f + x.m), st.at_⟩) r3 he' w2 (by dsimp only; omega) (by dsimp only; omega) (by dsimp only; omega) h4
theorem win_end {lo hi : Int} {l : List Sp} {p : Int} (hr : RF p l) (hw : Win lo hi l) (h1 : -100000000000000000 ≤ lo) (h2 : hi ≤ 100000000000000000) : ∀ x ∈ l, endW x = x.f + x.m := by
  intro x hx
  have := hw.bd hr h1 h2 x hx
  obtain ⟨a, b, c, d⟩ := this
  exact wrap64_id (by omega) (by omega)
theorem addW_rec {l : List Sp} {s : Sp} {p lo hi : Int} (hr : RF p l) (hw : Win lo hi l) (h1 : -100000000000000000 ≤ lo) (h2 : hi ≤ 100000000000000000) (hs1 : lo ≤ s.f) (hs2 : s.f + s.m ≤ hi) (hm : 1 ≤ s.m) :
    addW l s = addRec s.f (s.f + s.m) l := by
  have he := win_end hr hw h1 h2
  have es : endW s = s.f + s.m := wrap64_id (by omega) (by omega)
  have := addGo_ok (st := ⟨[], s.f, endW s, 0⟩) hr he hw hs1 (by dsimp only; omega) (by dsimp only; omega) rfl
  rw [addW, if_neg (by omega)]
  unfold addGo
  dsimp only at this
  obtain ⟨i1, i2, i3, i4⟩ := this
  rw [wrap64_id (by omega) (by omega), i1, es]
  rfl
theorem addW_ok {l : List Sp} {s : Sp} {p lo hi : Int} (hr : RF p l) (hw : Win lo hi l) (h1 : -100000000000000000 ≤ lo) (h2 : hi ≤ 100000000000000000) (hs1 : lo ≤ s.f) (hs2 : s.f + s.m ≤ hi) (hp : p < lo) :
    RF p (addW l s) ∧ Win lo hi (addW l s) ∧ ∀ y, Has (addW l s) y ↔ Has l y ∨ (s.f ≤ y ∧ y < s.f + s.m) := by
  by_cases hm : 1 ≤ s.m
  · rw [addW_rec hr hw h1 h2 hs1 hs2 hm]
    exact addRec_ok hr (by omega) (by omega) hw hs1 hs2
  · rw [addW, if_pos (by omega)]
    exact ⟨hr, hw, fun y => ⟨.inl, fun h => h.elim id (fun h => by omega)⟩⟩
theorem addW_len (l : List Sp) (s : Sp) : (addW l s).length ≤ l.length + 1 := by
  have := addGo_inv l s
  unfold addW
  split
  · omega
  · rw [insL_len]; omega

/-! ### Gaps -/
def gapsRec (f t : Int) : List Sp → List Sp
  | [] => if f < t then [⟨f, t - f⟩] else []
  | x :: l => (if f < min x.f t then [⟨f, min x.f t - f⟩] else []) ++ gapsRec (max f (x.f + x.m)) t l
theorem gapGo_rec {l : List Sp} : ∀ {t : Int} {st : GapSt},
    (if (l.foldl (gapStep t) st).f < t then (l.foldl (gapStep t) st).g ++ [⟨(l.foldl (gapStep t) st).f, t - (l.foldl (gapStep t) st).f⟩] else (l.foldl (gapStep t) st).g) = st.g ++ gapsRec st.f t l := by
  induction l with
  | nil => intro t st; rw [List.foldl_nil, gapsRec]; by_cases h : st.f < t <;> simp [h]
  | cons x l ih =>
    intro t st
    rw [List.foldl_cons, ih, gapsRec, gapStep]
    dsimp only
    by_cases h : st.f < min x.f t <;> simp [h]
theorem gapsL_rec (l : List Sp) (s : Sp) : gapsL l s = gapsRec s.f (s.f + s.m) l := by
  have := gapGo_rec (l := l) (t := s.f + s.m) (st := ⟨s.f, []⟩)
  rw [gapsL]
  unfold gapGo
  rw [this]
  rfl
theorem gapsRec_none {l : List Sp} : ∀ {f t : Int}, t ≤ f → gapsRec f t l = [] := by
  induction l with
  | nil => intro f t h; rw [gapsRec, if_neg (by omega)]
  | cons x l ih => intro f t h; rw [gapsRec, if_neg (by omega), ih (by omega)]; rfl
theorem gapsRec_ok {l : List Sp} : ∀ {p q f t lo hi : Int}, RF p l → q < f → lo ≤ f → t ≤ hi →
    RF q (gapsRec f t l) ∧ Win lo hi (gapsRec f t l) ∧ ∀ y, Has (gapsRec f t l) y ↔ (f ≤ y ∧ y < t) ∧ ¬ Has l y := by
  induction l with
  | nil =>
    intro p q f t lo hi _ h1 h2 h3
    rw [gapsRec]
    by_cases c : f < t
    · rw [if_pos c]
      refine ⟨⟨h1, by dsimp only; omega, trivial⟩, ?_, fun y => ?_⟩
      · intro s hs; obtain rfl := List.mem_singleton.1 hs; dsimp only; omega
      · rw [has_cons, has_nil]; dsimp only
        constructor
        · rintro (h | h)
          · exact ⟨by omega, fun h => h⟩
          · cases h
        · rintro ⟨h, _⟩; left; omega
    · rw [if_neg c]
      refine ⟨trivial, (by intro s hs; cases hs), fun y => ?_⟩
      rw [has_nil]
      constructor
      · intro h; cases h
      · rintro ⟨h, _⟩; omega
  | cons x l ih =>
    intro p q f t lo hi hr h1 h2 h3
    obtain ⟨r1, r2, r3⟩ := hr
    rw [gapsRec]
    by_cases c : f < min x.f t
    · rw [if_pos c]
      obtain ⟨i1, i2, i3⟩ := ih (q := min x.f t) (f := max f (x.f + x.m)) (t := t) (lo := lo) (hi := hi) r3 (by omega) (by omega) h3
      refine ⟨⟨h1, by dsimp only; omega, i1.mono (by dsimp only; omega)⟩, win_cons.2 ⟨by dsimp only; omega, i2⟩, fun y => ?_⟩
      rw [List.singleton_append, has_cons, has_cons, i3]
      dsimp only
      constructor
      · rintro (h | ⟨h, hn⟩)
        · refine ⟨by omega, ?_⟩
          rintro (h' | h')
          · omega
          · have := r3.lt h'; omega
        · refine ⟨by omega, ?_⟩
          rintro (h' | h')
          · omega
          · exact hn h'
      · rintro ⟨h, hn⟩
        by_cases hy : y < x.f
        · left; omega
        · right
          exact ⟨⟨by
            by_cases hx : y < x.f + x.m
            · exact absurd (Or.inl ⟨by omega, hx⟩) hn
            · omega, h.2⟩, fun h' => hn (.inr h')⟩
    · rw [if_neg c, List.nil_append]
      obtain ⟨i1, i2, i3⟩ := ih (q := q) (f := max f (x.f + x.m)) (t := t) (lo := lo) (hi := hi) r3 (by omega) (by omega) h3
      refine ⟨i1, i2, fun y => ?_⟩
      rw [has_cons, i3]
      constructor
      · rintro ⟨h, hn⟩
        refine ⟨by omega, ?_⟩
        rintro (h' | h')
        · omega
        · exact hn h'
      · rintro ⟨h, hn⟩
        exact ⟨⟨by
            by_cases hx : y < x.f + x.m
            · by_cases hxx : x.f ≤ y
              · exact absurd (Or.inl ⟨hxx, hx⟩) hn
              · omega
            · omega, h.2⟩, fun h' => hn (.inr h')⟩
theorem gapsL_ok {l : List Sp} {s : Sp} {p lo hi : Int} (hr : RF p l) (h1 : lo ≤ s.f) (h2 : s.f + s.m ≤ hi) :
    RF (s.f - 1) (gapsL l s) ∧ Win lo hi (gapsL l s) ∧ ∀ y, Has (gapsL l s) y ↔ (s.f ≤ y ∧ y < s.f + s.m) ∧ ¬ Has l y := by
  rw [gapsL_rec]
  exact gapsRec_ok hr (by omega) h1 h2
theorem RF.nil_of {l : List Sp} {p : Int} (h : RF p l) (hn : ∀ y, ¬ Has l y) : l = [] := by
  cases l with
  | nil => rfl
  | cons s l => exact absurd (show Has (s :: l) s.f by rw [has_cons]; left; have := h.2.1; omega) (hn s.f)
theorem coversB_iff {l : List Sp} {p : Int} (hr : RF p l) (s : Sp) : coversB l s = true ↔ ∀ y, s.f ≤ y → y < s.f + s.m → Has l y := by
  obtain ⟨g1, _, g3⟩ := gapsL_ok (s := s) hr (Int.le_refl _) (Int.le_refl _)
  rw [coversB, decide_eq_true_eq]
  constructor
  · intro h y a b
    by_cases hy : Has l y
    · exact hy
    · have := (g3 y).2 ⟨⟨a, b⟩, hy⟩
      rw [h, has_nil] at this; cases this
  · intro h
    exact g1.nil_of fun y hy => by
      obtain ⟨⟨a, b⟩, c⟩ := (g3 y).1 hy
      exact c (h y a b)

/-! ### Totals -/
def sumM (l : List Sp) : Int := (l.map (·.m)).sum
theorem sumM_nil : sumM [] = 0 := rfl
theorem sumM_cons (s : Sp) (l : List Sp) : sumM (s :: l) = s.m + sumM l := by simp [sumM]
theorem sum_le {l : List Sp} : ∀ {p hi : Int}, RF p l → Win p hi l → p ≤ hi → 0 ≤ sumM l ∧ sumM l ≤ hi - p := by
  induction l with
  | nil => intro p hi _ _ h; rw [sumM_nil]; omega
  | cons s l ih =>
    intro p hi hr hw h
    obtain ⟨r1, r2, r3⟩ := hr
    obtain ⟨w1, w2⟩ := win_cons.1 hw
    have hw' : Win (s.f + s.m) hi l := by
      have : ∀ (l : List Sp) (p : Int), RF p l → ∀ x ∈ l, p ≤ x.f := by
        intro l
        induction l with
        | nil => intro _ _ x hx; cases hx
        | cons t l ih =>
          intro p h x hx
          rcases List.mem_cons.1 hx with rfl | hx
          · have := h.1; omega
          · have a := ih _ h.2.2 x hx
            have b := h.1
            have c := h.2.1
            omega
      intro x hx
      exact ⟨this _ _ r3 x hx, (w2 x hx).2⟩
    have := ih r3 hw' w1.2
    rw [sumM_cons]; omega
theorem totW_eq {l : List Sp} {p hi : Int} (hr : RF p l) (hw : Win p hi l) (h : p ≤ hi) (h1 : -100000000000000000 ≤ p) (h2 : hi ≤ 100000000000000000) : totW l = sumM l := by
  have key : ∀ (l : List Sp) (a p hi : Int), RF p l → Win p hi l → p ≤ hi → 0 ≤ a → a + (hi - p) ≤ 1000000000000000000 → l.foldl (fun a s => wrap64 (a + s.m)) a = a + sumM l := by
    intro l
    induction l with
    | nil => intro a p hi _ _ _ _ _; simp [sumM]
    | cons s l ih =>
      intro a p hi hr hw hp h1 h2
      have hr' := hr
      have hw0 := hw
      obtain ⟨r1, r2, r3⟩ := hr
      obtain ⟨w1, w2⟩ := win_cons.1 hw
      rw [List.foldl_cons, sumM_cons, wrap64_id (by omega) (by omega)]
      have hw' : Win (s.f + s.m) hi l := by
        have : ∀ (l : List Sp) (p : Int), RF p l → ∀ x ∈ l, p ≤ x.f := by
          intro l
          induction l with
          | nil => intro _ _ x hx; cases hx
          | cons t l ih =>
            intro p h x hx
            rcases List.mem_cons.1 hx with rfl | hx
            · have := h.1; omega
            · have a := ih _ h.2.2 x hx
              have b := h.1
              have c := h.2.1
              omega
        intro x hx
        exact ⟨this _ _ r3 x hx, (w2 x hx).2⟩
      rw [ih (a + s.m) (s.f + s.m) hi r3 hw' w1.2 (by omega) (by omega)]
      omega
  have := key l 0 p hi hr hw h (Int.le_refl _) (by omega)
  rw [totW, this]; omega
theorem sum_mid {l : List Sp} : ∀ {q f t : Int}, RF q l → f < q → q ≤ t → sumM (addRec f t l) = sumM l + sumM (gapsRec q t l) + (q - f) := by
  induction l with
  | nil =>
    intro q f t _ h1 h2
    rw [addRec, gapsRec, sumM_cons, sumM_nil]
    split
    · rw [sumM_cons, sumM_nil]; dsimp only; omega
    · rw [sumM_nil]; dsimp only; omega
  | cons x l ih =>
    intro q f t hr h1 h2
    obtain ⟨r1, r2, r3⟩ := hr
    rw [addRec, if_neg (by omega), gapsRec, sumM_cons]
    by_cases c2 : t < x.f
    · rw [if_pos c2, gapsRec_none (show t ≤ max q (x.f + x.m) by omega), List.append_nil, sumM_cons, sumM_cons]
      by_cases c3 : q < min x.f t
      · rw [if_pos c3, sumM_cons, sumM_nil]
        dsimp only; omega
      · rw [if_neg c3, sumM_nil]
        dsimp only; omega
    · rw [if_neg c2, show min f x.f = f by omega, ih r3 (show f < x.f + x.m by omega) (by omega)]
      rw [if_pos (by omega), List.singleton_append, sumM_cons]
      dsimp only
      rw [show max q (x.f + x.m) = x.f + x.m by omega]
      by_cases ht : t ≤ x.f + x.m
      · rw [gapsRec_none ht, gapsRec_none (show max t (x.f + x.m) ≤ x.f + x.m by omega), sumM_nil]; omega
      · rw [show max t (x.f + x.m) = t by omega]; omega
theorem sum_add {l : List Sp} : ∀ {p f t : Int}, RF p l → f < t → sumM (addRec f t l) = sumM l + sumM (gapsRec f t l) := by
  induction l with
  | nil =>
    intro p f t _ h
    rw [addRec, gapsRec, if_pos h, sumM_nil]; omega
  | cons x l ih =>
    intro p f t hr h
    obtain ⟨r1, r2, r3⟩ := hr
    rw [addRec, gapsRec, sumM_cons]
    by_cases c1 : x.f + x.m < f
    · rw [if_pos c1, sumM_cons, ih r3 h, if_neg (by omega), List.nil_append, show max f (x.f + x.m) = f by omega]; omega
    · rw [if_neg c1]
      by_cases c2 : t < x.f
      · rw [if_pos c2, gapsRec_none (show t ≤ max f (x.f + x.m) by omega), List.append_nil, if_pos (by omega), sumM_cons, sumM_cons, sumM_cons, sumM_nil]
        dsimp only; omega
      · rw [if_neg c2, sum_mid r3 (show min f x.f < x.f + x.m by omega) (by omega), show max f (x.f + x.m) = x.f + x.m by omega]
        have e : gapsRec (x.f + x.m) (max t (x.f + x.m)) l = gapsRec (x.f + x.m) t l := by
          by_cases ht : t ≤ x.f + x.m
          · rw [gapsRec_none ht, gapsRec_none (by omega)]
          · rw [show max t (x.f + x.m) = t by omega]
        rw [e]
        by_cases c3 : f < min x.f t
        · rw [if_pos c3, List.singleton_append, sumM_cons]; dsimp only; omega
        · rw [if_neg c3, List.nil_append]; omega
end Go.Proofs.Ytncdkbhkjamdpaa
