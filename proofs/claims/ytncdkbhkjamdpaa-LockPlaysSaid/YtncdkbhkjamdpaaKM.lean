/- The plain law of chapter 18: the table and the list of pairs say one thing. -/
import Derived.Test.YtncdkbhkjamdpaaK5
namespace Go.Proofs.Ytncdkbhkjamdpaa
open Go.RowKit Go.Maps

structure Rep (f : Int → Option Int) (L : List Pr) : Prop where
  up : L.Pairwise (fun p q => p.k < q.k)
  mem : ∀ x a, f x = some a ↔ (⟨x, a⟩ : Pr) ∈ L
theorem rep_none : Rep noF [] := ⟨List.Pairwise.nil, fun x a => by simp [noF]⟩
theorem rep_find {f : Int → Option Int} {L : List Pr} (h : Rep f L) (k : Int) : L.find? (hasK k) = (f k).map (fun a => (⟨k, a⟩ : Pr)) := by
  cases hf : f k with
  | none =>
    rw [Option.map_none, List.find?_eq_none]
    intro p hp
    simp only [hasK, beq_iff_eq]
    intro e
    have := (h.mem p.k p.a).2 hp
    rw [e, hf] at this
    cases this
  | some a =>
    have hm := (h.mem k a).1 hf
    cases hq : L.find? (hasK k) with
    | none =>
      rw [List.find?_eq_none] at hq
      exact absurd (hq _ hm) (by simp [hasK])
    | some p =>
      have h1 := List.mem_of_find?_eq_some hq
      have h2 := List.find?_some hq
      simp only [hasK, beq_iff_eq] at h2
      have h3 := (h.mem p.k p.a).2 h1
      rw [h2, hf] at h3
      obtain ⟨pk, pa⟩ := p
      simp only at h2 h3
      rw [Option.map_some, h2, Option.some.inj h3]
theorem rep_ok {f : Int → Option Int} {L : List Pr} (h : Rep f L) (k a : Int) : rOk L k a = lockOk f k a := by
  rw [rOk, rep_find h, lockOk]
  cases f k with
  | none => rfl
  | some o => by_cases ho : o = a <;> simp [ho]
theorem rep_owner {f : Int → Option Int} {L : List Pr} (h : Rep f L) (k : Int) : rOwner L k = (f k).getD (-1) := by
  rw [rOwner, rep_find h]
  cases f k <;> rfl
theorem rep_held {f : Int → Option Int} {L : List Pr} (h : Rep f L) (a : Int) : HeldOf f a (rHeld L a) := by
  refine ⟨?_, fun x => ?_⟩
  · rw [rHeld, List.pairwise_map]
    exact h.up.filter _
  · rw [rHeld, List.mem_map, h.mem]
    constructor
    · rintro ⟨p, hp, rfl⟩
      rw [List.mem_filter] at hp
      have : p.a = a := by simpa using hp.2
      rw [← this]
      exact hp.1
    · intro hm
      exact ⟨_, List.mem_filter.2 ⟨hm, by simp⟩, rfl⟩
theorem rep_rel {f : Int → Option Int} {L : List Pr} (h : Rep f L) (a : Int) : Rep (relF f a) (rRel L a) := by
  refine ⟨h.up.filter _, fun x b => ?_⟩
  rw [rRel, List.mem_filter, ← h.mem, relF]
  by_cases hx : f x = some a
  · rw [if_pos hx, hx]
    constructor
    · intro e; cases e
    · rintro ⟨e, e2⟩
      have := Option.some.inj e
      simp [this] at e2
  · rw [if_neg hx]
    constructor
    · intro e
      refine ⟨e, ?_⟩
      simp only [bne_iff_ne, ne_eq]
      intro e2
      exact hx (by rw [e, e2])
    · exact fun e => e.1
theorem rep_len (L : List Pr) (a : Int) : ((rHeld L a).length : Int) = (L.length : Int) - (rRel L a).length := by
  have : (rHeld L a).length + (rRel L a).length = L.length := by
    rw [rHeld, rRel, List.length_map]
    induction L with
    | nil => rfl
    | cons p L ih =>
      simp only [List.filter_cons]
      by_cases h : p.a = a
      · simp [h]; omega
      · simp [h]; omega
  omega
theorem at_spec {L : List Pr} (hs : L.Pairwise (fun p q => p.k < q.k)) (k : Int) : ∀ j, j ≤ L.length → (∀ i (hi : i < L.length), i < atOf L k j → L[i].k < k) ∧ (∀ i (hi : i < L.length), atOf L k j ≤ i → i < j → ¬ L[i].k < k) := by
  intro j
  induction j with
  | zero => intro _; exact ⟨fun i _ h => absurd h (Nat.not_lt_zero _), fun i _ _ h => absurd h (Nat.not_lt_zero _)⟩
  | succ j ih =>
    intro hj
    obtain ⟨h1, h2⟩ := ih (by omega)
    rw [atOf_succ (show j < L.length by omega)]
    by_cases c : L[j].k < k
    · rw [if_pos c]
      refine ⟨fun i hi hij => ?_, fun i hi a b => by omega⟩
      by_cases e : i = j
      · subst e; exact c
      · have := List.pairwise_iff_getElem.1 hs i j hi (by omega) (by omega)
        omega
    · rw [if_neg c]
      refine ⟨h1, fun i hi a b => ?_⟩
      by_cases e : i = j
      · subst e; exact c
      · exact h2 i hi a (by omega)
theorem rep_ins {f : Int → Option Int} {L : List Pr} (h : Rep f L) (k a : Int) (hf : f k = none) : Rep (updZ f k (some a)) (rIns L k a) := by
  obtain ⟨h1, h2⟩ := at_spec h.up k L.length (Nat.le_refl _)
  have hle := atOf_le L k L.length
  have hne : ∀ p ∈ L, p.k ≠ k := by
    intro p hp e
    have := (h.mem p.k p.a).2 hp
    rw [e, hf] at this
    cases this
  have hA : ∀ p ∈ L.take (atOf L k L.length), p.k < k := by
    intro p hp
    obtain ⟨i, hi, rfl⟩ := List.getElem_of_mem hp
    rw [List.length_take] at hi
    rw [List.getElem_take]
    exact h1 i (by omega) (by omega)
  have hB : ∀ p ∈ L.drop (atOf L k L.length), k < p.k := by
    intro p hp
    have hm := List.mem_of_mem_drop hp
    obtain ⟨i, hi, rfl⟩ := List.getElem_of_mem hp
    rw [List.length_drop] at hi
    rw [List.getElem_drop] at hm ⊢
    have := h2 (atOf L k L.length + i) (by omega) (by omega) (by omega)
    have := hne _ hm
    omega
  refine ⟨?_, fun x b => ?_⟩
  · rw [rIns, List.pairwise_append, List.pairwise_append]
    refine ⟨⟨h.up.take, by simp, ?_⟩, h.up.drop, ?_⟩
    · intro p hp q hq
      obtain rfl := List.mem_singleton.1 hq
      exact hA p hp
    · intro p hp q hq
      rcases List.mem_append.1 hp with hp | hp
      · have := hA p hp; have := hB q hq; omega
      · obtain rfl := List.mem_singleton.1 hp
        exact hB q hq
  · rw [rIns, List.mem_append, List.mem_append, List.mem_singleton, updZ]
    have hsplit : (⟨x, b⟩ : Pr) ∈ L ↔ (⟨x, b⟩ : Pr) ∈ L.take (atOf L k L.length) ∨ (⟨x, b⟩ : Pr) ∈ L.drop (atOf L k L.length) := by
      rw [← List.mem_append, List.take_append_drop]
    by_cases hx : x = k
    · subst hx
      rw [if_pos rfl]
      constructor
      · intro e
        have := Option.some.inj e
        subst this
        exact .inl (.inr rfl)
      · rintro ((e | e) | e)
        · have := hA _ e; simp at this
        · injection e with _ e; rw [e]
        · have := hB _ e; simp at this
    · rw [if_neg hx, h.mem, hsplit]
      constructor
      · rintro (e | e)
        · exact .inl (.inl e)
        · exact .inr e
      · rintro ((e | e) | e)
        · exact .inl e
        · injection e with e _; exact absurd e hx
        · exact .inr e
theorem rep_lock {f : Int → Option Int} {L : List Pr} (h : Rep f L) (k a : Int) : Rep (lockF f k a) (rL L k a) ∧ (rL L k a).length ≤ L.length + 1 := by
  have hle := atOf_le L k L.length
  rw [rL, rep_find h]
  cases hf : f k with
  | none =>
    have ho : lockOk f k a = true := by rw [lockOk, hf]
    rw [lockF, if_pos ho]
    refine ⟨rep_ins h k a hf, ?_⟩
    show (rIns L k a).length ≤ _
    rw [rIns]; simp; omega
  | some o =>
    show Rep _ L ∧ L.length ≤ _
    refine ⟨?_, by omega⟩
    by_cases ho : o = a
    · have ho1 : lockOk f k a = true := by simp [lockOk, hf, ho]
      have he : updZ f k (some a) = f := by
        funext x
        rw [updZ]
        by_cases hx : x = k
        · rw [if_pos hx, hx, hf, ho]
        · rw [if_neg hx]
      rw [lockF, if_pos ho1, he]
      exact h
    · have ho1 : lockOk f k a = false := by simp [lockOk, hf, ho]
      rw [lockF, if_neg (by rw [ho1]; decide)]
      exact h
end Go.Proofs.Ytncdkbhkjamdpaa
