/- Chapter 03, in plain Lean: the device and the reference's device go alike. -/
import Derived.Test.YtncdkbhkjamdpaaD9
namespace Go.Proofs.Ytncdkbhkjamdpaa

/-! ### The reference's device, in plain Lean -/
structure Wd where
  l : Int
  c : Int
  s : Int
  d : Bool
  f : Bool
def noW : Wd := ⟨0, 0, 0, false, false⟩
structure RS where
  L : List Wd
  fuse : Int
  dead : Bool
  steps : Int
def rstep (R : RS) : Bool × RS :=
  if R.dead then (false, R)
  else if R.fuse = 1 then (false, { R with fuse := 0, dead := true })
  else if 1 < R.fuse then (true, { R with fuse := R.fuse - 1, steps := R.steps + 1 })
  else (true, { R with steps := R.steps + 1 })
def rIs (R : RS) (k : Int) : Bool := decide (0 ≤ k) && decide (k < R.L.length)
def rAt (R : RS) (k : Int) : Wd := R.L[k.toNat]?.getD noW
def rload (R : RS) (k : Int) : Int := if rIs R k then (if (rAt R k).d then (rAt R k).c else (rAt R k).l) else 0
def rstore (R : RS) (k v : Int) : RS :=
  if rIs R k then (if (rstep R).1 then { (rstep R).2 with L := R.L.set k.toNat { rAt R k with d := true, c := v } } else (rstep R).2) else R
def revict (R : RS) (k : Int) : RS :=
  if rIs R k then (if (rstep R).1 then { (rstep R).2 with L := if (rAt R k).d then R.L.set k.toNat { noW with l := (rAt R k).c } else R.L } else (rstep R).2) else R
def upto (f : Nat → Wd → Wd) (L : List Wd) (i : Nat) : List Wd := L.mapIdx fun j w => if j < i then f j w else w
def flushW (at_ many : Int) (i : Nat) (w : Wd) : Wd := if w.d = true ∧ at_ ≤ i ∧ (i : Int) - at_ < many then { w with f := true, s := w.c } else w
def fenceW (_ : Nat) (w : Wd) : Wd := if w.f then { w with l := w.s, f := false, d := decide (w.c ≠ w.s) } else w
def rank (L : List Wd) (i : Nat) : Nat := (L.take i).countP (·.d)
def crashV (q : Option Int) (w : Wd) : Int := match q with
  | some q => if q % 3 = 2 then w.c else if q % 3 = 1 ∧ w.f = true then w.s else w.l
  | none => w.l
def crashW (keep : List Int) (L : List Wd) (i : Nat) (w : Wd) : Wd := if w.d then { noW with l := crashV keep[rank L i]? w } else w
def rflush (R : RS) (at_ many : Int) : RS := if (rstep R).1 then { (rstep R).2 with L := upto (flushW at_ many) R.L R.L.length } else (rstep R).2
def rfence (R : RS) : RS := if (rstep R).1 then { (rstep R).2 with L := upto fenceW R.L R.L.length } else (rstep R).2
def rcrash (R : RS) (keep : List Int) : RS := ⟨upto (crashW keep R.L) R.L R.L.length, 0, false, R.steps⟩
def dirtyTo (L : List Wd) : Nat → List Int
  | 0 => []
  | i + 1 => dirtyTo L i ++ (if (L[i]?.getD noW).d then [(i : Int)] else [])

theorem upto_length (f : Nat → Wd → Wd) (L : List Wd) (i : Nat) : (upto f L i).length = L.length := by simp [upto]
theorem upto_get (f : Nat → Wd → Wd) (L : List Wd) (i j : Nat) : (upto f L i)[j]? = L[j]?.map fun w => if j < i then f j w else w := by simp [upto]
theorem upto_zero (f : Nat → Wd → Wd) (L : List Wd) : upto f L 0 = L := by
  refine List.ext_getElem? fun j => ?_
  rw [upto_get]; simp
theorem upto_here (f : Nat → Wd → Wd) (L : List Wd) (i : Nat) : (upto f L i)[i]? = L[i]? := by rw [upto_get]; simp
theorem upto_succ (f : Nat → Wd → Wd) {L : List Wd} {i : Nat} {w : Wd} (h : L[i]? = some w) : upto f L (i + 1) = (upto f L i).set i (f i w) := by
  refine List.ext_getElem? fun j => ?_
  rw [List.getElem?_set, upto_get, upto_get, upto_length]
  by_cases hj : i = j
  · subst hj
    rw [h, if_pos rfl, if_pos (List.getElem?_eq_some_iff.1 h).1]
    simp
  · rw [if_neg hj]
    have : (j < i + 1) ↔ j < i := by omega
    simp [this]
theorem upto_same (f : Nat → Wd → Wd) {L : List Wd} {i : Nat} {w : Wd} (h : L[i]? = some w) (hf : f i w = w) : upto f L (i + 1) = upto f L i := by
  rw [upto_succ f h, hf]
  refine List.ext_getElem? fun j => ?_
  rw [List.getElem?_set, upto_length]
  by_cases hj : i = j
  · subst hj
    rw [if_pos rfl, if_pos (List.getElem?_eq_some_iff.1 h).1, upto_here, h]
  · rw [if_neg hj]
theorem rank_succ {L : List Wd} {i : Nat} {w : Wd} (h : L[i]? = some w) : rank L (i + 1) = rank L i + (if w.d then 1 else 0) := by
  rw [rank, List.take_add_one, h]; simp [rank, List.countP_append]
theorem dirtyTo_len (L : List Wd) (i : Nat) (hi : i ≤ L.length) : (dirtyTo L i).length = rank L i := by
  induction i with
  | zero => simp [dirtyTo, rank]
  | succ i ih =>
    have h : L[i]? = some L[i] := List.getElem?_eq_getElem (by omega)
    rw [dirtyTo, rank_succ h, List.length_append, ih (by omega), h]
    simp only [Option.getD_some]
    split <;> simp
theorem dirtyTo_mem (L : List Wd) (i : Nat) (x : Int) : x ∈ dirtyTo L i ↔ 0 ≤ x ∧ x < i ∧ (L[x.toNat]?.getD noW).d = true := by
  induction i with
  | zero => simp [dirtyTo]; omega
  | succ i ih =>
    rw [dirtyTo, List.mem_append, ih]
    constructor
    · rintro (⟨a, b, c⟩ | h)
      · exact ⟨a, by omega, c⟩
      · split at h
        · rename_i hd
          obtain rfl := List.mem_singleton.1 h
          exact ⟨by omega, by omega, by simpa using hd⟩
        · cases h
    · rintro ⟨a, b, c⟩
      by_cases hx : x = i
      · right; subst hx; simp only [Int.toNat_natCast] at c; rw [if_pos c]; exact List.mem_singleton.2 rfl
      · left; exact ⟨a, by omega, c⟩
theorem dirtyTo_up (L : List Wd) (i : Nat) : (dirtyTo L i).Pairwise (· < ·) := by
  induction i with
  | zero => simp [dirtyTo]
  | succ i ih =>
    rw [dirtyTo, List.pairwise_append]
    refine ⟨ih, by split <;> simp, fun a ha b hb => ?_⟩
    have := (dirtyTo_mem L i a).1 ha
    split at hb
    · obtain rfl := List.mem_singleton.1 hb; omega
    · cases hb
theorem dirtyTo_pre (L : List Wd) (i j : Nat) (h : i ≤ j) : dirtyTo L i <+: dirtyTo L j := by
  induction j with
  | zero => obtain rfl : i = 0 := by omega
            exact List.prefix_refl _
  | succ j ih =>
    by_cases hij : i = j + 1
    · subst hij; exact List.prefix_refl _
    · exact (ih (by omega)).trans (by rw [dirtyTo]; exact List.prefix_append _ _)
theorem dirtyTo_rank {L : List Wd} {i : Nat} {w : Wd} (h : L[i]? = some w) (hd : w.d = true) : (dirtyTo L L.length)[rank L i]? = some (i : Int) := by
  have hi := (List.getElem?_eq_some_iff.1 h).1
  have hp := dirtyTo_pre L (i + 1) L.length (by omega)
  have hl := dirtyTo_len L i (by omega)
  have h1 : (dirtyTo L (i + 1))[rank L i]? = some (i : Int) := by
    rw [dirtyTo, List.getElem?_append_right (by omega), hl, Nat.sub_self, h]
    simp [hd]
  obtain ⟨t, ht⟩ := hp
  rw [← ht, List.getElem?_append_left (List.getElem?_eq_some_iff.1 h1).1]
  exact h1

/-! ### One device is the other -/
def WSim (o : Option Dt) (x : Int) (w : Wd) : Prop := x = w.l ∧ match o with
  | none => w.d = false ∧ w.f = false
  | some d => w.d = true ∧ w.c = d.c ∧ w.f = d.fl ∧ (d.fl = true → w.s = d.s)
structure Sim (S : DS) (R : RS) : Prop where
  len : S.last.length = R.L.length
  at_ : ∀ (i : Nat) w, R.L[i]? = some w → ∃ x, S.last[i]? = some x ∧ WSim (S.cache i) x w
  out : ∀ k, (S.cache k).isSome = true → 0 ≤ k ∧ k < R.L.length
  fuse : S.fuse = R.fuse
  dead : S.dead = R.dead
  steps : S.steps = R.steps
  pos : 0 ≤ S.fuse
theorem sim_is {S : DS} {R : RS} (h : Sim S R) (k : Int) : isAt S k = rIs R k := by rw [isAt, rIs, h.len]
theorem sim_get {S : DS} {R : RS} (h : Sim S R) {k : Int} (hk : rIs R k = true) : ∃ w, R.L[k.toNat]? = some w ∧ rAt R k = w ∧ ((k.toNat : Nat) : Int) = k ∧ ∃ x, S.last[k.toNat]? = some x ∧ WSim (S.cache k) x w := by
  simp only [rIs, Bool.and_eq_true, decide_eq_true_eq] at hk
  have hlt : k.toNat < R.L.length := by omega
  have e : ((k.toNat : Nat) : Int) = k := by omega
  have hg := List.getElem?_eq_getElem hlt
  obtain ⟨x, h1, h2⟩ := h.at_ _ _ hg
  rw [e] at h2
  exact ⟨_, hg, by rw [rAt, hg]; rfl, e, x, h1, h2⟩
theorem sim_step {S : DS} {R : RS} (h : Sim S R) : (stepS S).1 = (rstep R).1 ∧ Sim (stepS S).2 (rstep R).2 ∧ (rstep R).2.L = R.L := by
  have hp := h.pos
  have hf := h.fuse
  have hdd := h.dead
  rw [stepS, rstep]
  by_cases hd : S.dead = true
  · have hr : R.dead = true := by rw [← hdd]; exact hd
    rw [if_pos hd, if_pos hr]; exact ⟨rfl, h, rfl⟩
  · have hr : ¬ R.dead = true := by rw [← hdd]; exact hd
    rw [if_neg hd, if_neg hr]
    by_cases h1 : S.fuse = 1
    · have h1r : R.fuse = 1 := by omega
      have h0 : 0 < S.fuse := by omega
      rw [if_pos h0, if_pos h1, if_pos h1r]
      exact ⟨rfl, ⟨h.len, h.at_, h.out, rfl, rfl, h.steps, Int.le_refl _⟩, rfl⟩
    · have h1r : ¬ R.fuse = 1 := by omega
      rw [if_neg h1r]
      by_cases h2 : 0 < S.fuse
      · have h2r : 1 < R.fuse := by omega
        rw [if_pos h2, if_neg h1, if_pos h2r]
        exact ⟨rfl, ⟨h.len, h.at_, h.out, by dsimp only; rw [hf], h.dead, by dsimp only; rw [h.steps], by dsimp only; omega⟩, rfl⟩
      · have h2r : ¬ 1 < R.fuse := by omega
        rw [if_neg h2, if_neg h2r]
        exact ⟨rfl, ⟨h.len, h.at_, h.out, hf, h.dead, by dsimp only; rw [h.steps], hp⟩, rfl⟩
theorem sim_load {S : DS} {R : RS} (h : Sim S R) (k : Int) : loadS S k = rload R k := by
  rw [loadS, rload, sim_is h]
  cases hk : rIs R k with
  | false => rfl
  | true =>
    obtain ⟨w, h1, h2, e, x, h3, h4⟩ := sim_get h hk
    simp only [if_true]
    rw [h2]
    obtain ⟨h5, h6⟩ := h4
    cases hc : S.cache k with
    | none =>
      rw [hc] at h6
      rw [h6.1]
      simp [List.getD_eq_getElem?_getD, h3, h5]
    | some d =>
      rw [hc] at h6
      rw [h6.1]
      simp [h6.2.1]
/-- Word by word: the same change on both sides. -/
theorem Sim.put {S S' : DS} {R R' : RS} (h : Sim S R) {k : Nat} {w' : Wd} {x' : Int} (hk : k < R.L.length) (hL : R'.L = R.L.set k w') (hl : S'.last = S.last.set k x') (hc : ∀ i : Nat, i ≠ k → S'.cache i = S.cache i)
    (hw : WSim (S'.cache k) x' w') (ho : ∀ i, (S'.cache i).isSome = true → (S.cache i).isSome = true ∨ i = k) (hf : S'.fuse = R'.fuse) (hd : S'.dead = R'.dead) (hs : S'.steps = R'.steps) (hp : 0 ≤ S'.fuse) : Sim S' R' := by
  refine ⟨by rw [hL, hl, List.length_set, List.length_set, h.len], fun i w hi => ?_, fun i hi => ?_, hf, hd, hs, hp⟩
  · rw [hL, List.getElem?_set] at hi
    rw [hl, List.getElem?_set]
    by_cases hik : k = i
    · subst hik
      rw [if_pos rfl, if_pos hk] at hi
      cases hi
      rw [if_pos rfl, if_pos (by rw [h.len]; exact hk)]
      exact ⟨_, rfl, hw⟩
    · rw [if_neg hik] at hi ⊢
      obtain ⟨x, h1, h2⟩ := h.at_ i w hi
      exact ⟨x, h1, by rw [hc i (fun e => hik e.symm)]; exact h2⟩
  · rw [hL, List.length_set]
    rcases ho i hi with h1 | rfl
    · exact h.out i h1
    · omega
theorem set_same {α : Type} {l : List α} {k : Nat} {x : α} (h : l[k]? = some x) : l.set k x = l := by
  refine List.ext_getElem? fun j => ?_
  rw [List.getElem?_set]
  by_cases hj : k = j
  · subst hj
    rw [if_pos rfl, if_pos (List.getElem?_eq_some_iff.1 h).1, h]
  · rw [if_neg hj]
theorem sim_store {S : DS} {R : RS} (h : Sim S R) (k v : Int) : Sim (storeS S k v) (rstore R k v) := by
  rw [storeS, rstore, sim_is h]
  cases hk : rIs R k with
  | false => exact h
  | true =>
    obtain ⟨s1, s2, s3⟩ := sim_step h
    obtain ⟨sl, sc⟩ := stepS_last S
    simp only [if_true]
    rw [← s1]
    cases hs : (stepS S).1 with
    | false => exact s2
    | true =>
      simp only [if_true]
      obtain ⟨w, h1, h2, e, x, h3, h4⟩ := sim_get h hk
      rw [h2]
      have hlt := (List.getElem?_eq_some_iff.1 h1).1
      refine s2.put (k := k.toNat) (w' := { w with d := true, c := v }) (x' := x) (by rw [s3]; exact hlt) (by dsimp only; rw [s3]) ?_ ?_ ?_ ?_ s2.fuse s2.dead s2.steps s2.pos
      · dsimp only; rw [sl, set_same h3]
      · intro i hi
        dsimp only
        rw [updD, if_neg (by omega), sc]
      · dsimp only
        rw [updD, if_pos e]
        obtain ⟨h5, h6⟩ := h4
        refine ⟨h5, rfl, rfl, ?_⟩
        cases hc : S.cache k with
        | none => rw [hc] at h6; exact ⟨h6.2, by intro h; cases h⟩
        | some d => rw [hc] at h6; exact ⟨h6.2.2.1, h6.2.2.2⟩
      · intro i hi
        dsimp only [updD] at hi
        rw [sc]
        split at hi
        · right; omega
        · left; exact hi
theorem sim_evict {S : DS} {R : RS} (h : Sim S R) (k : Int) : Sim (evictS S k) (revict R k) := by
  have hl := sim_load h k
  rw [evictS, revict, sim_is h]
  cases hk : rIs R k with
  | false => exact h
  | true =>
    obtain ⟨s1, s2, s3⟩ := sim_step h
    obtain ⟨sl, sc⟩ := stepS_last S
    simp only [if_true]
    rw [← s1]
    cases hs : (stepS S).1 with
    | false => exact s2
    | true =>
      simp only [if_true]
      obtain ⟨w, h1, h2, e, x, h3, h4⟩ := sim_get h hk
      rw [hl, rload, hk, h2]
      simp only [if_true]
      have hlt := (List.getElem?_eq_some_iff.1 h1).1
      have hno : ∀ i : Nat, i ≠ k.toNat → updD S.cache k none i = (stepS S).2.cache i := by
        intro i hi
        rw [updD, if_neg (by omega), sc]
      have hou : ∀ i, (updD S.cache k none i).isSome = true → ((stepS S).2.cache i).isSome = true ∨ i = (k.toNat : Nat) := by
        intro i hi
        rw [updD] at hi
        rw [sc]
        split at hi
        · cases hi
        · left; exact hi
      cases hd : w.d with
      | true =>
        refine s2.put (k := k.toNat) (w' := { noW with l := w.c }) (x' := w.c) (by rw [s3]; exact hlt) (by dsimp only; rw [s3]; rfl) (by dsimp only; rw [sl]; rfl) hno ?_ hou s2.fuse s2.dead s2.steps s2.pos
        dsimp only
        rw [updD, if_pos e]
        exact ⟨rfl, rfl, rfl⟩
      | false =>
        have hc : S.cache k = none := by
          cases hc : S.cache k with
          | none => rfl
          | some d => have := h4.2; rw [hc] at this; rw [this.1] at hd; cases hd
        have hx := h4.1
        have hww : WSim none x w := by have := h4; rw [hc] at this; exact this
        refine s2.put (k := k.toNat) (w' := w) (x' := w.l) (by rw [s3]; exact hlt) ?_ ?_ hno ?_ hou s2.fuse s2.dead s2.steps s2.pos
        · dsimp only; rw [s3, set_same h1]; rfl
        · dsimp only; rw [sl]; rfl
        · dsimp only
          rw [updD, if_pos e, ← hx]
          exact hww
theorem sim_fuse {S : DS} {R : RS} (h : Sim S R) (m : Int) : Sim { S with fuse := max 0 m } { R with fuse := max 0 m } :=
  ⟨h.len, h.at_, h.out, rfl, h.dead, h.steps, by dsimp only; omega⟩
theorem sim_flush {S : DS} {R : RS} (h : Sim S R) (at_ many : Int) : Sim (flushS S at_ many) (rflush R at_ many) := by
  obtain ⟨s1, s2, s3⟩ := sim_step h
  obtain ⟨sl, sc⟩ := stepS_last S
  rw [flushS, rflush, ← s1]
  cases hs : (stepS S).1 with
  | false => exact s2
  | true =>
    simp only [if_true]
    refine ⟨by dsimp only; rw [upto_length, sl]; exact h.len, fun i w hi => ?_, fun k hk => ?_, s2.fuse, s2.dead, s2.steps, s2.pos⟩
    · dsimp only at hi ⊢
      rw [upto_get] at hi
      cases hw : R.L[i]? with
      | none => rw [hw] at hi; cases hi
      | some w0 =>
        rw [hw] at hi
        have hlt := (List.getElem?_eq_some_iff.1 hw).1
        simp only [Option.map_some, hlt, if_true, Option.some.injEq] at hi
        subst hi
        obtain ⟨x, h1, h2, h3⟩ := h.at_ i w0 hw
        rw [sl]
        refine ⟨x, h1, ?_⟩
        cases hc : S.cache i with
        | none =>
          rw [hc] at h3
          have : flushW at_ many i w0 = w0 := by rw [flushW, if_neg (by rintro ⟨a, _⟩; rw [h3.1] at a; cases a)]
          rw [this]
          exact ⟨h2, h3⟩
        | some d =>
          rw [hc] at h3
          obtain ⟨a1, a2, a3, a4⟩ := h3
          by_cases hr : at_ ≤ i ∧ (i : Int) - at_ < many
          · rw [flushW, if_pos ⟨a1, hr⟩, flO, if_pos hr]
            exact ⟨h2, a1, a2, rfl, fun _ => a2⟩
          · rw [flushW, if_neg (fun h => hr h.2), flO, if_neg hr]
            exact ⟨h2, a1, a2, a3, a4⟩
    · dsimp only at hk ⊢
      rw [upto_length]
      cases hc : S.cache k with
      | none => rw [hc] at hk; cases hk
      | some d => exact h.out k (by rw [hc]; rfl)

/-! ### Fence -/
def fcache (o : Option Dt) : Option Dt := match o with
  | some d => if d.fl = true then (if d.c = d.s then none else some ⟨d.c, 0, false⟩) else some d
  | none => none
def flast (o : Option Dt) (x : Int) : Int := match o with
  | some d => if d.fl = true then d.s else x
  | none => x
structure FenceAll (S T : DS) (ks : List Int) : Prop where
  len : T.last.length = S.last.length
  at_ : ∀ i : Nat, T.last[i]? = if (i : Int) ∈ ks then S.last[i]?.map (flast (S.cache i)) else S.last[i]?
  cache : ∀ x, T.cache x = if x ∈ ks then fcache (S.cache x) else S.cache x
  fuse : T.fuse = S.fuse
  dead : T.dead = S.dead
  steps : T.steps = S.steps
theorem fenceK_all (S : DS) (k : Int) (hk : 0 ≤ k) : FenceAll S (fenceK S k) [k] := by
  unfold fenceK
  cases hc : S.cache k with
  | none =>
    rw [if_neg (by simp [noD])]
    refine ⟨rfl, fun i => ?_, fun x => ?_, rfl, rfl, rfl⟩
    · split
      · rename_i h
        obtain rfl := List.mem_singleton.1 h
        rw [hc]
        cases S.last[i]? <;> rfl
      · rfl
    · split
      · rename_i h
        obtain rfl := List.mem_singleton.1 h
        rw [hc]; rfl
      · rfl
  | some d =>
    by_cases hf : d.fl = true
    · rw [if_pos (by simpa using hf)]
      refine ⟨by simp, fun i => ?_, fun x => ?_, rfl, rfl, rfl⟩
      · dsimp only
        rw [List.getElem?_set]
        by_cases hik : (i : Int) = k
        · subst hik
          have hfl : ∀ x, flast (some d) x = d.s := fun x => by rw [flast, if_pos hf]
          simp only [List.mem_singleton, if_true, Int.toNat_natCast, hc, Option.getD_some]
          by_cases hl : i < S.last.length
          · rw [List.getElem?_eq_getElem hl]; simp [hl, hfl]
          · rw [List.getElem?_eq_none (by omega)]; simp [hl]
        · rw [if_neg (by omega), if_neg (by simpa using hik)]
      · dsimp only [updD]
        by_cases hx : x = k
        · subst hx
          have hm : x ∈ [x] := List.mem_singleton.2 rfl
          rw [if_pos rfl, if_pos hm, hc, fcache, if_pos hf]
          rfl
        · rw [if_neg hx, if_neg (by simpa using hx)]
    · rw [if_neg (by simpa using hf)]
      refine ⟨rfl, fun i => ?_, fun x => ?_, rfl, rfl, rfl⟩
      · split
        · rename_i h
          obtain rfl := List.mem_singleton.1 h
          rw [hc]
          cases S.last[i]? with
          | none => rfl
          | some x => simp [flast, hf]
        · rfl
      · split
        · rename_i h
          obtain rfl := List.mem_singleton.1 h
          rw [hc, fcache, if_neg hf]
        · rfl
theorem fence_all (ks : List Int) : ∀ S : DS, ks.Pairwise (· < ·) → (∀ x ∈ ks, 0 ≤ x) → FenceAll S (ks.foldl fenceK S) ks := by
  induction ks with
  | nil => intro S _ _; exact ⟨rfl, fun i => by simp, fun x => by simp, rfl, rfl, rfl⟩
  | cons k ks ih =>
    intro S hp h0
    rw [List.pairwise_cons] at hp
    have a := fenceK_all S k (h0 k (by simp))
    have b := ih (fenceK S k) hp.2 (fun x hx => h0 x (List.mem_cons_of_mem _ hx))
    rw [List.foldl_cons]
    have hnk : ∀ x, x ∈ ks → x ≠ k := fun x hx e => by have := hp.1 x hx; omega
    refine ⟨b.len.trans a.len, fun i => ?_, fun x => ?_, b.fuse.trans a.fuse, b.dead.trans a.dead, b.steps.trans a.steps⟩
    · rw [b.at_, a.at_, a.cache]
      by_cases h1 : (i : Int) ∈ ks
      · have h2 := hnk _ h1
        simp [h1, h2]
      · by_cases h2 : (i : Int) = k
        · rw [if_neg h1, if_pos (List.mem_singleton.2 h2), if_pos (List.mem_cons.2 (.inl h2))]
        · simp [h1, h2]
    · rw [b.cache, a.cache]
      by_cases h1 : x ∈ ks
      · have h2 := hnk _ h1
        simp [h1, h2]
      · by_cases h2 : x = k
        · rw [if_neg h1, if_pos (List.mem_singleton.2 h2), if_pos (List.mem_cons.2 (.inl h2))]
        · simp [h1, h2]
theorem sim_fence {S : DS} {R : RS} (h : Sim S R) (hs : (stepS S).1 = true) {ks : List Int} (hk : KeysOf (fun k => ((stepS S).2.cache k).map Dt.enc) ks) : Sim (ks.foldl fenceK (stepS S).2) (rfence R) := by
  obtain ⟨s1, s2, s3⟩ := sim_step h
  have hmem : ∀ x, x ∈ ks ↔ ((stepS S).2.cache x).isSome = true := fun x => by rw [hk.mem]; simp
  have h0 : ∀ x ∈ ks, 0 ≤ x := fun x hx => (s2.out x ((hmem x).1 hx)).1
  have a := fence_all ks (stepS S).2 hk.up h0
  rw [rfence, ← s1, hs]
  simp only [if_true]
  generalize (stepS S).2 = S1 at *
  generalize ks.foldl fenceK S1 = T at *
  refine ⟨?_, fun i w hi => ?_, fun k hc => ?_, a.fuse.trans s2.fuse, a.dead.trans s2.dead, a.steps.trans s2.steps, by rw [a.fuse]; exact s2.pos⟩
  · dsimp only; rw [a.len, upto_length, s2.len, s3]
  · dsimp only at hi
    rw [upto_get] at hi
    cases hw : R.L[i]? with
    | none => rw [hw] at hi; cases hi
    | some w0 =>
      rw [hw] at hi
      have hlt := (List.getElem?_eq_some_iff.1 hw).1
      simp only [Option.map_some, hlt, if_true, Option.some.injEq] at hi
      subst hi
      obtain ⟨x, h1, h2, h3⟩ := s2.at_ i w0 (by rw [s3]; exact hw)
      rw [a.at_, a.cache, h1]
      have hm := hmem i
      cases hc : S1.cache i with
      | none =>
        rw [hc] at h3 hm
        rw [if_neg (by rw [hm]; simp), if_neg (by rw [hm]; simp)]
        refine ⟨x, rfl, ?_⟩
        have : fenceW i w0 = w0 := by rw [fenceW, if_neg (by rw [h3.2]; simp)]
        rw [this]
        exact ⟨h2, h3⟩
      | some d =>
        rw [hc] at h3 hm
        obtain ⟨a1, a2, a3, a4⟩ := h3
        have hin : (i : Int) ∈ ks := hm.2 rfl
        rw [if_pos hin, if_pos hin]
        refine ⟨flast (some d) x, rfl, ?_⟩
        by_cases hf : d.fl = true
        · have a5 := a4 hf
          have a6 : w0.f = true := by rw [a3]; exact hf
          rw [flast, if_pos hf, fcache, if_pos hf, fenceW, if_pos a6]
          by_cases he : d.c = d.s
          · rw [if_pos he]
            exact ⟨a5.symm, by simp [a2, a5, he], rfl⟩
          · rw [if_neg he]
            exact ⟨a5.symm, by simp [a2, a5, he], a2, rfl, by intro h; cases h⟩
        · have a6 : ¬ w0.f = true := by rw [a3]; exact hf
          rw [flast, if_neg hf, fcache, if_neg hf, fenceW, if_neg a6]
          exact ⟨h2, a1, a2, a3, a4⟩
  · rw [a.cache] at hc
    dsimp only
    rw [upto_length, ← s3]
    refine s2.out k ?_
    split at hc
    · rename_i hin; exact (hmem k).1 hin
    · exact hc

/-! ### What is dirty, what lasts -/
theorem sim_keys {S : DS} {R : RS} (h : Sim S R) : KeysOf (fun k => (S.cache k).map Dt.enc) (dirtyTo R.L R.L.length) := by
  refine ⟨dirtyTo_up _ _, fun x => ?_⟩
  rw [dirtyTo_mem]
  simp only [Option.isSome_map]
  constructor
  · rintro ⟨a, b, c⟩
    have hlt : x.toNat < R.L.length := by omega
    have hg := List.getElem?_eq_getElem hlt
    obtain ⟨y, _, _, h3⟩ := h.at_ _ _ hg
    rw [hg, Option.getD_some] at c
    rw [show ((x.toNat : Nat) : Int) = x by omega] at h3
    cases hc : S.cache x with
    | none => rw [hc] at h3; rw [h3.1] at c; cases c
    | some d => rfl
  · intro hx
    obtain ⟨a, b⟩ := h.out x hx
    have hlt : x.toNat < R.L.length := by omega
    have hg := List.getElem?_eq_getElem hlt
    obtain ⟨y, _, _, h3⟩ := h.at_ _ _ hg
    rw [show ((x.toNat : Nat) : Int) = x by omega] at h3
    refine ⟨a, b, ?_⟩
    rw [hg, Option.getD_some]
    cases hc : S.cache x with
    | none => rw [hc] at hx; cases hx
    | some d => rw [hc] at h3; exact h3.1
theorem sim_image {S : DS} {R : RS} (h : Sim S R) : S.last = R.L.map (·.l) := by
  refine List.ext_getElem? fun i => ?_
  rw [List.getElem?_map]
  cases hw : R.L[i]? with
  | none =>
    rw [List.getElem?_eq_none_iff] at hw
    rw [List.getElem?_eq_none (by rw [h.len]; exact hw)]; rfl
  | some w =>
    obtain ⟨x, h1, h2, _⟩ := h.at_ i w hw
    rw [h1, h2]; rfl

/-! ### Crash -/
def clast (o : Option Dt) (q x : Int) : Int := if q % 3 = 2 then (o.getD noD).c else if q % 3 = 1 ∧ (o.getD noD).fl = true then (o.getD noD).s else x
theorem crashK_at (S : DS) (p : Int × Int) (hp : 0 ≤ p.1) (i : Nat) : (crashK S p).last[i]? = if (i : Int) = p.1 then S.last[i]?.map (clast (S.cache i) p.2) else S.last[i]? := by
  unfold crashK clast
  by_cases hi : (i : Int) = p.1
  · have hi' : p.1.toNat = i := by omega
    rw [if_pos hi, hi]
    by_cases h2 : p.2 % 3 = 2
    · simp only [h2, if_true]
      rw [hi', List.getElem?_set, if_pos rfl]
      by_cases hl : i < S.last.length
      · rw [if_pos hl, List.getElem?_eq_getElem hl]; rfl
      · rw [if_neg hl, List.getElem?_eq_none (by omega)]; rfl
    · simp only [h2, if_false]
      split
      · dsimp only
        rw [hi', List.getElem?_set, if_pos rfl]
        by_cases hl : i < S.last.length
        · rw [if_pos hl, List.getElem?_eq_getElem hl]; rfl
        · rw [if_neg hl, List.getElem?_eq_none (by omega)]; rfl
      · cases S.last[i]? <;> rfl
  · have hi' : ¬ p.1.toNat = i := by omega
    rw [if_neg hi]
    split
    · dsimp only; rw [List.getElem?_set, if_neg hi']
    · split
      · dsimp only; rw [List.getElem?_set, if_neg hi']
      · rfl
structure CrashAll (S T : DS) (ps : List (Int × Int)) : Prop where
  len : T.last.length = S.last.length
  hit : ∀ (i : Nat) (q : Int), ((i : Int), q) ∈ ps → T.last[i]? = S.last[i]?.map (clast (S.cache i) q)
  no : ∀ i : Nat, (∀ q : Int, ((i : Int), q) ∉ ps) → T.last[i]? = S.last[i]?
  steps : T.steps = S.steps
theorem crashK_steps (S : DS) (p : Int × Int) : (crashK S p).steps = S.steps := by
  unfold crashK; split
  · rfl
  · split <;> rfl
theorem crash_all (ps : List (Int × Int)) : ∀ S : DS, (ps.map (·.1)).Pairwise (· < ·) → (∀ p ∈ ps, 0 ≤ p.1) → CrashAll S (ps.foldl crashK S) ps := by
  induction ps with
  | nil => intro S _ _; exact ⟨rfl, fun i q h => (by cases h), fun i _ => rfl, rfl⟩
  | cons p ps ih =>
    intro S hp h0
    rw [List.map_cons, List.pairwise_cons] at hp
    have b := ih (crashK S p) hp.2 (fun x hx => h0 x (List.mem_cons_of_mem _ hx))
    obtain ⟨c1, c2⟩ := crashK_keep S p
    have ca := crashK_at S p (h0 p (by simp))
    rw [List.foldl_cons]
    refine ⟨b.len.trans c1, fun i q h => ?_, fun i h => ?_, b.steps.trans (crashK_steps S p)⟩
    · rcases List.mem_cons.1 h with rfl | h
      · rw [b.no i, ca, if_pos rfl]
        intro q' hq'
        have := hp.1 _ (List.mem_map.2 ⟨_, hq', rfl⟩)
        exact absurd this (Int.lt_irrefl _)
      · have hlt := hp.1 _ (List.mem_map.2 ⟨_, h, rfl⟩)
        dsimp only at hlt
        rw [b.hit i q h, c2, ca, if_neg (by omega)]
    · rw [b.no i (fun q hq => h q (List.mem_cons_of_mem _ hq)), ca, if_neg]
      intro e
      exact h p.2 (by rw [e]; exact List.mem_cons_self)
theorem zip_mem {a b : List Int} {x q : Int} (h : (x, q) ∈ a.zip b) : ∃ j : Nat, a[j]? = some x ∧ b[j]? = some q := by
  obtain ⟨j, hj⟩ := List.getElem?_of_mem h
  rw [List.getElem?_zip_eq_some] at hj
  exact ⟨j, hj.1, hj.2⟩
theorem zip_of {a b : List Int} {x q : Int} {j : Nat} (h1 : a[j]? = some x) (h2 : b[j]? = some q) : (x, q) ∈ a.zip b :=
  List.mem_of_getElem? (i := j) (List.getElem?_zip_eq_some.2 ⟨h1, h2⟩)
theorem sim_crash {S : DS} {R : RS} (h : Sim S R) (keep : List Int) {ks : List Int} (hk : KeysOf (fun k => (S.cache k).map Dt.enc) ks) : Sim (wipeS ((ks.zip keep).foldl crashK S)) (rcrash R keep) := by
  obtain rfl := hk.uniq (sim_keys h)
  have hup := dirtyTo_up R.L R.L.length
  have hmem := dirtyTo_mem R.L R.L.length
  have hps : (((dirtyTo R.L R.L.length).zip keep).map (·.1)).Pairwise (· < ·) := by
    refine hup.sublist ?_
    have e : ∀ a b : List Int, ((a.zip b).map (·.1)).Sublist a := by
      intro a
      induction a with
      | nil => intro b; simp
      | cons x a ih =>
        intro b
        cases b with
        | nil => simp
        | cons y b => simpa using ih b
    exact e _ _
  have h0 : ∀ p ∈ (dirtyTo R.L R.L.length).zip keep, 0 ≤ p.1 := fun p hp => ((hmem p.1).1 (List.of_mem_zip hp).1).1
  have a := crash_all _ S hps h0
  generalize hT : ((dirtyTo R.L R.L.length).zip keep).foldl crashK S = T at *
  refine ⟨by dsimp only [wipeS, rcrash]; rw [a.len, upto_length, h.len], fun i w hi => ?_, fun k hc => (by cases hc), rfl, rfl, (by dsimp only [wipeS, rcrash]; rw [a.steps, h.steps]), Int.le_refl _⟩
  dsimp only [wipeS, rcrash] at hi ⊢
  rw [upto_get] at hi
  cases hw : R.L[i]? with
  | none => rw [hw] at hi; cases hi
  | some w0 =>
    rw [hw] at hi
    have hlt := (List.getElem?_eq_some_iff.1 hw).1
    simp only [Option.map_some, hlt, if_true, Option.some.injEq] at hi
    subst hi
    obtain ⟨x, h1, h2, h3⟩ := h.at_ i w0 hw
    by_cases hd : w0.d = true
    · rw [crashW, if_pos hd]
      have hr := dirtyTo_rank hw hd
      cases hc : S.cache i with
      | none => rw [hc] at h3; rw [h3.1] at hd; cases hd
      | some d =>
        rw [hc] at h3
        obtain ⟨a1, a2, a3, a4⟩ := h3
        cases hq : keep[rank R.L i]? with
        | none =>
          refine ⟨x, ?_, h2, rfl, rfl⟩
          rw [a.no i, h1]
          intro q hq'
          obtain ⟨j, e1, e2⟩ := zip_mem hq'
          have hj : j = rank R.L i := by
            have hnd : (dirtyTo R.L R.L.length).Nodup := hup.imp (fun h => by omega)
            exact (List.getElem?_inj (List.getElem?_eq_some_iff.1 e1).1 hnd).1 (e1.trans hr.symm)
          rw [hj, hq] at e2
          cases e2
        | some q =>
          refine ⟨clast (S.cache i) q x, ?_, ?_, rfl, rfl⟩
          · rw [a.hit i q (zip_of hr hq), h1]; rfl
          · rw [hc]
            dsimp only [noW, crashV, clast, Option.getD_some]
            split
            · exact a2.symm
            · by_cases hf : d.fl = true
              · have a6 : w0.f = true := by rw [a3]; exact hf
                simp only [a6, hf, a4 hf, h2]
              · have a6 : ¬ w0.f = true := by rw [a3]; exact hf
                simp [a6, hf, h2]
    · rw [crashW, if_neg hd]
      refine ⟨x, ?_, ?_⟩
      · rw [a.no i, h1]
        intro q hq'
        have := (hmem i).1 (List.of_mem_zip hq').1
        rw [Int.toNat_natCast, hw, Option.getD_some] at this
        exact hd this.2.2
      · refine ⟨h2, ?_⟩
        cases hc : S.cache i with
        | none => rw [hc] at h3; exact h3
        | some d => rw [hc] at h3; exact absurd h3.1 hd
end Go.Proofs.Ytncdkbhkjamdpaa
