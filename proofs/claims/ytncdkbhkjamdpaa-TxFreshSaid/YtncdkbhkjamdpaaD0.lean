/- The device of chapter 03: what its small functions answer. -/
import Derived.Test.YtncdkbhkjamdpaaK5
namespace Go.Proofs.Ytncdkbhkjamdpaa
open Go.RowKit Go.Maps

abbrev vu : Int → Value := Value.int .u64
structure Dt where
  c : Int
  s : Int
  fl : Bool
def Dt.enc (d : Dt) : Value := .agg #[vu d.c, vu d.s, .bool d.fl]
structure DS where
  last : List Int
  cache : Int → Option Dt
  fuse : Int
  dead : Bool
  steps : Int
def DS.row (S : DS) (lb cp mb : Nat) : Array Value := #[.slice (some ⟨lb, 0, none⟩) S.last.length cp, .map (some mb), vz S.fuse, .bool S.dead, vz S.steps]
structure DevT (w : World) (db mb lb cp n : Nat) (S : DS) : Prop where
  blk : w.heap[db]? = some (.cells (S.row lb cp mb) 156 (0, 0))
  own : w.ownsRow 0 51 1 (.slice (some ⟨lb, 0, none⟩) S.last.length cp) S.last.length (S.last.map vu)
  om : OM w mb n (fun k => (S.cache k).map Dt.enc)
  ne : db ≠ lb
structure DS.Ok (S : DS) : Prop where
  len : 1 ≤ S.last.length ∧ S.last.length ≤ 65536
  keys : ∀ k, (S.cache k).isSome = true → 0 ≤ k ∧ k < S.last.length
  fuse : 0 ≤ S.fuse ∧ S.fuse ≤ 9000000000000000000
  steps : 0 ≤ S.steps ∧ S.steps ≤ 1000000000000000
section
variable {w : World} {db mb lb cp n : Nat} {S : DS}
theorem DevT.c0 (h : DevT w db mb lb cp n S) : w.cell? ⟨db, 0, none⟩ = some (.slice (some ⟨lb, 0, none⟩) S.last.length cp) := cell_blk h.blk rfl
theorem DevT.c1 (h : DevT w db mb lb cp n S) : w.cell? ⟨db, 1, none⟩ = some (.map (some mb)) := cell_blk h.blk rfl
theorem DevT.c2 (h : DevT w db mb lb cp n S) : w.cell? ⟨db, 2, none⟩ = some (vz S.fuse) := cell_blk h.blk rfl
theorem DevT.c3 (h : DevT w db mb lb cp n S) : w.cell? ⟨db, 3, none⟩ = some (.bool S.dead) := cell_blk h.blk rfl
theorem DevT.c4 (h : DevT w db mb lb cp n S) : w.cell? ⟨db, 4, none⟩ = some (vz S.steps) := cell_blk h.blk rfl
theorem DevT.fz (h : DevT w db mb lb cp n S) (j : Nat) : w.frozen? ⟨db, j, none⟩ = false := frozen_blk h.blk
theorem DevT.mono {w' : World} (h : DevT w db mb lb cp n S) (hb : Below w.heap.size w w') : DevT w' db mb lb cp n S :=
  ⟨hmono hb h.blk, ownsRow_below h.own hb, h.om.kept (gb_below hb none) (by simp), h.ne⟩
theorem DevT.lt (h : DevT w db mb lb cp n S) : db < w.heap.size := (Array.getElem?_eq_some_iff.1 h.blk).1
theorem DevT.size (h : DevT w db mb lb cp n S) {n' : Nat} (hn : n ≤ n') : DevT w db mb lb cp n' S := ⟨h.blk, h.own, h.om.size hn, h.ne⟩
theorem DevT.cap (h : DevT w db mb lb cp n S) : S.last.length ≤ cp ∧ cp ≤ 9223372036854775807 := by
  rcases h.own.2 with ⟨e, _⟩ | ⟨g, cap, cur, e, _, _, h1, h2, _⟩
  · cases e
  · injection e with _ _ e
    subst e
    exact ⟨h1, by simp only [maxLen] at h2; omega⟩
/-- A cell of the struct is written. -/
theorem DevT.set (h : DevT w db mb lb cp n S) (j : Nat) (v : Value) (S' : DS) (he : (S.row lb cp mb).setIfInBounds j v = S'.row lb cp mb) (hl : S'.last = S.last) (hcc : S'.cache = S.cache) : DevT (w.setCell ⟨db, j, none⟩ v) db mb lb cp n S' := by
  refine ⟨?_, ?_, ?_, h.ne⟩
  · rw [← he]; exact heap_setCell_same w db j _ 156 v h.blk
  · rw [hl]
    exact ownsRow_setCell_other h.own (by simpa [Value.ownBlock] using h.ne.symm) _
  · rw [hcc]
    exact h.om.kept (gb_setCell w ⟨db, j, none⟩ v) (by have := map_ne h.om h.c0; simpa using fun e => this e.symm)
end

/-! ### is, Words, Dead, Steps -/
def isAt (S : DS) (k : Int) : Bool := decide (0 ≤ k) && decide (k < S.last.length)
set_option maxHeartbeats 400000 in
theorem is_c {db mb lb cp n : Nat} {S : DS} (k : Int) (w : World) (h : DevT w db mb lb cp n S) :
    Calls Try.prog 108 #[.pointer (some ⟨db, 0, none⟩), vz k] w fun e w' => e = .returned (.bool (isAt S k)) ∧ w = w' := by
  have h0 := h.c0
  clear h
  by_cases hk : 0 ≤ k
  · go_enter Try.func108, Try.ntmps108
    go_wp2
    go_ret
    exact ⟨by simp [isAt, hk], rfl⟩
  · go_enter Try.func108, Try.ntmps108
    go_wp2
    go_ret
    exact ⟨by simp [isAt]; omega, rfl⟩
set_option maxHeartbeats 400000 in
theorem words_c {db mb lb cp n : Nat} {S : DS} (w : World) (h : DevT w db mb lb cp n S) :
    Calls Try.prog 60 #[.pointer (some ⟨db, 0, none⟩)] w fun e w' => e = .returned (vz S.last.length) ∧ Below w.heap.size w w' := by
  have h0 := h.c0
  clear h
  go_enter Try.func60, Try.ntmps60
  go_wp2
  go_ret
  exact ⟨rfl, Below.refl _ _⟩
set_option maxHeartbeats 400000 in
theorem dead_c {db mb lb cp n : Nat} {S : DS} (w : World) (h : DevT w db mb lb cp n S) :
    Calls Try.prog 62 #[.pointer (some ⟨db, 0, none⟩)] w fun e w' => e = .returned (.bool S.dead) ∧ Below w.heap.size w w' := by
  have h0 := h.c3
  clear h
  go_enter Try.func62, Try.ntmps62
  go_wp2
  go_ret
  exact ⟨rfl, Below.refl _ _⟩
set_option maxHeartbeats 400000 in
theorem steps_c {db mb lb cp n : Nat} {S : DS} (w : World) (h : DevT w db mb lb cp n S) :
    Calls Try.prog 61 #[.pointer (some ⟨db, 0, none⟩)] w fun e w' => e = .returned (vz S.steps) ∧ Below w.heap.size w w' := by
  have h0 := h.c4
  clear h
  go_enter Try.func61, Try.ntmps61
  go_wp2
  go_ret
  exact ⟨rfl, Below.refl _ _⟩

/-! ### step -/
def stepS (S : DS) : Bool × DS :=
  if S.dead then (false, S)
  else if 0 < S.fuse then (if S.fuse = 1 then (false, { S with fuse := 0, dead := true }) else (true, { S with fuse := S.fuse - 1, steps := S.steps + 1 }))
  else (true, { S with steps := S.steps + 1 })
theorem stepS_last (S : DS) : (stepS S).2.last = S.last ∧ (stepS S).2.cache = S.cache := by
  unfold stepS; split
  · exact ⟨rfl, rfl⟩
  · split
    · split <;> exact ⟨rfl, rfl⟩
    · exact ⟨rfl, rfl⟩
set_option maxHeartbeats 1000000 in
theorem step_c {db mb lb cp n : Nat} {S : DS} (w : World) (h : DevT w db mb lb cp n S) (hS : S.Ok) :
    Calls Try.prog 128 #[.pointer (some ⟨db, 0, none⟩)] w fun e w' => e = .returned (.bool (stepS S).1) ∧ DevT w' db mb lb cp n (stepS S).2 ∧ w.grownBy w' (some db) := by
  have H := hid_ h
  have h2 := h.c2; have h3 := h.c3; have h4 := h.c4
  have z2 := h.fz 2; have z3 := h.fz 3; have z4 := h.fz 4
  obtain ⟨f1, f2⟩ := hS.fuse
  obtain ⟨s1, s2⟩ := hS.steps
  clear h hS
  cases hd : S.dead with
  | true =>
    have HQ : Hid (stepS S = (false, S)) := by show _ = _; rw [stepS, if_pos hd]
    rw [hd] at h3
    go_enter Try.func128, Try.ntmps128
    go_wp2
    go_ret
    rw [HQ.out]
    exact ⟨rfl, H.out, gb_refl _ _⟩
  | false =>
    rw [hd] at h3
    have HD := hid_ hd
    clear hd
    by_cases hf : 0 < S.fuse
    · by_cases hf1 : S.fuse = 1
      · have HQ : Hid (stepS S = (false, { S with fuse := 0, dead := true })) := by show _ = _; rw [stepS, if_neg (by rw [HD.out]; decide), if_pos hf, if_pos hf1]
        rw [hf1] at h2
        have HG : Hid (DevT ((w.setCell ⟨db, 2, none⟩ (vz 0)).setCell ⟨db, 3, none⟩ (.bool true)) db mb lb cp n { S with fuse := 0, dead := true }) :=
          ((H.out.set 2 (vz 0) { S with fuse := 0 } rfl rfl rfl).set 3 (.bool true) _ rfl rfl rfl)
        go_enter Try.func128, Try.ntmps128
        go_wp2
        go_ret
        rw [HQ.out]
        exact ⟨rfl, HG.out, gb_trans (gb_setCell _ _ _) (gb_setCell _ _ _)⟩
      · have HQ : Hid (stepS S = (true, { S with fuse := S.fuse - 1, steps := S.steps + 1 })) := by show _ = _; rw [stepS, if_neg (by rw [HD.out]; decide), if_pos hf, if_neg hf1]
        have hne : (S.fuse - 1 == 0) = false := by simp; omega
        have HG : Hid (DevT (((w.setCell ⟨db, 2, none⟩ (vz (S.fuse - 1))).setCell ⟨db, 3, none⟩ (.bool false)).setCell ⟨db, 4, none⟩ (vz (S.steps + 1))) db mb lb cp n { S with fuse := S.fuse - 1, steps := S.steps + 1 }) :=
          (((H.out.set 2 (vz (S.fuse - 1)) { S with fuse := S.fuse - 1 } rfl rfl rfl).set 3 (.bool false) { S with fuse := S.fuse - 1, dead := false } rfl rfl rfl).set 4 (vz (S.steps + 1)) _ (by rw [← HD.out]; rfl) rfl rfl)
        go_enter Try.func128, Try.ntmps128
        go_wp2
        go_ret
        rw [HQ.out]
        exact ⟨rfl, HG.out, gb_trans (gb_trans (gb_setCell _ _ _) (gb_setCell _ _ _)) (gb_setCell _ _ _)⟩
    · have HQ : Hid (stepS S = (true, { S with steps := S.steps + 1 })) := by show _ = _; rw [stepS, if_neg (by rw [HD.out]; decide), if_neg hf]
      have HG : Hid (DevT (w.setCell ⟨db, 4, none⟩ (vz (S.steps + 1))) db mb lb cp n { S with steps := S.steps + 1 }) := H.out.set 4 (vz (S.steps + 1)) _ rfl rfl rfl
      go_enter Try.func128, Try.ntmps128
      go_wp2
      go_ret
      rw [HQ.out]
      exact ⟨rfl, HG.out, gb_setCell _ _ _⟩
end Go.Proofs.Ytncdkbhkjamdpaa
