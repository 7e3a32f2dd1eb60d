/- The walks of lock.Table's functions: the table as a function from keys to owners. -/
import Derived.Test.YtncdkbhkjamdpaaM1
import Derived.Carry
namespace Go.Proofs.Ytncdkbhkjamdpaa
open Go.RowKit Go.Maps

abbrev vz : Int → Value := Value.int .i64
structure Tab (w : World) (tb mb n : Nat) (f : Int → Option Int) : Prop where
  cell : w.cell? ⟨tb, 0, none⟩ = some (.map (some mb))
  om : OM w mb n (fun k => (f k).map vz)
theorem Tab.gb {w w' : World} {tb mb n : Nat} {f : Int → Option Int} (h : Tab w tb mb n f) {b : Nat} (hg : w.grownBy w' (some b)) (h1 : tb ≠ b) (h2 : mb ≠ b) : Tab w' tb mb n f :=
  ⟨gcell hg h.cell h1, h.om.kept hg (by simpa using h2)⟩
theorem Tab.mono {w w' : World} {tb mb n : Nat} {f : Int → Option Int} (h : Tab w tb mb n f) (hb : Below w.heap.size w w') : Tab w' tb mb n f :=
  ⟨cmono hb h.cell, h.om.kept (gb_below hb none) (by simp)⟩

def updZ (f : Int → Option Int) (k : Int) (v : Option Int) : Int → Option Int := fun x => if x = k then v else f x
theorem upd_map (f : Int → Option Int) (k : Int) (v : Option Int) : upd (fun k => (f k).map vz) k (v.map vz) = fun x => (updZ f k v x).map vz := by
  funext x
  unfold upd updZ
  split <;> rfl

/-! ### New -/
set_option maxHeartbeats 400000 in
theorem lnew_c (w : World) : Calls Try.prog 43 #[] w fun e w' => e = .returned (.pointer (some ⟨w.heap.size + 1, 0, none⟩)) ∧ Tab w' (w.heap.size + 1) w.heap.size 0 (fun _ => none) ∧ Below w.heap.size w w' := by
  have hmm := @run_makeMap Try.prog
  go_enter Try.func43, Try.ntmps43
  go_wp2
  go_ret
  refine ⟨rfl, ⟨?_, (OM.made w).kept (gb_below (balloc' _ _) none) (by simp)⟩, balloc (balloc' _ _) _⟩

  simp

/-! ### Owner -/
set_option maxHeartbeats 1000000 in
theorem owner_c (tb mb n : Nat) (f : Int → Option Int) (k : Int) (w : World) (h : Tab w tb mb n f) (hk : InZ k) :
    Calls Try.prog 48 #[.pointer (some ⟨tb, 0, none⟩), vz k] w fun e w' => e = .returned (vz ((f k).getD (-1))) ∧ Below w.heap.size w w' := by
  have hl := h.om.look_ok Try.underlying145 (Try.zeroValue3 w) hk
  have hc := h.cell
  cases hf : f k with
  | none =>
    simp only [hf, Option.map_none, Option.getD_none, Option.isSome_none] at hl
    go_enter Try.func48, Try.ntmps48
    go_wp2
    go_ret
    exact ⟨rfl, Below.refl _ _⟩
  | some o =>
    simp only [hf, Option.map_some, Option.getD_some, Option.isSome_some] at hl
    go_enter Try.func48, Try.ntmps48
    go_wp2
    go_ret
    exact ⟨rfl, Below.refl _ _⟩

/-! ### Lock -/
def lockOk (f : Int → Option Int) (k a : Int) : Bool := match f k with
  | none => true
  | some o => decide (o = a)
def lockF (f : Int → Option Int) (k a : Int) : Int → Option Int := if lockOk f k a then updZ f k (some a) else f
set_option maxHeartbeats 1000000 in
theorem lock_c (tb mb n : Nat) (f : Int → Option Int) (k a : Int) (w : World) (h : Tab w tb mb n f) (hk : InZ k) (hn : n < 7000000000000) :
    Calls Try.prog 44 #[.pointer (some ⟨tb, 0, none⟩), vz k, vz a] w fun e w' => e = .returned (.bool (lockOk f k a)) ∧ Tab w' tb mb (n + 1) (lockF f k a) ∧ w.grownBy w' (some mb) := by
  have hl := h.om.look_ok Try.underlying145 (Try.zeroValue3 w) hk
  have hc := h.cell
  have hne : tb ≠ mb := map_ne h.om hc
  obtain ⟨w', hrun, ho, hg⟩ := h.om.store Try.underlying145 (show n < maxLen by unfold maxLen; omega) hk (vz a)
  have hu := upd_map f k (some a)
  rw [Option.map_some] at hu
  rw [hu] at ho
  have HO := hid_ ho; have HG := hid_ hg.grown; have HC := hid_ (gcell hg.grown hc hne)
  clear ho hg hu
  cases hf : f k with
  | none =>
    simp only [hf, Option.map_none, Option.getD_none, Option.isSome_none] at hl
    have HQ : Hid (lockOk f k a = true) := by show _ = _; simp [lockOk, hf]
    go_enter Try.func44, Try.ntmps44
    go_wp2
    go_ret
    exact ⟨by rw [HQ.out]; rfl, ⟨HC.out, by rw [lockF, if_pos HQ.out]; exact HO.out⟩, HG.out⟩
  | some o =>
    simp only [hf, Option.map_some, Option.getD_some, Option.isSome_some] at hl
    by_cases ho : o = a
    · have HQ : Hid (lockOk f k a = true) := by show _ = _; simp [lockOk, hf, ho]
      have hne1 : (o != a) = false := by simp [ho]
      go_enter Try.func44, Try.ntmps44
      go_wp2
      go_ret
      exact ⟨by rw [HQ.out]; rfl, ⟨HC.out, by rw [lockF, if_pos HQ.out]; exact HO.out⟩, HG.out⟩
    · have HQ : Hid (lockOk f k a = false) := by show _ = _; simp [lockOk, hf, ho]
      have hne1 : (o != a) = true := by simp [ho]
      have H := hid_ h
      go_enter Try.func44, Try.ntmps44
      go_wp2
      go_ret
      refine ⟨by rw [HQ.out]; rfl, ⟨hc, ?_⟩, gb_refl _ _⟩
      rw [lockF, if_neg (by rw [HQ.out]; decide)]
      exact H.out.om.size (Nat.le_succ _)
end Go.Proofs.Ytncdkbhkjamdpaa
