/- The program's transaction (chapter 20): its small methods. -/
import Derived.Test.YtncdkbhkjamdpaaT0
namespace Go.Proofs.Ytncdkbhkjamdpaa
open Go.RowKit Go.Maps

/-- What a method of the program's leaves. -/
structure TRes (w w' : World) (tb mb n : Nat) (wv gv : Value) (T : TS) : Prop where
  ex : ∃ wv' gv', TxT w' tb mb n wv' gv' T ∧ NewOr w wv wv' ∧ NewOr w gv gv'
  fr : Fr (tw tb mb gv) w w'
theorem TRes.same {w w' : World} {tb mb n : Nat} {wv gv : Value} {T : TS} (h : TxT w' tb mb n wv gv T) (hf : Fr (tw tb mb gv) w w') : TRes w w' tb mb n wv gv T := ⟨⟨wv, gv, h, NewOr.refl _ _, NewOr.refl _ _⟩, hf⟩
theorem tw_tb (tb mb : Nat) (gv : Value) : tb ∈ tw tb mb gv := by simp [tw]
theorem tw_mb (tb mb : Nat) (gv : Value) : mb ∈ tw tb mb gv := by simp [tw]

/-! ### New -/
set_option maxHeartbeats 400000 in
theorem tnew_c (w : World) : Calls Try.prog 34 #[] w fun e w' => ∃ tb mb, e = .returned (.pointer (some ⟨tb, 0, none⟩)) ∧ TxT w' tb mb 0 (.slice none 0 0) (.slice none 0 0) newT ∧ Below w.heap.size w w' ∧ w.heap.size ≤ tb ∧ w.heap.size ≤ mb := by
  have hmm := @run_makeMap Try.prog
  go_enter Try.func34, Try.ntmps34
  go_wp2
  go_ret
  refine ⟨w.heap.size + 1, w.heap.size, rfl, ⟨?_, World.ownsRow_nil _ _ _ _, ?_, World.ownsRow_nil _ _ _ _⟩, balloc (balloc' _ _) _, by omega, Nat.le_refl _⟩
  · have := heap_alloc_new (w.alloc (.map #[] 0)) (.cells #[.slice none 0 0, .map (some w.heap.size), .int .i64 0, .bool false, .slice none 0 0, .int .i64 0, .bool false] 65)
    rw [World.size_alloc] at this
    exact this
  · exact (OM.made w).kept (gb_below (balloc' _ _) none) (by simp)

section
variable {tb mb n : Nat} {wv gv : Value} {T : TS}
/-! ### Begin, End, Spoil, Spoilt, Name, Named -/
set_option maxHeartbeats 400000 in
theorem begin_c (w : World) (h : TxT w tb mb n wv gv T) (hd : 0 ≤ T.depth ∧ T.depth ≤ 1000000) :
    Calls Try.prog 71 #[.pointer (some ⟨tb, 0, none⟩)] w fun e w' => e = .returned (vz (T.depth + 1)) ∧ TRes w w' tb mb n wv gv { T with depth := T.depth + 1 } := by
  have h2 := h.c2
  have z2 := h.fz 2
  obtain ⟨d1, d2⟩ := hd
  have HG := hid_ (h.set 2 (vz (T.depth + 1)) { T with depth := T.depth + 1 } rfl rfl rfl rfl)
  clear h
  go_enter Try.func71, Try.ntmps71
  go_wp2
  go_ret
  exact ⟨rfl, TRes.same HG.out (Fr.of_gb (gb_setCell _ ⟨tb, 2, none⟩ _) (tw_tb _ _ _))⟩
set_option maxHeartbeats 400000 in
theorem end_t (w : World) (h : TxT w tb mb n wv gv T) (hd : 0 ≤ T.depth ∧ T.depth ≤ 1000000) :
    Calls Try.prog 72 #[.pointer (some ⟨tb, 0, none⟩)] w fun e w' => e = .returned (vz (max 0 (T.depth - 1))) ∧ TRes w w' tb mb n wv gv { T with depth := max 0 (T.depth - 1) } := by
  have h2 := h.c2
  have z2 := h.fz 2
  obtain ⟨d1, d2⟩ := hd
  have hmx : (if (0 : Int) < T.depth - 1 then T.depth - 1 else 0) = max 0 (T.depth - 1) := by rw [Int.max_def]; split <;> split <;> omega
  have hmx' : (if (1 : Int) < T.depth then T.depth - 1 else 0) = max 0 (T.depth - 1) := by rw [Int.max_def]; split <;> split <;> omega
  have HG := hid_ (h.set 2 (vz (max 0 (T.depth - 1))) { T with depth := max 0 (T.depth - 1) } rfl rfl rfl rfl)
  clear h
  go_enter Try.func72, Try.ntmps72
  go_wp2
  go_ret
  exact ⟨rfl, TRes.same HG.out (Fr.of_gb (gb_setCell _ ⟨tb, 2, none⟩ _) (tw_tb _ _ _))⟩
set_option maxHeartbeats 400000 in
theorem spoil_c (w : World) (h : TxT w tb mb n wv gv T) :
    Calls Try.prog 86 #[.pointer (some ⟨tb, 0, none⟩)] w fun e w' => e = .returned (.tuple #[]) ∧ TRes w w' tb mb n wv gv { T with bad := true } := by
  have h3 := h.c3
  have z3 := h.fz 3
  have HG := hid_ (h.set 3 (.bool true) { T with bad := true } rfl rfl rfl rfl)
  clear h
  go_enter Try.func86, Try.ntmps86
  go_wp2
  go_end0
  exact ⟨rfl, TRes.same HG.out (Fr.of_gb (gb_setCell _ ⟨tb, 3, none⟩ _) (tw_tb _ _ _))⟩
set_option maxHeartbeats 400000 in
theorem spoilt_c (w : World) (h : TxT w tb mb n wv gv T) :
    Calls Try.prog 74 #[.pointer (some ⟨tb, 0, none⟩)] w fun e w' => e = .returned (.bool T.bad) ∧ Below w.heap.size w w' := by
  have h3 := h.c3
  clear h
  go_enter Try.func74, Try.ntmps74
  go_wp2
  go_ret
  exact ⟨rfl, Below.refl _ _⟩
set_option maxHeartbeats 400000 in
theorem name_c (k : Int) (w : World) (h : TxT w tb mb n wv gv T) :
    Calls Try.prog 92 #[.pointer (some ⟨tb, 0, none⟩), vz k] w fun e w' => e = .returned (.tuple #[]) ∧ TRes w w' tb mb n wv gv { T with root := k, is := true } := by
  have h5 := h.c5
  have h6 := h.c6
  have z5 := h.fz 5
  have z6 := h.fz 6
  have HG := hid_ ((h.set 5 (vz k) { T with root := k } rfl rfl rfl rfl).set 6 (.bool true) { T with root := k, is := true } rfl rfl rfl rfl)
  clear h
  go_enter Try.func92, Try.ntmps92
  go_wp2
  go_end0
  exact ⟨rfl, TRes.same HG.out ((Fr.of_gb (gb_setCell _ ⟨tb, 5, none⟩ _) (tw_tb _ _ _)).trans (Fr.of_gb (gb_setCell _ ⟨tb, 6, none⟩ _) (tw_tb _ _ _)))⟩
set_option maxHeartbeats 400000 in
theorem named_c (w : World) (h : TxT w tb mb n wv gv T) :
    Calls Try.prog 73 #[.pointer (some ⟨tb, 0, none⟩)] w fun e w' => e = .returned (.tuple #[vz T.root, .bool T.is]) ∧ Below w.heap.size w w' := by
  have h5 := h.c5
  have h6 := h.c6
  clear h
  have e5 := Ext.cell h5
  have e6 := Ext.cell h6
  go_enter Try.func73, Try.ntmps73
  go_wp2
  refine wp_region_ext (by kernel_rfl) (by kernel_rfl) ?_
  repeat (first | go_big_quiet_skip | (go_big_quiet_want; go_big_quiet_op; first | go_big_quiet_on | (apply Exists.intro; refine ⟨fun _ => ?_, ?_⟩; (focus (fail)); go_big_quiet_on)))
  refine wpQuiet_nil ?_
  intro wq hw'
  obtain ⟨pq, rfl⟩ := hw'
  go_wp2
  go_ret2
  exact ⟨rfl, pq.h⟩
end
end Go.Proofs.Ytncdkbhkjamdpaa
