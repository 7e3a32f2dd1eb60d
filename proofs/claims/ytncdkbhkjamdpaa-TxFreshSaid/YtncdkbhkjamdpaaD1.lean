/- The device of chapter 03: Load, Fuse, Store, Dirty. -/
import Derived.Test.YtncdkbhkjamdpaaD0
import Derived.Test.YtncdkbhkjamdpaaM1
namespace Go.Proofs.Ytncdkbhkjamdpaa
open Go.RowKit Go.Maps Go.Sort Go.Shelf

/-! ### What a call that writes some blocks leaves -/
structure Fr (bs : List Nat) (w w' : World) : Prop where
  os : w'.os = w.os
  tape : w'.tape = w.tape
  output : w'.output = w.output
  size : w.heap.size ≤ w'.heap.size
  block : ∀ k, k < w.heap.size → k ∉ bs → w'.heap[k]? = w.heap[k]?
section
variable {bs : List Nat} {w w' w'' : World}
theorem Fr.refl (bs : List Nat) (w : World) : Fr bs w w := ⟨rfl, rfl, rfl, Nat.le_refl _, fun _ _ _ => rfl⟩
theorem Fr.trans (h : Fr bs w w') (h2 : Fr bs w' w'') : Fr bs w w'' :=
  ⟨h2.os.trans h.os, h2.tape.trans h.tape, h2.output.trans h.output, Nat.le_trans h.size h2.size, fun k hk hr => (h2.block k (Nat.lt_of_lt_of_le hk h.size) hr).trans (h.block k hk hr)⟩
theorem Fr.of_gb {b : Nat} (h : w.grownBy w' (some b)) (hb : b ∈ bs) : Fr bs w w' :=
  ⟨h.os, h.tape, h.output, h.size, fun k hk hr => h.block k hk (by intro e; injection e with e; subst e; exact hr hb)⟩
theorem Fr.of_below (h : Below w.heap.size w w') : Fr bs w w' := ⟨h.os, h.tape, h.output, h.size, fun k hk _ => h.block k hk⟩
theorem Fr.below {W : World} (h : Fr bs w w') (hB : Below W.heap.size W w) (hb : ∀ b ∈ bs, W.heap.size ≤ b) : Below W.heap.size W w' :=
  ⟨h.os.trans hB.os, h.tape.trans hB.tape, h.output.trans hB.output, Nat.le_trans hB.size h.size, fun k hk => (h.block k (Nat.lt_of_lt_of_le hk hB.size) (fun e => by have := hb k e; omega)).trans (hB.block k hk)⟩
theorem Fr.cell (h : Fr bs w w') {a : Addr} {v : Value} (hc : w.cell? a = some v) (hb : a.block ∉ bs) : w'.cell? a = some v := by
  rw [World.cell?_of_block (h.block a.block (World.block_lt_of_cell? w a hc) hb)]; exact hc
theorem Fr.own (h : Fr bs w w') {base : Nat} {e : TypeId} {size : Nat} {v : Value} {n : Nat} {xs : List Value} (ho : w.ownsRow base e size v n xs) (hb : ∀ b, v.ownBlock = some b → b ∉ bs) : w'.ownsRow base e size v n xs := by
  refine ⟨ho.1, ?_⟩
  rcases ho.2 with hn | ⟨g, cap, cur, rfl, hg, hh, rest⟩
  · exact .inl hn
  · exact .inr ⟨g, cap, cur, rfl, hg, (h.block g (Array.getElem?_eq_some_iff.1 hh).1 (hb g rfl)).trans hh, rest⟩
theorem Fr.om (h : Fr bs w w') {b n : Nat} {f : Int → Option Value} (ho : OM w b n f) (hb : b ∉ bs) : OM w' b n f := by
  have hlt := ho.lt
  obtain ⟨⟨D, ⟨es, c, hm, F, hs, hD⟩, h2⟩, h3⟩ := ho
  exact ⟨⟨D, ⟨es, c, (h.block b hlt hb).trans hm, F, hs, hD⟩, h2⟩, h3⟩
end
theorem upd_mapD (f : Int → Option Dt) (k : Int) (v : Option Dt) : upd (fun k => (f k).map Dt.enc) k (v.map Dt.enc) = fun x => ((fun x => if x = k then v else f x) x).map Dt.enc := by
  funext x
  unfold upd
  dsimp only
  split <;> rfl
def updD (f : Int → Option Dt) (k : Int) (v : Option Dt) : Int → Option Dt := fun x => if x = k then v else f x
/-- The map's block turns. -/
theorem DevT.turn {w w' : World} {db mb lb cp n n' : Nat} {S : DS} {f : Int → Option Dt} (h : DevT w db mb lb cp n S) (hg : w.grownBy w' (some mb)) (ho : OM w' mb n' (fun k => (f k).map Dt.enc)) : DevT w' db mb lb cp n' { S with cache := f } := by
  have h1 := map_ne h.om h.c0
  refine ⟨(hg.block db h.lt (by simpa using h1)).trans h.blk, ?_, ho, h.ne⟩
  refine h.own.kept hg (.inr ?_)
  simp only [Value.ownBlock]
  intro e
  injection e with e
  subst e
  obtain ⟨es, c, hb⟩ := h.om.blk
  rcases h.own.2 with ⟨e, _⟩ | ⟨g, cap, cur, e, _, hh, _⟩
  · cases e
  · injection e with e
    injection e with e
    injection e with e
    subst e
    rw [hb] at hh
    cases hh

/-! ### Fuse -/
set_option maxHeartbeats 400000 in
theorem fuse_c {db mb lb cp n : Nat} {S : DS} (m : Int) (w : World) (h : DevT w db mb lb cp n S) :
    Calls Try.prog 111 #[.pointer (some ⟨db, 0, none⟩), vz m] w fun e w' => e = .returned (.tuple #[]) ∧ DevT w' db mb lb cp n { S with fuse := max 0 m } ∧ w.grownBy w' (some db) := by
  have h2 := h.c2
  have z2 := h.fz 2
  have HG : Hid (DevT (w.setCell ⟨db, 2, none⟩ (vz (max 0 m))) db mb lb cp n { S with fuse := max 0 m }) := h.set 2 (vz (max 0 m)) _ rfl rfl rfl
  have hmx : (if (0 : Int) < m then m else 0) = max 0 m := by rw [Int.max_def]; split <;> split <;> omega
  clear h
  go_enter Try.func111, Try.ntmps111
  go_wp2
  go_end0
  exact ⟨rfl, HG.out, gb_setCell _ _ _⟩

/-! ### Load -/
def loadS (S : DS) (k : Int) : Int := if isAt S k then (match S.cache k with
  | some d => d.c
  | none => S.last.getD k.toNat 0) else 0
theorem zero159 (w : World) : (zeroValue 159).run Try.prog w = .ok (.agg #[vu 0, vu 0, .bool false]) w := by kernel_rfl
set_option maxHeartbeats 1000000 in
theorem load_c {db mb lb cp n : Nat} {S : DS} (k : Int) (w : World) (h : DevT w db mb lb cp n S) (hk : InZ k) :
    Calls Try.prog 58 #[.pointer (some ⟨db, 0, none⟩), vz k] w fun e w' => e = .returned (vu (loadS S k)) ∧ Below w.heap.size w w' := by
  have H := hid_ h
  have hc0 := h.c0
  have hc1 := h.c1
  have hl := h.om.look_ok Try.underlying154 (zero159 w) hk
  cases hi : isAt S k with
  | false =>
    have HQ : Hid (loadS S k = 0) := by show _ = _; rw [loadS, hi]; rfl
    have HI := hid_ hi
    clear h hi hl
    go_enter Try.func58, Try.ntmps58
    go_wp2_with (go_at_call 108; refine (is_c k _ H.out).mono ?_; rintro e w1 ⟨rfl, rfl⟩; rw [HI.out])
    go_ret
    exact ⟨by rw [HQ.out]; rfl, Below.refl _ _⟩
  | true =>
    have HI := hid_ hi
    have hin : 0 ≤ k ∧ k < S.last.length := by simpa [isAt] using hi
    obtain ⟨i1, i2⟩ := hin
    cases hf : S.cache k with
    | some d =>
      have HQ : Hid (loadS S k = d.c) := by show _ = _; rw [loadS, hi, hf]; rfl
      simp only [hf, Option.map_some, Option.getD_some, Option.isSome_some] at hl
      have hl' : (Instr.lookup 154 (.map (some mb)) (.int .i64 k) true).run Try.prog w = .ok (.tuple #[.agg #[vu d.c, vu d.s, .bool d.fl], .bool true]) w := hl
      clear h hi hl hf
      go_enter Try.func58, Try.ntmps58
      go_wp2_with (go_at_call 108; refine (is_c k _ H.out).mono ?_; rintro e w1 ⟨rfl, rfl⟩; rw [HI.out])
      go_ret
      exact ⟨by rw [HQ.out]; rfl, balloc' _ _⟩
    | none =>
      have hg : S.last.getD k.toNat 0 = S.last[k.toNat]'(by omega) := by rw [List.getD_eq_getElem?_getD, List.getElem?_eq_getElem (by omega)]; rfl
      have HQ : Hid (loadS S k = S.last[k.toNat]'(by omega)) := by show _ = _; rw [loadS, hi, hf, ← hg]; rfl
      simp only [hf, Option.map_none, Option.getD_none, Option.isSome_none] at hl
      have hcl : w.cell? ⟨lb, k.toNat, none⟩ = some (vu (S.last[k.toNat]'(by omega))) := by
        have := (h.own.cellAt k.toNat (by omega))
        rw [this]
        simp
      obtain ⟨j, rfl⟩ : ∃ j : Nat, k = j := ⟨k.toNat, by omega⟩
      simp only [Int.toNat_natCast] at hcl HQ
      have hcap := h.cap
      have hcl2 := cell_old w (.cells #[vu 0, vu 0, .bool false] 159) hcl
      have hc02 := cell_old w (.cells #[vu 0, vu 0, .bool false] 159) hc0
      clear h hi hf
      go_enter Try.func58, Try.ntmps58
      go_wp2_with (go_at_call 108; refine (is_c _ _ H.out).mono ?_; rintro e w1 ⟨rfl, rfl⟩; rw [HI.out])
      go_ret
      exact ⟨by rw [HQ.out]; rfl, balloc' _ _⟩
end Go.Proofs.Ytncdkbhkjamdpaa
