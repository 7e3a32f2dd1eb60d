/- The device of chapter 03: Store. -/
import Derived.Test.YtncdkbhkjamdpaaD1
namespace Go.Proofs.Ytncdkbhkjamdpaa
open Go.RowKit Go.Maps

def noD : Dt := ⟨0, 0, false⟩
theorem map_getD (o : Option Dt) : (o.map Dt.enc).getD (.agg #[vu 0, vu 0, .bool false]) = .agg #[vu (o.getD noD).c, vu (o.getD noD).s, .bool (o.getD noD).fl] := by
  cases o <;> rfl
def storeS (S : DS) (k v : Int) : DS :=
  if isAt S k then (if (stepS S).1 then { (stepS S).2 with cache := updD S.cache k (some ⟨v, ((S.cache k).getD noD).s, ((S.cache k).getD noD).fl⟩) } else (stepS S).2) else S

/-- What a method leaves that writes the device. -/
structure DevRes (w w' : World) (db mb lb cp n : Nat) (S : DS) : Prop where
  t : DevT w' db mb lb cp n S
  fr : Fr [db, mb, lb] w w'

set_option maxHeartbeats 1000000 in
theorem store_c {db mb lb cp n : Nat} {S : DS} (k v : Int) (w : World) (h : DevT w db mb lb cp n S) (hS : S.Ok) (hk : InZ k) (hn : n < 7000000000000) :
    Calls Try.prog 103 #[.pointer (some ⟨db, 0, none⟩), vz k, vu v] w fun e w' => e = .returned (.tuple #[]) ∧ DevRes w w' db mb lb cp (n + 1) (storeS S k v) := by
  have H := hid_ h
  cases hi : isAt S k with
  | false =>
    have HQ : Hid (storeS S k v = S) := by show _ = _; rw [storeS, hi]; rfl
    have HI := hid_ hi
    clear h hi
    go_enter Try.func103, Try.ntmps103
    go_wp2_with (go_at_call 108; refine (is_c k _ H.out).mono ?_; rintro e w1 ⟨rfl, rfl⟩; rw [HI.out])
    go_end0
    exact ⟨rfl, by rw [HQ.out]; exact H.out.size (Nat.le_succ _), Fr.refl _ _⟩
  | true =>
    have HI := hid_ hi
    have hin : 0 ≤ k ∧ k < S.last.length := by simpa [isAt] using hi
    have HC := hid_ (stepS_last S)
    cases hst : (stepS S).1 with
    | false =>
      have HQ : Hid (storeS S k v = (stepS S).2) := by show _ = _; rw [storeS, hi, hst]; rfl
      have HST := hid_ hst
      clear h hi hst
      go_enter Try.func103, Try.ntmps103
      go_wp2_with (first
        | (go_at_call 108; refine (is_c k _ H.out).mono ?_; rintro e w1 ⟨rfl, rfl⟩; rw [HI.out])
        | (go_at_call 128; refine (step_c _ H.out hS).mono ?_; rintro e w2 ⟨rfl, ht, hg⟩; rw [HST.out]; have HT := hid_ ht; have HG := hid_ hg; clear ht hg))
      go_end0
      exact ⟨rfl, by rw [HQ.out]; exact HT.out.size (Nat.le_succ _), Fr.of_gb HG.out (by simp)⟩
    | true =>
      obtain ⟨d, hd⟩ : ∃ d, (S.cache k).getD noD = d := ⟨_, rfl⟩
      have HQ : Hid (storeS S k v = { (stepS S).2 with cache := updD S.cache k (some ⟨v, d.s, d.fl⟩) }) := by show _ = _; rw [storeS, hi, hst, hd]; rfl
      have HST := hid_ hst
      have HDD := hid_ hd
      obtain ⟨S1, hS1⟩ : ∃ S1, (stepS S).2 = S1 := ⟨_, rfl⟩
      have HS1 := hid_ hS1
      rw [hS1] at HQ HC
      clear h hi hst hd hS1
      go_enter Try.func103, Try.ntmps103
      go_upto_region 3 with (first
        | (go_at_call 108; refine (is_c k _ H.out).mono ?_; rintro e w1 ⟨rfl, rfl⟩; rw [HI.out])
        | (go_at_call 128; refine (step_c _ H.out hS).mono ?_; rintro e w2 ⟨rfl, ht, hg⟩; rw [HST.out]; rw [HS1.out] at ht; have HT := hid_ ht; have HG := hid_ hg; have hc1 := ht.c1; have hl := ht.om.look Try.underlying154 (zero159 w2) hk; rw [HC.out.2, map_getD, HDD.out] at hl; clear ht hg))
      obtain ⟨W, hW⟩ : ∃ W, w2.alloc (.cells #[.int .u64 v, .int .u64 d.s, .bool d.fl] 159) = W := ⟨_, rfl⟩
      have g0 : W.drew.cell? ⟨w2.heap.size, 0, none⟩ = some (.int .u64 v) := by rw [← hW]; exact cell_new 0 rfl
      have g1 : W.drew.cell? ⟨w2.heap.size, 1, none⟩ = some (.int .u64 d.s) := by rw [← hW]; exact cell_new 1 rfl
      have g2 : W.drew.cell? ⟨w2.heap.size, 2, none⟩ = some (.bool d.fl) := by rw [← hW]; exact cell_new 2 rfl
      have hBW : Below w2.heap.size w2 W.drew := by rw [← hW]; exact (balloc' _ _).drew
      have HTW := hid_ (HT.out.mono hBW)
      have gm : W.drew.cell? ⟨db, 1, none⟩ = some (.map (some mb)) := HTW.out.c1
      obtain ⟨w3, hrun, ho, hg⟩ := HTW.out.om.store Try.underlying154 (show n < maxLen by unfold maxLen; omega) hk (.agg #[vu v, vu d.s, .bool d.fl])
      have hu := upd_mapD S1.cache k (some ⟨v, d.s, d.fl⟩)
      rw [show (some (⟨v, d.s, d.fl⟩ : Dt)).map Dt.enc = some (.agg #[vu v, vu d.s, .bool d.fl]) from rfl] at hu
      rw [hu] at ho
      have HO := hid_ ho; have HG3 := hid_ hg.grown
      clear ho hg hu hl hc1
      rw [hW]
      go_region_held3 (fun W' => W'.cell? ⟨db, 1, none⟩ = some (.map (some mb)) ∧ W'.cell? ⟨w2.heap.size, 0, none⟩ = some (.int .u64 v) ∧ W'.cell? ⟨w2.heap.size, 1, none⟩ = some (.int .u64 d.s) ∧ W'.cell? ⟨w2.heap.size, 2, none⟩ = some (.bool d.fl))
        (first | exact ⟨gm, g0, g1, g2⟩ | exact ⟨gcell HG3.out gm (map_ne HTW.out.om gm), gcell HG3.out g0 (map_ne HTW.out.om g0), gcell HG3.out g1 (map_ne HTW.out.om g1), gcell HG3.out g2 (map_ne HTW.out.om g2)⟩)
        (fail)
      go_wp2
      go_end0
      refine ⟨rfl, ?_, ?_⟩
      · rw [HQ.out, ← HC.out.2]
        exact HTW.out.turn HG3.out HO.out
      · exact ((Fr.of_gb HG.out (by simp)).trans (Fr.of_below hBW)).trans (Fr.of_gb HG3.out (by simp))
end Go.Proofs.Ytncdkbhkjamdpaa
