/- The device of chapter 03: Evict. -/
import Derived.Test.YtncdkbhkjamdpaaD4
namespace Go.Proofs.Ytncdkbhkjamdpaa
open Go.RowKit Go.Maps

theorem DevT.setLast {w : World} {db mb lb cp n : Nat} {S : DS} (h : DevT w db mb lb cp n S) (k : Nat) (v : Int) :
    DevT (w.setCell ⟨lb, k, none⟩ (vu v)) db mb lb cp n { S with last := S.last.set k v } ∧ w.grownBy (w.setCell ⟨lb, k, none⟩ (vu v)) (some lb) := by
  obtain ⟨o1, g1⟩ := h.own.stored k (vu v)
  have hm : mb ≠ lb := by
    intro e
    obtain ⟨es, c, hb⟩ := h.om.blk
    rcases h.own.2 with ⟨e', _⟩ | ⟨g, cap, cur, e', _, hh, _⟩
    · cases e'
    · injection e' with e'
      injection e' with e'
      injection e' with e'
      subst e'
      rw [e, hh] at hb
      cases hb
  refine ⟨⟨?_, ?_, h.om.kept g1 (by simpa using hm), h.ne⟩, g1⟩
  · have := (g1.block db h.lt (by simpa using h.ne)).trans h.blk
    simpa [DS.row] using this
  · simpa [List.map_set] using o1
theorem DevT.lcell {w : World} {db mb lb cp n : Nat} {S : DS} (h : DevT w db mb lb cp n S) {k : Nat} (hk : k < S.last.length) : w.cell? ⟨lb, k, none⟩ = some (vu S.last[k]) ∧ w.frozen? ⟨lb, k, none⟩ = false := by
  refine ⟨?_, h.own.frozenAt k⟩
  rw [h.own.cellAt k (by omega)]
  simp
def evictS (S : DS) (k : Int) : DS :=
  if isAt S k then (if (stepS S).1 then { (stepS S).2 with last := S.last.set k.toNat (loadS S k), cache := updD S.cache k none } else (stepS S).2) else S
theorem loadS_step (S : DS) (k : Int) : loadS (stepS S).2 k = loadS S k := by
  obtain ⟨h1, h2⟩ := stepS_last S
  unfold loadS isAt
  rw [h1, h2]

set_option maxHeartbeats 1000000 in
theorem evict_c {db mb lb cp n : Nat} {S : DS} (k : Int) (w : World) (h : DevT w db mb lb cp n S) (hS : S.Ok) (hk : InZ k) :
    Calls Try.prog 110 #[.pointer (some ⟨db, 0, none⟩), vz k] w fun e w' => e = .returned (.tuple #[]) ∧ DevRes w w' db mb lb cp n (evictS S k) := by
  have H := hid_ h
  cases hi : isAt S k with
  | false =>
    have HQ : Hid (evictS S k = S) := by show _ = _; rw [evictS, hi]; rfl
    have HI := hid_ hi
    clear h hi
    go_enter Try.func110, Try.ntmps110
    go_wp2_with (go_at_call 108; refine (is_c k _ H.out).mono ?_; rintro e w1 ⟨rfl, rfl⟩; rw [HI.out])
    refine bodyPost_ret (results_none rfl _ _ _) rfl ?_
    exact ⟨rfl, by rw [HQ.out]; exact H.out, Fr.refl _ _⟩
  | true =>
    have HI := hid_ hi
    have hin : 0 ≤ k ∧ k < S.last.length := by simpa [isAt] using hi
    have HC := hid_ (stepS_last S)
    cases hst : (stepS S).1 with
    | false =>
      have HQ : Hid (evictS S k = (stepS S).2) := by show _ = _; rw [evictS, hi, hst]; rfl
      have HST := hid_ hst
      clear h hi hst
      go_enter Try.func110, Try.ntmps110
      go_wp2_with (first
        | (go_at_call 108; refine (is_c k _ H.out).mono ?_; rintro e w1 ⟨rfl, rfl⟩; rw [HI.out])
        | (go_at_call 128; refine (step_c _ H.out hS).mono ?_; rintro e w2 ⟨rfl, ht, hg⟩; rw [HST.out]; have HT := hid_ ht; have HG := hid_ hg; clear ht hg))
      refine bodyPost_ret (results_none rfl _ _ _) rfl ?_
      exact ⟨rfl, by rw [HQ.out]; exact HT.out, Fr.of_gb HG.out (by simp)⟩
    | true =>
      obtain ⟨j, rfl⟩ : ∃ j : Nat, k = j := ⟨k.toNat, by omega⟩
      have HLS := hid_ (loadS_step S j)
      obtain ⟨lv, hlv⟩ : ∃ lv, loadS S j = lv := ⟨_, rfl⟩
      have HLV := hid_ hlv
      have HQ : Hid (evictS S j = { (stepS S).2 with last := S.last.set j lv, cache := updD S.cache j none }) := by show _ = _; rw [evictS, hi, hst, hlv]; rfl
      have HST := hid_ hst
      obtain ⟨S1, hS1⟩ : ∃ S1, (stepS S).2 = S1 := ⟨_, rfl⟩
      have HS1 := hid_ hS1
      rw [hS1] at HQ HC HLS
      have hj : j < S1.last.length := by rw [HC.out.1]; omega
      clear h hi hst hS1 hlv
      go_enter Try.func110, Try.ntmps110
      go_upto_region 1 with (first
        | (go_at_call 108; refine (is_c _ _ H.out).mono ?_; rintro e w1 ⟨rfl, rfl⟩; rw [HI.out])
        | (go_at_call 128; refine (step_c _ H.out hS).mono ?_; rintro e w2 ⟨rfl, ht, hg⟩; rw [HST.out]; rw [HS1.out] at ht; have HT := hid_ ht; have HG := hid_ hg; clear ht hg))
      have HTd := hid_ (HT.out.mono (w' := w2.drew) (Below.refl _ _).drew)
      have hd0 := HTd.out.c0
      have hcap := HT.out.cap
      go_region_held3 (fun W' => W'.cell? ⟨db, 0, none⟩ = some (.slice (some ⟨lb, 0, none⟩) S1.last.length cp))
        (first | exact hd0 | exact gcell (gb_setCell _ ⟨lb, j, none⟩ _) hd0 HT.out.ne)
        ((go_at_call 58; refine (load_c _ _ HTd.out hk).mono ?_; rintro e w3 ⟨rfl, hb⟩; rw [HLS.out, HLV.out]; have HT3 := hid_ (HTd.out.mono hb); replace hd0 := cmono hb hd0; obtain ⟨hl1, hl2⟩ := HT3.out.lcell hj; have HB3 := hid_ hb; clear hb))
      have HSL := hid_ (HT3.out.setLast j lv)
      have hd1 := HSL.out.1.c1
      go_wp2_with (at_delete; refine wpList_del rfl _ _ 154 rfl 159 Try.underlying154 mb n _ rfl HSL.out.1.om j rfl hk ?_; intro w4 ho hg; have HO4 := hid_ ho; have HG4 := hid_ hg.grown; clear ho hg)
      go_end0
      have hu := upd_mapD S1.cache j none
      have ho := HO4.out
      rw [show (none : Option Value) = (none : Option Dt).map Dt.enc from rfl, hu] at ho
      refine ⟨rfl, ?_, ?_⟩
      · rw [HQ.out, ← HC.out.1, ← HC.out.2]
        exact HSL.out.1.turn HG4.out ho
      · exact (((Fr.of_gb HG.out (by simp)).trans (Fr.of_below (Below.refl _ _).drew)).trans (Fr.of_below HB3.out)).trans ((Fr.of_gb HSL.out.2 (by simp)).trans (Fr.of_gb HG4.out (by simp)))
end Go.Proofs.Ytncdkbhkjamdpaa
