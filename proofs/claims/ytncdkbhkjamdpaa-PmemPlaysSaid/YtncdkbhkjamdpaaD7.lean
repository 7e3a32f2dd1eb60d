/- The device of chapter 03: Crash. -/
import Derived.Test.YtncdkbhkjamdpaaD6
import Derived.Carry
namespace Go.Proofs.Ytncdkbhkjamdpaa
open Go.RowKit Go.Maps

def crashK (S : DS) (p : Int × Int) : DS :=
  if p.2 % 3 = 2 then { S with last := S.last.set p.1.toNat ((S.cache p.1).getD noD).c }
  else if p.2 % 3 = 1 ∧ ((S.cache p.1).getD noD).fl = true then { S with last := S.last.set p.1.toNat ((S.cache p.1).getD noD).s }
  else S
theorem crashK_keep (S : DS) (p : Int × Int) : (crashK S p).last.length = S.last.length ∧ (crashK S p).cache = S.cache := by
  unfold crashK; split
  · exact ⟨by simp, rfl⟩
  · split
    · exact ⟨by simp, rfl⟩
    · exact ⟨rfl, rfl⟩
theorem crash_fold (l : List (Int × Int)) : ∀ S : DS, (l.foldl crashK S).last.length = S.last.length ∧ (l.foldl crashK S).cache = S.cache := by
  induction l with
  | nil => intro S; exact ⟨rfl, rfl⟩
  | cons p l ih => intro S; obtain ⟨a, b⟩ := ih (crashK S p); obtain ⟨c, d⟩ := crashK_keep S p; exact ⟨by rw [List.foldl_cons, a, c], by rw [List.foldl_cons, b, d]⟩
def wipeS (S : DS) : DS := { S with cache := fun _ => none, dead := false, fuse := 0 }
theorem DevT.setMap {w : World} {db mb lb cp n : Nat} {S : DS} (h : DevT w db mb lb cp n S) :
    DevT ((w.alloc (.map #[] 0)).setCell ⟨db, 1, none⟩ (.map (some w.heap.size))) db w.heap.size lb cp 0 { S with cache := fun _ => none } := by
  have hb := hmono (balloc' w (.map #[] 0)) h.blk
  refine ⟨?_, ?_, ?_, h.ne⟩
  · have := heap_setCell_same (w.alloc (.map #[] 0)) db 1 _ 156 (.map (some w.heap.size)) hb
    exact this
  · exact ownsRow_setCell_other (h.own.alloc _) (by simpa [Value.ownBlock] using h.ne.symm) _
  · exact (OM.made w).kept (gb_setCell (w.alloc (.map #[] 0)) ⟨db, 1, none⟩ _) (by have := h.lt; simp; omega)

structure CrashRes (w w' : World) (db mb lb cp n : Nat) (S : DS) (keep : List Int) : Prop where
  ex : ∃ ks mb', KeysOf (fun k => (S.cache k).map Dt.enc) ks ∧ DevT w' db mb' lb cp 0 (wipeS ((ks.zip keep).foldl crashK S)) ∧ w.heap.size ≤ mb'
  fr : Fr [db, mb, lb] w w'

set_option maxHeartbeats 4000000 in
set_option maxRecDepth 100000 in
theorem crash_c {db mb lb cp n : Nat} {S : DS} (keep : List Int) (v : Value) (w : World) (h : DevT w db mb lb cp n S) (hS : S.Ok) (hn : n ≤ 1000000) (hv : RdB w v keep) (hbk : Bytes keep)
    (hvl : ∀ g, 0 < keep.length → v.ownBlock = some g → g ≠ lb) :
    Calls Try.prog 106 #[.pointer (some ⟨db, 0, none⟩), v] w fun e w' => e = .returned (.tuple #[]) ∧ CrashRes w w' db mb lb cp n S keep := by
  have H := hid_ h
  have HV := hid_ hv
  have HBK := hid_ hbk
  have HOKK := hid_ hS.keys
  have HVL := hid_ hvl
  clear h hvl
  obtain ⟨A, c, rfl, hvc, hvc', _⟩ := hv
  have hmm := @run_makeMap Try.prog
  go_enter Try.func106, Try.ntmps106
  go_wp2_with (go_at_call 63; refine (dirty_c _ H.out (by omega)).mono ?_; rintro e w3 ⟨vk, ks, rfl, hk, hkl, hO, hb⟩; have HK := hid_ hk; have HR := hid_ (RdI.own hO rfl); have HT3 := hid_ (H.out.mono hb); have HB := hid_ hb; have HNE : Hid (∀ g, vk.ownBlock = some g → g ≠ lb) := (fun g hg => by have h1 := (hO.lt g hg).1; have h2 := H.out.bnd; omega); obtain ⟨Ak, ck, rfl, hc1, hc2, _⟩ := id HR.out; clear hk hO hb)
  go_loopw [11] (fun i wr => ∃ k : Nat, k ≤ ks.length ∧ k ≤ keep.length ∧ i = .int .i64 k ∧ Hid (FenceRel w3 db mb lb cp n (((ks.zip keep).take k).foldl crashK S) (.slice Ak ks.length ck) ks wr ∧ RdB wr (.slice A keep.length c) keep)) (fun i _ => ks.length - (intOf i).toNat)
  case atStart => exact ⟨0, Nat.zero_le _, Nat.zero_le _, rfl, ⟨HT3.out, Fr.refl _ _, HR.out⟩, HV.out.mono HB.out⟩
  case round =>
    obtain ⟨k, hk, hkk, rfl, HA⟩ := hrel
    by_cases hlt : k < ks.length
    · obtain ⟨b, o, rfl, h1⟩ := RdI.at HA.out.1.rk (Below.refl _ _) hlt
      have hmem := (HK.out.mem ks[k]).1 (List.getElem_mem hlt)
      have hin : 0 ≤ ks[k] ∧ ks[k] < S.last.length := HOKK.out _ (by simpa using hmem)
      have hcf := crash_fold ((ks.zip keep).take k) S
      by_cases hkl : k < keep.length
      · obtain ⟨b2, o2, rfl, h2⟩ := RdB.at HA.out.2 (Below.refl _ _) hkl
        have hby := HBK.out _ (List.getElem_mem hkl)
        have hzl : k < (ks.zip keep).length := by simp; omega
        have HFT := hid_ (fold_take crashK S hzl)
        have hzg : (ks.zip keep)[k] = (ks[k], keep[k]) := by simp
        rw [hzg] at HFT
        generalize ((ks.zip keep).take k).foldl crashK S = S' at HA HFT hcf
        obtain ⟨x, hx⟩ : ∃ x : Nat, ks[k] = x := ⟨ks[k].toNat, by omega⟩
        rw [hx] at h1 hin HFT
        generalize keep[k] = q at h2 hby HFT
        obtain ⟨hq1, hq2⟩ := hby
        clear hmem hzg hx
        have hxl : x < S'.last.length := by omega
        have HT' := hid_ HA.out.1.t
        have hc1' := HT'.out.c1
        have hcap := HT'.out.cap
        have hzx : InZ x := ⟨by omega, by omega⟩
        have hl := HT'.out.om.look Try.underlying154 (zero159 wr) hzx
        rw [map_getD] at hl
        obtain ⟨d, hd⟩ : ∃ d, (S'.cache x).getD noD = d := ⟨_, rfl⟩
        rw [hd] at hl
        have HDD := hid_ hd
        have h2a : ∀ ob, (wr.alloc ob).cell? ⟨b2, o2 + k, none⟩ = some (.int .u8 q) := fun ob => cell_old wr ob h2
        clear hd hcf
        by_cases c2 : q % 3 = 2
        · have HF : Hid (crashK S' ((x : Int), q) = { S' with last := S'.last.set x d.c }) := by show _ = _; simp only [crashK, c2, HDD.out, if_true]; rfl
          have e2 : (q % 3 == 2) = true := by simp [c2]
          go_upto_region 7 with (fail)
          obtain ⟨W, hW⟩ : ∃ W, wr.alloc (.cells #[.int .u64 d.c, .int .u64 d.s, .bool d.fl] 159) = W := ⟨_, rfl⟩
          have g0 : W.drew.cell? ⟨wr.heap.size, 0, none⟩ = some (.int .u64 d.c) := by rw [← hW]; exact cell_new 0 rfl
          have hBW : Below wr.heap.size wr W.drew := by rw [← hW]; exact (balloc' _ _).drew
          have HTW := hid_ (HT'.out.mono hBW)
          have hd0 := HTW.out.c0
          obtain ⟨hl1, hl2⟩ := HTW.out.lcell hxl
          have hbx : wr.heap.size ≠ lb := by have := HT'.out.bnd; omega
          have HSL := hid_ (HTW.out.setLast x d.c)
          have HBW := hid_ hBW
          rw [hW]
          clear hl hBW h1
          go_region_held3 (fun W' => W'.cell? ⟨db, 0, none⟩ = some (.slice (some ⟨lb, 0, none⟩) S'.last.length cp) ∧ W'.cell? ⟨wr.heap.size, 0, none⟩ = some (.int .u64 d.c))
            (first | exact ⟨hd0, g0⟩ | exact ⟨gcell (gb_setCell _ ⟨lb, x, none⟩ _) hd0 HTW.out.ne, gcell (gb_setCell _ ⟨lb, x, none⟩ _) g0 hbx⟩)
            (fail)
          go_wp2
          go_roundw
          case rel =>
            refine ⟨k + 1, by omega, by omega, by go_num, ⟨?_, (HA.out.1.fr.trans (Fr.of_below HBW.out)).trans (Fr.of_gb HSL.out.2 (by simp)), (HA.out.1.rk.mono HBW.out).kept HSL.out.2 (fun _ _ _ he => HNE.out _ he)⟩, (HA.out.2.mono HBW.out).kept HSL.out.2 (fun _ _ _ he => HVL.out _ (by omega) he)⟩
            rw [HFT.out, HF.out]
            exact HSL.out.1
          case measure => simp [intOf]; omega
        · have e2 : (q % 3 == 2) = false := by simp [c2]
          by_cases c1 : q % 3 = 1
          · have e1 : (q % 3 == 1) = true := by simp [c1]
            cases hfl : d.fl with
            | true =>
              have HF : Hid (crashK S' ((x : Int), q) = { S' with last := S'.last.set x d.s }) := by show _ = _; simp only [crashK, HDD.out]; rw [if_neg c2, if_pos ⟨c1, hfl⟩]; rfl
              rw [hfl] at hl
              go_upto_region 9 with (fail)
              obtain ⟨W, hW⟩ : ∃ W, wr.alloc (.cells #[.int .u64 d.c, .int .u64 d.s, .bool true] 159) = W := ⟨_, rfl⟩
              have g0 : W.drew.cell? ⟨wr.heap.size, 1, none⟩ = some (.int .u64 d.s) := by rw [← hW]; exact cell_new 1 rfl
              have hBW : Below wr.heap.size wr W.drew := by rw [← hW]; exact (balloc' _ _).drew
              have HTW := hid_ (HT'.out.mono hBW)
              have hd0 := HTW.out.c0
              obtain ⟨hl1, hl2⟩ := HTW.out.lcell hxl
              have hbx : wr.heap.size ≠ lb := by have := HT'.out.bnd; omega
              have HSL := hid_ (HTW.out.setLast x d.s)
              have HBW := hid_ hBW
              rw [hW]
              clear hl hBW h1
              go_region_held3 (fun W' => W'.cell? ⟨db, 0, none⟩ = some (.slice (some ⟨lb, 0, none⟩) S'.last.length cp) ∧ W'.cell? ⟨wr.heap.size, 1, none⟩ = some (.int .u64 d.s))
                (first | exact ⟨hd0, g0⟩ | exact ⟨gcell (gb_setCell _ ⟨lb, x, none⟩ _) hd0 HTW.out.ne, gcell (gb_setCell _ ⟨lb, x, none⟩ _) g0 hbx⟩)
                (fail)
              go_wp2
              go_roundw
              case rel =>
                refine ⟨k + 1, by omega, by omega, by go_num, ⟨?_, (HA.out.1.fr.trans (Fr.of_below HBW.out)).trans (Fr.of_gb HSL.out.2 (by simp)), (HA.out.1.rk.mono HBW.out).kept HSL.out.2 (fun _ _ _ he => HNE.out _ he)⟩, (HA.out.2.mono HBW.out).kept HSL.out.2 (fun _ _ _ he => HVL.out _ (by omega) he)⟩
                rw [HFT.out, HF.out]
                exact HSL.out.1
              case measure => simp [intOf]; omega
            | false =>
              have HF : Hid (crashK S' ((x : Int), q) = S') := by show _ = _; simp only [crashK, HDD.out]; rw [if_neg c2, if_neg (by rintro ⟨_, h⟩; rw [hfl] at h; cases h)]
              rw [hfl] at hl
              go_wp2
              go_roundw
              case rel =>
                refine ⟨k + 1, by omega, by omega, by go_num, ⟨?_, HA.out.1.fr.trans (Fr.of_below (balloc' _ _)), HA.out.1.rk.mono (balloc' _ _)⟩, HA.out.2.mono (balloc' _ _)⟩
                rw [HFT.out, HF.out]
                exact HT'.out.mono (balloc' _ _)
              case measure => simp [intOf]; omega
          · have e1 : (q % 3 == 1) = false := by simp [c1]
            have HF : Hid (crashK S' ((x : Int), q) = S') := by show _ = _; simp only [crashK, HDD.out]; rw [if_neg c2, if_neg (fun h => c1 h.1)]
            go_wp2
            go_roundw
            case rel =>
              refine ⟨k + 1, by omega, by omega, by go_num, ⟨?_, HA.out.1.fr.trans (Fr.of_below (balloc' _ _)), HA.out.1.rk.mono (balloc' _ _)⟩, HA.out.2.mono (balloc' _ _)⟩
              rw [HFT.out, HF.out]
              exact HT'.out.mono (balloc' _ _)
            case measure => simp [intOf]; omega
      · have hke : k = keep.length := by omega
        have hz : (ks.zip keep).take k = ks.zip keep := List.take_of_length_le (by simp; omega)
        rw [hz] at HA
        obtain ⟨SF, hSF⟩ : ∃ SF, (ks.zip keep).foldl crashK S = SF := ⟨_, rfl⟩
        rw [hSF] at HA
        have HSF := hid_ hSF
        obtain ⟨x, hx⟩ : ∃ x : Nat, ks[k] = x := ⟨ks[k].toNat, by omega⟩
        rw [hx] at h1 hin
        have hc1' := HA.out.1.t.c1
        have hcap := HA.out.1.t.cap
        have hzx : InZ x := ⟨by omega, by have := hcf.1; rw [hz, hSF] at this; omega⟩
        have hl := HA.out.1.t.om.look Try.underlying154 (zero159 wr) hzx
        rw [map_getD] at hl
        obtain ⟨d, hd⟩ : ∃ d, (SF.cache x).getD noD = d := ⟨_, rfl⟩
        rw [hd] at hl
        clear hSF hx hd hz hcf hmem hke
        replace HA := hid_ (show FenceRel w3 db mb lb cp n SF _ ks (wr.alloc (.cells #[vu d.c, vu d.s, .bool d.fl] 159)) ∧ RdB (wr.alloc (.cells #[vu d.c, vu d.s, .bool d.fl] 159)) _ keep from ⟨⟨HA.out.1.t.mono (balloc' _ _), HA.out.1.fr.trans (Fr.of_below (balloc' _ _)), HA.out.1.rk.mono (balloc' _ _)⟩, HA.out.2.mono (balloc' _ _)⟩)
        go_upto_region 11 with (fail)
        obtain ⟨wr', hwr⟩ : ∃ W, wr.alloc (.cells #[vu d.c, vu d.s, .bool d.fl] 159) = W := ⟨_, rfl⟩
        rw [hwr] at HA
        rw [show wr.alloc (.cells #[.int .u64 d.c, .int .u64 d.s, .bool d.fl] 159) = wr' from hwr]
        clear hl hc1' hwr h1
        have HT := hid_ HA.out.1.t
        have hbk1 := hmono (balloc' wr' (.map #[] 0)) HT.out.blk
        have m1 := cell_blk (j := 1) hbk1 rfl
        have m2 := cell_blk (j := 2) hbk1 rfl
        have m3 := cell_blk (j := 3) hbk1 rfl
        have z1 := frozen_blk (j := 1) hbk1
        have z2 := frozen_blk (j := 2) hbk1
        have z3 := frozen_blk (j := 3) hbk1
        have HFIN := hid_ (((HT.out.setMap).set 3 (.bool false) { SF with cache := fun _ => none, dead := false } rfl rfl rfl).set 2 (vz 0) (wipeS SF) rfl rfl rfl)
        have hsz3 := HB.out.size
        have hsz4 := HA.out.1.fr.size
        clear hbk1
        go_wp2
        go_end0
        refine ⟨rfl, ⟨ks, wr'.heap.size, HK.out, by rw [HSF.out]; exact HFIN.out, by omega⟩, ?_⟩
        exact (((Fr.of_below HB.out).trans HA.out.1.fr).trans (Fr.of_below (balloc' _ _))).trans (((Fr.of_gb (gb_setCell _ ⟨db, 1, none⟩ _) (by simp)).trans (Fr.of_gb (gb_setCell _ ⟨db, 3, none⟩ _) (by simp))).trans (Fr.of_gb (gb_setCell _ ⟨db, 2, none⟩ _) (by simp)))
    · obtain rfl : k = ks.length := by omega
      have hz : (ks.zip keep).take ks.length = ks.zip keep := List.take_of_length_le (by simp; omega)
      rw [hz] at HA
      obtain ⟨SF, hSF⟩ : ∃ SF, (ks.zip keep).foldl crashK S = SF := ⟨_, rfl⟩
      rw [hSF] at HA
      have HSF := hid_ hSF
      clear hSF hz
      have HT := hid_ HA.out.1.t
      have hbk1 := hmono (balloc' wr (.map #[] 0)) HT.out.blk
      have m1 := cell_blk (j := 1) hbk1 rfl
      have m2 := cell_blk (j := 2) hbk1 rfl
      have m3 := cell_blk (j := 3) hbk1 rfl
      have z1 := frozen_blk (j := 1) hbk1
      have z2 := frozen_blk (j := 2) hbk1
      have z3 := frozen_blk (j := 3) hbk1
      have HFIN := hid_ (((HT.out.setMap).set 3 (.bool false) { SF with cache := fun _ => none, dead := false } rfl rfl rfl).set 2 (vz 0) (wipeS SF) rfl rfl rfl)
      have hsz3 := HB.out.size
      have hsz4 := HA.out.1.fr.size
      clear hbk1
      go_wp2
      go_end0
      refine ⟨rfl, ⟨ks, wr.heap.size, HK.out, by rw [HSF.out]; exact HFIN.out, by omega⟩, ?_⟩
      exact (((Fr.of_below HB.out).trans HA.out.1.fr).trans (Fr.of_below (balloc' _ _))).trans (((Fr.of_gb (gb_setCell _ ⟨db, 1, none⟩ _) (by simp)).trans (Fr.of_gb (gb_setCell _ ⟨db, 3, none⟩ _) (by simp))).trans (Fr.of_gb (gb_setCell _ ⟨db, 2, none⟩ _) (by simp)))
end Go.Proofs.Ytncdkbhkjamdpaa
