/- The reference's device of chapter 03: Open, Image, Dirty. -/
import Derived.Test.YtncdkbhkjamdpaaE2
namespace Go.Proofs.Ytncdkbhkjamdpaa
open Go.RowKit Go.Maps

def openW (l : List Int) (i : Nat) (x : Wd) : Wd := { x with l := l.getD i 0 }
def openL (l : List Int) : List Wd := l.map fun x => { noW with l := x }
theorem open_all (l : List Int) : upto (openW l) (List.replicate l.length noW) l.length = openL l := by
  refine List.ext_getElem? fun i => ?_
  rw [upto_get, openL, List.getElem?_map, List.getElem?_replicate]
  by_cases h : i < l.length
  · rw [if_pos h, List.getElem?_eq_getElem h]
    simp [h, openW]
  · rw [if_neg h, List.getElem?_eq_none (by omega)]
    rfl
theorem info163 : (Try.prog.info? 163).map (fun i => (i.zero, i.size, i.bytes)) = some (some (.agg #[.int .u64 0, .int .u64 0, .int .u64 0, .bool false, .bool false]), 5, 32) := by kernel_rfl
theorem made_words (n : Nat) : (madeCells (Value.agg #[.int .u64 0, .int .u64 0, .int .u64 0, .bool false, .bool false]).cells (n * 5)).toList = flat Wd.enc (List.replicate n noW) := by
  refine List.ext_getElem? fun j => ?_
  have hl : (flat Wd.enc (List.replicate n noW)).length = n * 5 := by rw [flat_length Wd.enc_len, List.length_replicate]
  by_cases h : j < n * 5
  · have hq : j / 5 < (List.replicate n noW).length := by rw [List.length_replicate]; omega
    have hr : j % 5 < 5 := Nat.mod_lt _ (by decide)
    have hg : ∀ (r : Nat), r < 5 → (Wd.enc noW)[r]? = some ((#[.int .u64 0, .int .u64 0, .int .u64 0, .bool false, .bool false] : Array Value)[r]!) := by
      intro r hr
      match r, hr with
      | 0, _ => rfl
      | 1, _ => rfl
      | 2, _ => rfl
      | 3, _ => rfl
      | 4, _ => rfl
    have h1 := flat_get Wd.enc_len (List.replicate n noW) (j / 5) hq (j % 5) _ (by rw [List.getElem_replicate]; exact hg _ hr)
    rw [show j / 5 * 5 + j % 5 = j by omega] at h1
    rw [h1]
    show (madeCells #[.int .u64 0, .int .u64 0, .int .u64 0, .bool false, .bool false] (n * 5)).toList[j]? = _
    simp [madeCells, h]
  · rw [List.getElem?_eq_none (by rw [Array.length_toList, size_madeCells]; omega), List.getElem?_eq_none (by rw [hl]; omega)]
structure ROpen (w w' : World) (rb sb cp : Nat) (R : RS) : Prop where
  t : RDev w' rb sb cp R
  b : Below w.heap.size w w'
  h1 : w.heap.size ≤ rb
  h2 : w.heap.size ≤ sb

set_option maxHeartbeats 4000000 in
set_option maxRecDepth 100000 in
theorem ropen_c (l : List Int) (v : Value) (w : World) (hv : RdU w v l) (h1 : 1 ≤ l.length) (h2 : l.length ≤ 65536) :
    Calls Try.prog 65 #[v] w fun e w' => ∃ rb sb cp, e = .returned (.pointer (some ⟨rb, 0, none⟩)) ∧ ROpen w w' rb sb cp ⟨openL l, 0, false, 0⟩ := by
  have HV := hid_ hv
  obtain ⟨A, c, rfl, hl, hl', _⟩ := hv
  obtain ⟨i0, hi, hz0, hz1, hz2⟩ := info_parts info163
  have hI := hid_ hi; have hZ0 := hid_ hz0; have hZ1 := hid_ hz1; have hZ2 := hid_ hz2
  have hB2 := hid_ (show i0.bytes * l.length ≤ 281474976710656 by rw [hz2]; omega)
  clear hi hz0 hz1 hz2
  go_enter Try.func65, Try.ntmps65
  go_wp2_with (at_make; refine wpList_make_full _ rfl _ _ 112 rfl w.heap.size 163 i0 (.agg #[.int .u64 0, .int .u64 0, .int .u64 0, .bool false, .bool false]) 5 Try.underlying112 hI.out hZ0.out hZ1.out .i64 .i64 l.length l.length l.length rfl rfl rfl rfl hB2.out ?m3 (Nat.le_refl _) ?_; rotate_left 1; intro w1 hO hg; have HO := hid_ hO; have HB := hid_ ((Below.refl w.heap.size w).grown hg (Nat.le_refl _) (by rintro _ ⟨⟩)); clear hO hg)
  case m3 => unfold maxLen; omega
  have hw1 := HB.out.size
  obtain ⟨sb, hsb⟩ : ∃ sb, w.heap.size = sb := ⟨_, rfl⟩
  obtain ⟨rb, hrb⟩ : ∃ rb, w1.heap.size = rb := ⟨_, rfl⟩
  obtain ⟨W, hW⟩ : ∃ W, w1.alloc (.cells #[.slice (some ⟨w.heap.size, 0, none⟩) l.length l.length, .int .i64 0, .bool false, .int .i64 0] 114) = W := ⟨_, rfl⟩
  have HBW : Hid (Below w.heap.size w W) := by show Below _ _ _; rw [← hW]; exact balloc HB.out _
  have hsl : sb < rb := by rw [← hsb, ← hrb]; exact (HO.out.lt w.heap.size rfl).2
  have HT : Hid (RDev W rb sb l.length ⟨List.replicate l.length noW, 0, false, 0⟩) := by
    refine ⟨?_, ?_, by omega⟩
    · rw [← hW, ← hrb, ← hsb]
      have := heap_alloc_new w1 (.cells #[.slice (some ⟨w.heap.size, 0, none⟩) l.length l.length, .int .i64 0, .bool false, .int .i64 0] 114)
      simpa [RS.row] using this
    · rw [← hW, ← hsb, List.length_replicate, ← made_words]
      exact ownsRow_base (HO.out.alloc _) (Nat.zero_le _)
  rw [hW, hsb, hrb]
  have HSZ := hid_ (show w.heap.size = sb ∧ w.heap.size ≤ rb from ⟨hsb, by omega⟩)
  clear hW hsb hrb hw1 hsl
  have hnn : l.length ≤ 9223372036854775807 := by omega
  go_loopw [4] (fun i wr => ∃ k : Nat, k ≤ l.length ∧ i = .int .i64 k ∧ Hid (RDev wr rb sb l.length ⟨upto (openW l) (List.replicate l.length noW) k, 0, false, 0⟩ ∧ Below w.heap.size w wr)) (fun i _ => l.length - (intOf i).toNat)
  case atStart => exact ⟨0, Nat.zero_le _, rfl, by rw [upto_zero]; exact HT.out, HBW.out⟩
  case round =>
    obtain ⟨k, hk, rfl, HA⟩ := hrel
    obtain ⟨hT, hB⟩ := HA.out
    have HTk := hid_ hT; have HBk := hid_ hB
    by_cases hlt : k < l.length
    · obtain ⟨b, o, rfl, h3⟩ := RdU.at HV.out hB hlt
      have hx : (List.replicate l.length noW)[k]? = some noW := by rw [List.getElem?_replicate, if_pos hlt]
      have HX : Hid ((upto (openW l) (List.replicate l.length noW) k)[k]? = some noW) := by show _ = _; rw [upto_here, hx]
      have HS := hid_ (upto_succ (openW l) hx)
      have HF : Hid (openW l k noW = { noW with l := l[k] }) := by
        show _ = _
        rw [openW, List.getD_eq_getElem?_getD, List.getElem?_eq_getElem hlt]; rfl
      rw [HF.out] at HS
      generalize l[k] = x at h3 HS
      have d0 := hT.c0
      simp only [upto_length, List.length_replicate] at d0
      obtain ⟨y0, _⟩ := hT.wcell HX.out
      have z0 := hT.wfz (k * 5)
      have HSW := hid_ ((hT.mono (w' := wr.drew) (Below.refl _ _).drew).setW (r := 0) (vu x) { noW with l := x } HX.out (by decide) rfl)
      simp only [Nat.add_zero] at HSW
      clear hT hB hx HA
      go_upto_region 7 with (fail)
      go_still_tail 11, (by kernel_rfl)
      change wpList _ _ _ _ _ wr.drew
      go_wp2
      go_roundw
      case rel =>
        refine ⟨k + 1, by omega, by go_num, ?_, below_gb HBk.out.drew HSW.out.2 (by rw [← HSZ.out.1]; exact Nat.le_refl _)⟩
        rw [HS.out]
        exact HSW.out.1
      case measure => simp [intOf]; omega
    · obtain rfl : k = l.length := by omega
      rw [open_all] at HTk
      clear hT hB HA
      go_wp2
      go_ret
      exact ⟨rb, sb, l.length, rfl, HTk.out, HBk.out, HSZ.out.2, by rw [HSZ.out.1]; exact Nat.le_refl _⟩
end Go.Proofs.Ytncdkbhkjamdpaa
