/- The reference's device of chapter 03: Image, Dirty. -/
import Derived.Test.YtncdkbhkjamdpaaE0
import Derived.Test.YtncdkbhkjamdpaaD3
namespace Go.Proofs.Ytncdkbhkjamdpaa
open Go.RowKit Go.Maps

def imageL (L : List Wd) : List Int := L.map (·.l)
theorem image_take {L : List Wd} {k : Nat} {x : Wd} (h : L[k]? = some x) : imageL (L.take (k + 1)) = imageL (L.take k) ++ [x.l] := by
  rw [imageL, List.take_add_one, h]; simp [imageL]
theorem image_len (L : List Wd) (k : Nat) : (imageL (L.take k)).length ≤ k := by simp [imageL]; omega

set_option maxHeartbeats 4000000 in
set_option maxRecDepth 100000 in
theorem rimage_c {rb sb cp : Nat} {R : RS} (w : World) (h : RDev w rb sb cp R) (hR : R.L.length ≤ 65536) :
    Calls Try.prog 70 #[.pointer (some ⟨rb, 0, none⟩)] w fun e w' => ∃ v, e = .returned v ∧ w'.ownsRow w.heap.size 51 1 v (imageL R.L).length ((imageL R.L).map vu) ∧ Below w.heap.size w w' := by
  have H := hid_ h
  have hcap := h.cap
  clear h
  obtain ⟨i0, hi, hz0, hz1, hz2⟩ := info_parts info51
  have hI := hid_ hi; have hZ0 := hid_ hz0; have hZ1 := hid_ hz1; have hZ2 := hid_ hz2
  clear hi hz0 hz1 hz2
  go_enter Try.func70, Try.ntmps70
  go_wp2
  go_loopw [3, 4] (fun out i wr => ∃ k : Nat, k ≤ R.L.length ∧ i = .int .i64 k ∧ Hid (wr.ownsRow w.heap.size 51 1 out (imageL (R.L.take k)).length ((imageL (R.L.take k)).map vu)) ∧ Below w.heap.size w wr) (fun _ i _ => R.L.length - (intOf i).toNat)
  case atStart => exact ⟨0, Nat.zero_le _, rfl, World.ownsRow_nil _ _ _ _, Below.refl _ _⟩
  case round =>
    obtain ⟨k, hk, rfl, HO, hB⟩ := hrel
    have HTk := hid_ (H.out.mono hB)
    have d0 := HTk.out.c0
    by_cases hlt : k < R.L.length
    · obtain ⟨x, hx⟩ : ∃ x, R.L[k]? = some x := ⟨_, List.getElem?_eq_getElem hlt⟩
      obtain ⟨y0, _⟩ := HTk.out.wcell hx
      have HT := hid_ (image_take hx)
      have hlen := image_len R.L k
      clear hx
      go_wp2_with (at_builtin; refine wpList_append_own _ rfl _ _ 92 rfl w.heap.size 51 i0 (vu 0) 1 8 Try.underlying92 hI.out hZ0.out hZ1.out hZ2.out rfl (by decide) _ _ _ rfl (HO.out.alloc _) ⟨wr.heap.size, 0, none⟩ 1 1 [vu x.l] rfl rfl ?c1 ?c2 ?c3 ?c4 ?c5 ?_; rotate_left 5; intro v' w3 hO1 hg1 _; have HO1 := hid_ hO1; have HG1 := hid_ hg1; clear hO1 hg1)
      case c1 => exact cells_new _ _ _
      case c2 => simp [Value.oneCell']
      case c3 => unfold maxLen; omega
      case c4 => omega
      case c5 => have := hB.size; simp; omega
      go_roundw
      case rel =>
        refine ⟨k + 1, by omega, by go_num, ?_, bgrown (balloc hB _) HG1.out fun k' hk' => (HO.out.lt k' hk').1⟩
        show World.ownsRow _ _ _ _ _ _ _
        rw [HT.out]
        simpa using HO1.out
      case measure => simp [intOf]; omega
    · obtain rfl : k = R.L.length := by omega
      rw [List.take_length] at HO
      go_wp2
      go_ret
      exact ⟨_, rfl, HO.out, hB⟩

theorem dirtyTo_le (L : List Wd) (k : Nat) (hk : k ≤ L.length) : (dirtyTo L k).length ≤ k := by
  rw [dirtyTo_len L k hk, rank]
  exact Nat.le_trans List.countP_le_length (by rw [List.length_take]; omega)
set_option maxHeartbeats 4000000 in
set_option maxRecDepth 100000 in
theorem rdirty_c {rb sb cp : Nat} {R : RS} (w : World) (h : RDev w rb sb cp R) (hR : R.L.length ≤ 65536) :
    Calls Try.prog 68 #[.pointer (some ⟨rb, 0, none⟩)] w fun e w' => ∃ v, e = .returned v ∧ w'.ownsRow w.heap.size 3 1 v (dirtyTo R.L R.L.length).length ((dirtyTo R.L R.L.length).map vz) ∧ Below w.heap.size w w' := by
  have H := hid_ h
  have hcap := h.cap
  clear h
  obtain ⟨i0, hi, hz0, hz1, hz2⟩ := info_parts info3
  have hI := hid_ hi; have hZ0 := hid_ hz0; have hZ1 := hid_ hz1; have hZ2 := hid_ hz2
  clear hi hz0 hz1 hz2
  go_enter Try.func68, Try.ntmps68
  go_wp2
  go_loopw [3, 4] (fun out i wr => ∃ k : Nat, k ≤ R.L.length ∧ i = .int .i64 k ∧ Hid (wr.ownsRow w.heap.size 3 1 out (dirtyTo R.L k).length ((dirtyTo R.L k).map vz)) ∧ Below w.heap.size w wr) (fun _ i _ => R.L.length - (intOf i).toNat)
  case atStart => exact ⟨0, Nat.zero_le _, rfl, World.ownsRow_nil _ _ _ _, Below.refl _ _⟩
  case round =>
    obtain ⟨k, hk, rfl, HO, hB⟩ := hrel
    have HTk := hid_ (H.out.mono hB)
    have d0 := HTk.out.c0
    by_cases hlt : k < R.L.length
    · obtain ⟨x, hx⟩ : ∃ x, R.L[k]? = some x := ⟨_, List.getElem?_eq_getElem hlt⟩
      obtain ⟨_, _, _, y3, _⟩ := HTk.out.wcell hx
      have HT : Hid (dirtyTo R.L (k + 1) = dirtyTo R.L k ++ (if x.d then [(k : Int)] else [])) := by show _ = _; rw [dirtyTo, hx]; rfl
      have hlen := dirtyTo_le R.L k hk
      clear hx
      cases hd : x.d with
      | true =>
        rw [hd] at y3 HT
        clear hd
        go_wp2_with (at_builtin; refine wpList_append_own _ rfl _ _ 45 rfl w.heap.size 3 i0 (vz 0) 1 8 Try.underlying45 hI.out hZ0.out hZ1.out hZ2.out rfl (by decide) _ _ _ rfl (HO.out.alloc _) ⟨wr.heap.size, 0, none⟩ 1 1 [vz k] rfl rfl ?c1 ?c2 ?c3 ?c4 ?c5 ?_; rotate_left 5; intro v' w3 hO1 hg1 _; have HO1 := hid_ hO1; have HG1 := hid_ hg1; clear hO1 hg1)
        case c2 => simp [Value.oneCell']
        case c3 => unfold maxLen; omega
        case c4 => omega
        case c5 => have := hB.size; simp; omega
        go_roundw
        case rel =>
          refine ⟨k + 1, by omega, by go_num, ?_, bgrown (balloc hB _) HG1.out fun k' hk' => (HO.out.lt k' hk').1⟩
          show World.ownsRow _ _ _ _ _ _ _
          rw [HT.out]
          simpa using HO1.out
        case measure => simp [intOf]; omega
      | false =>
        rw [hd] at y3 HT
        clear hd
        go_wp2
        go_roundw
        case rel =>
          refine ⟨k + 1, by omega, by go_num, ?_, hB⟩
          show World.ownsRow _ _ _ _ _ _ _
          rw [HT.out]
          simpa using HO.out
        case measure => simp [intOf]; omega
    · obtain rfl : k = R.L.length := by omega
      go_wp2
      go_ret
      exact ⟨_, rfl, HO.out, hB⟩
end Go.Proofs.Ytncdkbhkjamdpaa
