/- The sorted keys of a map: the library's contracts at this program. -/
import Derived.Test.YtncdkbhkjamdpaaM0
import Derived.Test.YtncdkbhkjamdpaaK0
namespace Go.Proofs.Ytncdkbhkjamdpaa
open Go.RowKit Go.Maps Go.Sort Go.Shelf

/-- slices.Sort's two contracts, at the fence that asks nothing. -/
theorem sortsA (m : Nat) : AnyZI.SortsIn Try.prog sortedA_ren Fence.wide m :=
  ⟨fun blk off cap ss W hH hblk hsz => callsIn_wide.2 (AnyM.slices_Sort_int sortA blk off cap ss W hH hblk hsz),
   fun p cap W => callsIn_wide.2 (AnyM.slices_Sort_int_none sortA p cap W)⟩

theorem keysL_c (mb : Option Nat) (W : World) : Calls Try.prog 102 #[.map mb] W fun e w' => e = .returned (.func (.func 127) #[] #[.pointer (some ⟨W.heap.size, 0, none⟩)]) ∧ w' = W.alloc (.cells #[.map mb] 145) :=
  callsIn_wide.1 (AnyZI.keys_in keysL Fence.wide 5 trivial rfl mb W)

set_option maxHeartbeats 1000000 in
theorem sortedL_c (b n : Nat) (f : Int → Option Value) (w : World) (h : OM w b n f) (hn : n ≤ 7000000000000) :
    Calls Try.prog 93 #[.func (.func 127) #[] #[.pointer (some ⟨w.heap.size, 0, none⟩)]] (w.alloc (.cells #[.map (some b)] 145)) fun e w' => ∃ v ks, e = .returned v ∧ KeysOf f ks ∧ ks.length ≤ n ∧ w'.ownsRow (w.heap.size + 1) 3 1 v ks.length (ks.map encZ) ∧ Below w.heap.size w w' := by
  obtain ⟨D, hown, hsz, hks⟩ := h.keysOf
  have hbl := hown.lt
  have hseq : SeqGives Fence.wide 2 Try.prog 127 #[.pointer (some ⟨w.heap.size, 0, none⟩)] encZ (fun ss => ss.Perm (intKeys D)) (Maps.size D) (w.alloc (.cells #[.map (some b)] 145)) :=
    AnyZI.keys_gives (ρ := keysL_ren) { keysL with } Fence.wide _ trivial rfl (by omega) w.heap.size b n D _ (by simp) (by simp) (hown.alloc _)
  have cS := AnyZI.sorted_in sortedA Fence.wide 5 trivial trivial trivial trivial rfl (by omega) (sortsA _) (enters_of Try.func124 (by kernel_rfl) rfl) 127 #[.pointer (some ⟨w.heap.size, 0, none⟩)] trivial (enters_of Try.func127 (by kernel_rfl) rfl) _ _ (by unfold maxLen; omega) (by omega) _ hseq
  change CallsIn _ _ Try.prog 93 _ _ _ at cS
  refine (callsIn_wide.1 cS).mono ?_
  rintro e w' ⟨v, ss, rfl, hS, hrow, hnil, hb⟩
  obtain ⟨hk, hl⟩ := hks ss hS
  refine ⟨v, _, rfl, hk, ?_, ?_, (balloc' w _).trans (hb.mono (by simp))⟩
  · rw [List.length_mergeSort, hl]; exact hsz
  · rw [List.length_mergeSort]
    have := hrow
    rw [World.size_alloc] at this
    exact this
end Go.Proofs.Ytncdkbhkjamdpaa
