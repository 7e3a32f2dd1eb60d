/- The program's transaction (chapter 20): All, spans, Make, Made, Unmake. -/
import Derived.Test.YtncdkbhkjamdpaaT1
import Derived.Test.YtncdkbhkjamdpaaM1
import Derived.StillTailTactics
namespace Go.Proofs.Ytncdkbhkjamdpaa
open Go.RowKit Go.Maps Go.Sort Go.Shelf

theorem keys20_c (mb : Option Nat) (W : World) : Calls Try.prog 94 #[.map mb] W fun e w' => e = .returned (.func (.func 125) #[] #[.pointer (some ⟨W.heap.size, 0, none⟩)]) ∧ w' = W.alloc (.cells #[.map mb] 61) :=
  callsIn_wide.1 (AnyZI.keys_in keysF Fence.wide 5 trivial rfl mb W)
set_option maxHeartbeats 1000000 in
theorem sorted20_c (b n : Nat) (f : Int → Option Value) (w : World) (h : OM w b n f) (hn : n ≤ 7000000000000) :
    Calls Try.prog 93 #[.func (.func 125) #[] #[.pointer (some ⟨w.heap.size, 0, none⟩)]] (w.alloc (.cells #[.map (some b)] 61)) fun e w' => ∃ v ks, e = .returned v ∧ KeysOf f ks ∧ ks.length ≤ n ∧ w'.ownsRow (w.heap.size + 1) 3 1 v ks.length (ks.map encZ) ∧ Below w.heap.size w w' := by
  obtain ⟨D, hown, hsz, hks⟩ := h.keysOf
  have hbl := hown.lt
  have hseq : SeqGives Fence.wide 2 Try.prog 125 #[.pointer (some ⟨w.heap.size, 0, none⟩)] encZ (fun ss => ss.Perm (intKeys D)) (Maps.size D) (w.alloc (.cells #[.map (some b)] 61)) :=
    AnyZI.keys_gives (ρ := keysF_ren) { keysF with } Fence.wide _ trivial rfl (by omega) w.heap.size b n D _ (by simp) (by simp) (hown.alloc _)
  have cS := AnyZI.sorted_in sortedA Fence.wide 5 trivial trivial trivial trivial rfl (by omega) (sortsA _) (enters_of Try.func124 (by kernel_rfl) rfl) 125 #[.pointer (some ⟨w.heap.size, 0, none⟩)] trivial (enters_of Try.func125 (by kernel_rfl) rfl) _ _ (by unfold maxLen; omega) (by omega) _ hseq
  change CallsIn _ _ Try.prog 93 _ _ _ at cS
  refine (callsIn_wide.1 cS).mono ?_
  rintro e w' ⟨v, ss, rfl, hS, hrow, hnil, hb⟩
  obtain ⟨hk, hl⟩ := hks ss hS
  refine ⟨v, _, rfl, hk, ?_, ?_, (balloc' w _).trans (hb.mono (by simp))⟩
  · rw [List.length_mergeSort, hl]; exact hsz
  · rw [List.length_mergeSort]
    have := hrow
    rw [World.size_alloc] at this
    exact this
theorem keys_up {L : List Ob} (h : Up L) : KeysOf (memF L) (L.map (·.at_)) := by
  refine ⟨List.pairwise_map.2 h, fun x => ?_⟩
  rw [List.mem_map, memF]
  constructor
  · rintro ⟨f, hf, rfl⟩
    rw [(find_some_iff h).2 ⟨hf, rfl⟩]; rfl
  · intro hx
    cases hf : findF L x with
    | none => rw [hf] at hx; cases hx
    | some f => exact ⟨f, (find_some_iff h).1 hf⟩
theorem memF_at {L : List Ob} (h : Up L) {k : Nat} (hk : k < L.length) : memF L (L[k].at_) = some L[k].val := by
  rw [memF, (find_some_iff h).2 ⟨List.getElem_mem hk, rfl⟩]; rfl
theorem flat_ob_cell (l : List Ob) : ∀ u ∈ flat Ob.enc l, u.oneCell' = true := by
  intro u hu
  simp only [flat, List.mem_flatMap] at hu
  obtain ⟨p, _, hp⟩ := hu
  simp [Ob.enc] at hp
  rcases hp with rfl | rfl | rfl | rfl | rfl | rfl | rfl | rfl | rfl <;> simp [Value.oneCell']

/-! ### All -/
set_option maxHeartbeats 4000000 in
set_option maxRecDepth 100000 in
theorem all_c {tb mb n : Nat} {wv gv : Value} {T : TS} (w : World) (h : TxT w tb mb n wv gv T) (hu : Up T.fresh) (hn : n ≤ 1000000) (hln : T.fresh.length ≤ n) :
    Calls Try.prog 37 #[.pointer (some ⟨tb, 1, none⟩)] w fun e w' => ∃ v, e = .returned v ∧ w'.ownsRow w.heap.size 55 9 v T.fresh.length (flat Ob.enc T.fresh) ∧ Below w.heap.size w w' := by
  have hc := h.c1
  have H := hid_ h
  have HU := hid_ hu
  clear h hu
  obtain ⟨i0, hi, hz0, hz1, hz2⟩ := info_parts info55
  have hI := hid_ hi; have hZ0 := hid_ hz0; have hZ1 := hid_ hz1; have hZ2 := hid_ hz2
  clear hi hz0 hz1 hz2
  go_enter Try.func37, Try.ntmps37
  go_wp2_with (first
    | (go_at_call 94; refine (keys20_c _ _).mono ?_; rintro e w1 ⟨rfl, rfl⟩)
    | (go_at_call 93; refine (sorted20_c mb n _ w H.out.om (by omega)).mono ?_; rintro e w2 ⟨vk, ks, rfl, hK, hkl, hR, hb⟩; obtain rfl := hK.uniq (keys_up HU.out); have HR := hid_ (RdI.own hR rfl); have HB := hid_ hb; have HT := hid_ (H.out.mono hb); obtain ⟨A, c, rfl, hcl, hcl', _⟩ := id HR.out; clear hK hR hb))
  have hlm : (T.fresh.map (·.at_)).length = T.fresh.length := List.length_map _
  have HLM := hid_ hlm
  rw [hlm] at hcl hkl
  clear hlm
  go_loopw [3, 13] (fun out i wr => ∃ k : Nat, k ≤ T.fresh.length ∧ i = .int .i64 k ∧ Hid (wr.ownsRow w2.heap.size 55 9 out (T.fresh.take k).length (flat Ob.enc (T.fresh.take k))) ∧ Below w2.heap.size w2 wr) (fun _ i _ => T.fresh.length - (intOf i).toNat)
  case atStart => exact ⟨0, Nat.zero_le _, rfl, World.ownsRow_nil _ _ _ _, Below.refl _ _⟩
  case round =>
    obtain ⟨k, hk, rfl, HO, hB⟩ := hrel
    have HTr := hid_ (HT.out.mono hB)
    have hc1 := HTr.out.c1
    by_cases hlt : k < T.fresh.length
    · obtain ⟨b, o, rfl, h1⟩ := RdI.at HR.out hB (show k < (T.fresh.map (·.at_)).length by rw [HLM.out]; exact hlt)
      rw [List.getElem_map] at h1
      have hm := memF_at HU.out hlt
      have hz : InZ T.fresh[k].at_ := HTr.out.om.inz _ (by rw [hm]; rfl)
      have hl := HTr.out.om.look Try.underlying61 (zero55 wr) hz
      rw [hm, Option.getD_some] at hl
      have HTK : Hid (T.fresh.take (k + 1) = T.fresh.take k ++ [T.fresh[k]]) := by show _ = _; rw [List.take_add_one, List.getElem?_eq_getElem hlt]; rfl
      have htl : (T.fresh.take k).length = k := by rw [List.length_take]; omega
      have HTL := hid_ htl
      generalize T.fresh[k] = f at h1 hl HTK
      clear hm hz htl
      have hl' : (Instr.lookup 61 (.map (some mb)) (.int .i64 f.at_) false).run Try.prog wr = .ok (.agg #[vz f.ch, vz f.ix, vz f.cl, vz f.mn, .bool f.fr, vz f.at_, vz f.ty, vz f.sz, vu f.sr]) wr := hl
      clear hl
      go_wp2_with (at_builtin; refine wpList_append_own _ rfl _ _ 44 rfl w2.heap.size 55 i0 (.agg #[.int .i64 0, .int .i64 0, .int .i64 0, .int .i64 0, .bool false, .int .i64 0, .int .i64 0, .int .i64 0, .int .u64 0]) 9 72 Try.underlying44 hI.out hZ0.out hZ1.out hZ2.out rfl (by decide) _ _ _ rfl (HO.out.alloc _) ⟨wr.heap.size, 0, none⟩ 1 1 f.enc rfl rfl ?c1 ?c2 ?c3 ?c4 ?c5 ?_; rotate_left 5; intro v' w3 hO1 hg1 _; have HO1 := hid_ hO1; have HG1 := hid_ hg1; clear hO1 hg1)
      case c1 => exact cells_new _ _ _
      case c2 => simp [Value.oneCell', Ob.enc]
      case c3 => rw [HTL.out]; unfold maxLen; omega
      case c4 => rw [HTL.out]; omega
      case c5 => have := hB.size; simp; omega
      go_roundw
      case rel =>
        refine ⟨k + 1, by omega, by go_num, ?_, bgrown (balloc hB _) HG1.out fun k' hk' => (HO.out.lt k' hk').1⟩
        show World.ownsRow _ _ _ _ _ _ _
        rw [HTK.out, flat_append, flat_one]
        simpa using HO1.out
      case measure => simp [intOf]; omega
    · obtain rfl : k = T.fresh.length := by omega
      rw [List.take_length] at HO
      go_wp2
      go_ret
      exact ⟨_, rfl, ownsRow_base HO.out HB.out.size, btr HB.out hB⟩
end Go.Proofs.Ytncdkbhkjamdpaa
