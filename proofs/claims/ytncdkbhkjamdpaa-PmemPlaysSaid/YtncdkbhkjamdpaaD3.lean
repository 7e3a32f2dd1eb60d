/- The device of chapter 03: Dirty, Image, New, Open. -/
import Derived.Test.YtncdkbhkjamdpaaD2
import Derived.Laws.CopyOwn
namespace Go.Proofs.Ytncdkbhkjamdpaa
open Go.RowKit Go.Maps Go.Sort Go.Shelf

def encU (x : Int) : List Value := [vu x]
theorem encU_len (x : Int) : (encU x).length = 1 := rfl
theorem flat_encU (l : List Int) : flat encU l = l.map vu := by
  induction l with
  | nil => rfl
  | cons a l ih => simp only [flat, List.flatMap_cons, List.map_cons] at ih ⊢; rw [ih]; rfl
abbrev RdU (w : World) (v : Value) (l : List Int) : Prop := Rd 1 encU w v l
theorem RdU.own {w : World} {base : Nat} {v : Value} {n : Nat} {l : List Int} (h : w.ownsRow base 51 1 v n (l.map vu)) (hn : n = l.length) : RdU w v l := by
  rw [← flat_encU] at h
  exact Rd.of_own encU_len h hn
theorem RdU.at {w wr : World} {A : Option Addr} {n c : Nat} {l : List Int} (h : RdU w (.slice A n c) l) (hb : Below w.heap.size w wr) {k : Nat} (hk : k < l.length) :
    ∃ b o, A = some ⟨b, o, none⟩ ∧ wr.cell? ⟨b, o + k, none⟩ = some (vu l[k]) := by
  obtain ⟨A', c', e, _, _, hc⟩ := h
  injection e with e1 e2 e3
  subst e1
  obtain ⟨b, o, ea, hh⟩ := hc k hk
  exact ⟨b, o, ea, cmono hb (by simpa using hh 0 _ rfl)⟩
theorem info51 : (Try.prog.info? 51).map (fun i => (i.zero, i.size, i.bytes)) = some (some (.int .u64 0), 1, 8) := by kernel_rfl

/-! ### Dirty -/
theorem keysD_c (mb : Option Nat) (W : World) : Calls Try.prog 109 #[.map mb] W fun e w' => e = .returned (.func (.func 129) #[] #[.pointer (some ⟨W.heap.size, 0, none⟩)]) ∧ w' = W.alloc (.cells #[.map mb] 154) :=
  callsIn_wide.1 (AnyZI.keys_in keysD Fence.wide 5 trivial rfl mb W)
set_option maxHeartbeats 1000000 in
theorem sortedD_c (b n : Nat) (f : Int → Option Value) (w : World) (h : OM w b n f) (hn : n ≤ 7000000000000) :
    Calls Try.prog 93 #[.func (.func 129) #[] #[.pointer (some ⟨w.heap.size, 0, none⟩)]] (w.alloc (.cells #[.map (some b)] 154)) fun e w' => ∃ v ks, e = .returned v ∧ KeysOf f ks ∧ ks.length ≤ n ∧ w'.ownsRow (w.heap.size + 1) 3 1 v ks.length (ks.map encZ) ∧ Below w.heap.size w w' := by
  obtain ⟨D, hown, hsz, hks⟩ := h.keysOf
  have hbl := hown.lt
  have hseq : SeqGives Fence.wide 2 Try.prog 129 #[.pointer (some ⟨w.heap.size, 0, none⟩)] encZ (fun ss => ss.Perm (intKeys D)) (Maps.size D) (w.alloc (.cells #[.map (some b)] 154)) :=
    AnyZI.keys_gives (ρ := keysD_ren) { keysD with } Fence.wide _ trivial rfl (by omega) w.heap.size b n D _ (by simp) (by simp) (hown.alloc _)
  have cS := AnyZI.sorted_in sortedA Fence.wide 5 trivial trivial trivial trivial rfl (by omega) (sortsA _) (enters_of Try.func124 (by kernel_rfl) rfl) 129 #[.pointer (some ⟨w.heap.size, 0, none⟩)] trivial (enters_of Try.func129 (by kernel_rfl) rfl) _ _ (by unfold maxLen; omega) (by omega) _ hseq
  change CallsIn _ _ Try.prog 93 _ _ _ at cS
  refine (callsIn_wide.1 cS).mono ?_
  rintro e w' ⟨v, ss, rfl, hS, hrow, hnil, hb⟩
  obtain ⟨hk, hl⟩ := hks ss hS
  refine ⟨v, _, rfl, hk, ?_, ?_, (balloc' w _).trans (hb.mono (by simp))⟩
  · rw [List.length_mergeSort, hl]; exact hsz
  · rw [List.length_mergeSort]
    have := hrow
    rw [World.size_alloc] at this
    exact this
set_option maxHeartbeats 1000000 in
theorem dirty_c {db mb lb cp n : Nat} {S : DS} (w : World) (h : DevT w db mb lb cp n S) (hn : n ≤ 7000000000000) :
    Calls Try.prog 63 #[.pointer (some ⟨db, 0, none⟩)] w fun e w' => ∃ v ks, e = .returned v ∧ KeysOf (fun k => (S.cache k).map Dt.enc) ks ∧ ks.length ≤ n ∧ w'.ownsRow w.heap.size 3 1 v ks.length (ks.map vz) ∧ Below w.heap.size w w' := by
  have h1 := h.c1
  have H := hid_ h
  clear h
  go_enter Try.func63, Try.ntmps63
  go_wp2_with (first
    | (go_at_call 109; refine (keysD_c _ _).mono ?_; rintro e w1 ⟨rfl, rfl⟩)
    | (go_at_call 93; refine (sortedD_c mb n _ w H.out.om hn).mono ?_; rintro e w2 ⟨vk, ks, rfl, hK, hkl, hR, hb⟩; have HK := hid_ hK; have HR := hid_ hR; have HB := hid_ hb; clear hK hR hb))
  go_ret
  exact ⟨_, _, rfl, HK.out, hkl, ownsRow_base HR.out (Nat.le_succ _), HB.out⟩

/-! ### Image -/
set_option maxHeartbeats 1000000 in
set_option maxRecDepth 100000 in
theorem cloneU_c (l : List Int) (v : Value) (w : World) (hv : RdU w v l) (hn : l.length * 8 ≤ 140737488355328) :
    Calls Try.prog 107 #[v] w fun e w' => ∃ v', e = .returned v' ∧ w'.ownsRow w.heap.size 51 1 v' l.length (l.map vu) ∧ Below w.heap.size w w' := by
  have HV := hid_ hv
  obtain ⟨A, c, rfl, hl, hl', _⟩ := hv
  obtain ⟨i0, hi, hz0, hz1, hz2⟩ := info_parts info51
  have q : ∀ (w : World) (a : Option Addr) (n c n' c' : Nat), (binOp .eql 92 (.slice a n c) (.slice none n' c')).run Try.prog w = .ok (.bool a.isNone) w := fun w a n c n' c' => eql_nil w _ _ a n c n' c' Try.underlying92
  cases A with
  | none =>
    have h0 := Rd.none_nil HV.out
    subst h0
    go_enter Try.func107, Try.ntmps107
    go_wp2
    go_ret
    exact ⟨_, rfl, World.ownsRow_nil _ _ _ _, Below.refl _ _⟩
  | some a =>
    go_enter Try.func107, Try.ntmps107
    go_wp2_with (at_builtin; refine wpList_append_own _ rfl _ _ 92 rfl w.heap.size 51 i0 (vu 0) 1 8 Try.underlying92 hi hz0 hz1 hz2 rfl (by decide) _ _ _ rfl (World.ownsRow_made w #[] 0 (Nat.le_refl _) (Nat.zero_le _) rfl) a l.length c (flat encU l) rfl ?c1 ?c2 ?c3 ?c4 ?c5 ?c6 ?_)
    case c1 => exact flat_length encU_len l
    case c2 => exact fun j u hj => cell_old _ _ (Rd.cells encU_len HV.out j u hj)
    case c3 =>
      intro u hu
      obtain ⟨s, _, hs⟩ := List.mem_flatMap.1 hu
      simp [encU] at hs
      subst hs
      rfl
    case c4 => unfold maxLen; omega
    case c5 => omega
    case c6 => simp
    intro v' w1 hown hgrow hnil
    have HO := hid_ hown
    have HG := hid_ hgrow
    clear hown hgrow hnil
    go_wp2
    go_ret
    refine ⟨v', rfl, ?_, ?_⟩
    · rw [← flat_encU]
      simpa using HO.out
    · exact (balloc' w _).grown HG.out (by simp) (by intro k hk; simp [Value.ownBlock] at hk; omega)
set_option maxHeartbeats 1000000 in
theorem image_c {db mb lb cp n : Nat} {S : DS} (w : World) (h : DevT w db mb lb cp n S) (hS : S.Ok) :
    Calls Try.prog 56 #[.pointer (some ⟨db, 0, none⟩)] w fun e w' => ∃ v, e = .returned v ∧ w'.ownsRow w.heap.size 51 1 v S.last.length (S.last.map vu) ∧ Below w.heap.size w w' := by
  have h0 := h.c0
  have H := hid_ h
  have hln := hS.len.2
  clear h
  go_enter Try.func56, Try.ntmps56
  go_wp2_with (go_at_call 107; refine (cloneU_c S.last _ _ (RdU.own H.out.own rfl) (by omega)).mono ?_; rintro e w2 ⟨v, rfl, hO, hb⟩; have HO := hid_ hO; have HB := hid_ hb; clear hO hb)
  go_ret
  exact ⟨_, rfl, HO.out, HB.out⟩

/-! ### New -/
def newS (l : List Int) : DS := ⟨l, fun _ => none, 0, false, 0⟩
set_option maxHeartbeats 1000000 in
theorem pnew_no (m : Int) (w : World) (hm : m < 1 ∨ 65536 < m) : Calls Try.prog 59 #[vz m] w fun e w' => e = .returned (.tuple #[.pointer none, vz 1]) ∧ Below w.heap.size w w' := by
  rcases hm with hm | hm
  · go_enter Try.func59, Try.ntmps59
    go_wp2
    go_ret2
    exact ⟨rfl, Below.refl _ _⟩
  · go_enter Try.func59, Try.ntmps59
    go_wp2
    go_ret2
    exact ⟨rfl, Below.refl _ _⟩
structure NewRes (w w' : World) (db mb lb cp n : Nat) (S : DS) : Prop where
  t : DevT w' db mb lb cp n S
  b : Below w.heap.size w w'
  h1 : w.heap.size ≤ db
  h2 : w.heap.size ≤ mb
  h3 : w.heap.size ≤ lb
set_option maxHeartbeats 1000000 in
set_option maxRecDepth 100000 in
theorem pnew_c (m : Nat) (w : World) (h1 : 1 ≤ m) (h2 : m ≤ 65536) : Calls Try.prog 59 #[vz m] w fun e w' => ∃ db mb lb, e = .returned (.tuple #[.pointer (some ⟨db, 0, none⟩), vz 0]) ∧ NewRes w w' db mb lb m 0 (newS (List.replicate m 0)) := by
  have hmm := @run_makeMap Try.prog
  obtain ⟨i0, hi, hz0, hz1, hz2⟩ := info_parts info51
  have hI := hid_ hi; have hZ0 := hid_ hz0; have hZ1 := hid_ hz1; have hZ2 := hid_ hz2
  have hb2 : i0.bytes * m ≤ 281474976710656 := by rw [hz2]; omega
  have hB2 := hid_ hb2
  clear hi hz0 hz1 hz2 hb2
  go_enter Try.func59, Try.ntmps59
  go_wp2_with (at_make; refine wpList_make_full _ rfl _ _ 92 rfl w.heap.size 51 i0 (vu 0) 1 Try.underlying92 hI.out hZ0.out hZ1.out .i64 .i64 m m m rfl rfl rfl rfl hB2.out ?m3 (Nat.le_refl _) ?_; rotate_left 1; intro w1 hO hg; have HO := hid_ hO; have HB := hid_ ((Below.refl w.heap.size w).grown hg (Nat.le_refl _) (by rintro _ ⟨⟩)); clear hO hg)
  case m3 => unfold maxLen; omega
  have hrep : (newS (List.replicate m 0)).row w.heap.size m w1.heap.size = #[.slice (some ⟨w.heap.size, 0, none⟩) m m, .map (some w1.heap.size), .int .i64 0, .bool false, .int .i64 0] := by simp [newS, DS.row]
  have hln : (newS (List.replicate m 0)).last.length = m := by simp [newS]
  have hma : (madeCells (vu 0).cells (m * 1)).toList = (newS (List.replicate m 0)).last.map vu := by
    rw [show (vu 0).cells = #[vu 0] from rfl, toList_madeCells_one]; simp [newS]
  have hsz := HB.out.size
  go_ret2
  refine ⟨w1.heap.size + 1, w1.heap.size, w.heap.size, rfl, ⟨?_, ?_, ?_, by omega⟩, balloc (balloc HB.out _) _, by omega, by omega, Nat.le_refl _⟩
  · rw [hrep]
    have := heap_alloc_new (w1.alloc (.map #[] 0)) (.cells #[.slice (some ⟨w.heap.size, 0, none⟩) m m, .map (some w1.heap.size), .int .i64 0, .bool false, .int .i64 0] 156)
    rw [World.size_alloc] at this
    exact this
  · rw [hln, ← hma]
    exact ownsRow_base ((HO.out.alloc _).alloc _) (Nat.zero_le _)
  · exact (OM.made w1).kept (gb_below (balloc' _ _) none) (by simp)
end Go.Proofs.Ytncdkbhkjamdpaa
