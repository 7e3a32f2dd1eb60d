/- The walks of the reference's table of chapter 18: a list of pairs. -/
import Derived.Test.YtncdkbhkjamdpaaK3
import Derived.OneCell
import Derived.Laws.AppendOwnNone
namespace Go.Proofs.Ytncdkbhkjamdpaa
open Go.RowKit Go.Maps

structure Pr where
  k : Int
  a : Int
def Pr.enc (p : Pr) : List Value := [vz p.k, vz p.a]
theorem Pr.enc_len (p : Pr) : p.enc.length = 2 := rfl
theorem info149 : (Try.prog.info? 149).map (fun i => (i.zero, i.size, i.bytes)) = some (some (.agg #[.int .i64 0, .int .i64 0]), 2, 16) := by kernel_rfl
abbrev RdP (w : World) (v : Value) (l : List Pr) : Prop := Rd 2 Pr.enc w v l
theorem RdP.at {w wr : World} {A : Option Addr} {n c : Nat} {l : List Pr} (h : RdP w (.slice A n c) l) (hb : Below w.heap.size w wr) {k : Nat} (hk : k < l.length) :
    ∃ b o, A = some ⟨b, o, none⟩ ∧ wr.cell? ⟨b, o + k * 2, none⟩ = some (vz l[k].k) ∧ wr.cell? ⟨b, o + k * 2 + 1, none⟩ = some (vz l[k].a) := by
  obtain ⟨A', c', e, _, _, hc⟩ := h
  injection e with e1 e2 e3
  subst e1
  obtain ⟨b, o, ea, hh⟩ := hc k hk
  exact ⟨b, o, ea, cmono hb (hh 0 _ rfl), cmono hb (hh 1 _ rfl)⟩

structure RTab (w : World) (rb : Nat) (L : List Pr) (sv : Value) : Prop where
  blk : w.heap[rb]? = some (.cells #[sv] 80 (0, 0))
  own : w.ownsRow 0 149 2 sv L.length (flat Pr.enc L)
theorem RTab.cell {w : World} {rb : Nat} {L : List Pr} {sv : Value} (h : RTab w rb L sv) : w.cell? ⟨rb, 0, none⟩ = some sv := cell_blk h.blk rfl
theorem RTab.frz {w : World} {rb : Nat} {L : List Pr} {sv : Value} (h : RTab w rb L sv) : w.frozen? ⟨rb, 0, none⟩ = false := frozen_blk h.blk
theorem RTab.rd {w : World} {rb : Nat} {L : List Pr} {sv : Value} (h : RTab w rb L sv) : RdP w sv L := Rd.of_own Pr.enc_len h.own rfl
theorem RTab.lt {w : World} {rb : Nat} {L : List Pr} {sv : Value} (h : RTab w rb L sv) : rb < w.heap.size := (Array.getElem?_eq_some_iff.1 h.blk).1
theorem RTab.mono {w w' : World} {rb : Nat} {L : List Pr} {sv : Value} (h : RTab w rb L sv) (hb : Below w.heap.size w w') : RTab w' rb L sv := ⟨hmono hb h.blk, ownsRow_below h.own hb⟩
/-- A map's block is written. -/
theorem RTab.keptM {w w' : World} {rb : Nat} {L : List Pr} {sv : Value} (h : RTab w rb L sv) {b n : Nat} {f : Int → Option Value} (hm : OM w b n f) (hg : w.grownBy w' (some b)) : RTab w' rb L sv := by
  have h1 := map_ne hm h.cell
  refine ⟨(hg.block rb h.lt (by simpa using h1)).trans h.blk, h.own.kept hg ?_⟩
  by_cases hv : sv.ownBlock = none
  · exact .inl hv
  · right
    obtain ⟨es, c, hb⟩ := hm.blk
    rcases h.own.2 with ⟨rfl, _⟩ | ⟨g, cap, cur, rfl, _, hh, _⟩
    · simp [Value.ownBlock]
    · simp only [Value.ownBlock]
      intro e
      injection e with e
      subst e
      rw [hb] at hh
      cases hh

/-! ### lists of pairs -/
def hasK (k : Int) (p : Pr) : Bool := p.k == k
theorem find_first {p : Pr → Bool} : ∀ (L : List Pr) (i : Nat) (hi : i < L.length), (∀ j (hj : j < i), p (L[j]'(by omega)) = false) → p L[i] = true → L.find? p = some L[i]
  | x :: L, 0, _, _, h => by
    have h' : p x = true := by simpa using h
    simp [h']
  | x :: L, i + 1, hi, hn, h => by
    have h0 : p x = false := by simpa using hn 0 (by omega)
    rw [List.find?_cons, h0]
    have := find_first L i (by simpa using hi) (fun j hj => by simpa using hn (j + 1) (by omega)) (by simpa using h)
    simpa using this
theorem find_none' {p : Pr → Bool} (L : List Pr) (h : ∀ j (hj : j < L.length), p L[j] = false) : L.find? p = none := by
  rw [List.find?_eq_none]
  intro x hx
  obtain ⟨j, hj, rfl⟩ := List.getElem_of_mem hx
  simp [h j hj]
def rOwner (L : List Pr) (k : Int) : Int := match L.find? (hasK k) with
  | some p => p.a
  | none => -1

/-! ### Owner -/
set_option maxHeartbeats 1000000 in
theorem rowner_c (rb : Nat) (L : List Pr) (sv : Value) (k : Int) (w : World) (h : RTab w rb L sv) :
    Calls Try.prog 49 #[.pointer (some ⟨rb, 0, none⟩), vz k] w fun e w' => e = .returned (vz (rOwner L k)) ∧ Below w.heap.size w w' := by
  have hc := h.cell
  have HR := hid_ h.rd
  obtain ⟨A, c, rfl, hl, hl', _⟩ := h.rd
  go_enter Try.func49, Try.ntmps49
  go_wp2
  go_loopw [5] (fun i wr => ∃ j : Nat, j ≤ L.length ∧ i = .int .i64 j ∧ Hid (∀ q (hq : q < L.length), q < j → hasK k L[q] = false) ∧ wr = w) (fun i _ => L.length - (intOf i).toNat)
  case atStart => exact ⟨0, Nat.zero_le _, rfl, by simp [Hid], rfl⟩
  case round =>
    obtain ⟨j, hj, rfl, hh, rfl⟩ := hrel
    by_cases hlt : j < L.length
    · obtain ⟨b, o, rfl, h1, h2⟩ := RdP.at HR.out (Below.refl _ _) hlt
      obtain ⟨p, hp⟩ : ∃ p, L[j] = p := ⟨_, rfl⟩
      rw [hp] at h1 h2
      have HP := hid_ hp
      clear hp
      by_cases he : p.k = k
      · have he1 : (p.k == k) = true := by simp [he]
        have HQ : Hid (rOwner L k = p.a) := by
          show _ = _
          rw [rOwner, find_first L j hlt (fun q hq => hh.out q (by omega) hq) (by rw [HP.out]; exact he1), HP.out]
        go_wp2
        go_ret
        exact ⟨by rw [HQ.out]; rfl, Below.refl _ _⟩
      · have he1 : (p.k == k) = false := by simp [he]
        go_wp2
        go_roundw
        case rel =>
          refine ⟨j + 1, by omega, by go_num, fun q hq hqj => ?_, trivial⟩
          by_cases hqj' : q < j
          · exact hh.out q hq hqj'
          · obtain rfl : q = j := by omega
            rw [HP.out]; exact he1
        case measure => simp [intOf]; omega
    · obtain rfl : j = L.length := by omega
      have HQ : Hid (rOwner L k = -1) := by
        show _ = _
        rw [rOwner, find_none' L (fun q hq => hh.out q hq hq)]
      go_wp2
      go_ret
      exact ⟨by rw [HQ.out]; rfl, Below.refl _ _⟩

/-! ### Held -/
def rHeld (L : List Pr) (a : Int) : List Int := (L.filter (fun p => p.a == a)).map (·.k)
theorem rheld_take {L : List Pr} {a : Int} {k : Nat} (hk : k < L.length) : rHeld (L.take (k + 1)) a = rHeld (L.take k) a ++ (if (L[k].a == a) = true then [L[k].k] else []) := by
  rw [rHeld, List.take_add_one, List.getElem?_eq_getElem hk]
  simp only [Option.toList_some, List.filter_append, List.filter_cons, List.filter_nil, List.map_append]
  congr 1
  split <;> rfl
theorem rheld_len (L : List Pr) (a : Int) : (rHeld L a).length ≤ L.length := by rw [rHeld, List.length_map]; exact List.length_filter_le _ _

set_option maxHeartbeats 4000000 in
set_option maxRecDepth 100000 in
theorem rheld_c (rb : Nat) (L : List Pr) (sv : Value) (a : Int) (w : World) (h : RTab w rb L sv) (hn : L.length ≤ 100000) :
    Calls Try.prog 52 #[.pointer (some ⟨rb, 0, none⟩), vz a] w fun e w' => ∃ v, e = .returned v ∧ w'.ownsRow w.heap.size 3 1 v (rHeld L a).length ((rHeld L a).map vz) ∧ Below w.heap.size w w' := by
  have hc := h.cell
  have HR := hid_ h.rd
  obtain ⟨A, c, rfl, hl, hl', _⟩ := h.rd
  obtain ⟨i0, hi, hz0, hz1, hz2⟩ := info_parts info3
  have hI := hid_ hi; have hZ0 := hid_ hz0; have hZ1 := hid_ hz1; have hZ2 := hid_ hz2
  clear hi hz0 hz1 hz2
  go_enter Try.func52, Try.ntmps52
  go_wp2
  go_loopw [5, 6] (fun out i wr => ∃ j : Nat, j ≤ L.length ∧ i = .int .i64 j ∧ Hid (wr.ownsRow w.heap.size 3 1 out (rHeld (L.take j) a).length ((rHeld (L.take j) a).map vz)) ∧ Below w.heap.size w wr) (fun _ i _ => L.length - (intOf i).toNat)
  case atStart => exact ⟨0, Nat.zero_le _, rfl, World.ownsRow_nil _ _ _ _, Below.refl _ _⟩
  case round =>
    obtain ⟨j, hj, rfl, HO, hB⟩ := hrel
    have hcr := cmono hB hc
    by_cases hlt : j < L.length
    · obtain ⟨b, o, rfl, h1, h2⟩ := RdP.at HR.out hB hlt
      have HT := hid_ (rheld_take (a := a) hlt)
      have hlen := rheld_len (L.take j) a
      rw [List.length_take] at hlen
      generalize L[j] = p at h1 h2 HT
      by_cases he : p.a = a
      · have he1 : (p.a == a) = true := by simp [he]
        rw [if_pos he1] at HT
        go_wp2_with (at_builtin; refine wpList_append_own _ rfl _ _ 45 rfl w.heap.size 3 i0 (vz 0) 1 8 Try.underlying45 hI.out hZ0.out hZ1.out hZ2.out rfl (by decide) _ _ _ rfl (HO.out.alloc _) ⟨wr.heap.size, 0, none⟩ 1 1 [vz p.k] rfl rfl ?c1 ?c2 ?c3 ?c4 ?c5 ?_; rotate_left 5; intro v' w3 hO1 hg1 _; have HO1 := hid_ hO1; have HG1 := hid_ hg1; clear hO1 hg1)
        case c1 => exact cells_new _ _ _
        case c2 => simp [Value.oneCell']
        case c3 => unfold maxLen; omega
        case c4 => omega
        case c5 => have := hB.size; simp; omega
        go_roundw
        case rel =>
          refine ⟨j + 1, by omega, by go_num, ?_, bgrown (balloc hB _) HG1.out fun k' hk' => (HO.out.lt k' hk').1⟩
          show World.ownsRow _ _ _ _ _ _ _
          rw [HT.out]
          simpa using HO1.out
        case measure => simp [intOf]; omega
      · have he1 : (p.a == a) = false := by simp [he]
        rw [if_neg (by rw [he1]; decide)] at HT
        go_wp2
        go_roundw
        case rel =>
          refine ⟨j + 1, by omega, by go_num, ?_, hB⟩
          show World.ownsRow _ _ _ _ _ _ _
          rw [HT.out]
          simpa using HO.out
        case measure => simp [intOf]; omega
    · obtain rfl : j = L.length := by omega
      rw [List.take_length] at HO
      go_wp2
      go_ret
      exact ⟨_, rfl, HO.out, hB⟩

/-! ### Release -/
def rRel (L : List Pr) (a : Int) : List Pr := L.filter (fun p => p.a != a)
theorem rrel_take {L : List Pr} {a : Int} {k : Nat} (hk : k < L.length) : rRel (L.take (k + 1)) a = rRel (L.take k) a ++ (if (L[k].a != a) = true then [L[k]] else []) := by
  rw [rRel, List.take_add_one, List.getElem?_eq_getElem hk]
  simp only [Option.toList_some, List.filter_append, List.filter_cons, List.filter_nil]
  rfl
theorem rrel_len (L : List Pr) (a : Int) : (rRel L a).length ≤ L.length := List.length_filter_le _ _
theorem gb_setCell (w : World) (a : Addr) (u : Value) : w.grownBy (w.setCell a u) (some a.block) :=
  ⟨rfl, rfl, rfl, by simp, fun k _ hne => Below.heap_setCell _ _ _ _ (fun e => hne (by rw [e]))⟩
theorem RTab.store {w : World} {rb : Nat} {cur sv : Value} {L : List Pr} {base : Nat} (hb : w.heap[rb]? = some (.cells #[cur] 80 (0, 0))) (ho : w.ownsRow base 149 2 sv L.length (flat Pr.enc L)) (hlt : rb < base) : RTab (w.setCell ⟨rb, 0, none⟩ sv) rb L sv := by
  refine ⟨?_, ownsRow_base (ownsRow_setCell_other ho (fun e => ?_) _) (Nat.zero_le _)⟩
  · have := heap_setCell_same w rb 0 #[cur] 80 sv hb
    simpa using this
  · have h1 := (ho.lt rb e).1
    omega

set_option maxHeartbeats 4000000 in
set_option maxRecDepth 100000 in
theorem rrelease_c (rb : Nat) (L : List Pr) (sv : Value) (a : Int) (w : World) (h : RTab w rb L sv) (hn : L.length ≤ 100000) :
    Calls Try.prog 47 #[.pointer (some ⟨rb, 0, none⟩), vz a] w fun e w' => ∃ sv', e = .returned (vz ((L.length : Int) - (rRel L a).length)) ∧ RTab w' rb (rRel L a) sv' ∧ w.grownBy w' (some rb) := by
  have hc := h.cell
  have H := hid_ h
  have HR := hid_ h.rd
  obtain ⟨A, c, rfl, hl, hl', _⟩ := h.rd
  clear h
  obtain ⟨i0, hi, hz0, hz1, hz2⟩ := info_parts info149
  have hI := hid_ hi; have hZ0 := hid_ hz0; have hZ1 := hid_ hz1; have hZ2 := hid_ hz2
  clear hi hz0 hz1 hz2
  go_enter Try.func47, Try.ntmps47
  go_wp2
  go_loopw [5, 6] (fun out i wr => ∃ j : Nat, j ≤ L.length ∧ i = .int .i64 j ∧ Hid (wr.ownsRow w.heap.size 149 2 out (rRel (L.take j) a).length (flat Pr.enc (rRel (L.take j) a))) ∧ Below w.heap.size w wr) (fun _ i _ => L.length - (intOf i).toNat)
  case atStart => exact ⟨0, Nat.zero_le _, rfl, World.ownsRow_nil _ _ _ _, Below.refl _ _⟩
  case round =>
    obtain ⟨j, hj, rfl, HO, hB⟩ := hrel
    have hcr := cmono hB hc
    by_cases hlt : j < L.length
    · obtain ⟨b, o, rfl, h1, h2⟩ := RdP.at HR.out hB hlt
      have HT := hid_ (rrel_take (a := a) hlt)
      have hlen := rrel_len (L.take j) a
      rw [List.length_take] at hlen
      generalize L[j] = p at h1 h2 HT
      by_cases he : p.a = a
      · have he1 : (p.a != a) = false := by simp [he]
        rw [if_neg (by rw [he1]; decide)] at HT
        go_wp2
        go_roundw
        case rel =>
          refine ⟨j + 1, by omega, by go_num, ?_, hB⟩
          show World.ownsRow _ _ _ _ _ _ _
          rw [HT.out]
          simpa using HO.out
        case measure => simp [intOf]; omega
      · have he1 : (p.a != a) = true := by simp [he]
        rw [if_pos he1] at HT
        go_wp2_with (at_builtin; refine wpList_append_own _ rfl _ _ 78 rfl w.heap.size 149 i0 (.agg #[.int .i64 0, .int .i64 0]) 2 16 Try.underlying78 hI.out hZ0.out hZ1.out hZ2.out rfl (by decide) _ _ _ rfl (HO.out.alloc _) ⟨wr.heap.size, 0, none⟩ 1 1 p.enc rfl rfl ?c1 ?c2 ?c3 ?c4 ?c5 ?_; rotate_left 5; intro v' w3 hO1 hg1 _; have HO1 := hid_ hO1; have HG1 := hid_ hg1; clear hO1 hg1)
        case c1 => exact cells_new _ _ _
        case c2 => simp [Value.oneCell', Pr.enc]
        case c3 => unfold maxLen; omega
        case c4 => omega
        case c5 => have := hB.size; simp; omega
        go_roundw
        case rel =>
          refine ⟨j + 1, by omega, by go_num, ?_, bgrown (balloc hB _) HG1.out fun k' hk' => (HO.out.lt k' hk').1⟩
          show World.ownsRow _ _ _ _ _ _ _
          rw [HT.out, flat_append, flat_one]
          simpa using HO1.out
        case measure => simp [intOf]; omega
    · obtain rfl : j = L.length := by omega
      rw [List.take_length] at HO
      have hlen := rrel_len L a
      have hbl := hmono hB H.out.blk
      have hfr := frozen_blk (j := 0) hbl
      obtain ⟨Ao, co, rfl, _, _, _⟩ := Rd.of_own Pr.enc_len HO.out rfl
      have HS := hid_ (RTab.store hbl HO.out H.out.lt)
      have hws : IntKind.i64.wrap ((L.length : Int) - (rRel L a).length) = (L.length : Int) - (rRel L a).length := wrap_in (by omega) (by omega)
      go_wp2
      go_ret
      exact ⟨_, rfl, HS.out, gb_trans (gb_below hB _) (gb_setCell _ _ _)⟩
end Go.Proofs.Ytncdkbhkjamdpaa
