/- The walks of the reference's Made and Of: lists that they make. -/
import Derived.Test.YtncdkbhkjamdpaaS2
namespace Go.Proofs.Ytncdkbhkjamdpaa
open Go.RowKit

theorem info25 : (Try.prog.info? 25).map (fun i => (i.zero, i.size, i.bytes)) = some (some (.agg #[.int .i64 0, .int .i64 0]), 2, 16) := by kernel_rfl

/-! ### Made -/
abbrev RdB (w : World) (v : Value) (l : List Int) : Prop := Rd 1 (fun x => [Value.int .u8 x]) w v l
theorem RdB.at {w wr : World} {A : Option Addr} {n c : Nat} {l : List Int} (h : RdB w (.slice A n c) l) (hb : Below w.heap.size w wr) {k : Nat} (hk : k < l.length) :
    ∃ b o, A = some ⟨b, o, none⟩ ∧ wr.cell? ⟨b, o + k, none⟩ = some (.int .u8 l[k]) := by
  obtain ⟨A', c', e, _, _, hc⟩ := h
  injection e with e1 e2 e3
  subst e1
  obtain ⟨b, o, ea, hh⟩ := hc k hk
  exact ⟨b, o, ea, cmono hb (by simpa using hh 0 _ rfl)⟩
def Bytes (l : List Int) : Prop := ∀ x ∈ l, 0 ≤ x ∧ x ≤ 255

/-- Behind k pairs: the next word, and the spans so far. -/
def mk (from_ : Int) (l : List Int) : Nat → Int × List Sp
  | 0 => (from_, [])
  | k + 1 =>
    let p := mk from_ l k
    let f := p.1 + 1 + (l[2 * k]?.getD 0) % 9
    let m := 1 + (l[2 * k + 1]?.getD 0) % 9
    (f + m, p.2 ++ [⟨f, m⟩])
def madeL (from_ : Int) (l : List Int) : List Sp := (mk from_ l (l.length / 2)).2
theorem mk_len (from_ : Int) (l : List Int) (k : Nat) : (mk from_ l k).2.length = k := by
  induction k with
  | zero => rfl
  | succ k ih => simp [mk, ih]
theorem mk_bd (from_ : Int) (l : List Int) (k : Nat) : from_ ≤ (mk from_ l k).1 ∧ (mk from_ l k).1 ≤ from_ + 18 * k := by
  induction k with
  | zero => simp [mk]
  | succ k ih => simp only [mk]; omega

set_option maxHeartbeats 1000000 in
set_option maxRecDepth 100000 in
theorem made_c (from_ : Int) (l : List Int) (v : Value) (w : World) (hv : RdB w v l) (hb : Bytes l) (hn : l.length ≤ 1000000) (hf : -1000000 ≤ from_) (hf' : from_ ≤ 1000000) :
    Calls Try.prog 26 #[.int .i64 from_, v] w fun e w' => ∃ v', e = .returned v' ∧ ResS w' w.heap.size v' (madeL from_ l) ∧ Below w.heap.size w w' := by
  have HV := hid_ hv
  obtain ⟨A, c, rfl, hl, hl', _⟩ := hv
  obtain ⟨i0, hi, hz0, hz1, hz2⟩ := info_parts info25
  have hI := hid_ hi; have hZ0 := hid_ hz0; have hZ1 := hid_ hz1; have hZ2 := hid_ hz2
  clear hi hz0 hz1 hz2
  have HB := hid_ hb
  clear hb
  go_enter Try.func26, Try.ntmps26
  go_wp2
  go_loopw [0, 5, 6] (fun f out i wr => ∃ k : Nat, 2 * k ≤ l.length ∧ i = .int .i64 ((2 * k : Nat) : Int) ∧ f = .int .i64 (mk from_ l k).1 ∧ Hid (wr.ownsRow w.heap.size 25 2 out k (flat Sp.enc (mk from_ l k).2)) ∧ Below w.heap.size w wr) (fun _ _ i _ => l.length + 1 - (intOf i).toNat)
  case atStart => exact ⟨0, by omega, rfl, rfl, World.ownsRow_nil _ _ _ _, Below.refl _ _⟩
  case round =>
    obtain ⟨k, hk, rfl, rfl, hO, hB⟩ := hrel
    have hbd := mk_bd from_ l k
    by_cases hlt : 2 * k + 1 < l.length
    · obtain ⟨b, o, rfl, h1⟩ := RdB.at HV.out hB (show 2 * k < l.length by omega)
      obtain ⟨b2, o2, he, h2⟩ := RdB.at HV.out hB hlt
      obtain ⟨rfl, rfl⟩ : b2 = b ∧ o2 = o := by injection he with he; injection he with h1 h2; exact ⟨h1.symm, h2.symm⟩
      clear he
      have g1 := HB.out _ (List.getElem_mem (show 2 * k < l.length by omega))
      have g2 := HB.out _ (List.getElem_mem hlt)
      have HK : Hid (mk from_ l (k + 1) = ((mk from_ l k).1 + 1 + l[2 * k] % 9 + (1 + l[2 * k + 1] % 9), (mk from_ l k).2 ++ [⟨(mk from_ l k).1 + 1 + l[2 * k] % 9, 1 + l[2 * k + 1] % 9⟩])) := by
        show mk from_ l (k + 1) = _
        simp only [mk, List.getElem?_eq_getElem (show 2 * k < l.length by omega), List.getElem?_eq_getElem hlt, Option.getD_some]
      generalize l[2 * k] = x at *
      generalize l[2 * k + 1] = y at *
      obtain ⟨g1, g1'⟩ := g1
      obtain ⟨g2, g2'⟩ := g2
      obtain ⟨hb1, hb2⟩ := hbd
      generalize (mk from_ l k).1 = F at *
      go_wp2_with (at_builtin; refine wpList_append_own _ rfl _ _ 22 rfl w.heap.size 25 i0 (.agg #[.int .i64 0, .int .i64 0]) 2 16 Try.underlying22 hI.out hZ0.out hZ1.out hZ2.out rfl (by decide) _ _ _ rfl (hO.out.alloc _) ⟨wr.heap.size, 0, none⟩ 1 1 [.int .i64 (F + 1 + x % 9), .int .i64 (1 + y % 9)] rfl rfl ?c1 ?c2 ?c3 ?c4 ?c5 ?_; rotate_left 5; intro v' w1 hO1 hg1 _; have HO1 := hid_ hO1; have HG1 := hid_ hg1; clear hO1 hg1)
      case c1 => exact cells_new _ _ _
      case c2 => simp [Value.oneCell']
      case c3 => unfold maxLen; omega
      case c4 => omega
      case c5 => have := hB.size; simp; omega
      go_roundw
      case rel =>
        refine ⟨k + 1, by omega, by go_num, by rw [HK.out], ?_, bgrown (balloc hB _) HG1.out fun k' hk' => (hO.out.lt k' hk').1⟩
        rw [HK.out]
        show World.ownsRow _ _ _ _ _ _ _
        rw [flat_append, flat_one]
        exact HO1.out
      case measure => simp [intOf]; omega
    · go_wp2
      go_ret
      obtain rfl : k = l.length / 2 := by omega
      exact ⟨_, rfl, Res.of_own Sp.enc_len hO.out (mk_len _ _ _).symm, hB⟩
end Go.Proofs.Ytncdkbhkjamdpaa
