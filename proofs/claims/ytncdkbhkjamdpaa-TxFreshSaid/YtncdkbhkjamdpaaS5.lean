/- The walk of slices.Clone at spans: a list of its own. -/
import Derived.Test.YtncdkbhkjamdpaaS4
namespace Go.Proofs.Ytncdkbhkjamdpaa
open Go.RowKit

set_option maxHeartbeats 1000000 in
set_option maxRecDepth 100000 in
theorem clone_c (l : List Sp) (v : Value) (w : World) (hv : RdS w v l) (hn : l.length * 16 ≤ 140737488355328) :
    Calls Try.prog 78 #[v] w fun e w' => ∃ v', e = .returned v' ∧ w'.ownsRow w.heap.size 25 2 v' l.length (flat Sp.enc l) ∧ Below w.heap.size w w' := by
  have HV := hid_ hv
  obtain ⟨A, c, rfl, hl, hl', _⟩ := hv
  obtain ⟨i0, hi, hz0, hz1, hz2⟩ := info_parts info25
  have q : ∀ (w : World) (a : Option Addr) (n c n' c' : Nat), (binOp .eql 22 (.slice a n c) (.slice none n' c')).run Try.prog w = .ok (.bool a.isNone) w := fun w a n c n' c' => eql_nil w _ _ a n c n' c' Try.underlying22
  cases A with
  | none =>
    have h0 := Rd.none_nil HV.out
    subst h0
    go_enter Try.func78, Try.ntmps78
    go_wp2
    go_ret
    exact ⟨_, rfl, World.ownsRow_nil _ _ _ _, Below.refl _ _⟩
  | some a =>
    go_enter Try.func78, Try.ntmps78
    go_wp2_with (at_builtin; refine wpList_append_own _ rfl _ _ 22 rfl w.heap.size 25 i0 (.agg #[.int .i64 0, .int .i64 0]) 2 16 Try.underlying22 hi hz0 hz1 hz2 rfl (by decide) _ _ _ rfl (World.ownsRow_made w #[] 0 (Nat.le_refl _) (Nat.zero_le _) rfl) a l.length c (flat Sp.enc l) rfl ?c1 ?c2 ?c3 ?c4 ?c5 ?c6 ?_)
    case c1 => exact flat_length Sp.enc_len l
    case c2 => exact fun j u hj => cell_old _ _ (Rd.cells Sp.enc_len HV.out j u hj)
    case c3 =>
      intro u hu
      obtain ⟨s, _, hs⟩ := List.mem_flatMap.1 hu
      simp [Sp.enc] at hs
      rcases hs with rfl | rfl <;> rfl
    case c4 => unfold maxLen; omega
    case c5 => omega
    case c6 => simp
    intro v' w1 hown hgrow hnil
    have HO := hid_ hown
    have HG := hid_ hgrow
    clear hown hgrow hnil
    go_wp2
    go_ret
    refine ⟨v', rfl, by simpa using HO.out, ?_⟩
    exact (balloc' w _).grown HG.out (by simp) (by intro k hk; simp [Value.ownBlock] at hk; omega)
end Go.Proofs.Ytncdkbhkjamdpaa
