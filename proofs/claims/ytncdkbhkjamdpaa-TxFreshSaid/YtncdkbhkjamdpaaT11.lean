/- The statement's helper few of chapter 20: are operations of a size that is looked at, with objects that lie apart? -/
import Derived.Test.YtncdkbhkjamdpaaTO
import Derived.Deep.CutRange
namespace Go.Proofs.Ytncdkbhkjamdpaa
open Go.RowKit Go.Maps

theorem all_take20 {p : O20 → Bool} {l : List O20} {k : Nat} (hk : k < l.length) : (l.take (k + 1)).all p = ((l.take k).all p && p l[k]) := by
  rw [List.take_add_one, List.getElem?_eq_getElem hk]
  simp only [Option.toList_some, List.all_append, List.all_cons, List.all_nil, Bool.and_true]
theorem all_false20 {p : O20 → Bool} {l : List O20} {k : Nat} (hk : k < l.length) (h : p l[k] = false) : l.all p = false := by
  rw [List.all_eq_false]
  exact ⟨_, List.getElem_mem hk, by rw [h]; decide⟩

set_option maxHeartbeats 8000000 in
set_option maxRecDepth 100000 in
theorem few20_c (l : List O20) (v : Value) (w : World) (hv : RdO20 w v l) :
    Calls Try.prog 33 #[v] w fun e w' => e = .returned (.bool (fewL20 l)) ∧ Below w.heap.size w w' := by
  have HV := hid_ hv
  obtain ⟨A, c, rfl, hl, hl', _⟩ := hv
  go_enter Try.func33, Try.ntmps33
  go_wp2
  go_loopw [3] (fun i wr => ∃ k : Nat, k ≤ l.length ∧ i = .int .i64 k ∧ Hid ((l.take k).all few20 = true) ∧ Below w.heap.size w wr) (fun i _ => l.length - (intOf i).toNat)
  case atStart => exact ⟨0, Nat.zero_le _, rfl, by simp [Hid], Below.refl _ _⟩
  case round =>
    obtain ⟨k, hk, rfl, hh, hB⟩ := hrel
    by_cases hlt : k < l.length
    · obtain ⟨b, o, rfl, hC⟩ := RdO20.at HV.out hB hlt
      have HT := hid_ (all_take20 (p := few20) hlt)
      have HNO := hid_ (fun h => all_false20 (p := few20) hlt h)
      generalize l[k] = x at hC HT HNO
      have c1 := hC.c1; have c2 := hC.c2; have c8 := hC.c8; have c10 := hC.c10
      have d8 := cell_old wr (.cells #[.int .i64 x.s.f, .int .i64 x.s.m] 25) c8
      have d10 := cell_old wr (.cells #[.int .i64 x.s.f, .int .i64 x.s.m] 25) c10
      have hBb := balloc hB (.cells #[.int .i64 x.s.f, .int .i64 x.s.m] 25)
      clear hC
      obtain ⟨bq, hbq⟩ : ∃ bq, few20 x = !bq := ⟨!few20 x, by simp⟩
      have HBQ := hid_ hbq
      clear hbq
      go_upto_region 5 with (fail)
      dsimp only [List.append_eq, List.cons_append, List.nil_append]
      go_cut [4, 81] from 5 to 81 (fun s4 s wx => s4 = .pointer (some ⟨wr.heap.size, 0, none⟩) ∧ s = .bool bq ∧ wx = wr.alloc (.cells #[.int .i64 x.s.f, .int .i64 x.s.m] 25))
      case first =>
        by_cases hs : Small x.s ∧ x.f.Ok
        · have HP : Hid (bq = false) := by
            have h1 := (few20_iff x).2 hs
            rw [HBQ.out] at h1
            show _ = _
            simpa using h1
          obtain ⟨⟨s1, s2, s3, s4⟩, ⟨g1, g2, g3, g4, g5⟩⟩ := hs
          have hz : (x.f.at_ % 20 != 0) = false := by simp [g3]
          clear g3
          go_wp2
          go_meet
          refine ⟨rfl, ?_, rfl⟩
          have t1 : decide (x.s.f < 0) = false := decide_eq_false (by omega)
          have t2 : decide (200 < x.s.f) = false := decide_eq_false (by omega)
          have t3 : decide (x.s.m < 0) = false := decide_eq_false (by omega)
          have t4 : decide (60 < x.s.m) = false := decide_eq_false (by omega)
          have t5 : decide (x.f.at_ < 0) = false := decide_eq_false (by omega)
          have t6 : decide (200 < x.f.at_) = false := decide_eq_false (by omega)
          have t7 : decide (x.f.sz < 0) = false := decide_eq_false (by omega)
          have t8 : decide (18 < x.f.sz) = false := decide_eq_false (by omega)
          rw [HP.out, t1, t2, t3, t4, t5, t6, t7, t8]
          rfl
        · have HP : Hid (bq = true) := by
            show _ = _
            cases bq with
            | true => rfl
            | false => exact absurd ((few20_iff x).1 (by rw [HBQ.out]; rfl)) hs
          have key : (x.s.f < 0) ∨ (0 ≤ x.s.f ∧ 200 < x.s.f) ∨ (0 ≤ x.s.f ∧ x.s.f ≤ 200 ∧ x.s.m < 0) ∨ (0 ≤ x.s.f ∧ x.s.f ≤ 200 ∧ 0 ≤ x.s.m ∧ 60 < x.s.m) ∨ (0 ≤ x.s.f ∧ x.s.f ≤ 200 ∧ 0 ≤ x.s.m ∧ x.s.m ≤ 60 ∧ x.f.at_ < 0) ∨ (0 ≤ x.s.f ∧ x.s.f ≤ 200 ∧ 0 ≤ x.s.m ∧ x.s.m ≤ 60 ∧ 0 ≤ x.f.at_ ∧ 200 < x.f.at_) ∨ (0 ≤ x.s.f ∧ x.s.f ≤ 200 ∧ 0 ≤ x.s.m ∧ x.s.m ≤ 60 ∧ 0 ≤ x.f.at_ ∧ x.f.at_ ≤ 200 ∧ ¬ x.f.at_ % 20 = 0) ∨ (0 ≤ x.s.f ∧ x.s.f ≤ 200 ∧ 0 ≤ x.s.m ∧ x.s.m ≤ 60 ∧ 0 ≤ x.f.at_ ∧ x.f.at_ ≤ 200 ∧ x.f.at_ % 20 = 0 ∧ x.f.sz < 0) ∨ (0 ≤ x.s.f ∧ x.s.f ≤ 200 ∧ 0 ≤ x.s.m ∧ x.s.m ≤ 60 ∧ 0 ≤ x.f.at_ ∧ x.f.at_ ≤ 200 ∧ x.f.at_ % 20 = 0 ∧ 0 ≤ x.f.sz ∧ 18 < x.f.sz) := by
            by_cases b0 : x.s.f < 0
            · exact .inl b0
            · by_cases b1 : 200 < x.s.f
              · exact .inr (.inl ⟨by omega, b1⟩)
              · by_cases b2 : x.s.m < 0
                · exact .inr (.inr (.inl ⟨by omega, by omega, b2⟩))
                · by_cases b3 : 60 < x.s.m
                  · exact .inr (.inr (.inr (.inl ⟨by omega, by omega, by omega, b3⟩)))
                  · by_cases b4 : x.f.at_ < 0
                    · exact .inr (.inr (.inr (.inr (.inl ⟨by omega, by omega, by omega, by omega, b4⟩))))
                    · by_cases b5 : 200 < x.f.at_
                      · exact .inr (.inr (.inr (.inr (.inr (.inl ⟨by omega, by omega, by omega, by omega, by omega, b5⟩)))))
                      · by_cases b6 : ¬ x.f.at_ % 20 = 0
                        · exact .inr (.inr (.inr (.inr (.inr (.inr (.inl ⟨by omega, by omega, by omega, by omega, by omega, by omega, b6⟩))))))
                        · by_cases b7 : x.f.sz < 0
                          · exact .inr (.inr (.inr (.inr (.inr (.inr (.inr (.inl ⟨by omega, by omega, by omega, by omega, by omega, by omega, by omega, b7⟩)))))))
                          · by_cases b8 : 18 < x.f.sz
                            · exact .inr (.inr (.inr (.inr (.inr (.inr (.inr (.inr (⟨by omega, by omega, by omega, by omega, by omega, by omega, by omega, by omega, b8⟩))))))))
                            · exact absurd ⟨⟨by omega, by omega, by omega, by omega⟩, ⟨by omega, by omega, by omega, by omega, by omega⟩⟩ hs
          clear hs
          rcases key with q0 | ⟨q0, q1⟩ | ⟨q0, q1, q2⟩ | ⟨q0, q1, q2, q3⟩ | ⟨q0, q1, q2, q3, q4⟩ | ⟨q0, q1, q2, q3, q4, q5⟩ | ⟨q0, q1, q2, q3, q4, q5, q6⟩ | ⟨q0, q1, q2, q3, q4, q5, q6, q7⟩ | ⟨q0, q1, q2, q3, q4, q5, q6, q7, q8⟩
          · go_wp2
            go_meet
            exact ⟨rfl, by rw [HP.out], rfl⟩
          · go_wp2
            go_meet
            exact ⟨rfl, by rw [HP.out], rfl⟩
          · go_wp2
            go_meet
            exact ⟨rfl, by rw [HP.out], rfl⟩
          · go_wp2
            go_meet
            exact ⟨rfl, by rw [HP.out], rfl⟩
          · go_wp2
            go_meet
            exact ⟨rfl, by rw [HP.out], rfl⟩
          · go_wp2
            go_meet
            exact ⟨rfl, by rw [HP.out], rfl⟩
          · have hz : (x.f.at_ % 20 != 0) = true := by simpa using q6
            clear q6
            go_wp2
            go_meet
            exact ⟨rfl, by rw [HP.out], rfl⟩
          · have hz : (x.f.at_ % 20 != 0) = false := by simp [q6]
            clear q6
            go_wp2
            go_meet
            exact ⟨rfl, by rw [HP.out], rfl⟩
          · have hz : (x.f.at_ % 20 != 0) = false := by simp [q6]
            clear q6
            go_wp2
            go_meet
            exact ⟨rfl, by rw [HP.out], rfl⟩
      case rest =>
        obtain ⟨rfl, rfl, rfl⟩ := hcut
        cases bq with
        | true =>
          have HP : Hid (fewL20 l = false) := by
            show _ = _
            rw [fewL20, HNO.out HBQ.out]; rfl
          go_wp2
          go_ret
          exact ⟨by rw [HP.out]; rfl, hBb⟩
        | false =>
          go_wp2
          go_roundw
          case rel => exact ⟨k + 1, by omega, by go_num, by show _ = _; rw [HT.out, hh.out, HBQ.out]; rfl, hBb⟩
          case measure => simp [intOf]; omega
    · obtain rfl : k = l.length := by omega
      have HA := hh.out
      rw [List.take_length] at HA
      have HP : Hid (fewL20 l = decide ((l.length : Int) ≤ 40)) := by
        show _ = _
        rw [fewL20, HA, Bool.true_and, decide_eq_decide]
        omega
      clear HA
      go_wp2
      go_ret
      exact ⟨by rw [HP.out]; rfl, hB⟩
end Go.Proofs.Ytncdkbhkjamdpaa
