/- The reference's transaction (chapter 20): Make. -/
import Derived.Test.YtncdkbhkjamdpaaT7
namespace Go.Proofs.Ytncdkbhkjamdpaa
open Go.RowKit Go.Maps

def insStep (f : Ob) (st : List Ob × Bool) (x : Ob) : List Ob × Bool := if st.2 = false ∧ f.at_ < x.at_ then (st.1 ++ [f] ++ [x], true) else (st.1 ++ [x], st.2)
def insGo (f : Ob) (L : List Ob) : List Ob × Bool := L.foldl (insStep f) ([], false)
theorem insGo_take {f : Ob} {L : List Ob} {k : Nat} (hk : k < L.length) : insGo f (L.take (k + 1)) = insStep f (insGo f (L.take k)) L[k] := by
  unfold insGo
  rw [List.take_add_one, List.getElem?_eq_getElem hk]
  simp only [Option.toList_some, List.foldl_append, List.foldl_cons, List.foldl_nil]
theorem ins_true (f : Ob) (L : List Ob) : ∀ acc, L.foldl (insStep f) (acc, true) = (acc ++ L, true) := by
  induction L with
  | nil => intro acc; simp
  | cons x l ih =>
    intro acc
    rw [List.foldl_cons, insStep, if_neg (by rintro ⟨h, _⟩; cases h), ih]
    simp
theorem insStep_hit {f x : Ob} (h : f.at_ < x.at_) (acc : List Ob) : insStep f (acc, false) x = (acc ++ [f] ++ [x], true) := if_pos ⟨rfl, h⟩
theorem insStep_no {f x : Ob} (h : ¬ f.at_ < x.at_) (acc : List Ob) : insStep f (acc, false) x = (acc ++ [x], false) := if_neg fun e => h e.2
theorem ins_false (f : Ob) (L : List Ob) : ∀ acc, (if (L.foldl (insStep f) (acc, false)).2 then (L.foldl (insStep f) (acc, false)).1 else (L.foldl (insStep f) (acc, false)).1 ++ [f]) = acc ++ insF f L := by
  induction L with
  | nil => intro acc; simp [insF]
  | cons x l ih =>
    intro acc
    rw [List.foldl_cons, insF]
    by_cases h : f.at_ < x.at_
    · rw [insStep_hit h, if_pos h, ins_true]
      simp
    · rw [insStep_no h, if_neg h]
      have := ih (acc ++ [x])
      rw [this]
      simp
theorem insGo_ok (f : Ob) (L : List Ob) : (if (insGo f L).2 then (insGo f L).1 else (insGo f L).1 ++ [f]) = insF f L := by
  have := ins_false f L []
  rw [List.nil_append] at this
  exact this
theorem insGo_len (f : Ob) (L : List Ob) : (insGo f L).1.length ≤ L.length + 1 ∧ ((insGo f L).2 = false → (insGo f L).1.length ≤ L.length) := by
  have h : ∀ (L acc : List Ob), (L.foldl (insStep f) (acc, false)).1.length ≤ acc.length + L.length + 1 ∧ ((L.foldl (insStep f) (acc, false)).2 = false → (L.foldl (insStep f) (acc, false)).1.length ≤ acc.length + L.length) := by
    intro L
    induction L with
    | nil => intro acc; simp
    | cons x l ih =>
      intro acc
      rw [List.foldl_cons]
      by_cases hx : f.at_ < x.at_
      · rw [insStep_hit hx, ins_true]
        simp only [List.length_append, List.length_cons, List.length_nil]
        exact ⟨by omega, fun h => by cases h⟩
      · rw [insStep_no hx]
        obtain ⟨h1, h2⟩ := ih (acc ++ [x])
        simp only [List.length_append, List.length_cons, List.length_nil] at h1 h2 ⊢
        exact ⟨by omega, fun h => by have := h2 h; omega⟩
  have := h L []
  simp only [List.length_nil, Nat.zero_add] at this
  exact this

section
variable {rb : Nat} {wv fv gv : Value} {R : TS}
set_option maxHeartbeats 16000000 in
set_option maxRecDepth 100000 in
theorem rmake_c (f : Ob) (w : World) (h : RTx w rb wv fv gv R) (hn : R.fresh.length ≤ 10000) :
    Calls Try.prog 89 #[.pointer (some ⟨rb, 0, none⟩), f.val] w fun e w' => e = .returned (.tuple #[]) ∧ RtRes w w' rb wv gv (makeT R f) := by
  have H0 := hid_ h
  rw [show f.val = .agg #[.int .i64 f.ch, .int .i64 f.ix, .int .i64 f.cl, .int .i64 f.mn, .bool f.fr, .int .i64 f.at_, .int .i64 f.ty, .int .i64 f.sz, .int .u64 f.sr] from rfl]
  obtain ⟨W, hW⟩ : ∃ W, w.alloc (.cells #[.int .i64 f.ch, .int .i64 f.ix, .int .i64 f.cl, .int .i64 f.mn, .bool f.fr, .int .i64 f.at_, .int .i64 f.ty, .int .i64 f.sz, .int .u64 f.sr] 55) = W := ⟨_, rfl⟩
  have HBW : Hid (Below w.heap.size w W) := by show Below _ _ _; rw [← hW]; exact balloc' _ _
  have HFW : Hid (W.heap[w.heap.size]? = some (.cells (fobs f) 55 (0, 0))) := by show _ = _; rw [← hW]; exact heap_alloc_new w _
  have HT := hid_ (h.mono HBW.out)
  have l0 := h.lt
  clear h
  obtain ⟨i0, hi, hz0, hz1, hz2⟩ := info_parts info55
  have hI := hid_ hi; have hZ0 := hid_ hz0; have hZ1 := hid_ hz1; have hZ2 := hid_ hz2
  clear hi hz0 hz1 hz2
  have hrl := rm_len R.fresh f.at_
  obtain ⟨L, hL⟩ : ∃ L, rmL R.fresh f.at_ = L := ⟨_, rfl⟩
  have HL := hid_ hL
  rw [hL] at hrl
  clear hL
  obtain ⟨y0, y1, y2, y3, y4, y5, y6, y7, y8⟩ := ob_cells HFW.out
  go_enter Try.func89, Try.ntmps89
  go_wp2_with (go_at_call 90; go_loud (refine (runmake_c f.at_ _ HT.out hn).mono ?_; rintro e w1 ⟨rfl, hr⟩; obtain ⟨⟨wv1, fv1, gv1, ht, hw1, hg1⟩, hf⟩ := hr; have H1 := hid_ ht; have HNW := hid_ ((NewOr.refl w wv).trans hw1 HBW.out.size); have HNG := hid_ ((NewOr.refl w gv).trans hg1 HBW.out.size); have HF1 := hid_ ((Fr.of_below HBW.out).trans hf); have HFB := hid_ ((hf.block w.heap.size (Array.getElem?_eq_some_iff.1 HFW.out).1 (rw_not H0.out _ (by simp))).trans HFW.out); clear ht hw1 hg1 hf))
  clear hW y0 y1 y2 y3 y4 y5 y6 y7 y8
  have HFE : Hid ((unmakeT R f.at_).fresh = L) := HL.out
  obtain ⟨A, c, hfv, hl, hl', _⟩ := id H1.out.rf
  rw [HFE.out] at hfv hl
  have HRF : Hid (RdF w1 (.slice A L.length c) L) := by show Rd _ _ _ _ _; rw [← hfv, ← HFE.out]; exact H1.out.rf
  have hc1 := H1.out.c3
  rw [hfv] at hc1
  clear hfv
  go_loopw [4, 5, 6] (fun out d i wr => ∃ k : Nat, k ≤ L.length ∧ i = .int .i64 k ∧ d = .bool (insGo f (L.take k)).2 ∧ Hid (wr.ownsRow w1.heap.size 55 9 out (insGo f (L.take k)).1.length (flat Ob.enc (insGo f (L.take k)).1)) ∧ Below w1.heap.size w1 wr) (fun _ _ i _ => L.length - (intOf i).toNat)
  case atStart => exact ⟨0, Nat.zero_le _, rfl, rfl, World.ownsRow_nil _ _ _ _, Below.refl _ _⟩
  case round =>
    obtain ⟨k, hk, rfl, rfl, HO, hB⟩ := hrel
    have hcr := cmono hB hc1
    have HFr := hid_ (hmono hB HFB.out)
    obtain ⟨t0, t1, t2, t3, t4, t5, t6, t7, t8⟩ := ob_cells HFr.out
    obtain ⟨hil, hil2⟩ := insGo_len f (L.take k)
    rw [List.length_take] at hil hil2
    by_cases hlt : k < L.length
    · obtain ⟨b, o, rfl, x0, x1, x2, x3, x4, x5, x6, x7, x8⟩ := RdF.at HRF.out (Below.refl _ _) hlt
      have HX := hid_ (And.intro x0 (And.intro x1 (And.intro x2 (And.intro x3 (And.intro x4 (And.intro x5 (And.intro x6 (And.intro x7 x8))))))))
      have e0 := cmono hB x0
      have e1 := cmono hB x1
      have e2 := cmono hB x2
      have e3 := cmono hB x3
      have e4 := cmono hB x4
      have e5 := cmono hB x5
      have e6 := cmono hB x6
      have e7 := cmono hB x7
      have e8 := cmono hB x8
      clear x0 x1 x2 x3 x4 x5 x6 x7 x8
      have HG := hid_ (insGo_take (f := f) hlt)
      generalize L[k] = x at *
      generalize insGo f (L.take k) = st at HO HG hil hil2 ⊢
      obtain ⟨ol, dn⟩ := st
      dsimp only at HO hil hil2 ⊢
      have d3 := Ext.cell hcr
      have d5 := Ext.cell e5
      have dt := Ext.cell t5
      cases dn with
      | true =>
        have HS : Hid (insGo f (L.take (k + 1)) = (ol ++ [x], true)) := by show _ = _; rw [HG.out, insStep, if_neg (by rintro ⟨h, _⟩; cases h)]
        go_upto_region 7 with (fail)
        refine wp_region_ext (by kernel_rfl) (by kernel_rfl) ?_
        repeat (first | go_big_quiet_skip | (go_big_quiet_want; go_big_quiet_op; first | go_big_quiet_on | (apply Exists.intro; refine ⟨fun _ => ?_, ?_⟩; (focus (fail)); go_big_quiet_on)))
        refine wpQuiet_nil ?_
        intro wq hw'
        obtain ⟨pq, rfl⟩ := hw'
        have hln : ol.length ≤ k + 1 := by omega
        have HBw := hid_ (btr hB pq.h)
        have HOq := hid_ (ownsRow_below HO.out pq.h)
        replace e0 := cmono pq.h e0
        replace e1 := cmono pq.h e1
        replace e2 := cmono pq.h e2
        replace e3 := cmono pq.h e3
        replace e4 := cmono pq.h e4
        replace e5 := cmono pq.h e5
        replace e6 := cmono pq.h e6
        replace e7 := cmono pq.h e7
        replace e8 := cmono pq.h e8
        go_wp2_with (at_builtin; refine wpList_append_own _ rfl _ _ 44 rfl w1.heap.size 55 i0 (.agg #[.int .i64 0, .int .i64 0, .int .i64 0, .int .i64 0, .bool false, .int .i64 0, .int .i64 0, .int .i64 0, .int .u64 0]) 9 72 Try.underlying44 hI.out hZ0.out hZ1.out hZ2.out rfl (by decide) _ _ _ rfl (HOq.out.alloc _) ⟨pq.w.heap.size, 0, none⟩ 1 1 x.enc rfl rfl ?ta1 ?ta2 ?ta3 ?ta4 ?ta5 ?_; rotate_left 5; intro v2 w3 hO1 hg1 _; have HO2 := hid_ hO1; have HB2 := hid_ (bgrown (balloc HBw.out _) hg1 fun k' hk' => (HOq.out.lt k' hk').1); clear hO1 hg1)
        case ta1 => first | exact cells_new _ _ _ | exact fun j u h => h
        case ta2 => simp [Value.oneCell', Ob.enc]
        case ta3 => unfold maxLen; omega
        case ta4 => omega
        case ta5 => have := HBw.out.size; simp; omega
        go_roundw
        case rel =>
          refine ⟨k + 1, by omega, by go_num, by rw [HS.out], ?_, HB2.out⟩
          show World.ownsRow _ _ _ _ _ _ _
          rw [HS.out, flat_append, flat_one]
          simpa using HO2.out
        case measure => simp [intOf]; omega
      | false =>
        by_cases hx : f.at_ < x.at_
        · have HS : Hid (insGo f (L.take (k + 1)) = (ol ++ [f] ++ [x], true)) := by show _ = _; rw [HG.out, insStep_hit hx]
          go_upto_region 7 with (fail)
          refine wp_region_ext (by kernel_rfl) (by kernel_rfl) ?_
          repeat (first | go_big_quiet_skip | (go_big_quiet_want; go_big_quiet_op; first | go_big_quiet_on | (apply Exists.intro; refine ⟨fun _ => ?_, ?_⟩; (focus (fail)); go_big_quiet_on)))
          refine wpQuiet_nil ?_
          intro wq hw'
          obtain ⟨pq, rfl⟩ := hw'
          have tok1 : True := trivial
          have hln : ol.length ≤ k + 1 := by omega
          have HBw := hid_ (btr hB pq.h)
          have HOq := hid_ (ownsRow_below HO.out pq.h)
          replace e0 := cmono pq.h e0
          replace e1 := cmono pq.h e1
          replace e2 := cmono pq.h e2
          replace e3 := cmono pq.h e3
          replace e4 := cmono pq.h e4
          replace e5 := cmono pq.h e5
          replace e6 := cmono pq.h e6
          replace e7 := cmono pq.h e7
          replace e8 := cmono pq.h e8
          replace t0 := cmono pq.h t0
          replace t1 := cmono pq.h t1
          replace t2 := cmono pq.h t2
          replace t3 := cmono pq.h t3
          replace t4 := cmono pq.h t4
          replace t5 := cmono pq.h t5
          replace t6 := cmono pq.h t6
          replace t7 := cmono pq.h t7
          replace t8 := cmono pq.h t8
          go_wp2_with (first
            | (at_builtin; have _t := tok1; refine wpList_append_own _ rfl _ _ 44 rfl w1.heap.size 55 i0 (.agg #[.int .i64 0, .int .i64 0, .int .i64 0, .int .i64 0, .bool false, .int .i64 0, .int .i64 0, .int .i64 0, .int .u64 0]) 9 72 Try.underlying44 hI.out hZ0.out hZ1.out hZ2.out rfl (by decide) _ _ _ rfl (HOq.out.alloc _) ⟨pq.w.heap.size, 0, none⟩ 1 1 f.enc rfl rfl ?tb1 ?tb2 ?tb3 ?tb4 ?tb5 ?_; rotate_left 5; intro v2 w3 hO1 hg1 _; have HO2 := hid_ hO1; have HB2 := hid_ (bgrown (balloc HBw.out _) hg1 fun k' hk' => (HOq.out.lt k' hk').1); clear hO1 hg1; obtain ⟨r0, r1, r2, r3, r4, r5, r6, r7, r8⟩ := HX.out; replace e0 := cmono HB2.out r0; replace e1 := cmono HB2.out r1; replace e2 := cmono HB2.out r2; replace e3 := cmono HB2.out r3; replace e4 := cmono HB2.out r4; replace e5 := cmono HB2.out r5; replace e6 := cmono HB2.out r6; replace e7 := cmono HB2.out r7; replace e8 := cmono HB2.out r8; have hcr2 := cmono HB2.out hc1; clear tok1 r0 r1 r2 r3 r4 r5 r6 r7 r8 t0 t1 t2 t3 t4 t5 t6 t7 t8)
            | (at_builtin; refine wpList_append_own _ rfl _ _ 44 rfl w1.heap.size 55 i0 (.agg #[.int .i64 0, .int .i64 0, .int .i64 0, .int .i64 0, .bool false, .int .i64 0, .int .i64 0, .int .i64 0, .int .u64 0]) 9 72 Try.underlying44 hI.out hZ0.out hZ1.out hZ2.out rfl (by decide) _ _ _ rfl (HO2.out.alloc _) ⟨w3.heap.size, 0, none⟩ 1 1 x.enc rfl rfl ?td1 ?td2 ?td3 ?td4 ?td5 ?_; rotate_left 5; intro v3 w4 hO1 hg1 _; have HO3 := hid_ hO1; have HB3 := hid_ (bgrown (balloc HB2.out _) hg1 fun k' hk' => (HO2.out.lt k' hk').1); clear hO1 hg1))
          case td1 => first | exact cells_new _ _ _ | exact fun j u h => h
          case td2 => simp [Value.oneCell', Ob.enc]
          case td3 => unfold maxLen; omega
          case td4 => omega
          case td5 => have := HB2.out.size; simp; omega
          case tb1 => first | exact cells_new _ _ _ | exact fun j u h => h
          case tb2 => simp [Value.oneCell', Ob.enc]
          case tb3 => unfold maxLen; omega
          case tb4 => omega
          case tb5 => have := HBw.out.size; simp; omega
          go_roundw
          case rel =>
            refine ⟨k + 1, by omega, by go_num, by rw [HS.out], ?_, HB3.out⟩
            show World.ownsRow _ _ _ _ _ _ _
            rw [HS.out, flat_append, flat_append, flat_one, flat_one]
            simpa using HO3.out
          case measure => simp [intOf]; omega
        · have HS : Hid (insGo f (L.take (k + 1)) = (ol ++ [x], false)) := by show _ = _; rw [HG.out, insStep_no hx]
          go_upto_region 7 with (fail)
          refine wp_region_ext (by kernel_rfl) (by kernel_rfl) ?_
          repeat (first | go_big_quiet_skip | (go_big_quiet_want; go_big_quiet_op; first | go_big_quiet_on | (apply Exists.intro; refine ⟨fun _ => ?_, ?_⟩; (focus (fail)); go_big_quiet_on)))
          refine wpQuiet_nil ?_
          intro wq hw'
          obtain ⟨pq, rfl⟩ := hw'
          have hln : ol.length ≤ k + 1 := by omega
          have HBw := hid_ (btr hB pq.h)
          have HOq := hid_ (ownsRow_below HO.out pq.h)
          replace e0 := cmono pq.h e0
          replace e1 := cmono pq.h e1
          replace e2 := cmono pq.h e2
          replace e3 := cmono pq.h e3
          replace e4 := cmono pq.h e4
          replace e5 := cmono pq.h e5
          replace e6 := cmono pq.h e6
          replace e7 := cmono pq.h e7
          replace e8 := cmono pq.h e8
          go_wp2_with (at_builtin; refine wpList_append_own _ rfl _ _ 44 rfl w1.heap.size 55 i0 (.agg #[.int .i64 0, .int .i64 0, .int .i64 0, .int .i64 0, .bool false, .int .i64 0, .int .i64 0, .int .i64 0, .int .u64 0]) 9 72 Try.underlying44 hI.out hZ0.out hZ1.out hZ2.out rfl (by decide) _ _ _ rfl (HOq.out.alloc _) ⟨pq.w.heap.size, 0, none⟩ 1 1 x.enc rfl rfl ?tc1 ?tc2 ?tc3 ?tc4 ?tc5 ?_; rotate_left 5; intro v2 w3 hO1 hg1 _; have HO2 := hid_ hO1; have HB2 := hid_ (bgrown (balloc HBw.out _) hg1 fun k' hk' => (HOq.out.lt k' hk').1); clear hO1 hg1)
          case tc1 => first | exact cells_new _ _ _ | exact fun j u h => h
          case tc2 => simp [Value.oneCell', Ob.enc]
          case tc3 => unfold maxLen; omega
          case tc4 => omega
          case tc5 => have := HBw.out.size; simp; omega
          go_roundw
          case rel =>
            refine ⟨k + 1, by omega, by go_num, by rw [HS.out], ?_, HB2.out⟩
            show World.ownsRow _ _ _ _ _ _ _
            rw [HS.out, flat_append, flat_one]
            simpa using HO2.out
          case measure => simp [intOf]; omega
    · obtain rfl : k = L.length := by omega
      rw [List.take_length] at HO hil hil2 ⊢
      have HIN := hid_ (insGo_ok f L)
      generalize insGo f L = st at HO HIN hil hil2 ⊢
      obtain ⟨ol, dn⟩ := st
      dsimp only at HO HIN hil hil2 ⊢
      have HMK : Hid (∀ X, X = insF f L → { unmakeT R f.at_ with fresh := X } = makeT R f) := fun X hX => by
        rw [hX, ← HL.out]; rfl
      cases dn with
      | true =>
        have HE : Hid (ol = insF f L) := HIN.out
        obtain ⟨Ao, co, rfl, _, _, _⟩ := Rd.of_own Ob.enc_len HO.out rfl
        have HTr := hid_ (H1.out.mono hB)
        have hz3 := HTr.out.fz 3
        have HTS := hid_ (HTr.out.setF ol HO.out)
        clear t0 t1 t2 t3 t4 t5 t6 t7 t8
        go_wp2
        go_end0
        refine ⟨rfl, ⟨wv1, .slice Ao ol.length co, gv1, ?_, HNW.out, HNG.out⟩, (HF1.out.trans (Fr.of_below hB)).trans (Fr.of_gb (gb_setCell _ ⟨rb, 3, none⟩ _) (rw_rb _ _ _))⟩
        rw [← HMK.out ol HE.out]
        exact HTS.out
      | false =>
        have HE : Hid (ol ++ [f] = insF f L) := HIN.out
        have hil3 := hil2 rfl
        go_wp2_with (at_builtin; refine wpList_append_own _ rfl _ _ 44 rfl w1.heap.size 55 i0 (.agg #[.int .i64 0, .int .i64 0, .int .i64 0, .int .i64 0, .bool false, .int .i64 0, .int .i64 0, .int .i64 0, .int .u64 0]) 9 72 Try.underlying44 hI.out hZ0.out hZ1.out hZ2.out rfl (by decide) _ _ _ rfl (HO.out.alloc _) ⟨wr.heap.size, 0, none⟩ 1 1 f.enc rfl rfl ?te1 ?te2 ?te3 ?te4 ?te5 ?_; rotate_left 5; intro v2 w3 hO1 hg1 _; obtain ⟨g, cap, rfl⟩ := own_form hO1 (Nat.succ_pos _); have HO2 := hid_ hO1; have HB2 := hid_ (bgrown (balloc hB _) hg1 fun k' hk' => (HO.out.lt k' hk').1); have HTr := hid_ (H1.out.mono HB2.out); have hz3 := HTr.out.fz 3; have hcr3 := HTr.out.c3; clear hO1 hg1)
        case te1 => first | exact cells_new _ _ _ | exact fun j u h => h
        case te2 => simp [Value.oneCell', Ob.enc]
        case te3 => unfold maxLen; omega
        case te4 => omega
        case te5 => have := hB.size; simp; omega
        go_end0
        have ho : w3.ownsRow w1.heap.size 55 9 (.slice (some ⟨g, 0, none⟩) (ol.length + 1) cap) (ol ++ [f]).length (flat Ob.enc (ol ++ [f])) := by
          rw [flat_append, flat_one]
          simpa using HO2.out
        refine ⟨rfl, ⟨wv1, .slice (some ⟨g, 0, none⟩) (ol.length + 1) cap, gv1, ?_, HNW.out, HNG.out⟩, (HF1.out.trans (Fr.of_below HB2.out)).trans (Fr.of_gb (gb_setCell _ ⟨rb, 3, none⟩ _) (rw_rb _ _ _))⟩
        rw [← HMK.out _ HE.out]
        exact HTr.out.setF (ol ++ [f]) ho
end
end Go.Proofs.Ytncdkbhkjamdpaa
