/- The walk of span.Add: what it answers, on lists, at whatever numbers. -/
import Derived.Test.YtncdkbhkjamdpaaS7
namespace Go.Proofs.Ytncdkbhkjamdpaa
open Go.RowKit

def endW (s : Sp) : Int := wrap64 (s.f + s.m)
theorem end_e (s : Sp) (w : World) :
    Calls Try.prog 77 #[.agg #[.int .i64 s.f, .int .i64 s.m]] w fun e w' => e = .returned (.int .i64 (endW s)) ∧ Below w.heap.size w w' := end_w s.f s.m w
structure AddSt where
  out : List Sp
  f : Int
  t : Int
  at_ : Nat
def addStep (st : AddSt) (x : Sp) : AddSt :=
  if endW x < st.f then ⟨st.out ++ [x], st.f, st.t, st.out.length + 1⟩
  else if st.t < x.f then ⟨st.out ++ [x], st.f, st.t, st.at_⟩
  else ⟨st.out, min st.f x.f, max st.t (endW x), st.at_⟩
def addGo (l : List Sp) (s : Sp) : AddSt := l.foldl addStep ⟨[], s.f, endW s, 0⟩
def addW (l : List Sp) (s : Sp) : List Sp :=
  if s.m < 1 then l else insL (addGo l s).out (addGo l s).at_ ⟨(addGo l s).f, wrap64 ((addGo l s).t - (addGo l s).f)⟩
theorem addGo_take {l : List Sp} {s : Sp} {k : Nat} (hk : k < l.length) : addGo (l.take (k + 1)) s = addStep (addGo (l.take k) s) l[k] := by
  unfold addGo
  rw [List.take_add_one, List.getElem?_eq_getElem hk]
  simp only [Option.toList_some, List.foldl_append, List.foldl_cons, List.foldl_nil]
theorem addGo_inv (l : List Sp) (s : Sp) : (addGo l s).at_ ≤ (addGo l s).out.length ∧ (addGo l s).out.length ≤ l.length := by
  have : ∀ (l : List Sp) (st : AddSt), st.at_ ≤ st.out.length → (l.foldl addStep st).at_ ≤ (l.foldl addStep st).out.length ∧ (l.foldl addStep st).out.length ≤ st.out.length + l.length := by
    intro l
    induction l with
    | nil => intro st h; exact ⟨h, Nat.le_refl _⟩
    | cons x l ih =>
      intro st h
      have h1 : (addStep st x).at_ ≤ (addStep st x).out.length ∧ (addStep st x).out.length ≤ st.out.length + 1 := by
        unfold addStep
        split
        · simp
        · split
          · simp; omega
          · simp; omega
      have := ih (addStep st x) h1.1
      simp only [List.foldl_cons, List.length_cons]
      omega
  have := this l ⟨[], s.f, endW s, 0⟩ (Nat.le_refl _)
  simpa [addGo] using this

theorem gmin (a b : Int) : (if b < a then b else a) = min a b := by rw [Int.min_def]; split <;> split <;> omega
theorem gmax (a b : Int) : (if a < b then b else a) = max a b := by rw [Int.max_def]; split <;> split <;> omega
structure AddRel (W0 : World) (out : Value) (st : AddSt) (wr : World) : Prop where
  own : wr.ownsRow W0.heap.size 25 2 out st.out.length (flat Sp.enc st.out)
  b : Below W0.heap.size W0 wr

set_option maxHeartbeats 4000000 in
set_option maxRecDepth 100000 in
theorem add_c (l : List Sp) (v : Value) (s : Sp) (w : World) (hv : RdS w v l) (hn : l.length ≤ 100000) :
    Calls Try.prog 27 #[v, .agg #[.int .i64 s.f, .int .i64 s.m]] w fun e w' => ∃ v', e = .returned v' ∧ w'.ownsRow w.heap.size 25 2 v' (addW l s).length (flat Sp.enc (addW l s)) ∧ Below w.heap.size w w' := by
  have HV := hid_ hv
  obtain ⟨A, c, rfl, hl, hl', _⟩ := hv
  obtain ⟨i0, hi, hz0, hz1, hz2⟩ := info_parts info25
  have hI := hid_ hi; have hZ0 := hid_ hz0; have hZ1 := hid_ hz1; have hZ2 := hid_ hz2
  clear hi hz0 hz1 hz2
  by_cases hm : s.m < 1
  · have HA : Hid (addW l s = l) := by show _ = _; simp [addW, hm]
    go_enter Try.func27, Try.ntmps27
    go_wp2_with (go_at_call 78; refine (clone_c l _ _ (HV.out.mono (balloc' _ _)) (by omega)).mono ?_; rintro e w1 ⟨v', rfl, hO, hb⟩; have HO := hid_ hO; have HB := hid_ hb; clear hO hb)
    go_ret
    exact ⟨v', rfl, by rw [HA.out]; exact ownsRow_base HO.out (balloc' _ _).size, btr (balloc' _ _) HB.out⟩
  · have HA : Hid (addW l s = insL (addGo l s).out (addGo l s).at_ ⟨(addGo l s).f, wrap64 ((addGo l s).t - (addGo l s).f)⟩) := by show _ = _; simp [addW, hm]
    go_enter Try.func27, Try.ntmps27
    go_wp2
    have e1 := Ext.cell (cell_new (wr := w) (cs := #[.int .i64 s.f, .int .i64 s.m]) (e := 25) 0 rfl)
    have e2 := Ext.cell (cell_new (wr := w) (cs := #[.int .i64 s.f, .int .i64 s.m]) (e := 25) 1 rfl)
    have HN := hid_ (balloc' w (.cells #[.int .i64 s.f, .int .i64 s.m] 25))
    generalize w.alloc (.cells #[.int .i64 s.f, .int .i64 s.m] 25) = W at e1 e2 HN ⊢
    refine wp_region_ext (by kernel_rfl) (by kernel_rfl) ?_
    repeat (first | go_big_quiet_skip | (go_big_quiet_want; go_big_quiet_op; first | go_big_quiet_on | (apply Exists.intro; refine ⟨fun _ => ?_, ?_⟩; (focus (exact Calls.ext (end_e s _))); go_big_quiet_on)))
    refine wpQuiet_nil ?_
    intro wq hw'
    obtain ⟨pq, rfl⟩ := hw'
    have HP := hid_ (btr HN.out pq.h)
    generalize pq.w = W0 at HP ⊢
    go_wp2
    go_loopw [5, 6, 7, 8, 22] (fun out f t a i wr => ∃ k : Nat, k ≤ l.length ∧ i = .int .i64 k ∧ f = .int .i64 (addGo (l.take k) s).f ∧ t = .int .i64 (addGo (l.take k) s).t ∧ a = .int .i64 (addGo (l.take k) s).at_ ∧ AddRel W0 out (addGo (l.take k) s) wr) (fun _ _ _ _ i _ => l.length - (intOf i).toNat)
    case atStart => exact ⟨0, Nat.zero_le _, rfl, rfl, rfl, rfl, World.ownsRow_nil _ _ _ _, Below.refl _ _⟩
    case round =>
      obtain ⟨k, hk, rfl, rfl, rfl, rfl, hR⟩ := hrel
      obtain ⟨hO, hB⟩ := hR
      have HO := hid_ hO
      clear hO
      have HBB := hid_ (btr HP.out hB)
      by_cases hlt : k < l.length
      · obtain ⟨b, o, rfl, h1, h2⟩ := RdS.at HV.out HBB.out hlt
        have HT := hid_ (addGo_take (s := s) hlt)
        have HY := hid_ (addGo_inv (l.take k) s)
        generalize l[k] = x at *
        generalize addGo (l.take k) s = st at *
        obtain ⟨ol, f, t, a⟩ := st
        replace HO := hid_ (show World.ownsRow wr W0.heap.size 25 2 _ ol.length (flat Sp.enc ol) from HO.out)
        dsimp only
        by_cases hc1 : endW x < f
        · have HS : Hid (addStep ⟨ol, f, t, a⟩ x = ⟨ol ++ [x], f, t, ol.length + 1⟩) := by show _ = _; simp [addStep, hc1]
          go_wp2_with (first | (go_at_call 77; refine (end_e x _).mono ?_; rintro e w2 ⟨rfl, hb2⟩; have C1 := cmono hb2 (cell_new (wr := wr) (cs := #[.int .i64 x.f, .int .i64 x.m]) (e := 25) 0 rfl); have C2 := cmono hb2 (cell_new (wr := wr) (cs := #[.int .i64 x.f, .int .i64 x.m]) (e := 25) 1 rfl); have O2 := hid_ (ownsRow_below (HO.out.alloc _) hb2); have B2 := hid_ (btr (balloc hB _) hb2)) | (at_builtin; refine wpList_append_own _ rfl _ _ 22 rfl W0.heap.size 25 i0 (.agg #[.int .i64 0, .int .i64 0]) 2 16 Try.underlying22 hI.out hZ0.out hZ1.out hZ2.out rfl (by decide) _ _ _ rfl (O2.out.alloc _) ⟨w2.heap.size, 0, none⟩ 1 1 [.int .i64 x.f, .int .i64 x.m] rfl rfl ?c1 ?c2 ?c3 ?c4 ?c5 ?_; rotate_left 5; intro v' w3 hO1 hg1 _; obtain ⟨g3, cap3, rfl⟩ := own_form hO1 (by omega); have HO1 := hid_ hO1; have HG1 := hid_ hg1; clear hO1 hg1))
          case c1 => exact cells_new _ _ _
          case c2 => simp [Value.oneCell']
          case c3 => have hq : ol.length ≤ (l.take k).length := HY.out.2; rw [List.length_take] at hq; unfold maxLen; omega
          case c4 => have hq : ol.length ≤ (l.take k).length := HY.out.2; rw [List.length_take] at hq; omega
          case c5 => have := B2.out.size; simp; omega
          go_roundw
          case rel =>
            refine ⟨k + 1, by omega, by go_num, by rw [HT.out, HS.out], by rw [HT.out, HS.out], by rw [HT.out, HS.out]; go_num, ?_, (balloc B2.out _).grown HG1.out (by have := B2.out.size; simp; omega) fun k' hk' => (O2.out.lt k' hk').1⟩
            rw [HT.out, HS.out]
            simp only [List.length_append, List.length_cons, List.length_nil]
            rw [flat_append, flat_one]
            exact HO1.out
          case measure => simp [intOf]; omega
        · by_cases hc2 : t < x.f
          · have HS : Hid (addStep ⟨ol, f, t, a⟩ x = ⟨ol ++ [x], f, t, a⟩) := by show _ = _; simp [addStep, hc1, hc2]
            go_wp2_with (first | (go_at_call 77; refine (end_e x _).mono ?_; rintro e w2 ⟨rfl, hb2⟩; have C1 := cmono hb2 (cell_new (wr := wr) (cs := #[.int .i64 x.f, .int .i64 x.m]) (e := 25) 0 rfl); have C2 := cmono hb2 (cell_new (wr := wr) (cs := #[.int .i64 x.f, .int .i64 x.m]) (e := 25) 1 rfl); have O2 := hid_ (ownsRow_below (HO.out.alloc _) hb2); have B2 := hid_ (btr (balloc hB _) hb2)) | (at_builtin; refine wpList_append_own _ rfl _ _ 22 rfl W0.heap.size 25 i0 (.agg #[.int .i64 0, .int .i64 0]) 2 16 Try.underlying22 hI.out hZ0.out hZ1.out hZ2.out rfl (by decide) _ _ _ rfl (O2.out.alloc _) ⟨w2.heap.size, 0, none⟩ 1 1 [.int .i64 x.f, .int .i64 x.m] rfl rfl ?c1 ?c2 ?c3 ?c4 ?c5 ?_; rotate_left 5; intro v' w3 hO1 hg1 _; obtain ⟨g3, cap3, rfl⟩ := own_form hO1 (by omega); have HO1 := hid_ hO1; have HG1 := hid_ hg1; clear hO1 hg1))
            case c1 => exact cells_new _ _ _
            case c2 => simp [Value.oneCell']
            case c3 => have hq : ol.length ≤ (l.take k).length := HY.out.2; rw [List.length_take] at hq; unfold maxLen; omega
            case c4 => have hq : ol.length ≤ (l.take k).length := HY.out.2; rw [List.length_take] at hq; omega
            case c5 => have := B2.out.size; simp; omega
            go_roundw
            case rel =>
              refine ⟨k + 1, by omega, by go_num, by rw [HT.out, HS.out], by rw [HT.out, HS.out], by rw [HT.out, HS.out], ?_, (balloc B2.out _).grown HG1.out (by have := B2.out.size; simp; omega) fun k' hk' => (O2.out.lt k' hk').1⟩
              rw [HT.out, HS.out]
              simp only [List.length_append, List.length_cons, List.length_nil]
              rw [flat_append, flat_one]
              exact HO1.out
            case measure => simp [intOf]; omega
          · have HS : Hid (addStep ⟨ol, f, t, a⟩ x = ⟨ol, min f x.f, max t (endW x), a⟩) := by show _ = _; simp [addStep, hc1, hc2]
            go_wp2_with (first | (go_at_call 77; refine (end_e x _).mono ?_; rintro e w2 ⟨rfl, hb2⟩; have C1 := cmono hb2 (cell_new (wr := wr) (cs := #[.int .i64 x.f, .int .i64 x.m]) (e := 25) 0 rfl); have C2 := cmono hb2 (cell_new (wr := wr) (cs := #[.int .i64 x.f, .int .i64 x.m]) (e := 25) 1 rfl); have O2 := hid_ (ownsRow_below (HO.out.alloc _) hb2); have B2 := hid_ (btr (balloc hB _) hb2)))
            have e3 := Ext.cell C1
            have e4 := Ext.cell C2
            refine wp_region_ext (by kernel_rfl) (by kernel_rfl) ?_
            repeat (first | go_big_quiet_skip | (go_big_quiet_want; go_big_quiet_op; first | go_big_quiet_on | (apply Exists.intro; refine ⟨fun _ => ?_, ?_⟩; (focus (exact Calls.ext (end_e x _))); go_big_quiet_on)))
            refine wpQuiet_nil ?_
            intro wq hw'
            obtain ⟨pq, rfl⟩ := hw'
            go_wp2
            go_roundw
            case rel =>
              refine ⟨k + 1, by omega, by go_num, by rw [HT.out, HS.out, gmin], by rw [HT.out, HS.out, gmax], by rw [HT.out, HS.out], ?_, btr B2.out pq.h⟩
              rw [HT.out, HS.out]
              exact ownsRow_below O2.out pq.h
            case measure => simp [intOf]; omega
      · obtain rfl : k = l.length := by omega
        rw [List.take_length] at *
        have HY := hid_ (addGo_inv l s)
        generalize addGo l s = st at *
        obtain ⟨ol, f, t, a⟩ := st
        replace HO := hid_ (show World.ownsRow wr W0.heap.size 25 2 _ ol.length (flat Sp.enc ol) from HO.out)
        dsimp only
        go_wp2_with (go_at_call 79; refine (ins_c ol _ a ⟨f, wrap64 (t - f)⟩ wr.heap.size W0.heap.size _ (HO.out.alloc _) ?d2 (heap_alloc_new _ _) ?d4 HY.out.1 ?d6).mono ?_; rotate_left 3; rintro e w3 ⟨v3, rfl, hO3, hb3⟩; have HO3 := hid_ hO3; have HB3 := hid_ hb3; clear hO3 hb3)
        case d2 => have := hB.size; simp; omega
        case d4 => intro h; have := (HO.out.lt _ h).2; omega
        case d6 => have hq : ol.length ≤ l.length := HY.out.2; omega
        go_ret
        refine ⟨v3, rfl, ?_, ?_⟩
        · rw [HA.out, insL_len]
          exact ownsRow_base HO3.out HP.out.size
        · exact (balloc HBB.out _).trans (HB3.out.mono HP.out.size)
end Go.Proofs.Ytncdkbhkjamdpaa
