/- The walk of the statement TxOwn: it returns true. -/
import Derived.Test.YtncdkbhkjamdpaaU0
namespace Go.Proofs.Ytncdkbhkjamdpaa
open Go.RowKit Go.Maps

/-- Three rows of its own behind a world, whatever their cells. -/
structure Rows3 (W : World) (va vb vc : Value) (na nb nc : Nat) (wr : World) : Prop where
  a : ∃ xs, wr.ownsRow W.heap.size 25 2 va na xs
  b : ∃ xs, wr.ownsRow W.heap.size 55 9 vb nb xs
  c : ∃ xs, wr.ownsRow W.heap.size 3 1 vc nc xs
  h : Below W.heap.size W wr
theorem kept_ne {w w' : World} {base base' : Nat} {e e' : TypeId} {k k' : Nat} {v : Value} {n n' : Nat} {xs xs' : List Value} {g cap : Nat} (h : w.ownsRow base e k v n xs) (h' : w.ownsRow base' e' k' (.slice (some ⟨g, 0, none⟩) n' cap) n' xs') (he : e ≠ e') (hg : w.grownBy w' (some g)) : w'.ownsRow base e k v n xs :=
  kept_row h h' he hg
theorem own_slice {w : World} {base : Nat} {e : TypeId} {k : Nat} {v : Value} {n : Nat} {xs : List Value} (h : w.ownsRow base e k v n xs) : ∃ A c, v = .slice A n c := by
  rcases h.2 with ⟨rfl, h0⟩ | ⟨g, cap, cur, rfl, _⟩
  · exact ⟨none, 0, by rw [h0]⟩
  · exact ⟨_, _, rfl⟩

set_option maxHeartbeats 16000000 in
set_option maxRecDepth 100000 in
theorem txOwn_walk (l : List O20) (v : Value) (w : World) (hv : RdO20 w v l) :
    Calls Try.prog 7 #[v] w fun e w' => e = .returned (.bool true) ∧ Below w.heap.size w w' := by
  have HV := hid_ hv
  obtain ⟨A, c, rfl, hl, hl', _⟩ := hv
  cases hf : fewL20 l with
  | false =>
    have HF := hid_ hf
    clear hf
    go_enter Try.func7, Try.ntmps7
    go_wp2_with (first
      | (go_at_call 32; refine (awake20_c _).mono ?_; rintro e w1 ⟨rfl, hb⟩; have B1 := hid_ hb; have HV1 := hid_ (HV.out.mono hb); clear hb)
      | (go_at_call 33; refine (few20_c l _ _ HV1.out).mono ?_; rintro e w2 ⟨rfl, hb⟩; rw [HF.out]; have B2 := hid_ (btr B1.out hb); clear hb))
    go_ret
    exact ⟨rfl, B2.out⟩
  | true =>
    have HSM := hid_ ((fewL20_iff l).1 hf).1
    have hlen := ((fewL20_iff l).1 hf).2
    have HF := hid_ hf
    clear hf
    go_enter Try.func7, Try.ntmps7
    go_wp2_with (first
      | (go_at_call 32; refine (awake20_c _).mono ?_; rintro e w1 ⟨rfl, hb⟩; have B1 := hid_ hb; have HV1 := hid_ (HV.out.mono hb); clear hb)
      | (go_at_call 33; refine (few20_c l _ _ HV1.out).mono ?_; rintro e w2 ⟨rfl, hb⟩; rw [HF.out]; have B2 := hid_ (btr B1.out hb); clear hb)
      | (go_at_call 34; refine (tnew_c _).mono ?_; rintro e w3 ⟨tb, mb, rfl, ht, hb, h1, h2⟩; have HP0 := hid_ (pe_new ht B2.out hb h1 h2); clear ht hb h1 h2))
    go_loopw [7] (fun i wr => ∃ k : Nat, k ≤ l.length ∧ i = .int .i64 k ∧ Hid (PE w tb mb w3.heap.size k wr)) (fun i _ => l.length - (intOf i).toNat)
    case atStart => exact ⟨0, Nat.zero_le _, rfl, HP0.out⟩
    case round =>
      obtain ⟨k, hk, rfl, HP⟩ := hrel
      by_cases hlt : k < l.length
      · have HC := hid_ (fun (W : World) (hW : Below w.heap.size w W) => RdO20.at HV.out hW hlt)
        have HSO := hid_ (HSM.out _ (List.getElem_mem hlt))
        generalize l[k] = x at HC HSO
        obtain ⟨b, o, rfl, hC⟩ := HC.out wr HP.out.b
        have c0 := hC.c0; have c1 := hC.c1; have c2 := hC.c2; have c3 := hC.c3; have c4 := hC.c4; have c5 := hC.c5; have c6 := hC.c6; have c7 := hC.c7; have c8 := hC.c8; have c9 := hC.c9; have c10 := hC.c10; have c11 := hC.c11
        clear hC
        have HK1 : Hid (k ≤ 50) := by show _ ≤ _; omega
        go_wp2_with (go_at_call 35; go_loud (refine (do20_c x _ HP.out HK1.out HSO.out.1 HSO.out.2).mono ?_; rintro e w4 ⟨rfl, hp⟩; have HP5 := hid_ hp; clear hp))
        go_roundw
        case rel => exact ⟨k + 1, by omega, by go_num, HP5.out⟩
        case measure => simp [intOf]; omega
      · obtain rfl : k = l.length := by omega
        obtain ⟨n, wv, gv, rwv, rfv, rgv, T, R, hp2, ha2⟩ := HP.out.ex
        have HX := hid_ hp2
        have HA := hid_ ha2
        have HGL : Hid (T.gone.length ≤ 100000) := by show _ ≤ _; have := ha2.gl; omega
        have HNN : Hid (n ≤ 1000000) := by show _ ≤ _; have := ha2.nk; omega
        have HWL : Hid (T.words.length ≤ 100000) := by show _ ≤ _; have := (ha2.len (by omega)).w; omega
        have HLL : Hid (l.length ≤ 100) := by show _ ≤ _; omega
        clear hp2 ha2
        go_upto_region 16 with (first
          | (go_at_call 36; go_loud (refine (noted_c _ HX.out.both.t HWL.out).mono ?_; rintro e w5 ⟨va, rfl, hO, hb⟩; have HBa := hid_ hb; have HOa := hid_ hO; have HXa := hid_ (HX.out.mono hb); clear hO hb))
          | (go_at_call 37; go_loud (refine (all_c _ HXa.out.both.t HA.out.ok.up HNN.out HA.out.fl).mono ?_; rintro e w6 ⟨vb, rfl, hO, hb⟩; have HBb := hid_ hb; have HOb := hid_ hO; have HXb := hid_ (HXa.out.mono hb); clear hO hb))
          | (go_at_call 38; go_loud (refine (gone_c _ HXb.out.both.t HGL.out).mono ?_; rintro e w7 ⟨vc, rfl, hO, hb⟩; have HBc := hid_ hb; have HOc := hid_ hO; clear hO hb)))
        have HR0 : Hid (Rows3 wr va vb vc T.words.length T.fresh.length T.gone.length w7) :=
          ⟨⟨_, ownsRow_below (ownsRow_below HOa.out HBb.out) HBc.out⟩, ⟨_, ownsRow_base (ownsRow_below HOb.out HBc.out) HBa.out.size⟩, ⟨_, ownsRow_base HOc.out (btr HBa.out HBb.out).size⟩, btr (btr HBa.out HBb.out) HBc.out⟩
        obtain ⟨Aa, ca, rfl⟩ := own_slice HOa.out
        obtain ⟨Ab, cb, rfl⟩ := own_slice HOb.out
        obtain ⟨Ac, cc, rfl⟩ := own_slice HOc.out
        clear HOa HOb HOc HBa HBb HBc HXa HXb
        obtain ⟨na, hna⟩ : ∃ na, T.words.length = na := ⟨_, rfl⟩
        obtain ⟨nb, hnb⟩ : ∃ nb, T.fresh.length = nb := ⟨_, rfl⟩
        obtain ⟨nc, hnc⟩ : ∃ nc, T.gone.length = nc := ⟨_, rfl⟩
        rw [hna, hnb, hnc] at HR0
        rw [hna, hnb, hnc]
        have hla : na ≤ 100000 := by have := HWL.out; omega
        have hlb : nb ≤ 100000 := by have := HA.out.fl; have := HNN.out; have := HA.out.nk; omega
        have hlc : nc ≤ 100000 := by have := HGL.out; omega
        clear hna hnb hnc
        generalize wr = W0 at HX HR0
        go_wp2
        go_loopw [11] (fun i wx => ∃ j : Nat, j ≤ na ∧ i = .int .i64 j ∧ Hid (Rows3 W0 (.slice Aa na ca) (.slice Ab nb cb) (.slice Ac nc cc) na nb nc wx)) (fun i _ => na - (intOf i).toNat)
        case atStart => exact ⟨0, Nat.zero_le _, rfl, HR0.out⟩
        case round =>
          obtain ⟨j, hj, rfl, HR⟩ := hrel
          by_cases hlta : j < na
          · obtain ⟨⟨xs, hOa⟩, ⟨ys, hOb⟩, ⟨zs, hOc⟩, hB⟩ := HR.out
            obtain ⟨g, cap, hv⟩ := own_form hOa (by omega)
            injection hv with h1 h2 h3
            subst h1
            subst h3
            have hg := (hOa.lt g rfl).1
            have hxl : xs.length = na * 2 := hOa.1
            have c0 : wr.cell? ⟨g, j * 2, none⟩ = some (xs[j * 2]'(by omega)) := (hOa.cellAt (j * 2) (by omega)).trans (List.getElem?_eq_getElem _)
            have z0 := hOa.frozenAt (j * 2)
            have c1 : wr.cell? ⟨g, j * 2 + 1, none⟩ = some (xs[j * 2 + 1]'(by omega)) := (hOa.cellAt (j * 2 + 1) (by omega)).trans (List.getElem?_eq_getElem _)
            have z1 := hOa.frozenAt (j * 2 + 1)
            obtain ⟨o0, g0⟩ := hOa.stored (j * 2) (.int .i64 0)
            obtain ⟨o1, g1⟩ := o0.stored (j * 2 + 1) (.int .i64 0)
            have HOb := hid_ (kept_ne (kept_ne hOb hOa (by decide) g0) o0 (by decide) g1)
            have HOc := hid_ (kept_ne (kept_ne hOc hOa (by decide) g0) o0 (by decide) g1)
            have HBn := hid_ (bgrown (bgrown hB g0 (by rintro _ ⟨⟩; exact hg)) g1 (by rintro _ ⟨⟩; exact hg))
            have HOn := hid_ o1
            clear hOa hOb hOc hB hg o0 g0 o1 g1
            go_wp2
            go_roundw
            case rel => exact ⟨j + 1, by omega, by go_num, ⟨⟨_, HOn.out⟩, ⟨_, HOb.out⟩, ⟨_, HOc.out⟩, HBn.out⟩⟩
            case measure => simp [intOf]; omega
          · 
            go_wp2
            go_loopw [12] (fun i wx => ∃ j : Nat, j ≤ nb ∧ i = .int .i64 j ∧ Hid (Rows3 W0 (.slice Aa na ca) (.slice Ab nb cb) (.slice Ac nc cc) na nb nc wx)) (fun i _ => nb - (intOf i).toNat)
            case atStart => exact ⟨0, Nat.zero_le _, rfl, HR.out⟩
            case round =>
              obtain ⟨j, hj, rfl, HR⟩ := hrel
              by_cases hltb : j < nb
              · obtain ⟨⟨xs, hOa⟩, ⟨ys, hOb⟩, ⟨zs, hOc⟩, hB⟩ := HR.out
                obtain ⟨g, cap, hv⟩ := own_form hOb (by omega)
                injection hv with h1 h2 h3
                subst h1
                subst h3
                have hg := (hOb.lt g rfl).1
                have hxl : ys.length = nb * 9 := hOb.1
                have c0 : wr.cell? ⟨g, j * 9, none⟩ = some (ys[j * 9]'(by omega)) := (hOb.cellAt (j * 9) (by omega)).trans (List.getElem?_eq_getElem _)
                have z0 := hOb.frozenAt (j * 9)
                have c1 : wr.cell? ⟨g, j * 9 + 1, none⟩ = some (ys[j * 9 + 1]'(by omega)) := (hOb.cellAt (j * 9 + 1) (by omega)).trans (List.getElem?_eq_getElem _)
                have z1 := hOb.frozenAt (j * 9 + 1)
                have c2 : wr.cell? ⟨g, j * 9 + 2, none⟩ = some (ys[j * 9 + 2]'(by omega)) := (hOb.cellAt (j * 9 + 2) (by omega)).trans (List.getElem?_eq_getElem _)
                have z2 := hOb.frozenAt (j * 9 + 2)
                have c3 : wr.cell? ⟨g, j * 9 + 3, none⟩ = some (ys[j * 9 + 3]'(by omega)) := (hOb.cellAt (j * 9 + 3) (by omega)).trans (List.getElem?_eq_getElem _)
                have z3 := hOb.frozenAt (j * 9 + 3)
                have c4 : wr.cell? ⟨g, j * 9 + 4, none⟩ = some (ys[j * 9 + 4]'(by omega)) := (hOb.cellAt (j * 9 + 4) (by omega)).trans (List.getElem?_eq_getElem _)
                have z4 := hOb.frozenAt (j * 9 + 4)
                have c5 : wr.cell? ⟨g, j * 9 + 5, none⟩ = some (ys[j * 9 + 5]'(by omega)) := (hOb.cellAt (j * 9 + 5) (by omega)).trans (List.getElem?_eq_getElem _)
                have z5 := hOb.frozenAt (j * 9 + 5)
                have c6 : wr.cell? ⟨g, j * 9 + 6, none⟩ = some (ys[j * 9 + 6]'(by omega)) := (hOb.cellAt (j * 9 + 6) (by omega)).trans (List.getElem?_eq_getElem _)
                have z6 := hOb.frozenAt (j * 9 + 6)
                have c7 : wr.cell? ⟨g, j * 9 + 7, none⟩ = some (ys[j * 9 + 7]'(by omega)) := (hOb.cellAt (j * 9 + 7) (by omega)).trans (List.getElem?_eq_getElem _)
                have z7 := hOb.frozenAt (j * 9 + 7)
                have c8 : wr.cell? ⟨g, j * 9 + 8, none⟩ = some (ys[j * 9 + 8]'(by omega)) := (hOb.cellAt (j * 9 + 8) (by omega)).trans (List.getElem?_eq_getElem _)
                have z8 := hOb.frozenAt (j * 9 + 8)
                obtain ⟨o0, g0⟩ := hOb.stored (j * 9) (.int .i64 0)
                obtain ⟨o1, g1⟩ := o0.stored (j * 9 + 1) (.int .i64 0)
                obtain ⟨o2, g2⟩ := o1.stored (j * 9 + 2) (.int .i64 0)
                obtain ⟨o3, g3⟩ := o2.stored (j * 9 + 3) (.int .i64 0)
                obtain ⟨o4, g4⟩ := o3.stored (j * 9 + 4) (.bool false)
                obtain ⟨o5, g5⟩ := o4.stored (j * 9 + 5) (.int .i64 0)
                obtain ⟨o6, g6⟩ := o5.stored (j * 9 + 6) (.int .i64 0)
                obtain ⟨o7, g7⟩ := o6.stored (j * 9 + 7) (.int .i64 0)
                obtain ⟨o8, g8⟩ := o7.stored (j * 9 + 8) (.int .u64 0)
                have HOa := hid_ (kept_ne (kept_ne (kept_ne (kept_ne (kept_ne (kept_ne (kept_ne (kept_ne (kept_ne hOa hOb (by decide) g0) o0 (by decide) g1) o1 (by decide) g2) o2 (by decide) g3) o3 (by decide) g4) o4 (by decide) g5) o5 (by decide) g6) o6 (by decide) g7) o7 (by decide) g8)
                have HOc := hid_ (kept_ne (kept_ne (kept_ne (kept_ne (kept_ne (kept_ne (kept_ne (kept_ne (kept_ne hOc hOb (by decide) g0) o0 (by decide) g1) o1 (by decide) g2) o2 (by decide) g3) o3 (by decide) g4) o4 (by decide) g5) o5 (by decide) g6) o6 (by decide) g7) o7 (by decide) g8)
                have HBn := hid_ (bgrown (bgrown (bgrown (bgrown (bgrown (bgrown (bgrown (bgrown (bgrown hB g0 (by rintro _ ⟨⟩; exact hg)) g1 (by rintro _ ⟨⟩; exact hg)) g2 (by rintro _ ⟨⟩; exact hg)) g3 (by rintro _ ⟨⟩; exact hg)) g4 (by rintro _ ⟨⟩; exact hg)) g5 (by rintro _ ⟨⟩; exact hg)) g6 (by rintro _ ⟨⟩; exact hg)) g7 (by rintro _ ⟨⟩; exact hg)) g8 (by rintro _ ⟨⟩; exact hg))
                have HOn := hid_ o8
                clear hOa hOb hOc hB hg o0 g0 o1 g1 o2 g2 o3 g3 o4 g4 o5 g5 o6 g6 o7 g7 o8 g8
                go_wp2
                go_roundw
                case rel => exact ⟨j + 1, by omega, by go_num, ⟨⟨_, HOa.out⟩, ⟨_, HOn.out⟩, ⟨_, HOc.out⟩, HBn.out⟩⟩
                case measure => simp [intOf]; omega
              · 
                go_wp2
                go_loopw [13] (fun i wx => ∃ j : Nat, j ≤ nc ∧ i = .int .i64 j ∧ Hid (Rows3 W0 (.slice Aa na ca) (.slice Ab nb cb) (.slice Ac nc cc) na nb nc wx)) (fun i _ => nc - (intOf i).toNat)
                case atStart => exact ⟨0, Nat.zero_le _, rfl, HR.out⟩
                case round =>
                  obtain ⟨j, hj, rfl, HR⟩ := hrel
                  by_cases hltc : j < nc
                  · obtain ⟨⟨xs, hOa⟩, ⟨ys, hOb⟩, ⟨zs, hOc⟩, hB⟩ := HR.out
                    obtain ⟨g, cap, hv⟩ := own_form hOc (by omega)
                    injection hv with h1 h2 h3
                    subst h1
                    subst h3
                    have hg := (hOc.lt g rfl).1
                    have hxl : zs.length = nc * 1 := hOc.1
                    have c0 : wr.cell? ⟨g, j, none⟩ = some (zs[j]'(by omega)) := (hOc.cellAt (j) (by omega)).trans (List.getElem?_eq_getElem _)
                    have z0 := hOc.frozenAt (j)
                    obtain ⟨o0, g0⟩ := hOc.stored (j) (.int .i64 (-1))
                    have HOa := hid_ (kept_ne hOa hOc (by decide) g0)
                    have HOb := hid_ (kept_ne hOb hOc (by decide) g0)
                    have HBn := hid_ (bgrown hB g0 (by rintro _ ⟨⟩; exact hg))
                    have HOn := hid_ o0
                    clear hOa hOb hOc hB hg o0 g0
                    go_wp2
                    go_roundw
                    case rel => exact ⟨j + 1, by omega, by go_num, ⟨⟨_, HOa.out⟩, ⟨_, HOb.out⟩, ⟨_, HOn.out⟩, HBn.out⟩⟩
                    case measure => simp [intOf]; omega
                  · 
                    have HXf := hid_ (HX.out.mono HR.out.h)
                    have HZ : Hid (InZ 0) := ⟨by decide, by decide⟩
                    go_wp2_with (go_at_call 39; go_loud (refine (same20_c 0 _ HXf.out HA.out HLL.out HZ.out).mono ?_; rintro e w9 ⟨rfl, hb⟩; have HB9 := hid_ (btr HXf.out.b hb); clear hb))
                    go_ret
                    exact ⟨rfl, HB9.out⟩
end Go.Proofs.Ytncdkbhkjamdpaa
