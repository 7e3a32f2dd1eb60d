/- The device of chapter 03: Fence. -/
import Derived.Test.YtncdkbhkjamdpaaD5
namespace Go.Proofs.Ytncdkbhkjamdpaa
open Go.RowKit Go.Maps

def fenceK (S : DS) (i : Int) : DS :=
  if ((S.cache i).getD noD).fl then
    { S with last := S.last.set i.toNat ((S.cache i).getD noD).s, cache := updD S.cache i (if ((S.cache i).getD noD).c = ((S.cache i).getD noD).s then none else some ⟨((S.cache i).getD noD).c, 0, false⟩) }
  else S
theorem fenceK_len (S : DS) (i : Int) : (fenceK S i).last.length = S.last.length := by
  unfold fenceK; split <;> simp
theorem fold_last {f : DS → Int → DS} (hf : ∀ S i, (f S i).last.length = S.last.length) (ks : List Int) : ∀ S : DS, (ks.foldl f S).last.length = S.last.length := by
  induction ks with
  | nil => intro S; rfl
  | cons k ks ih => intro S; rw [List.foldl_cons, ih, hf]
theorem fold_take {α β : Type} (f : β → α → β) (b : β) {l : List α} {k : Nat} (hk : k < l.length) : (l.take (k + 1)).foldl f b = f ((l.take k).foldl f b) l[k] := by
  rw [List.take_add_one, List.getElem?_eq_getElem hk]
  simp only [Option.toList_some, List.foldl_append, List.foldl_cons, List.foldl_nil]
theorem updD_updD (f : Int → Option Dt) (k : Int) (u v : Option Dt) : updD (updD f k u) k v = updD f k v := by
  funext x; unfold updD; split <;> rfl
theorem DevT.bnd {w : World} {db mb lb cp n : Nat} {S : DS} (h : DevT w db mb lb cp n S) : lb < w.heap.size := (h.own.lt lb rfl).2

structure FenceRes (w w' : World) (db mb lb cp n : Nat) (S : DS) : Prop where
  ex : ∃ ks, KeysOf (fun k => ((stepS S).2.cache k).map Dt.enc) ks ∧ DevT w' db mb lb cp (n + ks.length) (ks.foldl fenceK (stepS S).2)
  fr : Fr [db, mb, lb] w w'
structure FenceRel (w : World) (db mb lb cp n : Nat) (S : DS) (vk : Value) (ks : List Int) (wr : World) : Prop where
  t : DevT wr db mb lb cp n S
  fr : Fr [db, mb, lb] w wr
  rk : RdI wr vk ks

set_option maxHeartbeats 4000000 in
set_option maxRecDepth 100000 in
theorem fence_c {db mb lb cp n : Nat} {S : DS} (w : World) (h : DevT w db mb lb cp n S) (hS : S.Ok) (hn : n ≤ 1000000) :
    Calls Try.prog 105 #[.pointer (some ⟨db, 0, none⟩)] w fun e w' => e = .returned (.tuple #[]) ∧
      (if (stepS S).1 then FenceRes w w' db mb lb cp n S else DevRes w w' db mb lb cp n (stepS S).2) := by
  have H := hid_ h
  have HC := hid_ (stepS_last S)
  cases hst : (stepS S).1 with
  | false =>
    have HST := hid_ hst
    clear h hst
    go_enter Try.func105, Try.ntmps105
    go_wp2_with (go_at_call 128; refine (step_c _ H.out hS).mono ?_; rintro e w2 ⟨rfl, ht, hg⟩; rw [HST.out]; have HT := hid_ ht; have HG := hid_ hg; clear ht hg)
    refine bodyPost_ret (results_none rfl _ _ _) rfl ?_
    exact ⟨rfl, HT.out, Fr.of_gb HG.out (by simp)⟩
  | true =>
    have HST := hid_ hst
    have HOKK := hid_ hS.keys
    have hlen1 := hS.len.1
    clear h hst
    go_enter Try.func105, Try.ntmps105
    go_wp2_with (first
      | (go_at_call 128; refine (step_c _ H.out hS).mono ?_; rintro e w2 ⟨rfl, ht, hg⟩; rw [HST.out]; have HT := hid_ ht; have HG := hid_ hg; clear ht hg)
      | (go_at_call 63; refine (dirty_c _ HT.out (by omega)).mono ?_; rintro e w3 ⟨vk, ks, rfl, hk, hkl, hO, hb⟩; have HK := hid_ hk; have HR := hid_ (RdI.own hO rfl); have HT3 := hid_ (HT.out.mono hb); have HB := hid_ hb; have HNE : Hid (∀ g, vk.ownBlock = some g → g ≠ lb) := (fun g hg => by have h1 := (hO.lt g hg).1; have h2 := HT.out.bnd; omega); obtain ⟨A, c, rfl, hc1, hc2, _⟩ := id HR.out; clear hk hO hb))
    go_loopw [11] (fun i wr => ∃ k : Nat, k ≤ ks.length ∧ i = .int .i64 k ∧ Hid (FenceRel w3 db mb lb cp (n + k) ((ks.take k).foldl fenceK (stepS S).2) (.slice A ks.length c) ks wr)) (fun i _ => ks.length - (intOf i).toNat)
    case atStart => exact ⟨0, Nat.zero_le _, rfl, HT3.out, Fr.refl _ _, HR.out⟩
    case round =>
      obtain ⟨k, hk, rfl, HA⟩ := hrel
      by_cases hlt : k < ks.length
      · obtain ⟨b, o, rfl, h1⟩ := RdI.at HA.out.rk (Below.refl _ _) hlt
        have hmem := (HK.out.mem ks[k]).1 (List.getElem_mem hlt)
        have hin : 0 ≤ ks[k] ∧ ks[k] < S.last.length := by
          refine HOKK.out _ ?_
          rw [← HC.out.2]
          simpa using hmem
        have HFT := hid_ (fold_take fenceK (stepS S).2 hlt)
        have hSl : ((ks.take k).foldl fenceK (stepS S).2).last.length = S.last.length := by rw [fold_last fenceK_len, HC.out.1]
        generalize (ks.take k).foldl fenceK (stepS S).2 = S' at HA HFT hSl
        obtain ⟨x, hx⟩ : ∃ x : Nat, ks[k] = x := ⟨ks[k].toNat, by omega⟩
        rw [hx] at h1 hin HFT
        clear hmem
        have hxl : x < S'.last.length := by omega
        have HT' := hid_ HA.out.t
        have hc1' := HT'.out.c1
        have hzx : InZ x := ⟨by omega, by have := HT'.out.cap; omega⟩
        have hl := HT'.out.om.look Try.underlying154 (zero159 wr) hzx
        rw [map_getD] at hl
        obtain ⟨d, hd⟩ : ∃ d, (S'.cache x).getD noD = d := ⟨_, rfl⟩
        rw [hd] at hl
        have HDD := hid_ hd
        clear hd
        cases hfl : d.fl with
        | false =>
          have HF : Hid (fenceK S' x = S') := by show _ = _; rw [fenceK, HDD.out, hfl]; rfl
          rw [hfl] at hl
          clear hfl
          go_wp2
          go_roundw
          case rel =>
            refine ⟨k + 1, by omega, by go_num, ?_, HA.out.fr.trans (Fr.of_below (balloc' _ _)), HA.out.rk.mono (balloc' _ _)⟩
            rw [HFT.out, HF.out]
            exact (HT'.out.mono (balloc' _ _)).size (by omega)
          case measure => simp [intOf]; omega
        | true =>
          rw [hfl] at hl
          have HF : Hid (fenceK S' x = { S' with last := S'.last.set x d.s, cache := updD S'.cache x (if d.c = d.s then none else some ⟨d.c, 0, false⟩) }) := by show _ = _; rw [fenceK, HDD.out, hfl]; rfl
          have hcap := HT'.out.cap
          go_upto_region 6 with (fail)
          obtain ⟨W, hW⟩ : ∃ W, wr.alloc (.cells #[.int .u64 d.c, .int .u64 d.s, .bool true] 159) = W := ⟨_, rfl⟩
          have g0 : W.drew.cell? ⟨wr.heap.size, 0, none⟩ = some (.int .u64 d.c) := by rw [← hW]; exact cell_new 0 rfl
          have g1 : W.drew.cell? ⟨wr.heap.size, 1, none⟩ = some (.int .u64 d.s) := by rw [← hW]; exact cell_new 1 rfl
          have hBW : Below wr.heap.size wr W.drew := by rw [← hW]; exact (balloc' _ _).drew
          have HTW := hid_ (HT'.out.mono hBW)
          have hd0 := HTW.out.c0
          obtain ⟨hl1, hl2⟩ := HTW.out.lcell hxl
          have hbx : wr.heap.size ≠ lb := by have := HT'.out.bnd; omega
          have HSL := hid_ (HTW.out.setLast x d.s)
          have HBW := hid_ hBW
          rw [hW]
          clear hl hc1' hBW h1
          go_region_held3 (fun W' => W'.cell? ⟨db, 0, none⟩ = some (.slice (some ⟨lb, 0, none⟩) S'.last.length cp) ∧ W'.cell? ⟨wr.heap.size, 1, none⟩ = some (.int .u64 d.s))
            (first | exact ⟨hd0, g1⟩ | exact ⟨gcell (gb_setCell _ ⟨lb, x, none⟩ _) hd0 HTW.out.ne, gcell (gb_setCell _ ⟨lb, x, none⟩ _) g1 hbx⟩)
            (fail)
          replace g0 := gcell (gb_setCell _ ⟨lb, x, none⟩ (.int .u64 d.s)) g0 hbx
          replace g1 := gcell (gb_setCell _ ⟨lb, x, none⟩ (.int .u64 d.s)) g1 hbx
          obtain ⟨W2, hW2⟩ : ∃ W2, (W.setCell ⟨lb, x, none⟩ (.int .u64 d.s)).drew = W2 := ⟨_, rfl⟩
          replace HSL := hid_ (show DevT W2 db mb lb cp (n + k) _ ∧ W.drew.grownBy W2 (some lb) by rw [← hW2]; exact HSL.out)
          replace g0 : W2.cell? ⟨wr.heap.size, 0, none⟩ = some (.int .u64 d.c) := by rw [← hW2]; exact g0
          replace g1 : W2.cell? ⟨wr.heap.size, 1, none⟩ = some (.int .u64 d.s) := by rw [← hW2]; exact g1
          go_upto_region 7 with (fail)
          rw [hW2]
          have HT2 := hid_ (HSL.out.1.mono (w' := W2.drew) (Below.refl _ _).drew)
          have q0 : W2.drew.cell? ⟨wr.heap.size, 0, none⟩ = some (.int .u64 d.c) := g0
          have q1 : W2.drew.cell? ⟨wr.heap.size, 1, none⟩ = some (.int .u64 d.s) := g1
          have qm := HT2.out.c1
          obtain ⟨w4, hrun, ho, hg⟩ := HT2.out.om.store Try.underlying154 (show n + k < maxLen by unfold maxLen; omega) hzx (.agg #[vu d.c, vu 0, .bool false])
          have hu := upd_mapD S'.cache x (some ⟨d.c, 0, false⟩)
          rw [show (some (⟨d.c, 0, false⟩ : Dt)).map Dt.enc = some (.agg #[vu d.c, vu 0, .bool false]) from rfl] at hu
          rw [hu] at ho
          have HG4 := hid_ hg.grown
          have HT4 := hid_ (HT2.out.turn hg.grown ho)
          clear ho hg hu hd0 hl1 hl2
          go_region_held3 (fun W' => W'.cell? ⟨db, 1, none⟩ = some (.map (some mb)) ∧ W'.cell? ⟨wr.heap.size, 0, none⟩ = some (.int .u64 d.c))
            (first | exact ⟨qm, q0⟩ | exact ⟨gcell HG4.out qm (map_ne HT2.out.om qm), gcell HG4.out q0 (map_ne HT2.out.om q0)⟩)
            (fail)
          have r0 := gcell HG4.out q0 (map_ne HT2.out.om q0)
          have r1 := gcell HG4.out q1 (map_ne HT2.out.om q1)
          have rm := HT4.out.c1
          have HFR := hid_ (((((HA.out.fr.trans (Fr.of_below HBW.out)).trans (Fr.of_gb HSL.out.2 (by simp))).trans (Fr.of_below (Below.refl _ _).drew)).trans (Fr.of_gb HG4.out (by simp))))
          have HRK := hid_ ((((HA.out.rk.mono HBW.out).kept HSL.out.2 (fun _ _ _ he => HNE.out _ he)).mono (Below.refl _ _).drew).keptM HT2.out.om HG4.out)
          by_cases he : d.c = d.s
          · have he1 : (d.c == d.s) = true := by simp [he]
            rw [if_pos he] at HF
            go_wp2_with (at_delete; refine wpList_del rfl _ _ 154 rfl 159 Try.underlying154 mb (n + k + 1) _ rfl HT4.out.om x rfl hzx ?_; intro w5 ho hg; have HO5 := hid_ ho; have HG5 := hid_ hg.grown; clear ho hg)
            go_roundw
            case rel =>
              have ho := HO5.out
              have hu := upd_mapD (fun y => if y = (x : Int) then some ⟨d.c, 0, false⟩ else S'.cache y) x none
              rw [show (none : Option Value) = (none : Option Dt).map Dt.enc from rfl] at ho
              rw [hu] at ho
              refine ⟨k + 1, by omega, by go_num, ?_, HFR.out.trans (Fr.of_gb HG5.out (by simp)), HRK.out.keptM HT4.out.om HG5.out⟩
              rw [HFT.out, HF.out]
              have := HT4.out.turn HG5.out ho
              have e : (fun y => if y = (x : Int) then none else (fun y => if y = (x : Int) then some (⟨d.c, 0, false⟩ : Dt) else S'.cache y) y) = updD S'.cache x none := updD_updD S'.cache x (some ⟨d.c, 0, false⟩) none
              rw [e] at this
              exact this
            case measure => simp [intOf]; omega
          · have he1 : (d.c == d.s) = false := by simp [he]
            rw [if_neg he] at HF
            go_wp2
            go_roundw
            case rel =>
              refine ⟨k + 1, by omega, by go_num, ?_, HFR.out, HRK.out⟩
              rw [HFT.out, HF.out]
              exact HT4.out
            case measure => simp [intOf]; omega
      · obtain rfl : k = ks.length := by omega
        rw [List.take_length] at HA
        go_wp2
        go_end0
        exact ⟨rfl, ⟨ks, HK.out, HA.out.t⟩, ((Fr.of_gb HG.out (by simp)).trans (Fr.of_below HB.out)).trans HA.out.fr⟩
end Go.Proofs.Ytncdkbhkjamdpaa
