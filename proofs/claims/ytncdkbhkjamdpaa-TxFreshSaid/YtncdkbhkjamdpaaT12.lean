/- The statement's helper same of chapter 20: is a transaction the document's? (Printed by wip/T12.py.) -/
import Derived.Test.YtncdkbhkjamdpaaTQ
import Derived.Test.YtncdkbhkjamdpaaTE
import Derived.Deep.RegionHeld3
namespace Go.Proofs.Ytncdkbhkjamdpaa
open Go.RowKit Go.Maps

theorem PB.rfT {w0 w : World} {tb mb rb n : Nat} {wv gv rwv rfv rgv : Value} {T R : TS} (h : PB w0 w tb mb rb n wv gv rwv rfv rgv T R) (he : R.fresh = T.fresh) : RdF w rfv T.fresh := he ▸ h.both.r.rf
set_option maxHeartbeats 16000000 in
set_option maxRecDepth 100000 in
theorem same20_c {w0 : World} {tb mb rb n k : Nat} {wv gv rwv rfv rgv : Value} {T R : TS} (x : Int) (w : World) (h : PB w0 w tb mb rb n wv gv rwv rfv rgv T R) (ha : Alike k n T R) (hk : k ≤ 100) (hx : InZ x) :
    Calls Try.prog 39 #[.pointer (some ⟨tb, 0, none⟩), .pointer (some ⟨rb, 0, none⟩), vz x] w fun e w' => e = .returned (.bool true) ∧ Below w.heap.size w w' := by
  have HX := hid_ h
  have HA := hid_ ha
  have HK := hid_ hx
  have HB := hid_ (Below.refl w.heap.size w)
  obtain ⟨f, hf⟩ : ∃ f, obOf (findF T.fresh x) = f := ⟨_, rfl⟩
  obtain ⟨q, hq⟩ : ∃ q, (findF T.fresh x).isSome = q := ⟨_, rfl⟩
  obtain ⟨rt, hrt⟩ : ∃ rt, T.root = rt := ⟨_, rfl⟩
  obtain ⟨isn, hisn⟩ : ∃ isn, T.is = isn := ⟨_, rfl⟩
  obtain ⟨bd, hbd⟩ : ∃ bd, T.bad = bd := ⟨_, rfl⟩
  obtain ⟨fd, hfd⟩ : ∃ fd, freedB T x = fd := ⟨_, rfl⟩
  have HF := hid_ hf; have HQ := hid_ hq; have HRT := hid_ hrt; have HIS := hid_ hisn; have HBD := hid_ hbd; have HFD := hid_ hfd
  have HF2 : Hid (obOf (findF R.fresh x) = f) := by show _ = _; rw [ha.sim.fresh]; exact hf
  have HQ2 : Hid ((findF R.fresh x).isSome = q) := by show _ = _; rw [ha.sim.fresh]; exact hq
  have HFD2 : Hid (freedB R x = fd) := by show _ = _; rw [(free_sim ha.sim x).2]; exact hfd
  have HV : Hid (f.val = .agg #[.int .i64 f.ch, .int .i64 f.ix, .int .i64 f.cl, .int .i64 f.mn, .bool f.fr, .int .i64 f.at_, .int .i64 f.ty, .int .i64 f.sz, .int .u64 f.sr]) := rfl
  have HGN : Hid (T.gone = R.gone) := ha.sim.gone.symm
  have HFR : Hid (R.fresh = T.fresh) := ha.sim.fresh
  have HNW : Hid (T.words = rnotedL R 300) := noted_sim ha.ok ha.sim
  have HR5 : Hid (R.root = rt) := ha.sim.root.trans hrt
  have HR6 : Hid (R.is = isn) := ha.sim.is.trans hisn
  have HR1 : Hid (R.bad = bd) := ha.sim.bad.trans hbd
  have HGL : Hid (T.gone.length ≤ 100000) := by show _ ≤ _; have := ha.gl; omega
  have HNN : Hid (n ≤ 1000000) := by show _ ≤ _; have := ha.nk; omega
  have HWL : Hid (T.words.length ≤ 100000) := by show _ ≤ _; have := (ha.len (by omega)).w; omega
  have hrr : (rt == rt) = true := by simp
  have hii : (isn == isn) = true := by simp
  have hqq : (q == q) = true := by simp
  have hbb : (bd == bd) = true := by simp
  have hdd : (fd == fd) = true := by simp
  have heq : ∀ w, (binOp .eql 55 (.agg #[.int .i64 f.ch, .int .i64 f.ix, .int .i64 f.cl, .int .i64 f.mn, .bool f.fr, .int .i64 f.at_, .int .i64 f.ty, .int .i64 f.sz, .int .u64 f.sr]) (.agg #[.int .i64 f.ch, .int .i64 f.ix, .int .i64 f.cl, .int .i64 f.mn, .bool f.fr, .int .i64 f.at_, .int .i64 f.ty, .int .i64 f.sz, .int .u64 f.sr])).run Try.prog w = .ok (.bool true) w := eql55 f
  clear h ha hk hx hf hq hrt hisn hbd hfd
  go_enter Try.func39, Try.ntmps39
  go_upto_region 4 with (first
    | (go_at_call 73; go_loud (refine (named_c _ HX.out.both.t).mono ?_; rintro e w1 ⟨rfl, hb⟩; rw [HRT.out, HIS.out]; replace HX := hid_ (HX.out.mono hb); replace HB := hid_ (btr HB.out hb); clear hb))
    | (go_at_call 96; go_loud (refine (tmade_c x _ HX.out.both.t HK.out).mono ?_; rintro e w2 ⟨rfl, hb⟩; rw [HF.out, HQ.out, HV.out]; replace HX := hid_ ((HX.out.mono hb).mono (balloc' w2 (.cells #[.int .i64 f.ch, .int .i64 f.ix, .int .i64 f.cl, .int .i64 f.mn, .bool f.fr, .int .i64 f.at_, .int .i64 f.ty, .int .i64 f.sz, .int .u64 f.sr] 55))); replace HB := hid_ (balloc (btr HB.out hb) (.cells #[.int .i64 f.ch, .int .i64 f.ix, .int .i64 f.cl, .int .i64 f.mn, .bool f.fr, .int .i64 f.at_, .int .i64 f.ty, .int .i64 f.sz, .int .u64 f.sr] 55)); have HC1 : Hid ((w2.alloc (.cells #[.int .i64 f.ch, .int .i64 f.ix, .int .i64 f.cl, .int .i64 f.mn, .bool f.fr, .int .i64 f.at_, .int .i64 f.ty, .int .i64 f.sz, .int .u64 f.sr] 55)).heap[w2.heap.size]? = some (.cells #[.int .i64 f.ch, .int .i64 f.ix, .int .i64 f.cl, .int .i64 f.mn, .bool f.fr, .int .i64 f.at_, .int .i64 f.ty, .int .i64 f.sz, .int .u64 f.sr] 55 (0, 0))) := heap_alloc_new w2 _; clear hb))
    | (go_at_call 97; go_loud (refine (rmade_c x _ HX.out.both.r).mono ?_; rintro e w3 ⟨rfl, hb⟩; rw [HF2.out, HQ2.out, HV.out]; replace HX := hid_ ((HX.out.mono hb).mono (balloc' w3 (.cells #[.int .i64 f.ch, .int .i64 f.ix, .int .i64 f.cl, .int .i64 f.mn, .bool f.fr, .int .i64 f.at_, .int .i64 f.ty, .int .i64 f.sz, .int .u64 f.sr] 55))); have HC2 := hid_ (hmono (balloc' w3 (.cells #[.int .i64 f.ch, .int .i64 f.ix, .int .i64 f.cl, .int .i64 f.mn, .bool f.fr, .int .i64 f.at_, .int .i64 f.ty, .int .i64 f.sz, .int .u64 f.sr] 55)) (hmono hb HC1.out)); replace HB := hid_ (balloc (btr HB.out hb) (.cells #[.int .i64 f.ch, .int .i64 f.ix, .int .i64 f.cl, .int .i64 f.mn, .bool f.fr, .int .i64 f.at_, .int .i64 f.ty, .int .i64 f.sz, .int .u64 f.sr] 55)); have HC3 : Hid ((w3.alloc (.cells #[.int .i64 f.ch, .int .i64 f.ix, .int .i64 f.cl, .int .i64 f.mn, .bool f.fr, .int .i64 f.at_, .int .i64 f.ty, .int .i64 f.sz, .int .u64 f.sr] 55)).heap[w3.heap.size]? = some (.cells #[.int .i64 f.ch, .int .i64 f.ix, .int .i64 f.cl, .int .i64 f.mn, .bool f.fr, .int .i64 f.at_, .int .i64 f.ty, .int .i64 f.sz, .int .u64 f.sr] 55 (0, 0))) := heap_alloc_new w3 _; clear hb)))
  clear HC1
  obtain ⟨b1, hb1⟩ : ∃ b, w2.heap.size = b := ⟨_, rfl⟩
  obtain ⟨b2, hb2⟩ : ∃ b, w3.heap.size = b := ⟨_, rfl⟩
  obtain ⟨W, hW⟩ : ∃ W, w3.alloc (.cells #[.int .i64 f.ch, .int .i64 f.ix, .int .i64 f.cl, .int .i64 f.mn, .bool f.fr, .int .i64 f.at_, .int .i64 f.ty, .int .i64 f.sz, .int .u64 f.sr] 55) = W := ⟨_, rfl⟩
  rw [hb1, hb2, hW]
  rw [hb1, hW] at HC2
  rw [hb2, hW] at HC3
  rw [hW] at HX HB
  clear hb1 hb2 hW
  replace HX := hid_ (HX.out.mono (w' := W.drew) (Below.refl _ _).drew)
  replace HB := hid_ (btr HB.out (Below.refl W.heap.size W).drew)
  have r1 : W.drew.cell? ⟨rb, 1, none⟩ = some (.bool bd) := by have := HX.out.both.r.c1; rw [HR1.out] at this; exact this
  have r3 : W.drew.cell? ⟨rb, 3, none⟩ = some rfv := HX.out.both.r.c3
  have r4 : W.drew.cell? ⟨rb, 4, none⟩ = some rgv := HX.out.both.r.c4
  have r5 : W.drew.cell? ⟨rb, 5, none⟩ = some (.int .i64 rt) := by have := HX.out.both.r.c5; rw [HR5.out] at this; exact this
  have r6 : W.drew.cell? ⟨rb, 6, none⟩ = some (.bool isn) := by have := HX.out.both.r.c6; rw [HR6.out] at this; exact this
  have p0 : W.drew.cell? ⟨b1, 0, none⟩ = some (.int .i64 f.ch) := cell_blk (j := 0) HC2.out rfl
  have p1 : W.drew.cell? ⟨b1, 1, none⟩ = some (.int .i64 f.ix) := cell_blk (j := 1) HC2.out rfl
  have p2 : W.drew.cell? ⟨b1, 2, none⟩ = some (.int .i64 f.cl) := cell_blk (j := 2) HC2.out rfl
  have p3 : W.drew.cell? ⟨b1, 3, none⟩ = some (.int .i64 f.mn) := cell_blk (j := 3) HC2.out rfl
  have p4 : W.drew.cell? ⟨b1, 4, none⟩ = some (.bool f.fr) := cell_blk (j := 4) HC2.out rfl
  have p5 : W.drew.cell? ⟨b1, 5, none⟩ = some (.int .i64 f.at_) := cell_blk (j := 5) HC2.out rfl
  have p6 : W.drew.cell? ⟨b1, 6, none⟩ = some (.int .i64 f.ty) := cell_blk (j := 6) HC2.out rfl
  have p7 : W.drew.cell? ⟨b1, 7, none⟩ = some (.int .i64 f.sz) := cell_blk (j := 7) HC2.out rfl
  have p8 : W.drew.cell? ⟨b1, 8, none⟩ = some (.int .u64 f.sr) := cell_blk (j := 8) HC2.out rfl
  have q0 : W.drew.cell? ⟨b2, 0, none⟩ = some (.int .i64 f.ch) := cell_blk (j := 0) HC3.out rfl
  have q1 : W.drew.cell? ⟨b2, 1, none⟩ = some (.int .i64 f.ix) := cell_blk (j := 1) HC3.out rfl
  have q2 : W.drew.cell? ⟨b2, 2, none⟩ = some (.int .i64 f.cl) := cell_blk (j := 2) HC3.out rfl
  have q3 : W.drew.cell? ⟨b2, 3, none⟩ = some (.int .i64 f.mn) := cell_blk (j := 3) HC3.out rfl
  have q4 : W.drew.cell? ⟨b2, 4, none⟩ = some (.bool f.fr) := cell_blk (j := 4) HC3.out rfl
  have q5 : W.drew.cell? ⟨b2, 5, none⟩ = some (.int .i64 f.at_) := cell_blk (j := 5) HC3.out rfl
  have q6 : W.drew.cell? ⟨b2, 6, none⟩ = some (.int .i64 f.ty) := cell_blk (j := 6) HC3.out rfl
  have q7 : W.drew.cell? ⟨b2, 7, none⟩ = some (.int .i64 f.sz) := cell_blk (j := 7) HC3.out rfl
  have q8 : W.drew.cell? ⟨b2, 8, none⟩ = some (.int .u64 f.sr) := cell_blk (j := 8) HC3.out rfl
  dsimp only [List.append_eq, List.cons_append, List.nil_append]
  go_region_held3 (fun W' => W'.cell? ⟨rb, 1, none⟩ = some (.bool bd) ∧ W'.cell? ⟨rb, 3, none⟩ = some rfv ∧ W'.cell? ⟨rb, 4, none⟩ = some rgv ∧ W'.cell? ⟨rb, 5, none⟩ = some (.int .i64 rt) ∧ W'.cell? ⟨rb, 6, none⟩ = some (.bool isn) ∧ W'.cell? ⟨b1, 0, none⟩ = some (.int .i64 f.ch) ∧ W'.cell? ⟨b1, 1, none⟩ = some (.int .i64 f.ix) ∧ W'.cell? ⟨b1, 2, none⟩ = some (.int .i64 f.cl) ∧ W'.cell? ⟨b1, 3, none⟩ = some (.int .i64 f.mn) ∧ W'.cell? ⟨b1, 4, none⟩ = some (.bool f.fr) ∧ W'.cell? ⟨b1, 5, none⟩ = some (.int .i64 f.at_) ∧ W'.cell? ⟨b1, 6, none⟩ = some (.int .i64 f.ty) ∧ W'.cell? ⟨b1, 7, none⟩ = some (.int .i64 f.sz) ∧ W'.cell? ⟨b1, 8, none⟩ = some (.int .u64 f.sr) ∧ W'.cell? ⟨b2, 0, none⟩ = some (.int .i64 f.ch) ∧ W'.cell? ⟨b2, 1, none⟩ = some (.int .i64 f.ix) ∧ W'.cell? ⟨b2, 2, none⟩ = some (.int .i64 f.cl) ∧ W'.cell? ⟨b2, 3, none⟩ = some (.int .i64 f.mn) ∧ W'.cell? ⟨b2, 4, none⟩ = some (.bool f.fr) ∧ W'.cell? ⟨b2, 5, none⟩ = some (.int .i64 f.at_) ∧ W'.cell? ⟨b2, 6, none⟩ = some (.int .i64 f.ty) ∧ W'.cell? ⟨b2, 7, none⟩ = some (.int .i64 f.sz) ∧ W'.cell? ⟨b2, 8, none⟩ = some (.int .u64 f.sr))
    (exact ⟨r1, r3, r4, r5, r6, p0, p1, p2, p3, p4, p5, p6, p7, p8, q0, q1, q2, q3, q4, q5, q6, q7, q8⟩)
    (first
      | (go_at_call 74; go_loud (refine (spoilt_c _ HX.out.both.t).mono ?_; rintro e w7 ⟨rfl, hb⟩; rw [HBD.out]; replace HX := hid_ (HX.out.mono hb); replace HB := hid_ (btr HB.out hb); replace r1 := cmono hb r1; replace r3 := cmono hb r3; replace r4 := cmono hb r4; replace r5 := cmono hb r5; replace r6 := cmono hb r6; replace p0 := cmono hb p0; replace p1 := cmono hb p1; replace p2 := cmono hb p2; replace p3 := cmono hb p3; replace p4 := cmono hb p4; replace p5 := cmono hb p5; replace p6 := cmono hb p6; replace p7 := cmono hb p7; replace p8 := cmono hb p8; replace q0 := cmono hb q0; replace q1 := cmono hb q1; replace q2 := cmono hb q2; replace q3 := cmono hb q3; replace q4 := cmono hb q4; replace q5 := cmono hb q5; replace q6 := cmono hb q6; replace q7 := cmono hb q7; replace q8 := cmono hb q8; (try replace RX := hid_ (RX.out.mono hb)); (try replace RF := hid_ (RF.out.mono hb)); (try replace RW := hid_ (RW.out.mono hb)); (try replace RN := hid_ (RN.out.mono hb)); clear hb))
      | (go_at_call 85; go_loud (refine (freed_c x _ HX.out.both.t).mono ?_; rintro e w7 ⟨rfl, rfl⟩; rw [HFD.out]))
      | (go_at_call 91; go_loud (refine (rfreed_c x _ HX.out.both.r).mono ?_; rintro e w7 ⟨rfl, rfl⟩; rw [HFD2.out]))
      | (go_at_call 38; go_loud (refine (gone_c _ HX.out.both.t HGL.out).mono ?_; rintro e w7 ⟨v, rfl, hO, hb⟩; replace HX := hid_ (HX.out.mono hb); replace HB := hid_ (btr HB.out hb); replace r1 := cmono hb r1; replace r3 := cmono hb r3; replace r4 := cmono hb r4; replace r5 := cmono hb r5; replace r6 := cmono hb r6; replace p0 := cmono hb p0; replace p1 := cmono hb p1; replace p2 := cmono hb p2; replace p3 := cmono hb p3; replace p4 := cmono hb p4; replace p5 := cmono hb p5; replace p6 := cmono hb p6; replace p7 := cmono hb p7; replace p8 := cmono hb p8; replace q0 := cmono hb q0; replace q1 := cmono hb q1; replace q2 := cmono hb q2; replace q3 := cmono hb q3; replace q4 := cmono hb q4; replace q5 := cmono hb q5; replace q6 := cmono hb q6; replace q7 := cmono hb q7; replace q8 := cmono hb q8; (try replace RX := hid_ (RX.out.mono hb)); (try replace RF := hid_ (RF.out.mono hb)); (try replace RW := hid_ (RW.out.mono hb)); (try replace RN := hid_ (RN.out.mono hb)); have RX := hid_ (RdI.own hO rfl); clear hb hO))
      | (go_at_call 50; go_loud (refine (ints_c T.gone R.gone _ _ _ RX.out HX.out.both.r.rg).mono ?_; rintro e w7 ⟨rfl, hb⟩; rw [decide_eq_true HGN.out]; replace HX := hid_ (HX.out.mono hb); replace HB := hid_ (btr HB.out hb); replace r1 := cmono hb r1; replace r3 := cmono hb r3; replace r4 := cmono hb r4; replace r5 := cmono hb r5; replace r6 := cmono hb r6; replace p0 := cmono hb p0; replace p1 := cmono hb p1; replace p2 := cmono hb p2; replace p3 := cmono hb p3; replace p4 := cmono hb p4; replace p5 := cmono hb p5; replace p6 := cmono hb p6; replace p7 := cmono hb p7; replace p8 := cmono hb p8; replace q0 := cmono hb q0; replace q1 := cmono hb q1; replace q2 := cmono hb q2; replace q3 := cmono hb q3; replace q4 := cmono hb q4; replace q5 := cmono hb q5; replace q6 := cmono hb q6; replace q7 := cmono hb q7; replace q8 := cmono hb q8; (try replace RX := hid_ (RX.out.mono hb)); (try replace RF := hid_ (RF.out.mono hb)); (try replace RW := hid_ (RW.out.mono hb)); (try replace RN := hid_ (RN.out.mono hb)); clear hb))
      | (go_at_call 37; go_loud (refine (all_c _ HX.out.both.t HA.out.ok.up HNN.out HA.out.fl).mono ?_; rintro e w7 ⟨v, rfl, hO, hb⟩; replace HX := hid_ (HX.out.mono hb); replace HB := hid_ (btr HB.out hb); replace r1 := cmono hb r1; replace r3 := cmono hb r3; replace r4 := cmono hb r4; replace r5 := cmono hb r5; replace r6 := cmono hb r6; replace p0 := cmono hb p0; replace p1 := cmono hb p1; replace p2 := cmono hb p2; replace p3 := cmono hb p3; replace p4 := cmono hb p4; replace p5 := cmono hb p5; replace p6 := cmono hb p6; replace p7 := cmono hb p7; replace p8 := cmono hb p8; replace q0 := cmono hb q0; replace q1 := cmono hb q1; replace q2 := cmono hb q2; replace q3 := cmono hb q3; replace q4 := cmono hb q4; replace q5 := cmono hb q5; replace q6 := cmono hb q6; replace q7 := cmono hb q7; replace q8 := cmono hb q8; (try replace RX := hid_ (RX.out.mono hb)); (try replace RF := hid_ (RF.out.mono hb)); (try replace RW := hid_ (RW.out.mono hb)); (try replace RN := hid_ (RN.out.mono hb)); have RF := hid_ (Rd.of_own Ob.enc_len hO rfl); clear hb hO))
      | (go_at_call 98; go_loud (refine (fresh_c T.fresh _ _ _ RF.out (HX.out.rfT HFR.out)).mono ?_; rintro e w7 ⟨rfl, hb⟩; replace HX := hid_ (HX.out.mono hb); replace HB := hid_ (btr HB.out hb); replace r1 := cmono hb r1; replace r3 := cmono hb r3; replace r4 := cmono hb r4; replace r5 := cmono hb r5; replace r6 := cmono hb r6; replace p0 := cmono hb p0; replace p1 := cmono hb p1; replace p2 := cmono hb p2; replace p3 := cmono hb p3; replace p4 := cmono hb p4; replace p5 := cmono hb p5; replace p6 := cmono hb p6; replace p7 := cmono hb p7; replace p8 := cmono hb p8; replace q0 := cmono hb q0; replace q1 := cmono hb q1; replace q2 := cmono hb q2; replace q3 := cmono hb q3; replace q4 := cmono hb q4; replace q5 := cmono hb q5; replace q6 := cmono hb q6; replace q7 := cmono hb q7; replace q8 := cmono hb q8; (try replace RX := hid_ (RX.out.mono hb)); (try replace RF := hid_ (RF.out.mono hb)); (try replace RW := hid_ (RW.out.mono hb)); (try replace RN := hid_ (RN.out.mono hb)); clear hb))
      | (go_at_call 36; go_loud (refine (noted_c _ HX.out.both.t HWL.out).mono ?_; rintro e w7 ⟨v, rfl, hO, hb⟩; replace HX := hid_ (HX.out.mono hb); replace HB := hid_ (btr HB.out hb); replace r1 := cmono hb r1; replace r3 := cmono hb r3; replace r4 := cmono hb r4; replace r5 := cmono hb r5; replace r6 := cmono hb r6; replace p0 := cmono hb p0; replace p1 := cmono hb p1; replace p2 := cmono hb p2; replace p3 := cmono hb p3; replace p4 := cmono hb p4; replace p5 := cmono hb p5; replace p6 := cmono hb p6; replace p7 := cmono hb p7; replace p8 := cmono hb p8; replace q0 := cmono hb q0; replace q1 := cmono hb q1; replace q2 := cmono hb q2; replace q3 := cmono hb q3; replace q4 := cmono hb q4; replace q5 := cmono hb q5; replace q6 := cmono hb q6; replace q7 := cmono hb q7; replace q8 := cmono hb q8; (try replace RX := hid_ (RX.out.mono hb)); (try replace RF := hid_ (RF.out.mono hb)); (try replace RW := hid_ (RW.out.mono hb)); (try replace RN := hid_ (RN.out.mono hb)); have RW := hid_ (Rd.of_own Sp.enc_len hO rfl); clear hb hO))
      | (go_at_call 99; go_loud (refine (rnoted_c _ HX.out.both.r HA.out.bd).mono ?_; rintro e w7 ⟨v, rfl, hO, hb⟩; replace HX := hid_ (HX.out.mono hb); replace HB := hid_ (btr HB.out hb); replace r1 := cmono hb r1; replace r3 := cmono hb r3; replace r4 := cmono hb r4; replace r5 := cmono hb r5; replace r6 := cmono hb r6; replace p0 := cmono hb p0; replace p1 := cmono hb p1; replace p2 := cmono hb p2; replace p3 := cmono hb p3; replace p4 := cmono hb p4; replace p5 := cmono hb p5; replace p6 := cmono hb p6; replace p7 := cmono hb p7; replace p8 := cmono hb p8; replace q0 := cmono hb q0; replace q1 := cmono hb q1; replace q2 := cmono hb q2; replace q3 := cmono hb q3; replace q4 := cmono hb q4; replace q5 := cmono hb q5; replace q6 := cmono hb q6; replace q7 := cmono hb q7; replace q8 := cmono hb q8; (try replace RX := hid_ (RX.out.mono hb)); (try replace RF := hid_ (RF.out.mono hb)); (try replace RW := hid_ (RW.out.mono hb)); (try replace RN := hid_ (RN.out.mono hb)); have RN := hid_ hO; clear hb hO))
      | (go_at_call 28; go_loud (refine (same_c T.words (rnotedL R 300) _ _ _ RW.out RN.out).mono ?_; rintro e w7 ⟨rfl, hb⟩; rw [decide_eq_true HNW.out]; replace HX := hid_ (HX.out.mono hb); replace HB := hid_ (btr HB.out hb); replace r1 := cmono hb r1; replace r3 := cmono hb r3; replace r4 := cmono hb r4; replace r5 := cmono hb r5; replace r6 := cmono hb r6; replace p0 := cmono hb p0; replace p1 := cmono hb p1; replace p2 := cmono hb p2; replace p3 := cmono hb p3; replace p4 := cmono hb p4; replace p5 := cmono hb p5; replace p6 := cmono hb p6; replace p7 := cmono hb p7; replace p8 := cmono hb p8; replace q0 := cmono hb q0; replace q1 := cmono hb q1; replace q2 := cmono hb q2; replace q3 := cmono hb q3; replace q4 := cmono hb q4; replace q5 := cmono hb q5; replace q6 := cmono hb q6; replace q7 := cmono hb q7; replace q8 := cmono hb q8; (try replace RX := hid_ (RX.out.mono hb)); (try replace RF := hid_ (RF.out.mono hb)); (try replace RW := hid_ (RW.out.mono hb)); (try replace RN := hid_ (RN.out.mono hb)); clear hb)))
  all_goals
    go_wp2
    go_ret
    exact ⟨rfl, HB.out⟩
end Go.Proofs.Ytncdkbhkjamdpaa
