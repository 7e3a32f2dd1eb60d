/- The statement's helper do of chapter 20: an operation with both, told alike. (Printed by wip/T13.py.) -/
import Derived.Test.YtncdkbhkjamdpaaTQ
import Derived.Test.YtncdkbhkjamdpaaTE
import Derived.Deep.RegionHeld3
namespace Go.Proofs.Ytncdkbhkjamdpaa
open Go.RowKit Go.Maps

set_option maxHeartbeats 8000000 in
set_option maxRecDepth 100000 in
theorem do_k0 {w0 : World} {tb mb rb n k : Nat} {wv gv rwv rfv rgv : Value} {T R : TS} (s : Sp) (f : Ob) (w : World) (h : PB w0 w tb mb rb n wv gv rwv rfv rgv T R) (ha : Alike k n T R) (hk : k ≤ 50) (hs : Small s) (hf : f.Ok) :
    Calls Try.prog 35 #[.pointer (some ⟨tb, 0, none⟩), .pointer (some ⟨rb, 0, none⟩), .agg #[.int .u8 0, .int .i64 s.f, .int .i64 s.m, .int .i64 f.ch, .int .i64 f.ix, .int .i64 f.cl, .int .i64 f.mn, .bool f.fr, .int .i64 f.at_, .int .i64 f.ty, .int .i64 f.sz, .int .u64 f.sr]] w fun e w' => e = .returned (.bool true) ∧ PE w0 tb mb rb (k + 1) w' := by
  have HA := hid_ ha
  have HS := hid_ hs
  have HF := hid_ hf
  have H0 := hid_ h
  have HX := hid_ (h.mono (balloc' w (.cells #[.int .u8 0, .int .i64 s.f, .int .i64 s.m, .int .i64 f.ch, .int .i64 f.ix, .int .i64 f.cl, .int .i64 f.mn, .bool f.fr, .int .i64 f.at_, .int .i64 f.ty, .int .i64 f.sz, .int .u64 f.sr] 57)))
  have e0 : (w.alloc (.cells #[.int .u8 0, .int .i64 s.f, .int .i64 s.m, .int .i64 f.ch, .int .i64 f.ix, .int .i64 f.cl, .int .i64 f.mn, .bool f.fr, .int .i64 f.at_, .int .i64 f.ty, .int .i64 f.sz, .int .u64 f.sr] 57)).cell? ⟨w.heap.size, 0, none⟩ = some (.int .u8 0) := cell_new 0 rfl
  have e8 : (w.alloc (.cells #[.int .u8 0, .int .i64 s.f, .int .i64 s.m, .int .i64 f.ch, .int .i64 f.ix, .int .i64 f.cl, .int .i64 f.mn, .bool f.fr, .int .i64 f.at_, .int .i64 f.ty, .int .i64 f.sz, .int .u64 f.sr] 57)).cell? ⟨w.heap.size, 8, none⟩ = some (.int .i64 f.at_) := cell_new 8 rfl
  have hsz : w.heap.size < (w.alloc (.cells #[.int .u8 0, .int .i64 s.f, .int .i64 s.m, .int .i64 f.ch, .int .i64 f.ix, .int .i64 f.cl, .int .i64 f.mn, .bool f.fr, .int .i64 f.at_, .int .i64 f.ty, .int .i64 f.sz, .int .u64 f.sr] 57)).heap.size := by simp
  obtain ⟨W, hW⟩ : ∃ W, w.alloc (.cells #[.int .u8 0, .int .i64 s.f, .int .i64 s.m, .int .i64 f.ch, .int .i64 f.ix, .int .i64 f.cl, .int .i64 f.mn, .bool f.fr, .int .i64 f.at_, .int .i64 f.ty, .int .i64 f.sz, .int .u64 f.sr] 57) = W := ⟨_, rfl⟩
  rw [hW] at HX hsz e0 e8
  have HSZ := hid_ hsz
  clear h ha hs hf hsz
  obtain ⟨d, hd⟩ : ∃ d, T.depth = d := ⟨_, rfl⟩
  have HD := hid_ hd
  have hd0 : 0 ≤ d := by rw [← hd]; exact HA.out.d0
  have hd1 : d ≤ 1000 := by have := HA.out.d1; omega
  have c0 : W.cell? ⟨rb, 0, none⟩ = some (.int .i64 d) := by have := HX.out.both.r.c0; rw [HA.out.sim.depth, hd] at this; exact this
  have z0 := HX.out.both.r.fz 0
  have hee : (d + 1 == d + 1) = true := by simp
  have HX1 := hid_ ((HX.out.set 0 (vz (d + 1)) (HX.out.both.r.set 0 (vz (d + 1)) { R with depth := (d + 1) } rfl rfl rfl rfl)).mono (Below.refl _ _).drew)
  have r0 : (W.setCell ⟨rb, 0, none⟩ (.int .i64 (d + 1))).drew.cell? ⟨rb, 0, none⟩ = some (.int .i64 (d + 1)) := HX1.out.both.r.c0
  clear hd
  go_enter Try.func35, Try.ntmps35
  go_upto_region 5 with (fail)
  go_region_held3 (fun W' => W'.cell? ⟨rb, 0, none⟩ = some (.int .i64 (d + 1))) (exact r0)
    ((go_at_call 71; go_loud (refine (begin_c _ HX1.out.both.t (by rw [HD.out]; exact ⟨by omega, by omega⟩)).mono ?_; rintro e w2 ⟨rfl, hr⟩; obtain ⟨wv2, gv2, hx2⟩ := HX1.out.sT hr; rw [HD.out]; have HX2 := hid_ hx2; replace r0 := hx2.both.r.c0; clear hr hx2)))
  all_goals
    go_wp2
    go_ret
    exact ⟨rfl, PE.of HX2.out (al_begin' HA.out HD.out)⟩

set_option maxHeartbeats 8000000 in
set_option maxRecDepth 100000 in
theorem do_k1 {w0 : World} {tb mb rb n k : Nat} {wv gv rwv rfv rgv : Value} {T R : TS} (s : Sp) (f : Ob) (w : World) (h : PB w0 w tb mb rb n wv gv rwv rfv rgv T R) (ha : Alike k n T R) (hk : k ≤ 50) (hs : Small s) (hf : f.Ok) :
    Calls Try.prog 35 #[.pointer (some ⟨tb, 0, none⟩), .pointer (some ⟨rb, 0, none⟩), .agg #[.int .u8 1, .int .i64 s.f, .int .i64 s.m, .int .i64 f.ch, .int .i64 f.ix, .int .i64 f.cl, .int .i64 f.mn, .bool f.fr, .int .i64 f.at_, .int .i64 f.ty, .int .i64 f.sz, .int .u64 f.sr]] w fun e w' => e = .returned (.bool true) ∧ PE w0 tb mb rb (k + 1) w' := by
  have HA := hid_ ha
  have HS := hid_ hs
  have HF := hid_ hf
  have H0 := hid_ h
  have HX := hid_ (h.mono (balloc' w (.cells #[.int .u8 1, .int .i64 s.f, .int .i64 s.m, .int .i64 f.ch, .int .i64 f.ix, .int .i64 f.cl, .int .i64 f.mn, .bool f.fr, .int .i64 f.at_, .int .i64 f.ty, .int .i64 f.sz, .int .u64 f.sr] 57)))
  have e0 : (w.alloc (.cells #[.int .u8 1, .int .i64 s.f, .int .i64 s.m, .int .i64 f.ch, .int .i64 f.ix, .int .i64 f.cl, .int .i64 f.mn, .bool f.fr, .int .i64 f.at_, .int .i64 f.ty, .int .i64 f.sz, .int .u64 f.sr] 57)).cell? ⟨w.heap.size, 0, none⟩ = some (.int .u8 1) := cell_new 0 rfl
  have e8 : (w.alloc (.cells #[.int .u8 1, .int .i64 s.f, .int .i64 s.m, .int .i64 f.ch, .int .i64 f.ix, .int .i64 f.cl, .int .i64 f.mn, .bool f.fr, .int .i64 f.at_, .int .i64 f.ty, .int .i64 f.sz, .int .u64 f.sr] 57)).cell? ⟨w.heap.size, 8, none⟩ = some (.int .i64 f.at_) := cell_new 8 rfl
  have hsz : w.heap.size < (w.alloc (.cells #[.int .u8 1, .int .i64 s.f, .int .i64 s.m, .int .i64 f.ch, .int .i64 f.ix, .int .i64 f.cl, .int .i64 f.mn, .bool f.fr, .int .i64 f.at_, .int .i64 f.ty, .int .i64 f.sz, .int .u64 f.sr] 57)).heap.size := by simp
  obtain ⟨W, hW⟩ : ∃ W, w.alloc (.cells #[.int .u8 1, .int .i64 s.f, .int .i64 s.m, .int .i64 f.ch, .int .i64 f.ix, .int .i64 f.cl, .int .i64 f.mn, .bool f.fr, .int .i64 f.at_, .int .i64 f.ty, .int .i64 f.sz, .int .u64 f.sr] 57) = W := ⟨_, rfl⟩
  rw [hW] at HX hsz e0 e8
  have HSZ := hid_ hsz
  clear h ha hs hf hsz
  obtain ⟨d, hd⟩ : ∃ d, T.depth = d := ⟨_, rfl⟩
  have HD := hid_ hd
  have hd0 : 0 ≤ d := by rw [← hd]; exact HA.out.d0
  have hd1 : d ≤ 1000 := by have := HA.out.d1; omega
  have c0 : W.cell? ⟨rb, 0, none⟩ = some (.int .i64 d) := by have := HX.out.both.r.c0; rw [HA.out.sim.depth, hd] at this; exact this
  have z0 := HX.out.both.r.fz 0
  obtain ⟨q, hq⟩ : ∃ q, max 0 (d - 1) = q := ⟨_, rfl⟩
  have hmx : (if (0 : Int) < d - 1 then d - 1 else 0) = q := by rw [← hq, Int.max_def]; split <;> split <;> omega
  have hmx' : (if (1 : Int) < d then d - 1 else 0) = q := by rw [← hq, Int.max_def]; split <;> split <;> omega
  have hmx3 : max 0 (d - 1) = q := hq
  have hee : (q == q) = true := by simp
  have HQ := hid_ hq
  have HDQ : Hid (max 0 (T.depth - 1) = q) := by show _ = _; rw [hd]; exact hq
  clear hq
  have HX1 := hid_ ((HX.out.set 0 (vz q) (HX.out.both.r.set 0 (vz q) { R with depth := q } rfl rfl rfl rfl)).mono (Below.refl _ _).drew)
  have r0 : (W.setCell ⟨rb, 0, none⟩ (.int .i64 q)).drew.cell? ⟨rb, 0, none⟩ = some (.int .i64 q) := HX1.out.both.r.c0
  clear hd
  go_enter Try.func35, Try.ntmps35
  go_upto_region 8 with (fail)
  go_region_held3 (fun W' => W'.cell? ⟨rb, 0, none⟩ = some (.int .i64 q)) (exact r0)
    ((go_at_call 72; go_loud (refine (end_t _ HX1.out.both.t (by rw [HD.out]; exact ⟨by omega, by omega⟩)).mono ?_; rintro e w2 ⟨rfl, hr⟩; obtain ⟨wv2, gv2, hx2⟩ := HX1.out.sT hr; rw [HDQ.out]; have HX2 := hid_ hx2; replace r0 := hx2.both.r.c0; clear hr hx2)))
  all_goals
    go_wp2
    go_ret
    exact ⟨rfl, PE.of HX2.out (al_end' HA.out HDQ.out)⟩

set_option maxHeartbeats 8000000 in
set_option maxRecDepth 100000 in
theorem do_k2 {w0 : World} {tb mb rb n k : Nat} {wv gv rwv rfv rgv : Value} {T R : TS} (s : Sp) (f : Ob) (w : World) (h : PB w0 w tb mb rb n wv gv rwv rfv rgv T R) (ha : Alike k n T R) (_ : k ≤ 50) (hs : Small s) (hf : f.Ok) :
    Calls Try.prog 35 #[.pointer (some ⟨tb, 0, none⟩), .pointer (some ⟨rb, 0, none⟩), .agg #[.int .u8 2, .int .i64 s.f, .int .i64 s.m, .int .i64 f.ch, .int .i64 f.ix, .int .i64 f.cl, .int .i64 f.mn, .bool f.fr, .int .i64 f.at_, .int .i64 f.ty, .int .i64 f.sz, .int .u64 f.sr]] w fun e w' => e = .returned (.bool true) ∧ PE w0 tb mb rb (k + 1) w' := by
  have HA := hid_ ha
  have HS := hid_ hs
  have HF := hid_ hf
  have H0 := hid_ h
  have HX := hid_ (h.mono (balloc' w (.cells #[.int .u8 2, .int .i64 s.f, .int .i64 s.m, .int .i64 f.ch, .int .i64 f.ix, .int .i64 f.cl, .int .i64 f.mn, .bool f.fr, .int .i64 f.at_, .int .i64 f.ty, .int .i64 f.sz, .int .u64 f.sr] 57)))
  have e0 : (w.alloc (.cells #[.int .u8 2, .int .i64 s.f, .int .i64 s.m, .int .i64 f.ch, .int .i64 f.ix, .int .i64 f.cl, .int .i64 f.mn, .bool f.fr, .int .i64 f.at_, .int .i64 f.ty, .int .i64 f.sz, .int .u64 f.sr] 57)).cell? ⟨w.heap.size, 0, none⟩ = some (.int .u8 2) := cell_new 0 rfl
  have e8 : (w.alloc (.cells #[.int .u8 2, .int .i64 s.f, .int .i64 s.m, .int .i64 f.ch, .int .i64 f.ix, .int .i64 f.cl, .int .i64 f.mn, .bool f.fr, .int .i64 f.at_, .int .i64 f.ty, .int .i64 f.sz, .int .u64 f.sr] 57)).cell? ⟨w.heap.size, 8, none⟩ = some (.int .i64 f.at_) := cell_new 8 rfl
  have hsz : w.heap.size < (w.alloc (.cells #[.int .u8 2, .int .i64 s.f, .int .i64 s.m, .int .i64 f.ch, .int .i64 f.ix, .int .i64 f.cl, .int .i64 f.mn, .bool f.fr, .int .i64 f.at_, .int .i64 f.ty, .int .i64 f.sz, .int .u64 f.sr] 57)).heap.size := by simp
  obtain ⟨W, hW⟩ : ∃ W, w.alloc (.cells #[.int .u8 2, .int .i64 s.f, .int .i64 s.m, .int .i64 f.ch, .int .i64 f.ix, .int .i64 f.cl, .int .i64 f.mn, .bool f.fr, .int .i64 f.at_, .int .i64 f.ty, .int .i64 f.sz, .int .u64 f.sr] 57) = W := ⟨_, rfl⟩
  rw [hW] at HX hsz e0 e8
  have HSZ := hid_ hsz
  clear h ha hs hf hsz
  go_enter Try.func35, Try.ntmps35
  go_wp2_with (go_at_call 86; go_loud (refine (spoil_c _ HX.out.both.t).mono ?_; rintro e w2 ⟨rfl, hr⟩; obtain ⟨wv2, gv2, hx2⟩ := HX.out.sT hr; have HX2 := hid_ hx2; have c1 := hx2.both.r.c1; have z1 := hx2.both.r.fz 1; clear hr hx2))
  go_ret
  exact ⟨rfl, PE.of (HX2.out.set 1 (.bool true) (HX2.out.both.r.set 1 (.bool true) { R with bad := true } rfl rfl rfl rfl)) (al_spoil HA.out)⟩

set_option maxHeartbeats 8000000 in
set_option maxRecDepth 100000 in
theorem do_k3 {w0 : World} {tb mb rb n k : Nat} {wv gv rwv rfv rgv : Value} {T R : TS} (s : Sp) (f : Ob) (w : World) (h : PB w0 w tb mb rb n wv gv rwv rfv rgv T R) (ha : Alike k n T R) (hk : k ≤ 50) (hs : Small s) (hf : f.Ok) :
    Calls Try.prog 35 #[.pointer (some ⟨tb, 0, none⟩), .pointer (some ⟨rb, 0, none⟩), .agg #[.int .u8 3, .int .i64 s.f, .int .i64 s.m, .int .i64 f.ch, .int .i64 f.ix, .int .i64 f.cl, .int .i64 f.mn, .bool f.fr, .int .i64 f.at_, .int .i64 f.ty, .int .i64 f.sz, .int .u64 f.sr]] w fun e w' => e = .returned (.bool true) ∧ PE w0 tb mb rb (k + 1) w' := by
  have HA := hid_ ha
  have HS := hid_ hs
  have HF := hid_ hf
  have H0 := hid_ h
  have HX := hid_ (h.mono (balloc' w (.cells #[.int .u8 3, .int .i64 s.f, .int .i64 s.m, .int .i64 f.ch, .int .i64 f.ix, .int .i64 f.cl, .int .i64 f.mn, .bool f.fr, .int .i64 f.at_, .int .i64 f.ty, .int .i64 f.sz, .int .u64 f.sr] 57)))
  have e0 : (w.alloc (.cells #[.int .u8 3, .int .i64 s.f, .int .i64 s.m, .int .i64 f.ch, .int .i64 f.ix, .int .i64 f.cl, .int .i64 f.mn, .bool f.fr, .int .i64 f.at_, .int .i64 f.ty, .int .i64 f.sz, .int .u64 f.sr] 57)).cell? ⟨w.heap.size, 0, none⟩ = some (.int .u8 3) := cell_new 0 rfl
  have e1 : (w.alloc (.cells #[.int .u8 3, .int .i64 s.f, .int .i64 s.m, .int .i64 f.ch, .int .i64 f.ix, .int .i64 f.cl, .int .i64 f.mn, .bool f.fr, .int .i64 f.at_, .int .i64 f.ty, .int .i64 f.sz, .int .u64 f.sr] 57)).cell? ⟨w.heap.size, 1, none⟩ = some (.int .i64 s.f) := cell_new 1 rfl
  have e2 : (w.alloc (.cells #[.int .u8 3, .int .i64 s.f, .int .i64 s.m, .int .i64 f.ch, .int .i64 f.ix, .int .i64 f.cl, .int .i64 f.mn, .bool f.fr, .int .i64 f.at_, .int .i64 f.ty, .int .i64 f.sz, .int .u64 f.sr] 57)).cell? ⟨w.heap.size, 2, none⟩ = some (.int .i64 s.m) := cell_new 2 rfl
  have e8 : (w.alloc (.cells #[.int .u8 3, .int .i64 s.f, .int .i64 s.m, .int .i64 f.ch, .int .i64 f.ix, .int .i64 f.cl, .int .i64 f.mn, .bool f.fr, .int .i64 f.at_, .int .i64 f.ty, .int .i64 f.sz, .int .u64 f.sr] 57)).cell? ⟨w.heap.size, 8, none⟩ = some (.int .i64 f.at_) := cell_new 8 rfl
  have hsz : w.heap.size < (w.alloc (.cells #[.int .u8 3, .int .i64 s.f, .int .i64 s.m, .int .i64 f.ch, .int .i64 f.ix, .int .i64 f.cl, .int .i64 f.mn, .bool f.fr, .int .i64 f.at_, .int .i64 f.ty, .int .i64 f.sz, .int .u64 f.sr] 57)).heap.size := by simp
  obtain ⟨W, hW⟩ : ∃ W, w.alloc (.cells #[.int .u8 3, .int .i64 s.f, .int .i64 s.m, .int .i64 f.ch, .int .i64 f.ix, .int .i64 f.cl, .int .i64 f.mn, .bool f.fr, .int .i64 f.at_, .int .i64 f.ty, .int .i64 f.sz, .int .u64 f.sr] 57) = W := ⟨_, rfl⟩
  rw [hW] at HX hsz e0 e1 e2 e8
  have HSZ := hid_ hsz
  clear h ha hs hf hsz
  have HN := hid_ (al_note HA.out s HS.out).1
  have hk1 : k ≤ 1000 := by omega
  go_enter Try.func35, Try.ntmps35
  go_wp2_with (first
    | (go_at_call 41; go_loud (refine (note_c s _ HX.out.both.t HA.out.ok (HA.out.len hk1) HS.out).mono ?_; rintro e w2 ⟨v, rfl, hr⟩; obtain ⟨wv2, gv2, hx2⟩ := HX.out.sT hr.t; have HO := hid_ hr.o; have HX2 := hid_ hx2; replace e1 := hr.t.fr.cell e1 (bx_not H0.out.both.t _ (Nat.le_refl _)); replace e2 := hr.t.fr.cell e2 (bx_not H0.out.both.t _ (Nat.le_refl _)); clear hr hx2))
    | (go_at_call 87; go_loud (refine (rnote_c s _ HX2.out.both.r HA.out.rf HA.out.bd HS.out (HA.out.rw_ (by omega))).mono ?_; rintro e w3 ⟨u, rfl, hr⟩; obtain ⟨rwv3, rfv3, rgv3, hx3⟩ := HX2.out.sR hr.t; have HO3 := hid_ (HX2.out.keepR hr.t HO.out (by decide) (by decide) (fun g hg he => by have h1 := ownBlk_lt HX.out.both.r.wo hg; have h2 := (HO.out.lt g he).1; omega)); have HRD := hid_ hr.rd; have HX3 := hid_ hx3; clear hr hx3))
    | (go_at_call 28; go_loud (refine (same_c (noteO T s) (rnoteO R s) _ _ _ (Rd.of_own Sp.enc_len HO3.out rfl) HRD.out).mono ?_; rintro e w4 ⟨rfl, hb⟩; rw [decide_eq_true HN.out]; have HX4 := hid_ (HX3.out.mono hb); clear hb)))
  go_ret
  exact ⟨rfl, PE.of HX4.out (al_note HA.out s HS.out).2⟩

set_option maxHeartbeats 8000000 in
set_option maxRecDepth 100000 in
theorem do_k4 {w0 : World} {tb mb rb n k : Nat} {wv gv rwv rfv rgv : Value} {T R : TS} (s : Sp) (f : Ob) (w : World) (h : PB w0 w tb mb rb n wv gv rwv rfv rgv T R) (ha : Alike k n T R) (hk : k ≤ 50) (hs : Small s) (hf : f.Ok) :
    Calls Try.prog 35 #[.pointer (some ⟨tb, 0, none⟩), .pointer (some ⟨rb, 0, none⟩), .agg #[.int .u8 4, .int .i64 s.f, .int .i64 s.m, .int .i64 f.ch, .int .i64 f.ix, .int .i64 f.cl, .int .i64 f.mn, .bool f.fr, .int .i64 f.at_, .int .i64 f.ty, .int .i64 f.sz, .int .u64 f.sr]] w fun e w' => e = .returned (.bool true) ∧ PE w0 tb mb rb (k + 1) w' := by
  have HA := hid_ ha
  have HS := hid_ hs
  have HF := hid_ hf
  have H0 := hid_ h
  have HX := hid_ (h.mono (balloc' w (.cells #[.int .u8 4, .int .i64 s.f, .int .i64 s.m, .int .i64 f.ch, .int .i64 f.ix, .int .i64 f.cl, .int .i64 f.mn, .bool f.fr, .int .i64 f.at_, .int .i64 f.ty, .int .i64 f.sz, .int .u64 f.sr] 57)))
  have e0 : (w.alloc (.cells #[.int .u8 4, .int .i64 s.f, .int .i64 s.m, .int .i64 f.ch, .int .i64 f.ix, .int .i64 f.cl, .int .i64 f.mn, .bool f.fr, .int .i64 f.at_, .int .i64 f.ty, .int .i64 f.sz, .int .u64 f.sr] 57)).cell? ⟨w.heap.size, 0, none⟩ = some (.int .u8 4) := cell_new 0 rfl
  have e1 : (w.alloc (.cells #[.int .u8 4, .int .i64 s.f, .int .i64 s.m, .int .i64 f.ch, .int .i64 f.ix, .int .i64 f.cl, .int .i64 f.mn, .bool f.fr, .int .i64 f.at_, .int .i64 f.ty, .int .i64 f.sz, .int .u64 f.sr] 57)).cell? ⟨w.heap.size, 1, none⟩ = some (.int .i64 s.f) := cell_new 1 rfl
  have e2 : (w.alloc (.cells #[.int .u8 4, .int .i64 s.f, .int .i64 s.m, .int .i64 f.ch, .int .i64 f.ix, .int .i64 f.cl, .int .i64 f.mn, .bool f.fr, .int .i64 f.at_, .int .i64 f.ty, .int .i64 f.sz, .int .u64 f.sr] 57)).cell? ⟨w.heap.size, 2, none⟩ = some (.int .i64 s.m) := cell_new 2 rfl
  have e8 : (w.alloc (.cells #[.int .u8 4, .int .i64 s.f, .int .i64 s.m, .int .i64 f.ch, .int .i64 f.ix, .int .i64 f.cl, .int .i64 f.mn, .bool f.fr, .int .i64 f.at_, .int .i64 f.ty, .int .i64 f.sz, .int .u64 f.sr] 57)).cell? ⟨w.heap.size, 8, none⟩ = some (.int .i64 f.at_) := cell_new 8 rfl
  have hsz : w.heap.size < (w.alloc (.cells #[.int .u8 4, .int .i64 s.f, .int .i64 s.m, .int .i64 f.ch, .int .i64 f.ix, .int .i64 f.cl, .int .i64 f.mn, .bool f.fr, .int .i64 f.at_, .int .i64 f.ty, .int .i64 f.sz, .int .u64 f.sr] 57)).heap.size := by simp
  obtain ⟨W, hW⟩ : ∃ W, w.alloc (.cells #[.int .u8 4, .int .i64 s.f, .int .i64 s.m, .int .i64 f.ch, .int .i64 f.ix, .int .i64 f.cl, .int .i64 f.mn, .bool f.fr, .int .i64 f.at_, .int .i64 f.ty, .int .i64 f.sz, .int .u64 f.sr] 57) = W := ⟨_, rfl⟩
  rw [hW] at HX hsz e0 e1 e2 e8
  have HSZ := hid_ hsz
  clear h ha hs hf hsz
  obtain ⟨q, hq⟩ : ∃ q, mayT T s = q := ⟨_, rfl⟩
  have HM := hid_ hq
  have HM2 : Hid (rmayB R s s.m.toNat = q) := by show _ = _; rw [← may_sim HA.out.ok HA.out.sim s HS.out]; exact hq
  have hqq : (q == q) = true := by simp
  have hk1 : k ≤ 1000 := by omega
  clear hq
  have HXd := hid_ (HX.out.mono (w' := W.drew) (Below.refl _ _).drew)
  go_enter Try.func35, Try.ntmps35
  go_upto_region 17 with (fail)
  clear hW
  have r1 : W.drew.cell? ⟨w.heap.size, 1, none⟩ = some (.int .i64 s.f) := e1
  have r2 : W.drew.cell? ⟨w.heap.size, 2, none⟩ = some (.int .i64 s.m) := e2
  clear e0 e1 e2 e8
  go_region_held3 (fun W' => W'.cell? ⟨w.heap.size, 1, none⟩ = some (.int .i64 s.f) ∧ W'.cell? ⟨w.heap.size, 2, none⟩ = some (.int .i64 s.m)) (exact ⟨r1, r2⟩)
    (first
      | (go_at_call 40; go_loud (refine (may_c s _ HXd.out.both.t HA.out.ok (HA.out.len hk1) HS.out).mono ?_; rintro e w2 ⟨rfl, hb⟩; rw [HM.out]; replace HXd := hid_ (HXd.out.mono hb); replace r1 := cmono hb r1; replace r2 := cmono hb r2; clear hb))
      | (go_at_call 88; go_loud (refine (rmay_c s _ HXd.out.both.r HA.out.rf HA.out.bd HS.out).mono ?_; rintro e w2 ⟨rfl, hb⟩; rw [HM2.out]; replace HXd := hid_ (HXd.out.mono hb); replace r1 := cmono hb r1; replace r2 := cmono hb r2; clear hb)))
  all_goals
    go_wp2
    go_ret
    exact ⟨rfl, PE.of HXd.out HA.out.up⟩

set_option maxHeartbeats 8000000 in
set_option maxRecDepth 100000 in
theorem do_k5 {w0 : World} {tb mb rb n k : Nat} {wv gv rwv rfv rgv : Value} {T R : TS} (s : Sp) (f : Ob) (w : World) (h : PB w0 w tb mb rb n wv gv rwv rfv rgv T R) (ha : Alike k n T R) (hk : k ≤ 50) (hs : Small s) (hf : f.Ok) :
    Calls Try.prog 35 #[.pointer (some ⟨tb, 0, none⟩), .pointer (some ⟨rb, 0, none⟩), .agg #[.int .u8 5, .int .i64 s.f, .int .i64 s.m, .int .i64 f.ch, .int .i64 f.ix, .int .i64 f.cl, .int .i64 f.mn, .bool f.fr, .int .i64 f.at_, .int .i64 f.ty, .int .i64 f.sz, .int .u64 f.sr]] w fun e w' => e = .returned (.bool true) ∧ PE w0 tb mb rb (k + 1) w' := by
  have HA := hid_ ha
  have HS := hid_ hs
  have HF := hid_ hf
  have H0 := hid_ h
  have HX := hid_ (h.mono (balloc' w (.cells #[.int .u8 5, .int .i64 s.f, .int .i64 s.m, .int .i64 f.ch, .int .i64 f.ix, .int .i64 f.cl, .int .i64 f.mn, .bool f.fr, .int .i64 f.at_, .int .i64 f.ty, .int .i64 f.sz, .int .u64 f.sr] 57)))
  have e0 : (w.alloc (.cells #[.int .u8 5, .int .i64 s.f, .int .i64 s.m, .int .i64 f.ch, .int .i64 f.ix, .int .i64 f.cl, .int .i64 f.mn, .bool f.fr, .int .i64 f.at_, .int .i64 f.ty, .int .i64 f.sz, .int .u64 f.sr] 57)).cell? ⟨w.heap.size, 0, none⟩ = some (.int .u8 5) := cell_new 0 rfl
  have e3 : (w.alloc (.cells #[.int .u8 5, .int .i64 s.f, .int .i64 s.m, .int .i64 f.ch, .int .i64 f.ix, .int .i64 f.cl, .int .i64 f.mn, .bool f.fr, .int .i64 f.at_, .int .i64 f.ty, .int .i64 f.sz, .int .u64 f.sr] 57)).cell? ⟨w.heap.size, 3, none⟩ = some (.int .i64 f.ch) := cell_new 3 rfl
  have e4 : (w.alloc (.cells #[.int .u8 5, .int .i64 s.f, .int .i64 s.m, .int .i64 f.ch, .int .i64 f.ix, .int .i64 f.cl, .int .i64 f.mn, .bool f.fr, .int .i64 f.at_, .int .i64 f.ty, .int .i64 f.sz, .int .u64 f.sr] 57)).cell? ⟨w.heap.size, 4, none⟩ = some (.int .i64 f.ix) := cell_new 4 rfl
  have e5 : (w.alloc (.cells #[.int .u8 5, .int .i64 s.f, .int .i64 s.m, .int .i64 f.ch, .int .i64 f.ix, .int .i64 f.cl, .int .i64 f.mn, .bool f.fr, .int .i64 f.at_, .int .i64 f.ty, .int .i64 f.sz, .int .u64 f.sr] 57)).cell? ⟨w.heap.size, 5, none⟩ = some (.int .i64 f.cl) := cell_new 5 rfl
  have e6 : (w.alloc (.cells #[.int .u8 5, .int .i64 s.f, .int .i64 s.m, .int .i64 f.ch, .int .i64 f.ix, .int .i64 f.cl, .int .i64 f.mn, .bool f.fr, .int .i64 f.at_, .int .i64 f.ty, .int .i64 f.sz, .int .u64 f.sr] 57)).cell? ⟨w.heap.size, 6, none⟩ = some (.int .i64 f.mn) := cell_new 6 rfl
  have e7 : (w.alloc (.cells #[.int .u8 5, .int .i64 s.f, .int .i64 s.m, .int .i64 f.ch, .int .i64 f.ix, .int .i64 f.cl, .int .i64 f.mn, .bool f.fr, .int .i64 f.at_, .int .i64 f.ty, .int .i64 f.sz, .int .u64 f.sr] 57)).cell? ⟨w.heap.size, 7, none⟩ = some (.bool f.fr) := cell_new 7 rfl
  have e8 : (w.alloc (.cells #[.int .u8 5, .int .i64 s.f, .int .i64 s.m, .int .i64 f.ch, .int .i64 f.ix, .int .i64 f.cl, .int .i64 f.mn, .bool f.fr, .int .i64 f.at_, .int .i64 f.ty, .int .i64 f.sz, .int .u64 f.sr] 57)).cell? ⟨w.heap.size, 8, none⟩ = some (.int .i64 f.at_) := cell_new 8 rfl
  have e9 : (w.alloc (.cells #[.int .u8 5, .int .i64 s.f, .int .i64 s.m, .int .i64 f.ch, .int .i64 f.ix, .int .i64 f.cl, .int .i64 f.mn, .bool f.fr, .int .i64 f.at_, .int .i64 f.ty, .int .i64 f.sz, .int .u64 f.sr] 57)).cell? ⟨w.heap.size, 9, none⟩ = some (.int .i64 f.ty) := cell_new 9 rfl
  have e10 : (w.alloc (.cells #[.int .u8 5, .int .i64 s.f, .int .i64 s.m, .int .i64 f.ch, .int .i64 f.ix, .int .i64 f.cl, .int .i64 f.mn, .bool f.fr, .int .i64 f.at_, .int .i64 f.ty, .int .i64 f.sz, .int .u64 f.sr] 57)).cell? ⟨w.heap.size, 10, none⟩ = some (.int .i64 f.sz) := cell_new 10 rfl
  have e11 : (w.alloc (.cells #[.int .u8 5, .int .i64 s.f, .int .i64 s.m, .int .i64 f.ch, .int .i64 f.ix, .int .i64 f.cl, .int .i64 f.mn, .bool f.fr, .int .i64 f.at_, .int .i64 f.ty, .int .i64 f.sz, .int .u64 f.sr] 57)).cell? ⟨w.heap.size, 11, none⟩ = some (.int .u64 f.sr) := cell_new 11 rfl
  have hsz : w.heap.size < (w.alloc (.cells #[.int .u8 5, .int .i64 s.f, .int .i64 s.m, .int .i64 f.ch, .int .i64 f.ix, .int .i64 f.cl, .int .i64 f.mn, .bool f.fr, .int .i64 f.at_, .int .i64 f.ty, .int .i64 f.sz, .int .u64 f.sr] 57)).heap.size := by simp
  obtain ⟨W, hW⟩ : ∃ W, w.alloc (.cells #[.int .u8 5, .int .i64 s.f, .int .i64 s.m, .int .i64 f.ch, .int .i64 f.ix, .int .i64 f.cl, .int .i64 f.mn, .bool f.fr, .int .i64 f.at_, .int .i64 f.ty, .int .i64 f.sz, .int .u64 f.sr] 57) = W := ⟨_, rfl⟩
  rw [hW] at HX hsz e0 e3 e4 e5 e6 e7 e8 e9 e10 e11
  have HSZ := hid_ hsz
  clear h ha hs hf hsz
  have HZ : Hid (InZ f.at_) := ⟨by have := HF.out.a0; omega, by have := HF.out.a1; omega⟩
  have HNN : Hid (n ≤ 1000000) := by show _ ≤ _; have := HA.out.nk; omega
  have HRN := hid_ (HA.out.rn (by omega))
  have HXd := hid_ (HX.out.mono (w' := W.drew) (Below.refl _ _).drew)
  go_enter Try.func35, Try.ntmps35
  go_upto_region 19 with (fail)
  clear hW
  have r3 : W.drew.cell? ⟨w.heap.size, 3, none⟩ = some (.int .i64 f.ch) := e3
  have r4 : W.drew.cell? ⟨w.heap.size, 4, none⟩ = some (.int .i64 f.ix) := e4
  have r5 : W.drew.cell? ⟨w.heap.size, 5, none⟩ = some (.int .i64 f.cl) := e5
  have r6 : W.drew.cell? ⟨w.heap.size, 6, none⟩ = some (.int .i64 f.mn) := e6
  have r7 : W.drew.cell? ⟨w.heap.size, 7, none⟩ = some (.bool f.fr) := e7
  have r8 : W.drew.cell? ⟨w.heap.size, 8, none⟩ = some (.int .i64 f.at_) := e8
  have r9 : W.drew.cell? ⟨w.heap.size, 9, none⟩ = some (.int .i64 f.ty) := e9
  have r10 : W.drew.cell? ⟨w.heap.size, 10, none⟩ = some (.int .i64 f.sz) := e10
  have r11 : W.drew.cell? ⟨w.heap.size, 11, none⟩ = some (.int .u64 f.sr) := e11
  clear e0 e3 e4 e5 e6 e7 e8 e9 e10 e11
  go_region_held3 (fun W' => W'.cell? ⟨w.heap.size, 3, none⟩ = some (.int .i64 f.ch) ∧ W'.cell? ⟨w.heap.size, 4, none⟩ = some (.int .i64 f.ix) ∧ W'.cell? ⟨w.heap.size, 5, none⟩ = some (.int .i64 f.cl) ∧ W'.cell? ⟨w.heap.size, 6, none⟩ = some (.int .i64 f.mn) ∧ W'.cell? ⟨w.heap.size, 7, none⟩ = some (.bool f.fr) ∧ W'.cell? ⟨w.heap.size, 8, none⟩ = some (.int .i64 f.at_) ∧ W'.cell? ⟨w.heap.size, 9, none⟩ = some (.int .i64 f.ty) ∧ W'.cell? ⟨w.heap.size, 10, none⟩ = some (.int .i64 f.sz) ∧ W'.cell? ⟨w.heap.size, 11, none⟩ = some (.int .u64 f.sr)) (exact ⟨r3, r4, r5, r6, r7, r8, r9, r10, r11⟩)
    ((go_at_call 75; go_loud (refine (make_c f _ HXd.out.both.t HA.out.ok.up HZ.out HNN.out).mono ?_; rintro e w2 ⟨rfl, hr⟩; obtain ⟨wv2, gv2, hx2⟩ := HXd.out.sT hr; have HX2 := hid_ hx2; replace r3 := hr.fr.cell r3 (bx_not H0.out.both.t _ (Nat.le_refl _)); replace r4 := hr.fr.cell r4 (bx_not H0.out.both.t _ (Nat.le_refl _)); replace r5 := hr.fr.cell r5 (bx_not H0.out.both.t _ (Nat.le_refl _)); replace r6 := hr.fr.cell r6 (bx_not H0.out.both.t _ (Nat.le_refl _)); replace r7 := hr.fr.cell r7 (bx_not H0.out.both.t _ (Nat.le_refl _)); replace r8 := hr.fr.cell r8 (bx_not H0.out.both.t _ (Nat.le_refl _)); replace r9 := hr.fr.cell r9 (bx_not H0.out.both.t _ (Nat.le_refl _)); replace r10 := hr.fr.cell r10 (bx_not H0.out.both.t _ (Nat.le_refl _)); replace r11 := hr.fr.cell r11 (bx_not H0.out.both.t _ (Nat.le_refl _)); clear hr hx2)))
  all_goals
    go_wp2_with (go_at_call 89; go_loud (refine (rmake_c f _ HX2.out.both.r HRN.out).mono ?_; rintro e w3 ⟨rfl, hr⟩; obtain ⟨rwv3, rfv3, rgv3, hx3⟩ := HX2.out.sR hr; have HX3 := hid_ hx3; clear hr hx3))
    go_ret
    exact ⟨rfl, PE.of HX3.out (al_make HA.out HF.out)⟩

set_option maxHeartbeats 8000000 in
set_option maxRecDepth 100000 in
theorem do_k6 {w0 : World} {tb mb rb n k : Nat} {wv gv rwv rfv rgv : Value} {T R : TS} (s : Sp) (f : Ob) (w : World) (h : PB w0 w tb mb rb n wv gv rwv rfv rgv T R) (ha : Alike k n T R) (hk : k ≤ 50) (hs : Small s) (hf : f.Ok) :
    Calls Try.prog 35 #[.pointer (some ⟨tb, 0, none⟩), .pointer (some ⟨rb, 0, none⟩), .agg #[.int .u8 6, .int .i64 s.f, .int .i64 s.m, .int .i64 f.ch, .int .i64 f.ix, .int .i64 f.cl, .int .i64 f.mn, .bool f.fr, .int .i64 f.at_, .int .i64 f.ty, .int .i64 f.sz, .int .u64 f.sr]] w fun e w' => e = .returned (.bool true) ∧ PE w0 tb mb rb (k + 1) w' := by
  have HA := hid_ ha
  have HS := hid_ hs
  have HF := hid_ hf
  have H0 := hid_ h
  have HX := hid_ (h.mono (balloc' w (.cells #[.int .u8 6, .int .i64 s.f, .int .i64 s.m, .int .i64 f.ch, .int .i64 f.ix, .int .i64 f.cl, .int .i64 f.mn, .bool f.fr, .int .i64 f.at_, .int .i64 f.ty, .int .i64 f.sz, .int .u64 f.sr] 57)))
  have e0 : (w.alloc (.cells #[.int .u8 6, .int .i64 s.f, .int .i64 s.m, .int .i64 f.ch, .int .i64 f.ix, .int .i64 f.cl, .int .i64 f.mn, .bool f.fr, .int .i64 f.at_, .int .i64 f.ty, .int .i64 f.sz, .int .u64 f.sr] 57)).cell? ⟨w.heap.size, 0, none⟩ = some (.int .u8 6) := cell_new 0 rfl
  have e8 : (w.alloc (.cells #[.int .u8 6, .int .i64 s.f, .int .i64 s.m, .int .i64 f.ch, .int .i64 f.ix, .int .i64 f.cl, .int .i64 f.mn, .bool f.fr, .int .i64 f.at_, .int .i64 f.ty, .int .i64 f.sz, .int .u64 f.sr] 57)).cell? ⟨w.heap.size, 8, none⟩ = some (.int .i64 f.at_) := cell_new 8 rfl
  have hsz : w.heap.size < (w.alloc (.cells #[.int .u8 6, .int .i64 s.f, .int .i64 s.m, .int .i64 f.ch, .int .i64 f.ix, .int .i64 f.cl, .int .i64 f.mn, .bool f.fr, .int .i64 f.at_, .int .i64 f.ty, .int .i64 f.sz, .int .u64 f.sr] 57)).heap.size := by simp
  obtain ⟨W, hW⟩ : ∃ W, w.alloc (.cells #[.int .u8 6, .int .i64 s.f, .int .i64 s.m, .int .i64 f.ch, .int .i64 f.ix, .int .i64 f.cl, .int .i64 f.mn, .bool f.fr, .int .i64 f.at_, .int .i64 f.ty, .int .i64 f.sz, .int .u64 f.sr] 57) = W := ⟨_, rfl⟩
  rw [hW] at HX hsz e0 e8
  have HSZ := hid_ hsz
  clear h ha hs hf hsz
  have HZ : Hid (InZ f.at_) := ⟨by have := HF.out.a0; omega, by have := HF.out.a1; omega⟩
  have HRN := hid_ (HA.out.rn (by omega))
  obtain ⟨g, hg⟩ : ∃ g, obOf (findF T.fresh f.at_) = g := ⟨_, rfl⟩
  obtain ⟨q, hq⟩ : ∃ q, (findF T.fresh f.at_).isSome = q := ⟨_, rfl⟩
  have HG := hid_ hg
  have HQ := hid_ hq
  have HG2 : Hid (obOf (findF R.fresh f.at_) = g) := by show _ = _; rw [HA.out.sim.fresh]; exact hg
  have HQ2 : Hid ((findF R.fresh f.at_).isSome = q) := by show _ = _; rw [HA.out.sim.fresh]; exact hq
  have HV : Hid (g.val = .agg #[.int .i64 g.ch, .int .i64 g.ix, .int .i64 g.cl, .int .i64 g.mn, .bool g.fr, .int .i64 g.at_, .int .i64 g.ty, .int .i64 g.sz, .int .u64 g.sr]) := rfl
  have hqq : (q == q) = true := by simp
  have heq : ∀ w, (binOp .eql 55 (.agg #[.int .i64 g.ch, .int .i64 g.ix, .int .i64 g.cl, .int .i64 g.mn, .bool g.fr, .int .i64 g.at_, .int .i64 g.ty, .int .i64 g.sz, .int .u64 g.sr]) (.agg #[.int .i64 g.ch, .int .i64 g.ix, .int .i64 g.cl, .int .i64 g.mn, .bool g.fr, .int .i64 g.at_, .int .i64 g.ty, .int .i64 g.sz, .int .u64 g.sr])).run Try.prog w = .ok (.bool true) w := eql55 g
  clear hg hq
  go_enter Try.func35, Try.ntmps35
  go_wp2_with (first
    | (go_at_call 76; go_loud (refine (unmake_c f.at_ _ HX.out.both.t HA.out.ok.up HZ.out).mono ?_; rintro e w2 ⟨rfl, hr⟩; rw [HG.out, HQ.out, HV.out]; obtain ⟨wv2, gv2, hx2⟩ := HX.out.sT hr; have HX2 := hid_ (hx2.mono (balloc' w2 (.cells #[.int .i64 g.ch, .int .i64 g.ix, .int .i64 g.cl, .int .i64 g.mn, .bool g.fr, .int .i64 g.at_, .int .i64 g.ty, .int .i64 g.sz, .int .u64 g.sr] 55))); have HC2 : Hid ((w2.alloc (.cells #[.int .i64 g.ch, .int .i64 g.ix, .int .i64 g.cl, .int .i64 g.mn, .bool g.fr, .int .i64 g.at_, .int .i64 g.ty, .int .i64 g.sz, .int .u64 g.sr] 55)).heap[w2.heap.size]? = some (.cells #[.int .i64 g.ch, .int .i64 g.ix, .int .i64 g.cl, .int .i64 g.mn, .bool g.fr, .int .i64 g.at_, .int .i64 g.ty, .int .i64 g.sz, .int .u64 g.sr] 55 (0, 0))) := heap_alloc_new w2 _; have HL := hid_ hx2; clear hr hx2))
    | (go_at_call 90; go_loud (refine (runmake_c f.at_ _ HX2.out.both.r HRN.out).mono ?_; rintro e w3 ⟨rfl, hr⟩; rw [HG2.out, HQ2.out, HV.out]; obtain ⟨rwv3, rfv3, rgv3, hx3⟩ := HX2.out.sR hr; have HX3 := hid_ (hx3.mono (balloc' w3 (.cells #[.int .i64 g.ch, .int .i64 g.ix, .int .i64 g.cl, .int .i64 g.mn, .bool g.fr, .int .i64 g.at_, .int .i64 g.ty, .int .i64 g.sz, .int .u64 g.sr] 55))); have hb2 := hmono (balloc' w3 (.cells #[.int .i64 g.ch, .int .i64 g.ix, .int .i64 g.cl, .int .i64 g.mn, .bool g.fr, .int .i64 g.at_, .int .i64 g.ty, .int .i64 g.sz, .int .u64 g.sr] 55)) ((hr.fr.block _ (Array.getElem?_eq_some_iff.1 HC2.out).1 (rw_not HL.out.both.r _ (Nat.le_refl _))).trans HC2.out); have hb3 : (w3.alloc (.cells #[.int .i64 g.ch, .int .i64 g.ix, .int .i64 g.cl, .int .i64 g.mn, .bool g.fr, .int .i64 g.at_, .int .i64 g.ty, .int .i64 g.sz, .int .u64 g.sr] 55)).heap[w3.heap.size]? = some (.cells #[.int .i64 g.ch, .int .i64 g.ix, .int .i64 g.cl, .int .i64 g.mn, .bool g.fr, .int .i64 g.at_, .int .i64 g.ty, .int .i64 g.sz, .int .u64 g.sr] 55 (0, 0)) := heap_alloc_new w3 _; have p0 := cell_blk (j := 0) hb2 rfl; have p1 := cell_blk (j := 1) hb2 rfl; have p2 := cell_blk (j := 2) hb2 rfl; have p3 := cell_blk (j := 3) hb2 rfl; have p4 := cell_blk (j := 4) hb2 rfl; have p5 := cell_blk (j := 5) hb2 rfl; have p6 := cell_blk (j := 6) hb2 rfl; have p7 := cell_blk (j := 7) hb2 rfl; have p8 := cell_blk (j := 8) hb2 rfl; have q0 := cell_blk (j := 0) hb3 rfl; have q1 := cell_blk (j := 1) hb3 rfl; have q2 := cell_blk (j := 2) hb3 rfl; have q3 := cell_blk (j := 3) hb3 rfl; have q4 := cell_blk (j := 4) hb3 rfl; have q5 := cell_blk (j := 5) hb3 rfl; have q6 := cell_blk (j := 6) hb3 rfl; have q7 := cell_blk (j := 7) hb3 rfl; have q8 := cell_blk (j := 8) hb3 rfl; clear hr hx3 hb2 hb3)))
  go_ret
  exact ⟨rfl, PE.of HX3.out (al_unmake HA.out f.at_)⟩

set_option maxHeartbeats 8000000 in
set_option maxRecDepth 100000 in
theorem do_k7t {w0 : World} {tb mb rb n k : Nat} {wv gv rwv rfv rgv : Value} {T R : TS} (s : Sp) (f : Ob) (w : World) (h : PB w0 w tb mb rb n wv gv rwv rfv rgv T R) (ha : Alike k n T R) (hk : k ≤ 50) (hs : Small s) (hf : f.Ok) (hq : freedB T f.at_ = true) :
    Calls Try.prog 35 #[.pointer (some ⟨tb, 0, none⟩), .pointer (some ⟨rb, 0, none⟩), .agg #[.int .u8 7, .int .i64 s.f, .int .i64 s.m, .int .i64 f.ch, .int .i64 f.ix, .int .i64 f.cl, .int .i64 f.mn, .bool f.fr, .int .i64 f.at_, .int .i64 f.ty, .int .i64 f.sz, .int .u64 f.sr]] w fun e w' => e = .returned (.bool true) ∧ PE w0 tb mb rb (k + 1) w' := by
  have HA := hid_ ha
  have HS := hid_ hs
  have HF := hid_ hf
  have H0 := hid_ h
  have HX := hid_ (h.mono (balloc' w (.cells #[.int .u8 7, .int .i64 s.f, .int .i64 s.m, .int .i64 f.ch, .int .i64 f.ix, .int .i64 f.cl, .int .i64 f.mn, .bool f.fr, .int .i64 f.at_, .int .i64 f.ty, .int .i64 f.sz, .int .u64 f.sr] 57)))
  have e0 : (w.alloc (.cells #[.int .u8 7, .int .i64 s.f, .int .i64 s.m, .int .i64 f.ch, .int .i64 f.ix, .int .i64 f.cl, .int .i64 f.mn, .bool f.fr, .int .i64 f.at_, .int .i64 f.ty, .int .i64 f.sz, .int .u64 f.sr] 57)).cell? ⟨w.heap.size, 0, none⟩ = some (.int .u8 7) := cell_new 0 rfl
  have e8 : (w.alloc (.cells #[.int .u8 7, .int .i64 s.f, .int .i64 s.m, .int .i64 f.ch, .int .i64 f.ix, .int .i64 f.cl, .int .i64 f.mn, .bool f.fr, .int .i64 f.at_, .int .i64 f.ty, .int .i64 f.sz, .int .u64 f.sr] 57)).cell? ⟨w.heap.size, 8, none⟩ = some (.int .i64 f.at_) := cell_new 8 rfl
  have hsz : w.heap.size < (w.alloc (.cells #[.int .u8 7, .int .i64 s.f, .int .i64 s.m, .int .i64 f.ch, .int .i64 f.ix, .int .i64 f.cl, .int .i64 f.mn, .bool f.fr, .int .i64 f.at_, .int .i64 f.ty, .int .i64 f.sz, .int .u64 f.sr] 57)).heap.size := by simp
  obtain ⟨W, hW⟩ : ∃ W, w.alloc (.cells #[.int .u8 7, .int .i64 s.f, .int .i64 s.m, .int .i64 f.ch, .int .i64 f.ix, .int .i64 f.cl, .int .i64 f.mn, .bool f.fr, .int .i64 f.at_, .int .i64 f.ty, .int .i64 f.sz, .int .u64 f.sr] 57) = W := ⟨_, rfl⟩
  rw [hW] at HX hsz e0 e8
  have HSZ := hid_ hsz
  clear h ha hs hf hsz
  have HF1 := hid_ (free_sim HA.out.sim f.at_).2
  have HQ := hid_ hq
  have HQ2 : Hid (freedB R f.at_ = true) := by show _ = _; rw [HF1.out]; exact hq
  have HR : Hid (freeT R f.at_ = R) := by show _ = _; rw [freeT, HQ2.out]; rfl
  clear hq
  have hgl : T.gone.length ≤ 100000 := by have := HA.out.gl; omega
  go_enter Try.func35, Try.ntmps35
  go_wp2_with (first
    | (go_at_call 91; go_loud (refine (rfreed_c f.at_ _ HX.out.both.r).mono ?_; rintro e w2 ⟨rfl, rfl⟩; rw [HQ2.out]))
    | (go_at_call 84; go_loud (refine (free_c f.at_ _ HX.out.both.t hgl).mono ?_; rintro e w2 ⟨rfl, hr⟩; rw [HQ.out]; obtain ⟨wv2, gv2, hx2⟩ := HX.out.sT hr; have HX2 := hid_ hx2; clear hr hx2)))
  go_ret
  exact ⟨rfl, PE.of HX2.out (by have := al_free HA.out f.at_; rw [HR.out] at this; exact this)⟩

set_option maxHeartbeats 8000000 in
set_option maxRecDepth 100000 in
theorem do_k7f {w0 : World} {tb mb rb n k : Nat} {wv gv rwv rfv rgv : Value} {T R : TS} (s : Sp) (f : Ob) (w : World) (h : PB w0 w tb mb rb n wv gv rwv rfv rgv T R) (ha : Alike k n T R) (hk : k ≤ 50) (hs : Small s) (hf : f.Ok) (hq : freedB T f.at_ = false) :
    Calls Try.prog 35 #[.pointer (some ⟨tb, 0, none⟩), .pointer (some ⟨rb, 0, none⟩), .agg #[.int .u8 7, .int .i64 s.f, .int .i64 s.m, .int .i64 f.ch, .int .i64 f.ix, .int .i64 f.cl, .int .i64 f.mn, .bool f.fr, .int .i64 f.at_, .int .i64 f.ty, .int .i64 f.sz, .int .u64 f.sr]] w fun e w' => e = .returned (.bool true) ∧ PE w0 tb mb rb (k + 1) w' := by
  have HA := hid_ ha
  have HS := hid_ hs
  have HF := hid_ hf
  have H0 := hid_ h
  have HX := hid_ (h.mono (balloc' w (.cells #[.int .u8 7, .int .i64 s.f, .int .i64 s.m, .int .i64 f.ch, .int .i64 f.ix, .int .i64 f.cl, .int .i64 f.mn, .bool f.fr, .int .i64 f.at_, .int .i64 f.ty, .int .i64 f.sz, .int .u64 f.sr] 57)))
  have e0 : (w.alloc (.cells #[.int .u8 7, .int .i64 s.f, .int .i64 s.m, .int .i64 f.ch, .int .i64 f.ix, .int .i64 f.cl, .int .i64 f.mn, .bool f.fr, .int .i64 f.at_, .int .i64 f.ty, .int .i64 f.sz, .int .u64 f.sr] 57)).cell? ⟨w.heap.size, 0, none⟩ = some (.int .u8 7) := cell_new 0 rfl
  have e8 : (w.alloc (.cells #[.int .u8 7, .int .i64 s.f, .int .i64 s.m, .int .i64 f.ch, .int .i64 f.ix, .int .i64 f.cl, .int .i64 f.mn, .bool f.fr, .int .i64 f.at_, .int .i64 f.ty, .int .i64 f.sz, .int .u64 f.sr] 57)).cell? ⟨w.heap.size, 8, none⟩ = some (.int .i64 f.at_) := cell_new 8 rfl
  have hsz : w.heap.size < (w.alloc (.cells #[.int .u8 7, .int .i64 s.f, .int .i64 s.m, .int .i64 f.ch, .int .i64 f.ix, .int .i64 f.cl, .int .i64 f.mn, .bool f.fr, .int .i64 f.at_, .int .i64 f.ty, .int .i64 f.sz, .int .u64 f.sr] 57)).heap.size := by simp
  obtain ⟨W, hW⟩ : ∃ W, w.alloc (.cells #[.int .u8 7, .int .i64 s.f, .int .i64 s.m, .int .i64 f.ch, .int .i64 f.ix, .int .i64 f.cl, .int .i64 f.mn, .bool f.fr, .int .i64 f.at_, .int .i64 f.ty, .int .i64 f.sz, .int .u64 f.sr] 57) = W := ⟨_, rfl⟩
  rw [hW] at HX hsz e0 e8
  have HSZ := hid_ hsz
  clear h ha hs hf hsz
  have HF1 := hid_ (free_sim HA.out.sim f.at_).2
  have HQ := hid_ hq
  have HQ2 : Hid (freedB R f.at_ = false) := by show _ = _; rw [HF1.out]; exact hq
  have HR : Hid (freeT R f.at_ = { R with gone := R.gone ++ [f.at_] }) := by show _ = _; rw [freeT, HQ2.out]; rfl
  clear hq
  have hgl : T.gone.length ≤ 100000 := by have := HA.out.gl; omega
  have hrl : R.gone.length ≤ 100000 := by rw [HA.out.sim.gone]; omega
  have c4 := HX.out.both.r.c4
  have z4 := HX.out.both.r.fz 4
  obtain ⟨i0, hi, hz0, hz1, hz2⟩ := info_parts info3
  have hI := hid_ hi; have hZ0 := hid_ hz0; have hZ1 := hid_ hz1; have hZ2 := hid_ hz2
  clear hi hz0 hz1 hz2
  go_enter Try.func35, Try.ntmps35
  go_upto_region 29 with (first
    | (go_at_call 91; go_loud (refine (rfreed_c f.at_ _ HX.out.both.r).mono ?_; rintro e w2 ⟨rfl, rfl⟩; rw [HQ2.out]))
    | (at_builtin; go_loud (refine wpList_append_own2 _ rfl _ _ 45 rfl 0 3 i0 (vz 0) 1 8 Try.underlying45 hI.out hZ0.out hZ1.out hZ2.out rfl (by decide) rgv R.gone.length (R.gone.map vz) rfl (HX.out.both.r.go.alloc _) ⟨W.heap.size, 0, none⟩ 1 1 [vz f.at_] rfl (by decide) rfl ?c1 ?c2 ?c3 ?c4 (Nat.zero_le _) ?_; rotate_left 4; intro v' w3 hO1 hg1 hb1; obtain ⟨g, cap, rfl⟩ := own_form hO1 (Nat.succ_pos _); have HO1 := hid_ hO1; have HG1 := hid_ hg1; have HB1 := hid_ hb1; have HX0 := hid_ (HX.out.mono (balloc' W (.cells #[vz f.at_] 3))); have hbk := frR HX0.out.both.r hg1; have hc4 := cell_blk (j := 4) hbk rfl; have hz4 := frozen_blk (j := 4) hbk; clear hO1 hg1 hb1 hbk)))
  case c1 => exact cells_new _ _ _
  case c2 => simp [Value.oneCell']
  case c3 => unfold maxLen; omega
  case c4 => omega
  have HRG : Hid (RTx (w3.setCell ⟨rb, 4, none⟩ (.slice (some ⟨g, 0, none⟩) (R.gone.length + 1) cap)) rb rwv rfv (.slice (some ⟨g, 0, none⟩) (R.gone.length + 1) cap) { R with gone := R.gone ++ [f.at_] }) := by
    refine HX0.out.both.r.growG HG1.out (R.gone ++ [f.at_]) ?_
    have := HO1.out
    simpa using this
  have HRR : Hid (RtRes (W.alloc (.cells #[vz f.at_] 3)) (w3.setCell ⟨rb, 4, none⟩ (.slice (some ⟨g, 0, none⟩) (R.gone.length + 1) cap)) rb rwv rgv { R with gone := R.gone ++ [f.at_] }) := by
    refine ⟨⟨rwv, rfv, _, HRG.out, NewOr.refl _ _, fun b hb => ?_⟩, (Fr.of_row HG1.out (fun b hb => by simp [rw', hb])).trans (Fr.of_gb (gb_setCell _ ⟨rb, 4, none⟩ _) (rw_rb _ _ _))⟩
    rcases HB1.out with h1 | h1
    · exact .inl (h1 ▸ hb)
    · right
      rw [h1] at hb
      injection hb with hb
      rw [← hb]; exact Nat.le_refl _
  obtain ⟨rwv5, rfv5, rgv5, hx5⟩ := HX0.out.sR HRR.out
  have HX5 := hid_ hx5
  clear hx5 hc4 hz4
  go_wp2_with (go_at_call 84; go_loud (refine (free_c f.at_ _ HX5.out.both.t hgl).mono ?_; rintro e w6 ⟨rfl, hr⟩; rw [HQ.out]; obtain ⟨wv6, gv6, hx6⟩ := HX5.out.sT hr; have HX6 := hid_ hx6; clear hr hx6))
  go_ret
  exact ⟨rfl, PE.of HX6.out (by have := al_free HA.out f.at_; rw [HR.out] at this; exact this)⟩

set_option maxHeartbeats 8000000 in
set_option maxRecDepth 100000 in
theorem do_k8 {w0 : World} {tb mb rb n k : Nat} {wv gv rwv rfv rgv : Value} {T R : TS} (s : Sp) (f : Ob) (w : World) (h : PB w0 w tb mb rb n wv gv rwv rfv rgv T R) (ha : Alike k n T R) (_ : k ≤ 50) (hs : Small s) (hf : f.Ok) :
    Calls Try.prog 35 #[.pointer (some ⟨tb, 0, none⟩), .pointer (some ⟨rb, 0, none⟩), .agg #[.int .u8 8, .int .i64 s.f, .int .i64 s.m, .int .i64 f.ch, .int .i64 f.ix, .int .i64 f.cl, .int .i64 f.mn, .bool f.fr, .int .i64 f.at_, .int .i64 f.ty, .int .i64 f.sz, .int .u64 f.sr]] w fun e w' => e = .returned (.bool true) ∧ PE w0 tb mb rb (k + 1) w' := by
  have HA := hid_ ha
  have HS := hid_ hs
  have HF := hid_ hf
  have H0 := hid_ h
  have HX := hid_ (h.mono (balloc' w (.cells #[.int .u8 8, .int .i64 s.f, .int .i64 s.m, .int .i64 f.ch, .int .i64 f.ix, .int .i64 f.cl, .int .i64 f.mn, .bool f.fr, .int .i64 f.at_, .int .i64 f.ty, .int .i64 f.sz, .int .u64 f.sr] 57)))
  have e0 : (w.alloc (.cells #[.int .u8 8, .int .i64 s.f, .int .i64 s.m, .int .i64 f.ch, .int .i64 f.ix, .int .i64 f.cl, .int .i64 f.mn, .bool f.fr, .int .i64 f.at_, .int .i64 f.ty, .int .i64 f.sz, .int .u64 f.sr] 57)).cell? ⟨w.heap.size, 0, none⟩ = some (.int .u8 8) := cell_new 0 rfl
  have e8 : (w.alloc (.cells #[.int .u8 8, .int .i64 s.f, .int .i64 s.m, .int .i64 f.ch, .int .i64 f.ix, .int .i64 f.cl, .int .i64 f.mn, .bool f.fr, .int .i64 f.at_, .int .i64 f.ty, .int .i64 f.sz, .int .u64 f.sr] 57)).cell? ⟨w.heap.size, 8, none⟩ = some (.int .i64 f.at_) := cell_new 8 rfl
  have hsz : w.heap.size < (w.alloc (.cells #[.int .u8 8, .int .i64 s.f, .int .i64 s.m, .int .i64 f.ch, .int .i64 f.ix, .int .i64 f.cl, .int .i64 f.mn, .bool f.fr, .int .i64 f.at_, .int .i64 f.ty, .int .i64 f.sz, .int .u64 f.sr] 57)).heap.size := by simp
  obtain ⟨W, hW⟩ : ∃ W, w.alloc (.cells #[.int .u8 8, .int .i64 s.f, .int .i64 s.m, .int .i64 f.ch, .int .i64 f.ix, .int .i64 f.cl, .int .i64 f.mn, .bool f.fr, .int .i64 f.at_, .int .i64 f.ty, .int .i64 f.sz, .int .u64 f.sr] 57) = W := ⟨_, rfl⟩
  rw [hW] at HX hsz e0 e8
  have HSZ := hid_ hsz
  clear h ha hs hf hsz
  go_enter Try.func35, Try.ntmps35
  go_wp2_with (go_at_call 92; go_loud (refine (name_c f.at_ _ HX.out.both.t).mono ?_; rintro e w2 ⟨rfl, hr⟩; obtain ⟨wv2, gv2, hx2⟩ := HX.out.sT hr; have HX2 := hid_ hx2; have c5 := hx2.both.r.c5; have c6 := hx2.both.r.c6; have z5 := hx2.both.r.fz 5; have z6 := hx2.both.r.fz 6; clear hr hx2))
  go_ret
  have h3 := HX2.out.set 5 (vz f.at_) (HX2.out.both.r.set 5 (vz f.at_) { R with root := f.at_ } rfl rfl rfl rfl)
  exact ⟨rfl, PE.of (h3.set 6 (.bool true) (h3.both.r.set 6 (.bool true) { R with root := f.at_, is := true } rfl rfl rfl rfl)) (al_name HA.out f.at_)⟩

set_option maxHeartbeats 8000000 in
set_option maxRecDepth 100000 in
theorem do_kd {w0 : World} {tb mb rb n k : Nat} {wv gv rwv rfv rgv : Value} {T R : TS} (s : Sp) (f : Ob) (w : World) (h : PB w0 w tb mb rb n wv gv rwv rfv rgv T R) (ha : Alike k n T R) (_ : k ≤ 50) (hs : Small s) (hf : f.Ok) (kk : Int) (d0 : (kk == 0) = false) (d1 : (kk == 1) = false) (d2 : (kk == 2) = false) (d3 : (kk == 3) = false) (d4 : (kk == 4) = false) (d5 : (kk == 5) = false) (d6 : (kk == 6) = false) (d7 : (kk == 7) = false) (d8 : (kk == 8) = false) :
    Calls Try.prog 35 #[.pointer (some ⟨tb, 0, none⟩), .pointer (some ⟨rb, 0, none⟩), .agg #[.int .u8 kk, .int .i64 s.f, .int .i64 s.m, .int .i64 f.ch, .int .i64 f.ix, .int .i64 f.cl, .int .i64 f.mn, .bool f.fr, .int .i64 f.at_, .int .i64 f.ty, .int .i64 f.sz, .int .u64 f.sr]] w fun e w' => e = .returned (.bool true) ∧ PE w0 tb mb rb (k + 1) w' := by
  have HA := hid_ ha
  have HS := hid_ hs
  have HF := hid_ hf
  have H0 := hid_ h
  have HX := hid_ (h.mono (balloc' w (.cells #[.int .u8 kk, .int .i64 s.f, .int .i64 s.m, .int .i64 f.ch, .int .i64 f.ix, .int .i64 f.cl, .int .i64 f.mn, .bool f.fr, .int .i64 f.at_, .int .i64 f.ty, .int .i64 f.sz, .int .u64 f.sr] 57)))
  have e0 : (w.alloc (.cells #[.int .u8 kk, .int .i64 s.f, .int .i64 s.m, .int .i64 f.ch, .int .i64 f.ix, .int .i64 f.cl, .int .i64 f.mn, .bool f.fr, .int .i64 f.at_, .int .i64 f.ty, .int .i64 f.sz, .int .u64 f.sr] 57)).cell? ⟨w.heap.size, 0, none⟩ = some (.int .u8 kk) := cell_new 0 rfl
  have e8 : (w.alloc (.cells #[.int .u8 kk, .int .i64 s.f, .int .i64 s.m, .int .i64 f.ch, .int .i64 f.ix, .int .i64 f.cl, .int .i64 f.mn, .bool f.fr, .int .i64 f.at_, .int .i64 f.ty, .int .i64 f.sz, .int .u64 f.sr] 57)).cell? ⟨w.heap.size, 8, none⟩ = some (.int .i64 f.at_) := cell_new 8 rfl
  have hsz : w.heap.size < (w.alloc (.cells #[.int .u8 kk, .int .i64 s.f, .int .i64 s.m, .int .i64 f.ch, .int .i64 f.ix, .int .i64 f.cl, .int .i64 f.mn, .bool f.fr, .int .i64 f.at_, .int .i64 f.ty, .int .i64 f.sz, .int .u64 f.sr] 57)).heap.size := by simp
  obtain ⟨W, hW⟩ : ∃ W, w.alloc (.cells #[.int .u8 kk, .int .i64 s.f, .int .i64 s.m, .int .i64 f.ch, .int .i64 f.ix, .int .i64 f.cl, .int .i64 f.mn, .bool f.fr, .int .i64 f.at_, .int .i64 f.ty, .int .i64 f.sz, .int .u64 f.sr] 57) = W := ⟨_, rfl⟩
  rw [hW] at HX hsz e0 e8
  have HSZ := hid_ hsz
  clear h ha hs hf hsz
  go_enter Try.func35, Try.ntmps35
  go_wp2
  go_ret
  exact ⟨rfl, PE.of HX.out HA.out.up⟩

theorem do20_c {w0 : World} {tb mb rb k : Nat} (o : O20) (w : World) (h : PE w0 tb mb rb k w) (hk : k ≤ 50) (hs : Small o.s) (hf : o.f.Ok) :
    Calls Try.prog 35 #[.pointer (some ⟨tb, 0, none⟩), .pointer (some ⟨rb, 0, none⟩), .agg #[.int .u8 o.k, .int .i64 o.s.f, .int .i64 o.s.m, .int .i64 o.f.ch, .int .i64 o.f.ix, .int .i64 o.f.cl, .int .i64 o.f.mn, .bool o.f.fr, .int .i64 o.f.at_, .int .i64 o.f.ty, .int .i64 o.f.sz, .int .u64 o.f.sr]] w fun e w' => e = .returned (.bool true) ∧ PE w0 tb mb rb (k + 1) w' := by
  obtain ⟨n, wv, gv, rwv, rfv, rgv, T, R, hp, ha⟩ := h.ex
  obtain ⟨kk, s, f⟩ := o
  by_cases c0 : kk = 0
  · subst c0; exact do_k0 s f w hp ha hk hs hf
  by_cases c1 : kk = 1
  · subst c1; exact do_k1 s f w hp ha hk hs hf
  by_cases c2 : kk = 2
  · subst c2; exact do_k2 s f w hp ha hk hs hf
  by_cases c3 : kk = 3
  · subst c3; exact do_k3 s f w hp ha hk hs hf
  by_cases c4 : kk = 4
  · subst c4; exact do_k4 s f w hp ha hk hs hf
  by_cases c5 : kk = 5
  · subst c5; exact do_k5 s f w hp ha hk hs hf
  by_cases c6 : kk = 6
  · subst c6; exact do_k6 s f w hp ha hk hs hf
  by_cases c7 : kk = 7
  · subst c7
    cases hq : freedB T f.at_ with
    | true => exact do_k7t s f w hp ha hk hs hf hq
    | false => exact do_k7f s f w hp ha hk hs hf hq
  by_cases c8 : kk = 8
  · subst c8; exact do_k8 s f w hp ha hk hs hf
  exact do_kd s f w hp ha hk hs hf kk (by simpa using c0) (by simpa using c1) (by simpa using c2) (by simpa using c3) (by simpa using c4) (by simpa using c5) (by simpa using c6) (by simpa using c7) (by simpa using c8)
end Go.Proofs.Ytncdkbhkjamdpaa
