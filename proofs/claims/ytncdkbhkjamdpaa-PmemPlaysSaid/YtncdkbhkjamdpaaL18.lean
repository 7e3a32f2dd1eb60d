/- The walk of the statement PmemPlays: it returns true. -/
import Derived.Test.YtncdkbhkjamdpaaE7
import Derived.Test.YtncdkbhkjamdpaaL16
namespace Go.Proofs.Ytncdkbhkjamdpaa
open Go.RowKit Go.Maps

structure RBd (R : RS) (N k : Nat) : Prop where
  len : R.L.length = N
  f0 : 0 ≤ R.fuse
  f1 : R.fuse ≤ 1099511627776
  s0 : 0 ≤ R.steps
  s1 : R.steps ≤ k
theorem RBd.ok {R : RS} {N k : Nat} (h : RBd R N k) (h1 : 1 ≤ N) (h2 : N ≤ 65536) (hk : k ≤ 1000) : R.Ok :=
  ⟨by rw [h.len]; omega, ⟨h.f0, by have := h.f1; omega⟩, ⟨h.s0, by have := h.s1; omega⟩⟩
theorem rstep_bd {R : RS} {N k : Nat} (h : RBd R N k) : RBd (rstep R).2 N (k + 1) := by
  obtain ⟨a, b, c, d, e⟩ := h
  unfold rstep
  split
  · exact ⟨a, b, c, d, by dsimp only; omega⟩
  · split
    · exact ⟨a, by dsimp only; omega, by dsimp only; omega, d, by dsimp only; omega⟩
    · split
      · exact ⟨a, by dsimp only; omega, by dsimp only; omega, by dsimp only; omega, by dsimp only; omega⟩
      · exact ⟨a, b, c, by dsimp only; omega, by dsimp only; omega⟩
theorem RBd.L {R : RS} {N k : Nat} (h : RBd R N k) {L : List Wd} (hL : L.length = N) : RBd { R with L := L } N k := ⟨hL, h.f0, h.f1, h.s0, h.s1⟩
theorem RBd.up {R : RS} {N k : Nat} (h : RBd R N k) : RBd R N (k + 1) := ⟨h.len, h.f0, h.f1, h.s0, by have := h.s1; omega⟩
theorem rdo_bd {R : RS} {N k : Nat} (h : RBd R N k) {o : O3} (ho : o.Small) : RBd (rdo R o) N (k + 1) := by
  have hs := rstep_bd h
  have hl := h.len
  unfold rdo
  split
  · unfold rstore
    split
    · split
      · exact hs.L (by rw [List.length_set]; exact hl)
      · exact hs
    · exact h.up
  · split
    · unfold rflush
      split
      · exact hs.L (by rw [upto_length]; exact hl)
      · exact hs
    · split
      · unfold rfence
        split
        · exact hs.L (by rw [upto_length]; exact hl)
        · exact hs
      · split
        · unfold revict
          split
          · split
            · refine hs.L ?_
              split
              · rw [List.length_set]; exact hl
              · exact hl
            · exact hs
          · exact h.up
        · split
          · have := ho.m2
            exact ⟨hl, by dsimp only; omega, by dsimp only; omega, h.s0, by have := h.s1; dsimp only; omega⟩
          · split
            · exact ⟨by rw [rcrash]; rw [upto_length]; exact hl, by simp [rcrash], by simp [rcrash], h.s0, by have := h.s1; simp only [rcrash]; omega⟩
            · exact h.up
theorem O3.Ok.mono {w w' : World} {o : O3} (h : o.Ok w) (hb : Below w.heap.size w w') : o.Ok w' := ⟨h.k0, h.rk.mono hb, h.by_, h.za, h.zm⟩
theorem O3.Ok.blk {w : World} {o : O3} (h : o.Ok w) {g : Nat} (hk : 0 < o.keep.length) (hg : o.kv.ownBlock = some g) : g < w.heap.size := by
  obtain ⟨A, c, e, _, _, _⟩ := id h.rk
  have hr := h.rk
  rw [e] at hr hg
  obtain ⟨b, p, rfl, h1⟩ := RdB.at hr (Below.refl _ _) hk
  simp [Value.ownBlock] at hg
  subst hg
  exact World.block_lt_of_cell? w _ h1
theorem sim_open (l : List Int) : Sim (newS l) ⟨openL l, 0, false, 0⟩ := by
  refine ⟨by simp [newS, openL], fun i x hx => ?_, fun k hk => (by cases hk), rfl, rfl, rfl, Int.le_refl _⟩
  simp only [openL, List.getElem?_map, Option.map_eq_some_iff] at hx
  obtain ⟨y, hy, rfl⟩ := hx
  exact ⟨y, hy, rfl, rfl, rfl⟩
theorem openL_bd (l : List Int) : RBd ⟨openL l, 0, false, 0⟩ l.length 0 := ⟨by simp [openL], Int.le_refl _, by dsimp only; omega, Int.le_refl _, Int.le_refl _⟩

/-- Both devices, in the loop. -/
structure P3 (w : World) (db lb cp rb sb cp2 N k : Nat) (mb n : Nat) (S : DS) (R : RS) (wr : World) : Prop where
  t : DevT wr db mb lb cp n S
  r : RDev wr rb sb cp2 R
  sim : Sim S R
  bd : RBd R N k
  n1 : n ≤ 1000 * k
  b : Below w.heap.size w wr
  hm : w.heap.size ≤ mb
  s1 : rb ∉ [db, mb, lb]
  s2 : sb ∉ [db, mb, lb]
structure P3R (w : World) (db lb cp rb sb cp2 N k : Nat) (wr : World) : Prop where
  ex : ∃ mb n S R, P3 w db lb cp rb sb cp2 N k mb n S R wr

theorem DevT.fr {w w' : World} {db mb lb cp n : Nat} {S : DS} {bs : List Nat} (h : DevT w db mb lb cp n S) (hf : Fr bs w w') (h1 : db ∉ bs) (h2 : mb ∉ bs) (h3 : lb ∉ bs) : DevT w' db mb lb cp n S :=
  ⟨(hf.block db h.lt h1).trans h.blk, hf.own h.own (fun b hb => by simp [Value.ownBlock] at hb; subst hb; exact h3), hf.om h.om h2, h.ne⟩
theorem P3.step {w : World} {db lb cp rb sb cp2 N k mb n : Nat} {S : DS} {R : RS} {wr w5 w6 : World} {o : O3} (h : P3 w db lb cp rb sb cp2 N k mb n S R wr) (hN : N ≤ 900) (hdb : w.heap.size ≤ db ∧ w.heap.size ≤ lb ∧ w.heap.size ≤ rb ∧ w.heap.size ≤ sb) (ho : o.Small)
    (hd : DoRes wr w5 db mb lb cp n R o) (hr : RDev w5 rb sb cp2 R → RRes w5 w6 rb sb cp2 (rdo R o)) : P3R w db lb cp rb sb cp2 N (k + 1) w6 := by
  obtain ⟨⟨mb2, n2, S2, ht, hs, hn2, hm2⟩, hf⟩ := hd
  have h5 := h.r.fr hf h.s1 h.s2
  have h6 := hr h5
  have hB5 : Below w.heap.size w w5 := hf.below h.b (by intro b hb; simp at hb; have := h.hm; rcases hb with rfl | rfl | rfl <;> omega)
  have l1 := h.r.lt; have l2 := h.r.bnd
  have s1 := h.s1; have s2 := h.s2
  have hm := h.hm
  have hsz := h.b.size
  simp only [List.mem_cons, List.not_mem_nil, or_false, not_or] at s1 s2
  have q : mb2 ≠ rb ∧ mb2 ≠ sb ∧ w.heap.size ≤ mb2 := by
    rcases hm2 with rfl | h7
    · exact ⟨fun e => s1.2.1 e.symm, fun e => s2.2.1 e.symm, hm⟩
    · omega
  have hl := h.bd.len
  refine ⟨mb2, n2, S2, _, ht.fr h6.fr ?_ ?_ ?_, h6.t, hs, rdo_bd h.bd ho, by have := h.n1; omega, h6.fr.below hB5 (by intro b hb; simp at hb; rcases hb with rfl | rfl <;> omega), q.2.2, ?_, ?_⟩
  · simp only [List.mem_cons, List.not_mem_nil, or_false, not_or]; exact ⟨fun e => s1.1 e.symm, fun e => s2.1 e.symm⟩
  · simp only [List.mem_cons, List.not_mem_nil, or_false, not_or]; exact ⟨q.1, q.2.1⟩
  · simp only [List.mem_cons, List.not_mem_nil, or_false, not_or]; exact ⟨fun e => s1.2.2 e.symm, fun e => s2.2.2 e.symm⟩
  · simp only [List.mem_cons, List.not_mem_nil, or_false, not_or]; exact ⟨s1.1, fun e => q.1 e.symm, s1.2.2⟩
  · simp only [List.mem_cons, List.not_mem_nil, or_false, not_or]; exact ⟨s2.1, fun e => q.2.1 e.symm, s2.2.2⟩
theorem P3.mono {w : World} {db lb cp rb sb cp2 N k mb n : Nat} {S : DS} {R : RS} {wr wr' : World} (h : P3 w db lb cp rb sb cp2 N k mb n S R wr) (hb : Below wr.heap.size wr wr') : P3 w db lb cp rb sb cp2 N k mb n S R wr' :=
  ⟨h.t.mono hb, h.r.mono hb, h.sim, h.bd, h.n1, btr h.b hb, h.hm, h.s1, h.s2⟩
theorem P3.below5 {w : World} {db lb cp rb sb cp2 N k mb n : Nat} {S : DS} {R : RS} {wr w5 : World} {o : O3} (h : P3 w db lb cp rb sb cp2 N k mb n S R wr) (hdb : w.heap.size ≤ db ∧ w.heap.size ≤ lb ∧ w.heap.size ≤ rb ∧ w.heap.size ≤ sb) (hd : DoRes wr w5 db mb lb cp n R o) :
    Below w.heap.size w w5 ∧ RDev w5 rb sb cp2 R := by
  refine ⟨hd.fr.below h.b (by intro b hb; simp at hb; have := h.hm; rcases hb with rfl | rfl | rfl <;> omega), h.r.fr hd.fr h.s1 h.s2⟩

set_option maxHeartbeats 16000000 in
set_option maxRecDepth 100000 in
theorem pmemPlays_walk (l : List Int) (m : List O3) (v u : Value) (w : World) (hv : RdU w v l) (hu : RdO3 w u m) (hok : ∀ o ∈ m, o.Ok w) :
    Calls Try.prog 18 #[v, u] w fun e w' => e = .returned (.bool true) ∧ Below w.heap.size w w' := by
  have HV := hid_ hv
  have HU := hid_ hu
  have HOK := hid_ hok
  clear hok
  obtain ⟨A, c, rfl, hl, hl', _⟩ := hv
  obtain ⟨A2, c2, rfl, hl2, hl2', _⟩ := hu
  by_cases hbad : l.length = 0 ∨ 30 < l.length
  · have key : ((l.length : Int) == 0) = true ∨ (((l.length : Int) == 0) = false ∧ 30 < l.length) := by
      by_cases h : l.length = 0
      · left; exact beq_iff_eq.2 (by omega)
      · right; exact ⟨beq_eq_false_iff_ne.2 (by omega), by omega⟩
    clear hbad
    rcases key with h0 | ⟨h0, h1⟩
    all_goals
      go_enter Try.func18, Try.ntmps18
      go_wp2_with (first
        | (go_at_call 54; refine (awake03_c _).mono ?_; rintro e w1 ⟨rfl, hb⟩; have B1 := hid_ hb; have HU1 := hid_ (HU.out.mono hb); have HOK1 : Hid (∀ o ∈ m, o.Ok w1) := (fun o ho => (HOK.out o ho).mono hb); clear hb)
        | (go_at_call 64; refine (few3_c m _ _ HU1.out HOK1.out).mono ?_; rintro e w2 ⟨rfl, rfl⟩))
      go_ret
      exact ⟨rfl, B1.out⟩
  · have h1 : 1 ≤ l.length := by omega
    have h2 : l.length ≤ 30 := by omega
    have h0 : ((l.length : Int) == 0) = false := beq_eq_false_iff_ne.2 (by omega)
    clear hbad
    cases hf : fewL m with
    | false =>
      have HF := hid_ hf
      clear hf
      go_enter Try.func18, Try.ntmps18
      go_wp2_with (first
        | (go_at_call 54; refine (awake03_c _).mono ?_; rintro e w1 ⟨rfl, hb⟩; have B1 := hid_ hb; have HU1 := hid_ (HU.out.mono hb); have HOK1 : Hid (∀ o ∈ m, o.Ok w1) := (fun o ho => (HOK.out o ho).mono hb); clear hb)
        | (go_at_call 64; refine (few3_c m _ _ HU1.out HOK1.out).mono ?_; rintro e w2 ⟨rfl, rfl⟩; rw [HF.out]))
      go_ret
      exact ⟨rfl, B1.out⟩
    | true =>
      have HF := hid_ hf
      have hfm : m.all few3 = true ∧ m.length ≤ 60 := by simpa [fewL] using hf
      have HSM : Hid (∀ o ∈ m, o.Small) := fun o ho => (few3_iff o).1 (List.all_eq_true.1 hfm.1 o ho)
      have hm60 := hfm.2
      clear hf hfm
      go_enter Try.func18, Try.ntmps18
      go_wp2_with (first
        | (go_at_call 54; refine (awake03_c _).mono ?_; rintro e w1 ⟨rfl, hb⟩; have B1 := hid_ hb; have HV1 := hid_ (HV.out.mono hb); have HU1 := hid_ (HU.out.mono hb); have HOK1 : Hid (∀ o ∈ m, o.Ok w1) := (fun o ho => (HOK.out o ho).mono hb); clear hb)
        | (go_at_call 64; refine (few3_c m _ _ HU1.out HOK1.out).mono ?_; rintro e w2 ⟨rfl, rfl⟩; rw [HF.out])
        | (go_at_call 55; refine (open_c l _ _ HV1.out h1 (by omega)).mono ?_; rintro e w3 ⟨db, mb, lb, cp, rfl, ht⟩; have HN := hid_ ht; have HV3 := hid_ (HV1.out.mono ht.b); clear ht)
        | (go_at_call 65; refine (ropen_c l _ _ HV3.out h1 (by omega)).mono ?_; rintro e w4 ⟨rb, sb, cp2, rfl, ht⟩; have HR := hid_ ht; clear ht))
      have hs1 := B1.out.size
      have hd1 := HN.out.h1; have hd2 := HN.out.h2; have hd3 := HN.out.h3
      have hlt1 := HN.out.t.lt; have hlt2 := HN.out.t.om.lt; have hlt3 := HN.out.t.bnd
      have hr1 := HR.out.h1; have hr2 := HR.out.h2
      have HP0 : Hid (P3 w db lb cp rb sb cp2 l.length 0 mb 0 (newS l) ⟨openL l, 0, false, 0⟩ w4) :=
        ⟨HN.out.t.mono HR.out.b, HR.out.t, sim_open l, openL_bd l, by omega, btr (btr B1.out HN.out.b) HR.out.b, by omega, by simp; omega, by simp; omega⟩
      have HDB : Hid (w.heap.size ≤ db ∧ w.heap.size ≤ lb ∧ w.heap.size ≤ rb ∧ w.heap.size ≤ sb) := ⟨by omega, by omega, by omega, by omega⟩
      clear hs1 hd1 hd2 hd3 hlt1 hlt2 hlt3 hr1 hr2
      go_loopw [10] (fun i wr => ∃ k : Nat, k ≤ m.length ∧ i = .int .i64 k ∧ P3R w db lb cp rb sb cp2 l.length k wr) (fun i _ => m.length - (intOf i).toNat)
      case atStart => exact ⟨0, Nat.zero_le _, rfl, mb, 0, _, _, HP0.out⟩
      case round =>
        obtain ⟨k, hk, rfl, ⟨mb', n, S, R, hP⟩⟩ := hrel
        have HP := hid_ hP
        clear hP HP0 HN HR
        by_cases hlt : k < m.length
        · have HC : Hid (∀ W, Below w.heap.size w W → ∃ b o, A2 = some ⟨b, o, none⟩ ∧ W.cell? ⟨b, o + k * 5, none⟩ = some (.int .u8 m[k].k) ∧ W.cell? ⟨b, o + k * 5 + 1, none⟩ = some (vz m[k].at_) ∧ W.cell? ⟨b, o + k * 5 + 2, none⟩ = some (vz m[k].many) ∧ W.cell? ⟨b, o + k * 5 + 3, none⟩ = some (vu m[k].v) ∧ W.cell? ⟨b, o + k * 5 + 4, none⟩ = some m[k].kv) := fun W hW => RdO3.at HU.out hW hlt
          have HO := hid_ (HOK.out _ (List.getElem_mem hlt))
          have HS := hid_ (HSM.out _ (List.getElem_mem hlt))
          have hRok := HP.out.bd.ok h1 (show l.length ≤ 65536 by omega) (by omega)
          have HROK := hid_ hRok
          have hn1 := HP.out.n1
          generalize m[k] = x at HC HO HS
          obtain ⟨b, o, rfl, e0, e1, e2, e3, e4⟩ := HC.out wr HP.out.b
          have HKB : Hid (∀ g, 0 < x.keep.length → x.kv.ownBlock = some g → g < w.heap.size) := fun g h1 h2 => HO.out.blk h1 h2
          have HKB1 : Hid (∀ g, 0 < x.keep.length → x.kv.ownBlock = some g → g ≠ lb) := fun g h1 h2 => by have := HKB.out g h1 h2; have := HDB.out; omega
          have HKB2 : Hid (∀ g, 0 < x.keep.length → x.kv.ownBlock = some g → g ∉ [rb, sb]) := fun g h1 h2 => by have := HKB.out g h1 h2; have := HDB.out; simp; omega
          obtain ⟨tl, htl⟩ : ∃ tl, rtell R x = tl := ⟨_, rfl⟩
          have HTL := hid_ htl
          clear htl hRok
          have hne : (tl != tl) = false := by simp
          go_upto_region 14 with (first
            | (go_at_call 66; go_loud (refine (do03_c x _ HP.out.t HP.out.sim HROK.out (by omega) (HO.out.mono HP.out.b) HS.out HKB1.out).mono ?_; rintro e w5 ⟨rfl, hd⟩; rw [HTL.out]; have HD := hid_ hd; have H5 := hid_ (HP.out.below5 HDB.out hd); obtain ⟨_, _, hbo, f0, f1, f2, f3, f4⟩ := HC.out w5 H5.out.1; injection hbo with hbo; injection hbo with hbo1 hbo2; subst hbo1 hbo2; clear hd))
            | (go_at_call 67; go_loud (refine (also03_c x _ H5.out.2 HROK.out (HO.out.mono H5.out.1) HS.out HKB2.out).mono ?_; rintro e w6 ⟨rfl, hr⟩; rw [HTL.out]; have HN6 := hid_ (HP.out.step (show l.length ≤ 900 by omega) HDB.out HS.out HD.out (fun _ => hr)); clear hr)))
          obtain ⟨mb2, n2, S2, R2, hP2⟩ := HN6.out.ex
          have HP2 := hid_ (hP2.mono (wr' := w6.drew) (Below.refl _ _).drew)
          clear hP2 e0 e1 e2 e3 e4 f0 f1 f2 f3 f4 hn1
          have g2 := HP2.out.r.c2
          have g3 := HP2.out.r.c3
          have hdd : (R2.dead != R2.dead) = false := by simp
          have hss : (R2.steps != R2.steps) = false := by simp
          have hn2 : n2 ≤ 1000000 := by have := HP2.out.n1; omega
          go_region_held3 (fun W' => W'.cell? ⟨rb, 2, none⟩ = some (.bool R2.dead) ∧ W'.cell? ⟨rb, 3, none⟩ = some (vz R2.steps))
            (exact ⟨g2, g3⟩)
            (first
              | (go_at_call 62; refine (dead_c _ HP2.out.t).mono ?_; rintro e w7 ⟨rfl, hb⟩; rw [HP2.out.sim.dead]; replace HP2 := hid_ (HP2.out.mono hb); replace g2 := cmono hb g2; replace g3 := cmono hb g3; clear hb)
              | (go_at_call 61; refine (steps_c _ HP2.out.t).mono ?_; rintro e w7 ⟨rfl, hb⟩; rw [HP2.out.sim.steps]; replace HP2 := hid_ (HP2.out.mono hb); replace g2 := cmono hb g2; replace g3 := cmono hb g3; clear hb)
              | (go_at_call 63; refine (dirty_c _ HP2.out.t (by omega)).mono ?_; rintro e w7 ⟨vx, ks, rfl, hk, _, hO, hb⟩; obtain rfl := hk.uniq (sim_keys HP2.out.sim); have RX := hid_ (RdI.own hO rfl); (try replace RY := hid_ (RY.out.mono hb)); replace HP2 := hid_ (HP2.out.mono hb); replace g2 := cmono hb g2; replace g3 := cmono hb g3; clear hb hO hk)
              | (go_at_call 68; refine (rdirty_c _ HP2.out.r (by rw [HP2.out.bd.len]; omega)).mono ?_; rintro e w7 ⟨vy, rfl, hO, hb⟩; have RY := hid_ (RdI.own hO rfl); (try replace RX := hid_ (RX.out.mono hb)); replace HP2 := hid_ (HP2.out.mono hb); replace g2 := cmono hb g2; replace g3 := cmono hb g3; clear hb hO)
              | (go_at_call 50; refine (ints_c _ _ _ _ _ RX.out RY.out).mono ?_; rintro e w7 ⟨rfl, hb⟩; rw [decide_eq_true rfl]; replace HP2 := hid_ (HP2.out.mono hb); replace g2 := cmono hb g2; replace g3 := cmono hb g3; clear hb))
          all_goals
            go_wp2
            go_roundw
            case rel => exact ⟨k + 1, by omega, by go_num, mb2, n2, S2, R2, HP2.out⟩
            case measure => simp [intOf]; omega
        · obtain rfl : k = m.length := by omega
          have hln := HP.out.bd.len
          have HLN := hid_ hln
          clear hln
          go_wp2
          go_loopw [13] (fun i wr2 => ∃ j : Nat, j ≤ l.length ∧ i = .int .i64 j ∧ Hid (P3 w db lb cp rb sb cp2 l.length m.length mb' n S R wr2)) (fun i _ => l.length - (intOf i).toNat)
          case atStart => exact ⟨0, Nat.zero_le _, rfl, HP.out⟩
          case round =>
            obtain ⟨j, hj, rfl, HQ⟩ := hrel
            by_cases hlt2 : j < l.length
            · have HZ : Hid (InZ j) := ⟨by omega, by omega⟩
              obtain ⟨tl, htl⟩ : ∃ tl, rload R j = tl := ⟨_, rfl⟩
              have HTL := hid_ htl
              have HTS : Hid (loadS S j = tl) := by show _ = _; rw [sim_load HP.out.sim, htl]
              clear htl
              have hne : (tl != tl) = false := by simp
              go_wp2_with (first
                | (go_at_call 58; refine (load_c (j : Int) _ HQ.out.t HZ.out).mono ?_; rintro e w7 ⟨rfl, hb⟩; rw [HTS.out]; replace HQ := hid_ (HQ.out.mono hb); clear hb)
                | (go_at_call 69; refine (rload_c (j : Int) _ HQ.out.r).mono ?_; rintro e w7 ⟨rfl, hb⟩; rw [HTL.out]; replace HQ := hid_ (HQ.out.mono hb); clear hb))
              go_roundw
              case rel => exact ⟨j + 1, by omega, by go_num, HQ.out⟩
              case measure => simp [intOf]; omega
            · have HIM : Hid (S.last = imageL R.L) := sim_image HQ.out.sim
              have HSL : Hid (S.last.length = l.length) := by show _ = _; rw [HQ.out.sim.len, HLN.out]
              have HSO := hid_ (sim_ok HQ.out.sim (HQ.out.bd.ok h1 (by omega) (by omega)))
              have hll : ((l.length : Int) == (l.length : Int)) = true := by simp
              go_wp2_with (first
                | (go_at_call 56; go_loud (refine (image_c _ HQ.out.t HSO.out).mono ?_; rintro e w7 ⟨vi, rfl, hO, hb⟩; have HI := hid_ (RdU.own (l := S.last) hO rfl); replace HQ := hid_ (HQ.out.mono hb); clear hO hb))
                | (go_at_call 70; go_loud (refine (rimage_c _ HQ.out.r (by rw [HLN.out]; omega)).mono ?_; rintro e w7 ⟨vj, rfl, hO, hb⟩; have HJ := hid_ (RdU.own (l := imageL R.L) hO rfl); replace HI := hid_ (HI.out.mono hb); replace HQ := hid_ (HQ.out.mono hb); clear hO hb))
                | (go_at_call 57; go_loud (refine (wordsEq_c S.last (imageL R.L) _ _ _ HI.out HJ.out).mono ?_; rintro e w7 ⟨rfl, hb⟩; rw [decide_eq_true HIM.out]; replace HQ := hid_ (HQ.out.mono hb); clear hb))
                | (go_at_call 60; go_loud (refine (words_c _ HQ.out.t).mono ?_; rintro e w7 ⟨rfl, hb⟩; rw [HSL.out]; replace HQ := hid_ (HQ.out.mono hb); clear hb)))
              go_ret
              exact ⟨rfl, HQ.out.b⟩
end Go.Proofs.Ytncdkbhkjamdpaa
