/- The reference's device of chapter 03 in memory: a slice of words of five cells, written in place. Its small methods. -/
import Derived.Test.YtncdkbhkjamdpaaDP
import Derived.StillTailTactics
namespace Go.Proofs.Ytncdkbhkjamdpaa
open Go.RowKit Go.Maps

def Wd.enc (x : Wd) : List Value := [vu x.l, vu x.c, vu x.s, .bool x.d, .bool x.f]
theorem Wd.enc_len (x : Wd) : x.enc.length = 5 := rfl
abbrev RdW (w : World) (v : Value) (l : List Wd) : Prop := Rd 5 Wd.enc w v l
theorem flat_set {α : Type} {enc : α → List Value} {k : Nat} (hk : ∀ a, (enc a).length = k) : ∀ (l : List α) (q r : Nat) (a a' : α) (u : Value), l[q]? = some a → r < k → (enc a).set r u = enc a' → (flat enc l).set (q * k + r) u = flat enc (l.set q a')
  | [], q, r, a, a', u, h, _, _ => by simp at h
  | x :: l, 0, r, a, a', u, h, hr, he => by
    obtain rfl : x = a := by simpa using h
    simp only [flat, List.flatMap_cons, List.set_cons_zero, Nat.zero_mul, Nat.zero_add]
    rw [List.set_append, if_pos (by rw [hk]; exact hr), he]
  | x :: l, q + 1, r, a, a', u, h, hr, he => by
    have ih := flat_set hk l q r a a' u (by simpa using h) hr he
    simp only [flat, List.flatMap_cons, List.set_cons_succ] at ih ⊢
    rw [List.set_append, if_neg (by rw [hk, Nat.succ_mul]; omega), hk, show (q + 1) * k + r - k = q * k + r by rw [Nat.succ_mul]; omega, ih]
def RS.row (R : RS) (sb cp : Nat) : Array Value := #[.slice (some ⟨sb, 0, none⟩) R.L.length cp, vz R.fuse, .bool R.dead, vz R.steps]
structure RDev (w : World) (rb sb cp : Nat) (R : RS) : Prop where
  blk : w.heap[rb]? = some (.cells (R.row sb cp) 114 (0, 0))
  own : w.ownsRow 0 163 5 (.slice (some ⟨sb, 0, none⟩) R.L.length cp) R.L.length (flat Wd.enc R.L)
  ne : rb ≠ sb
structure RS.Ok (R : RS) : Prop where
  len : 1 ≤ R.L.length ∧ R.L.length ≤ 65536
  fuse : 0 ≤ R.fuse ∧ R.fuse ≤ 9000000000000000000
  steps : 0 ≤ R.steps ∧ R.steps ≤ 1000000000000000
section
variable {w : World} {rb sb cp : Nat} {R : RS}
theorem RDev.c0 (h : RDev w rb sb cp R) : w.cell? ⟨rb, 0, none⟩ = some (.slice (some ⟨sb, 0, none⟩) R.L.length cp) := cell_blk h.blk rfl
theorem RDev.c1 (h : RDev w rb sb cp R) : w.cell? ⟨rb, 1, none⟩ = some (vz R.fuse) := cell_blk h.blk rfl
theorem RDev.c2 (h : RDev w rb sb cp R) : w.cell? ⟨rb, 2, none⟩ = some (.bool R.dead) := cell_blk h.blk rfl
theorem RDev.c3 (h : RDev w rb sb cp R) : w.cell? ⟨rb, 3, none⟩ = some (vz R.steps) := cell_blk h.blk rfl
theorem RDev.fz (h : RDev w rb sb cp R) (j : Nat) : w.frozen? ⟨rb, j, none⟩ = false := frozen_blk h.blk
theorem RDev.mono {w' : World} (h : RDev w rb sb cp R) (hb : Below w.heap.size w w') : RDev w' rb sb cp R := ⟨hmono hb h.blk, ownsRow_below h.own hb, h.ne⟩
theorem RDev.lt (h : RDev w rb sb cp R) : rb < w.heap.size := (Array.getElem?_eq_some_iff.1 h.blk).1
theorem RDev.bnd (h : RDev w rb sb cp R) : sb < w.heap.size := (h.own.lt sb rfl).2
theorem RDev.cap (h : RDev w rb sb cp R) : R.L.length ≤ cp ∧ cp ≤ 9223372036854775807 := by
  rcases h.own.2 with ⟨e, _⟩ | ⟨g, cap, cur, e, _, _, h1, h2, _⟩
  · cases e
  · injection e with _ _ e
    subst e
    exact ⟨h1, by simp only [maxLen] at h2; omega⟩
theorem RDev.fr {w' : World} {bs : List Nat} (h : RDev w rb sb cp R) (hf : Fr bs w w') (h1 : rb ∉ bs) (h2 : sb ∉ bs) : RDev w' rb sb cp R :=
  ⟨(hf.block rb h.lt h1).trans h.blk, hf.own h.own (fun b hb => by simp [Value.ownBlock] at hb; subst hb; exact h2), h.ne⟩
/-- A cell of the struct is written. -/
theorem RDev.set (h : RDev w rb sb cp R) (j : Nat) (v : Value) (R' : RS) (he : (R.row sb cp).setIfInBounds j v = R'.row sb cp) (hl : R'.L = R.L) : RDev (w.setCell ⟨rb, j, none⟩ v) rb sb cp R' := by
  refine ⟨?_, ?_, h.ne⟩
  · rw [← he]; exact heap_setCell_same w rb j _ 114 v h.blk
  · rw [hl]
    exact ownsRow_setCell_other h.own (by simpa [Value.ownBlock] using h.ne.symm) _
/-- A cell of a word. -/
theorem RDev.wcell (h : RDev w rb sb cp R) {i : Nat} {x : Wd} (hi : R.L[i]? = some x) : w.cell? ⟨sb, i * 5, none⟩ = some (vu x.l) ∧ w.cell? ⟨sb, i * 5 + 1, none⟩ = some (vu x.c) ∧ w.cell? ⟨sb, i * 5 + 2, none⟩ = some (vu x.s) ∧ w.cell? ⟨sb, i * 5 + 3, none⟩ = some (.bool x.d) ∧ w.cell? ⟨sb, i * 5 + 4, none⟩ = some (.bool x.f) := by
  obtain ⟨hlt, rfl⟩ := List.getElem?_eq_some_iff.1 hi
  have hl : (flat Wd.enc R.L).length = R.L.length * 5 := flat_length Wd.enc_len R.L
  have hg : ∀ r u, (Wd.enc R.L[i])[r]? = some u → w.cell? ⟨sb, i * 5 + r, none⟩ = some u := by
    intro r u hu
    have hr : r < 5 := (List.getElem?_eq_some_iff.1 hu).1
    rw [h.own.cellAt (i * 5 + r) (by omega)]
    exact flat_get Wd.enc_len R.L i hlt r u hu
  exact ⟨hg 0 _ rfl, hg 1 _ rfl, hg 2 _ rfl, hg 3 _ rfl, hg 4 _ rfl⟩
theorem RDev.wfz (h : RDev w rb sb cp R) (j : Nat) : w.frozen? ⟨sb, j, none⟩ = false := h.own.frozenAt j
theorem RDev.setW (h : RDev w rb sb cp R) {i r : Nat} {x : Wd} (u : Value) (x' : Wd) (hi : R.L[i]? = some x) (hr : r < 5) (he : (Wd.enc x).set r u = Wd.enc x') :
    RDev (w.setCell ⟨sb, i * 5 + r, none⟩ u) rb sb cp { R with L := R.L.set i x' } ∧ w.grownBy (w.setCell ⟨sb, i * 5 + r, none⟩ u) (some sb) := by
  obtain ⟨o1, g1⟩ := h.own.stored (i * 5 + r) u
  refine ⟨⟨?_, ?_, h.ne⟩, g1⟩
  · have := (g1.block rb h.lt (by simpa using h.ne)).trans h.blk
    simpa [RS.row] using this
  · rw [flat_set Wd.enc_len R.L i r x x' u hi hr he] at o1
    simpa using o1
end

/-! ### step, Load -/
set_option maxHeartbeats 1000000 in
theorem rstep_c {rb sb cp : Nat} {R : RS} (w : World) (h : RDev w rb sb cp R) (hR : R.Ok) :
    Calls Try.prog 130 #[.pointer (some ⟨rb, 0, none⟩)] w fun e w' => e = .returned (.bool (rstep R).1) ∧ RDev w' rb sb cp (rstep R).2 ∧ w.grownBy w' (some rb) := by
  have H := hid_ h
  have h1 := h.c1; have h2 := h.c2; have h3 := h.c3
  have z1 := h.fz 1; have z2 := h.fz 2; have z3 := h.fz 3
  obtain ⟨f1, f2⟩ := hR.fuse
  obtain ⟨s1, s2⟩ := hR.steps
  clear h hR
  cases hd : R.dead with
  | true =>
    have HQ : Hid (rstep R = (false, R)) := by show _ = _; rw [rstep, if_pos hd]
    rw [hd] at h2
    go_enter Try.func130, Try.ntmps130
    go_wp2
    go_ret
    rw [HQ.out]
    exact ⟨rfl, H.out, gb_refl _ _⟩
  | false =>
    rw [hd] at h2
    have HD := hid_ hd
    clear hd
    by_cases hf1 : R.fuse = 1
    · have HQ : Hid (rstep R = (false, { R with fuse := 0, dead := true })) := by show _ = _; rw [rstep, if_neg (by rw [HD.out]; decide), if_pos hf1]
      rw [hf1] at h1
      have HG : Hid (RDev ((w.setCell ⟨rb, 1, none⟩ (vz 0)).setCell ⟨rb, 2, none⟩ (.bool true)) rb sb cp { R with fuse := 0, dead := true }) :=
        ((H.out.set 1 (vz 0) { R with fuse := 0 } rfl rfl).set 2 (.bool true) _ rfl rfl)
      clear hf1
      go_enter Try.func130, Try.ntmps130
      go_wp2
      go_ret
      rw [HQ.out]
      exact ⟨rfl, HG.out, gb_trans (gb_setCell _ _ _) (gb_setCell _ _ _)⟩
    · have hne : (R.fuse == 1) = false := by simpa using hf1
      by_cases hf : 1 < R.fuse
      · have HQ : Hid (rstep R = (true, { R with fuse := R.fuse - 1, steps := R.steps + 1 })) := by show _ = _; rw [rstep, if_neg (by rw [HD.out]; decide), if_neg hf1, if_pos hf]
        have HG : Hid (RDev ((w.setCell ⟨rb, 1, none⟩ (vz (R.fuse - 1))).setCell ⟨rb, 3, none⟩ (vz (R.steps + 1))) rb sb cp { R with fuse := R.fuse - 1, steps := R.steps + 1 }) :=
          ((H.out.set 1 (vz (R.fuse - 1)) { R with fuse := R.fuse - 1 } rfl rfl).set 3 (vz (R.steps + 1)) _ rfl rfl)
        go_enter Try.func130, Try.ntmps130
        go_wp2
        go_ret
        rw [HQ.out]
        exact ⟨rfl, HG.out, gb_trans (gb_setCell _ _ _) (gb_setCell _ _ _)⟩
      · have HQ : Hid (rstep R = (true, { R with steps := R.steps + 1 })) := by show _ = _; rw [rstep, if_neg (by rw [HD.out]; decide), if_neg hf1, if_neg hf]
        have HG : Hid (RDev (w.setCell ⟨rb, 3, none⟩ (vz (R.steps + 1))) rb sb cp { R with steps := R.steps + 1 }) := H.out.set 3 (vz (R.steps + 1)) _ rfl rfl
        go_enter Try.func130, Try.ntmps130
        go_wp2
        go_ret
        rw [HQ.out]
        exact ⟨rfl, HG.out, gb_setCell _ _ _⟩
theorem rIs_split (R : RS) (k : Int) : (rIs R k = true ∧ ∃ (i : Nat) (x : Wd), k = i ∧ i < R.L.length ∧ R.L[i]? = some x ∧ rAt R k = x) ∨ (rIs R k = false ∧ (k < 0 ∨ (0 ≤ k ∧ (R.L.length : Int) ≤ k))) := by
  by_cases h0 : 0 ≤ k
  · by_cases h1 : k < R.L.length
    · left
      have hlt : k.toNat < R.L.length := by omega
      refine ⟨by simp [rIs, h0, h1], k.toNat, R.L[k.toNat], by omega, hlt, List.getElem?_eq_getElem hlt, ?_⟩
      rw [rAt, List.getElem?_eq_getElem hlt]; rfl
    · right
      exact ⟨by simp [rIs, h0]; omega, .inr ⟨h0, by omega⟩⟩
  · right
    exact ⟨by simp [rIs]; omega, .inl (by omega)⟩
set_option maxHeartbeats 1000000 in
theorem rload_c {rb sb cp : Nat} {R : RS} (k : Int) (w : World) (h : RDev w rb sb cp R) :
    Calls Try.prog 69 #[.pointer (some ⟨rb, 0, none⟩), vz k] w fun e w' => e = .returned (vu (rload R k)) ∧ Below w.heap.size w w' := by
  have h0 := h.c0
  have hcap := h.cap
  rcases rIs_split R k with ⟨hi, i, x, rfl, hlt, hx, hr⟩ | ⟨hi, hk | ⟨hk, hk2⟩⟩
  · obtain ⟨w0, w1, _, w3, _⟩ := h.wcell hx
    clear h
    cases hd : x.d with
    | true =>
      have HQ : Hid (rload R i = x.c) := by show _ = _; rw [rload, hi, hr, hd]; rfl
      rw [hd] at w3
      clear hx hr hi hd
      go_enter Try.func69, Try.ntmps69
      go_wp2
      go_ret
      exact ⟨by rw [HQ.out]; rfl, Below.refl _ _⟩
    | false =>
      have HQ : Hid (rload R i = x.l) := by show _ = _; rw [rload, hi, hr, hd]; rfl
      rw [hd] at w3
      clear hx hr hi hd
      go_enter Try.func69, Try.ntmps69
      go_wp2
      go_ret
      exact ⟨by rw [HQ.out]; rfl, Below.refl _ _⟩
  · have HQ : Hid (rload R k = 0) := by show _ = _; rw [rload, hi]; rfl
    clear h hi
    go_enter Try.func69, Try.ntmps69
    go_wp2
    go_ret
    exact ⟨by rw [HQ.out]; rfl, Below.refl _ _⟩
  · have HQ : Hid (rload R k = 0) := by show _ = _; rw [rload, hi]; rfl
    clear h hi
    go_enter Try.func69, Try.ntmps69
    go_wp2
    go_ret
    exact ⟨by rw [HQ.out]; rfl, Below.refl _ _⟩

/-! ### Store -/
structure RRes (w w' : World) (rb sb cp : Nat) (R : RS) : Prop where
  t : RDev w' rb sb cp R
  fr : Fr [rb, sb] w w'
theorem rstep_L (R : RS) : (rstep R).2.L = R.L := by
  unfold rstep; split
  · rfl
  · split
    · rfl
    · split <;> rfl
set_option maxHeartbeats 1000000 in
theorem rstore_c {rb sb cp : Nat} {R : RS} (k v : Int) (w : World) (h : RDev w rb sb cp R) (hR : R.Ok) :
    Calls Try.prog 112 #[.pointer (some ⟨rb, 0, none⟩), vz k, vu v] w fun e w' => e = .returned (.tuple #[]) ∧ RRes w w' rb sb cp (rstore R k v) := by
  have H := hid_ h
  have h0 := h.c0
  have hcap := h.cap
  rcases rIs_split R k with ⟨hi, i, x, rfl, hlt, hx, hr⟩ | ⟨hi, hk | ⟨hk, hk2⟩⟩
  · have HL := hid_ (rstep_L R)
    cases hst : (rstep R).1 with
    | false =>
      have HQ : Hid (rstore R i v = (rstep R).2) := by show _ = _; rw [rstore, hi, hst]; rfl
      have HST := hid_ hst
      clear h hi hst hx hr
      go_enter Try.func112, Try.ntmps112
      go_wp2_with (go_at_call 130; refine (rstep_c _ H.out hR).mono ?_; rintro e w2 ⟨rfl, ht, hg⟩; rw [HST.out]; have HT := hid_ ht; have HG := hid_ hg; clear ht hg)
      go_end0
      exact ⟨rfl, by rw [HQ.out]; exact HT.out, Fr.of_gb HG.out (by simp)⟩
    | true =>
      have HQ : Hid (rstore R i v = { (rstep R).2 with L := (R.L.set i { x with d := true }).set i { x with d := true, c := v } }) := by
        show _ = _
        rw [rstore, hi, hst, hr, List.set_set]; rfl
      have HST := hid_ hst
      have HX := hid_ hx
      obtain ⟨R1, hR1⟩ : ∃ R1, (rstep R).2 = R1 := ⟨_, rfl⟩
      have HR1 := hid_ hR1
      rw [hR1] at HQ HL
      clear h hi hst hx hr hR1
      go_enter Try.func112, Try.ntmps112
      go_upto_region 3 with (go_at_call 130; refine (rstep_c _ H.out hR).mono ?_; rintro e w2 ⟨rfl, ht, hg⟩; rw [HST.out]; rw [HR1.out] at ht; have HT := hid_ ht; have HG := hid_ hg; clear ht hg)
      have hX1 : R1.L[i]? = some x := by rw [HL.out]; exact HX.out
      have hlen : i < R1.L.length := (List.getElem?_eq_some_iff.1 hX1).1
      have d0 := HT.out.c0
      have hcap1 := HT.out.cap
      obtain ⟨_, _, _, w3, _⟩ := HT.out.wcell hX1
      have z3 := HT.out.wfz (i * 5 + 3)
      have HS1 := hid_ (HT.out.setW (r := 3) (.bool true) { x with d := true } hX1 (by decide) rfl)
      have hX2 : (R1.L.set i { x with d := true })[i]? = some { x with d := true } := by rw [List.getElem?_set]; simp [hlen]
      have e0 := HS1.out.1.c0
      obtain ⟨_, y1, _, _, _⟩ := HS1.out.1.wcell hX2
      have yz := HS1.out.1.wfz (i * 5 + 1)
      have HS2 := hid_ (HS1.out.1.setW (r := 1) (vu v) { x with d := true, c := v } hX2 (by decide) rfl)
      simp only [List.length_set] at e0
      clear hX1 hX2
      go_wp2
      go_end0
      refine ⟨rfl, ?_, ((Fr.of_gb HG.out (by simp)).trans (Fr.of_gb HS1.out.2 (by simp))).trans (Fr.of_gb HS2.out.2 (by simp))⟩
      rw [HQ.out, ← HL.out]
      exact HS2.out.1
  · have HQ : Hid (rstore R k v = R) := by show _ = _; rw [rstore, hi]; rfl
    clear h hi
    go_enter Try.func112, Try.ntmps112
    go_wp2
    refine bodyPost_ret (results_none rfl _ _ _) rfl ?_
    exact ⟨rfl, by rw [HQ.out]; exact H.out, Fr.refl _ _⟩
  · have HQ : Hid (rstore R k v = R) := by show _ = _; rw [rstore, hi]; rfl
    clear h hi
    go_enter Try.func112, Try.ntmps112
    go_wp2
    refine bodyPost_ret (results_none rfl _ _ _) rfl ?_
    exact ⟨rfl, by rw [HQ.out]; exact H.out, Fr.refl _ _⟩
end Go.Proofs.Ytncdkbhkjamdpaa
