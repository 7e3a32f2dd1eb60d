/- The program's transaction (chapter 20): Noted, Gone, Freed, Free; slices.Index, slices.Contains, slices.Clone over numbers. -/
import Derived.Test.YtncdkbhkjamdpaaT3
import Derived.Laws.CopyOwn
namespace Go.Proofs.Ytncdkbhkjamdpaa
open Go.RowKit Go.Maps

/-- append, with the block that the new slice lies in. -/
theorem wpList_append_own2 {P : Program} (w : World) {ops : Array Oper} {rest : List Oper} {o : Oper} {a : Act} {Q : Exit → Act → World → Prop}
    (hg : o.guard = none) (s x : Operand) (t : TypeId) (hop : o.op = Op.call { callee := Callee.builtin Builtin.append, args := #[s, x], argTypes := #[t, t] })
    (base : Nat) (e : TypeId) (i : TypeInfo) (z : Value) (size bytes : Nat) (h1 : P.underlying t = some (.slice e)) (h2 : P.info? e = some i) (h3 : i.zero = some z) (h4 : i.size = size) (h5 : i.bytes = bytes) (h6 : z.cells.size = size) (h7 : 0 < size)
    (v : Value) (k : Nat) (xs : List Value) (hs : a.eval s = v) (hown : w.ownsRow base e size v k xs) (ad : Addr) (m c : Nat) (news : List Value) (hx : a.eval x = .slice (some ad) m c) (hm : 0 < m) (hn : news.length = m * size)
    (hc : ∀ j u, news[j]? = some u → w.cell? (ad.add j) = some u) (h1c : ∀ u ∈ news, u.oneCell' = true) (b1 : k + m ≤ maxLen) (b2 : (k + m) * bytes ≤ 140737488355328) (b3 : base ≤ w.heap.size)
    (hK : ∀ v' w', w'.ownsRow base e size v' (k + m) (xs ++ news) → w.grownBy w' v.ownBlock → (v'.ownBlock = v.ownBlock ∨ v'.ownBlock = some w.heap.size) → wpList P ops Q rest (a.put o.dst v') w') :
    wpList P ops Q (o :: rest) a w := by
  refine wpList_plain hg fun K hK' => ?_
  obtain ⟨v', w', hrun, r1, r2, r3⟩ := run_append_own (P := P) w base t o.type e i z size bytes h1 h2 h3 h4 h5 h6 h7 v k xs hown ad m c news hn hc h1c b1 b2 b3
  have r4 := append_block (P := P) w base t o.type e i z size bytes h1 h2 h3 h4 h5 v k xs hown ad m c news hm hn hc h1c b1 b2 hrun
  unfold Oper.wp
  simp [execOp, hop, resolve, invoke, builtin, hs, hx, hrun, Result.andThen]
  exact hK' _ _ (hK v' w' r1 r2 r4)

/-! ### Index, Contains -/
def IdxOf (l : List Int) (k : Int) (e : Ending) : Prop := ∃ r : Int, e = .returned (vz r) ∧ decide (0 ≤ r) = decide (k ∈ l) ∧ -1 ≤ r
set_option maxHeartbeats 1000000 in
theorem index_c (l : List Int) (v : Value) (k : Int) (w : World) (hv : RdI w v l) :
    Calls Try.prog 132 #[v, vz k] w fun e w' => IdxOf l k e ∧ w = w' := by
  have HV := hid_ hv
  obtain ⟨A, c, rfl, hl, hl', _⟩ := hv
  go_enter Try.func132, Try.ntmps132
  go_wp2
  go_loopw [8] (fun i wr => ∃ j : Nat, j ≤ l.length ∧ i = .int .i64 j ∧ Hid (k ∉ l.take j) ∧ wr = w) (fun i _ => l.length - (intOf i).toNat)
  case atStart => exact ⟨0, Nat.zero_le _, rfl, by simp [Hid], rfl⟩
  case round =>
    obtain ⟨j, hj, rfl, hh, rfl⟩ := hrel
    by_cases hlt : j < l.length
    · obtain ⟨b, o, rfl, h1⟩ := RdI.at HV.out (Below.refl _ _) hlt
      have HT : Hid (l.take (j + 1) = l.take j ++ [l[j]]) := by show _ = _; rw [List.take_add_one, List.getElem?_eq_getElem hlt]; rfl
      have HM := hid_ (List.getElem_mem hlt)
      generalize l[j] = x at h1 HT HM
      by_cases he : k = x
      · subst he
        have hkk : (k == k) = true := by simp
        have HI : Hid (IdxOf l k (.returned (vz j))) := ⟨j, rfl, by rw [decide_eq_true (show (0 : Int) ≤ j by omega), decide_eq_true HM.out], by omega⟩
        go_wp2
        go_ret
        exact ⟨HI.out, rfl⟩
      · have hkk : (k == x) = false := by simp [he]
        go_wp2
        go_roundw
        case rel => exact ⟨j + 1, by omega, by go_num, by show _ ∉ _; rw [HT.out]; simp only [List.mem_append, List.mem_singleton, not_or]; exact ⟨hh.out, he⟩, trivial⟩
        case measure => simp [intOf]; omega
    · obtain rfl : j = l.length := by omega
      have HI : Hid (IdxOf l k (.returned (vz (-1)))) := ⟨-1, rfl, by
        have := hh.out
        rw [List.take_length] at this
        rw [decide_eq_false this]; rfl, Int.le_refl _⟩
      go_wp2
      go_ret
      exact ⟨HI.out, rfl⟩
set_option maxHeartbeats 1000000 in
theorem contains_c (l : List Int) (v : Value) (k : Int) (w : World) (hv : RdI w v l) :
    Calls Try.prog 121 #[v, vz k] w fun e w' => e = .returned (.bool (decide (k ∈ l))) ∧ w = w' := by
  have HV := hid_ hv
  obtain ⟨A, c, rfl, _, _, _⟩ := hv
  go_enter Try.func121, Try.ntmps121
  go_wp2_with (go_at_call 132; refine (index_c l _ k _ HV.out).mono ?_; rintro e w1 ⟨hi, rfl⟩; obtain ⟨r, rfl, hr, hr2⟩ := hi; have HR := hid_ hr; clear hr)
  go_ret
  exact ⟨by rw [← HR.out]; rfl, rfl⟩

/-! ### Clone -/
set_option maxHeartbeats 1000000 in
set_option maxRecDepth 100000 in
theorem cloneI_c (l : List Int) (v : Value) (w : World) (hv : RdI w v l) (hn : l.length * 8 ≤ 140737488355328) :
    Calls Try.prog 95 #[v] w fun e w' => ∃ v', e = .returned v' ∧ w'.ownsRow w.heap.size 3 1 v' l.length (l.map vz) ∧ Below w.heap.size w w' := by
  have HV := hid_ hv
  obtain ⟨A, c, rfl, hl, hl', _⟩ := hv
  obtain ⟨i0, hi, hz0, hz1, hz2⟩ := info_parts info3
  have q : ∀ (w : World) (a : Option Addr) (n c n' c' : Nat), (binOp .eql 45 (.slice a n c) (.slice none n' c')).run Try.prog w = .ok (.bool a.isNone) w := fun w a n c n' c' => eql_nil w _ _ a n c n' c' Try.underlying45
  cases A with
  | none =>
    have h0 := Rd.none_nil HV.out
    subst h0
    go_enter Try.func95, Try.ntmps95
    go_wp2
    go_ret
    exact ⟨_, rfl, World.ownsRow_nil _ _ _ _, Below.refl _ _⟩
  | some a =>
    go_enter Try.func95, Try.ntmps95
    go_wp2_with (at_builtin; refine wpList_append_own _ rfl _ _ 45 rfl w.heap.size 3 i0 (vz 0) 1 8 Try.underlying45 hi hz0 hz1 hz2 rfl (by decide) _ _ _ rfl (World.ownsRow_made w #[] 0 (Nat.le_refl _) (Nat.zero_le _) rfl) a l.length c (flat encI l) rfl ?c1 ?c2 ?c3 ?c4 ?c5 ?c6 ?_)
    case c1 => exact flat_length encI_len l
    case c2 => exact fun j u hj => cell_old _ _ (Rd.cells encI_len HV.out j u hj)
    case c3 =>
      intro u hu
      obtain ⟨s, _, hs⟩ := List.mem_flatMap.1 hu
      simp [encI] at hs
      subst hs
      rfl
    case c4 => unfold maxLen; omega
    case c5 => omega
    case c6 => simp
    intro v' w1 hown hgrow hnil
    have HO := hid_ hown
    have HG := hid_ hgrow
    clear hown hgrow hnil
    go_wp2
    go_ret
    refine ⟨v', rfl, ?_, ?_⟩
    · rw [← flat_encI]
      simpa using HO.out
    · exact (balloc' w _).grown HG.out (by simp) (by intro k hk; simp [Value.ownBlock] at hk; omega)

theorem fr_go {w w' : World} {tb mb n : Nat} {wv gv : Value} {T : TS} (h : TxT w tb mb n wv gv T) (hg : w.grownBy w' gv.ownBlock) : w'.heap[tb]? = some (.cells #[wv, .map (some mb), vz T.depth, .bool T.bad, gv, vz T.root, .bool T.is] 65 (0, 0)) :=
  (hg.block tb h.lt (by have := own_ne_cells h.go h.blk (by decide); exact fun e => this e.symm)).trans h.blk
theorem Fr.of_row {bs : List Nat} {w w' : World} {row : Option Nat} (h : w.grownBy w' row) (hb : ∀ b, row = some b → b ∈ bs) : Fr bs w w' :=
  ⟨h.os, h.tape, h.output, h.size, fun k hk hr => h.block k hk (fun e => hr (hb k e.symm))⟩
theorem kept_row {w w' : World} {base base' : Nat} {e e' : TypeId} {k k' : Nat} {v u : Value} {n n' : Nat} {xs xs' : List Value} (h : w.ownsRow base e k v n xs) (h' : w.ownsRow base' e' k' u n' xs') (he : e ≠ e') (hg : w.grownBy w' u.ownBlock) : w'.ownsRow base e k v n xs := by
  cases hv : v.ownBlock with
  | none => exact h.kept hg (.inl hv)
  | some g => exact h.kept hg (.inr (by rw [hv]; exact fun e1 => own_ne h h' he hv e1.symm))
theorem TxT.growG {w w' : World} {tb mb n : Nat} {wv gv gv' : Value} {T : TS} (h : TxT w tb mb n wv gv T) (hg : w.grownBy w' gv.ownBlock) (l : List Int) (ho : w'.ownsRow 0 3 1 gv' l.length (l.map vz)) : TxT (w'.setCell ⟨tb, 4, none⟩ gv') tb mb n wv gv' { T with gone := l } := by
  have hb := fr_go h hg
  have hwo := kept_row h.wo h.go (by decide) hg
  have hom := h.om.kept hg (fun e => own_ne_map h.go h.om e.symm)
  refine ⟨?_, ?_, ?_, ?_⟩
  · have := heap_setCell_same w' tb 4 _ 65 gv' hb
    simpa using this
  · exact ownsRow_setCell_other hwo (own_ne_cells hwo hb (by decide)) _
  · exact hom.kept (gb_setCell w' ⟨tb, 4, none⟩ gv') (by have := h.tm; simpa using fun e => this e.symm)
  · exact ownsRow_setCell_other ho (own_ne_cells ho hb (by decide)) _
section
variable {tb mb n : Nat} {wv gv : Value} {T : TS}
set_option maxHeartbeats 1000000 in
theorem noted_c (w : World) (h : TxT w tb mb n wv gv T) (hn : T.words.length ≤ 100000) :
    Calls Try.prog 36 #[.pointer (some ⟨tb, 0, none⟩)] w fun e w' => ∃ v', e = .returned v' ∧ w'.ownsRow w.heap.size 25 2 v' T.words.length (flat Sp.enc T.words) ∧ Below w.heap.size w w' := by
  have hc := h.c0
  have H := hid_ h
  clear h
  go_enter Try.func36, Try.ntmps36
  go_wp2_with (go_at_call 78; refine (clone_c T.words _ _ H.out.rw_ (by omega)).mono ?_; rintro e w1 ⟨v', rfl, hO, hb⟩; have HO := hid_ hO; have HB := hid_ hb; clear hO hb)
  go_ret
  exact ⟨_, rfl, HO.out, HB.out⟩
set_option maxHeartbeats 1000000 in
theorem gone_c (w : World) (h : TxT w tb mb n wv gv T) (hn : T.gone.length ≤ 100000) :
    Calls Try.prog 38 #[.pointer (some ⟨tb, 0, none⟩)] w fun e w' => ∃ v', e = .returned v' ∧ w'.ownsRow w.heap.size 3 1 v' T.gone.length (T.gone.map vz) ∧ Below w.heap.size w w' := by
  have hc := h.c4
  have H := hid_ h
  clear h
  go_enter Try.func38, Try.ntmps38
  go_wp2_with (go_at_call 95; refine (cloneI_c T.gone _ _ H.out.rg (by omega)).mono ?_; rintro e w1 ⟨v', rfl, hO, hb⟩; have HO := hid_ hO; have HB := hid_ hb; clear hO hb)
  go_ret
  exact ⟨_, rfl, HO.out, HB.out⟩
set_option maxHeartbeats 1000000 in
theorem freed_c (k : Int) (w : World) (h : TxT w tb mb n wv gv T) :
    Calls Try.prog 85 #[.pointer (some ⟨tb, 0, none⟩), vz k] w fun e w' => e = .returned (.bool (freedB T k)) ∧ w = w' := by
  have hc := h.c4
  have H := hid_ h
  clear h
  go_enter Try.func85, Try.ntmps85
  go_wp2_with (go_at_call 121; refine (contains_c T.gone _ k _ H.out.rg).mono ?_; rintro e w1 ⟨rfl, rfl⟩)
  go_ret
  exact ⟨rfl, rfl⟩
set_option maxHeartbeats 1000000 in
set_option maxRecDepth 100000 in
theorem free_c (k : Int) (w : World) (h : TxT w tb mb n wv gv T) (hn : T.gone.length ≤ 100000) :
    Calls Try.prog 84 #[.pointer (some ⟨tb, 0, none⟩), vz k] w fun e w' => e = .returned (.bool (!freedB T k)) ∧ TRes w w' tb mb n wv gv (freeT T k) := by
  have H := hid_ h
  cases hf : freedB T k with
  | true =>
    have HF := hid_ hf
    have HQ : Hid (freeT T k = T) := by show _ = _; rw [freeT, hf]; rfl
    clear h hf
    go_enter Try.func84, Try.ntmps84
    go_wp2_with (go_at_call 85; refine (freed_c k _ H.out).mono ?_; rintro e w1 ⟨rfl, rfl⟩; rw [HF.out])
    go_ret
    exact ⟨rfl, by rw [HQ.out]; exact TRes.same H.out (Fr.refl _ _)⟩
  | false =>
    have HF := hid_ hf
    have HQ : Hid (freeT T k = { T with gone := T.gone ++ [k] }) := by show _ = _; rw [freeT, hf]; rfl
    have hc := h.c4
    obtain ⟨i0, hi, hz0, hz1, hz2⟩ := info_parts info3
    have hI := hid_ hi; have hZ0 := hid_ hz0; have hZ1 := hid_ hz1; have hZ2 := hid_ hz2
    clear hi hz0 hz1 hz2 h hf
    go_enter Try.func84, Try.ntmps84
    go_wp2_with (first
      | (go_at_call 85; refine (freed_c k _ H.out).mono ?_; rintro e w1 ⟨rfl, rfl⟩; rw [HF.out])
      | (at_builtin; refine wpList_append_own2 _ rfl _ _ 45 rfl 0 3 i0 (vz 0) 1 8 Try.underlying45 hI.out hZ0.out hZ1.out hZ2.out rfl (by decide) gv T.gone.length (T.gone.map vz) rfl (H.out.go.alloc _) ⟨w.heap.size, 0, none⟩ 1 1 [vz k] rfl (by decide) rfl ?c1 ?c2 ?c3 ?c4 (Nat.zero_le _) ?_; rotate_left 4; intro v' w3 hO1 hg1 hb1; obtain ⟨g, cap, rfl⟩ := own_form hO1 (Nat.succ_pos _); have HO1 := hid_ hO1; have HG1 := hid_ hg1; have HB1 := hid_ hb1; have HT0 := hid_ (H.out.mono (balloc' w (.cells #[vz k] 3))); have hbk := fr_go HT0.out hg1; have hc4 := cell_blk (j := 4) hbk rfl; have hz4 := frozen_blk (j := 4) hbk; have HBK := hid_ hbk; clear hO1 hg1 hb1 hbk))
    case c1 => exact cells_new _ _ _
    case c2 => simp [Value.oneCell']
    case c3 => unfold maxLen; omega
    case c4 => omega
    go_ret
    refine ⟨rfl, ⟨wv, .slice (some ⟨g, 0, none⟩) (T.gone.length + 1) cap, ?_, NewOr.refl _ _, ?_⟩, ?_⟩
    · rw [HQ.out]
      refine HT0.out.growG HG1.out (T.gone ++ [k]) ?_
      have := HO1.out
      simpa using this
    · intro b hb
      rcases HB1.out with h1 | h1
      · exact .inl (h1 ▸ hb)
      · right
        rw [h1] at hb
        injection hb with hb
        rw [← hb]
        simp
    · exact ((Fr.of_below (balloc' _ _)).trans (Fr.of_row HG1.out (fun b hb => by simp [tw, hb]))).trans (Fr.of_gb (gb_setCell _ ⟨tb, 4, none⟩ _) (tw_tb _ _ _))
end
end Go.Proofs.Ytncdkbhkjamdpaa
