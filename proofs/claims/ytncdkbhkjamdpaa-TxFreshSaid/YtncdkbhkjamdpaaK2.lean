/- The walks of lock.Table's Held and Release, and of the reference's Ints. -/
import Derived.Test.YtncdkbhkjamdpaaK1
namespace Go.Proofs.Ytncdkbhkjamdpaa
open Go.RowKit Go.Maps

theorem info3 : (Try.prog.info? 3).map (fun i => (i.zero, i.size, i.bytes)) = some (some (.int .i64 0), 1, 8) := by kernel_rfl
def encI (x : Int) : List Value := [vz x]
theorem encI_len (x : Int) : (encI x).length = 1 := rfl
theorem flat_encI (l : List Int) : flat encI l = l.map vz := by
  induction l with
  | nil => rfl
  | cons a l ih => simp only [flat, List.flatMap_cons, List.map_cons] at ih ⊢; rw [ih]; rfl
abbrev RdI (w : World) (v : Value) (l : List Int) : Prop := Rd 1 encI w v l
theorem RdI.own {w : World} {base : Nat} {v : Value} {n : Nat} {l : List Int} (h : w.ownsRow base 3 1 v n (l.map vz)) (hn : n = l.length) : RdI w v l := by
  rw [← flat_encI] at h
  exact Rd.of_own encI_len h hn
theorem RdI.at {w wr : World} {A : Option Addr} {n c : Nat} {l : List Int} (h : RdI w (.slice A n c) l) (hb : Below w.heap.size w wr) {k : Nat} (hk : k < l.length) :
    ∃ b o, A = some ⟨b, o, none⟩ ∧ wr.cell? ⟨b, o + k, none⟩ = some (vz l[k]) := by
  obtain ⟨A', c', e, _, _, hc⟩ := h
  injection e with e1 e2 e3
  subst e1
  obtain ⟨b, o, ea, hh⟩ := hc k hk
  exact ⟨b, o, ea, cmono hb (by simpa using hh 0 _ rfl)⟩

section
variable {w : World} {ops : Array Oper} {rest : List Oper} {o : Oper} {a : Act} {Q : Exit → Act → World → Prop}
/-- 'delete(m, k)', at the operation. -/
theorem wpList_del (hg : o.guard = none) (m x : Operand) (t : TypeId) (hop : o.op = Op.call { callee := Callee.builtin Builtin.delete, args := #[m, x], argTypes := #[t, 3] })
    (e : TypeId) (ht : Try.prog.underlying t = some (.map 3 e)) (b n : Nat) (f : Int → Option Value) (hm : a.eval m = .map (some b)) (hown : OM w b n f) (k : Int) (hx : a.eval x = .int .i64 k) (hk : InZ k)
    (hK : ∀ w', OM w' b n (upd f k none) → w.mapTurned w' b → wpList Try.prog ops Q rest (a.put o.dst (.tuple #[])) w') :
    wpList Try.prog ops Q (o :: rest) a w := by
  refine wpList_plain hg fun K' hK' => ?_
  obtain ⟨w', hrun, r1, r2⟩ := hown.drop ht hk o.type
  unfold Oper.wp
  simp [execOp, hop, resolve, invoke, builtin, hm, hx, hrun, Result.andThen]
  exact hK' _ _ (hK w' r1 r2)
end

/-! ### Held -/
structure HeldOf (f : Int → Option Int) (a : Int) (hs : List Int) : Prop where
  up : hs.Pairwise (· < ·)
  mem : ∀ x, x ∈ hs ↔ f x = some a
theorem HeldOf.uniq {f : Int → Option Int} {a : Int} {x y : List Int} (ha : HeldOf f a x) (hb : HeldOf f a y) : x = y := by
  refine List.Perm.eq_of_pairwise (le := (· < ·)) (fun x y _ _ h1 h2 => by omega) ha.up hb.up ?_
  refine (List.perm_ext_iff_of_nodup (ha.up.imp fun h => by omega) (hb.up.imp fun h => by omega)).2 fun x => ?_
  rw [ha.mem, hb.mem]
def heldB (f : Int → Option Int) (a : Int) (x : Int) : Bool := decide (f x = some a)
theorem heldOf_filter {f : Int → Option Int} {a : Int} {ks : List Int} (h : KeysOf (fun k => (f k).map vz) ks) : HeldOf f a (ks.filter (heldB f a)) := by
  refine ⟨h.up.filter _, fun x => ?_⟩
  rw [List.mem_filter, h.mem]
  simp only [heldB, decide_eq_true_eq]
  constructor
  · exact fun h => h.2
  · intro h; exact ⟨by simp [h], h⟩
theorem filter_take {p : Int → Bool} {l : List Int} {k : Nat} (hk : k < l.length) : (l.take (k + 1)).filter p = (l.take k).filter p ++ (if p l[k] then [l[k]] else []) := by
  rw [List.take_add_one, List.getElem?_eq_getElem hk]
  simp only [Option.toList_some, List.filter_append, List.filter_cons, List.filter_nil]

set_option maxHeartbeats 4000000 in
set_option maxRecDepth 100000 in
theorem held_c (tb mb n : Nat) (f : Int → Option Int) (a : Int) (w : World) (h : Tab w tb mb n f) (hn : n ≤ 7000000000000) :
    Calls Try.prog 51 #[.pointer (some ⟨tb, 0, none⟩), vz a] w fun e w' => ∃ v hs, e = .returned v ∧ HeldOf f a hs ∧ hs.length ≤ n ∧ w'.ownsRow w.heap.size 3 1 v hs.length (hs.map vz) ∧ Below w.heap.size w w' := by
  have hc := h.cell
  have H := hid_ h
  clear h
  obtain ⟨i0, hi, hz0, hz1, hz2⟩ := info_parts info3
  have hI := hid_ hi; have hZ0 := hid_ hz0; have hZ1 := hid_ hz1; have hZ2 := hid_ hz2
  clear hi hz0 hz1 hz2
  go_enter Try.func51, Try.ntmps51
  go_wp2_with (first
    | (go_at_call 102; refine (keysL_c _ _).mono ?_; rintro e w1 ⟨rfl, rfl⟩)
    | (go_at_call 93; refine (sortedL_c mb n _ w H.out.om hn).mono ?_; rintro e w2 ⟨vk, ks, rfl, hK, hkl, hR, hb⟩; have HK := hid_ hK; have HR := hid_ (RdI.own hR rfl); have HB := hid_ hb; have HT := hid_ (H.out.mono hb); obtain ⟨A, c, rfl, hcl, hcl', _⟩ := id HR.out; clear hK hR hb))
  go_loopw [5, 15] (fun out i wr => ∃ k : Nat, k ≤ ks.length ∧ i = .int .i64 k ∧ Hid (wr.ownsRow w2.heap.size 3 1 out ((ks.take k).filter (heldB f a)).length (((ks.take k).filter (heldB f a)).map vz)) ∧ Below w2.heap.size w2 wr) (fun _ i _ => ks.length - (intOf i).toNat)
  case atStart => exact ⟨0, Nat.zero_le _, rfl, World.ownsRow_nil _ _ _ _, Below.refl _ _⟩
  case round =>
    obtain ⟨k, hk, rfl, HO, hB⟩ := hrel
    by_cases hlt : k < ks.length
    · obtain ⟨b, o, rfl, h1⟩ := RdI.at HR.out hB hlt
      have HT1 := hid_ (HT.out.mono hB)
      have hc1 := HT1.out.cell
      have hq := (HK.out.mem ks[k]).1 (List.getElem_mem hlt)
      have HIZ := hid_ (HT.out.om.inz _ hq)
      have HFT := hid_ (filter_take (p := heldB f a) hlt)
      obtain ⟨x, hx⟩ : ∃ x, ks[k] = x := ⟨_, rfl⟩
      rw [hx] at h1 hq HIZ HFT
      clear hx
      obtain ⟨ow, hf⟩ : ∃ ow, f x = some ow := by
        cases hf : f x with
        | none => rw [hf] at hq; cases hq
        | some ow => exact ⟨ow, rfl⟩
      have hl := HT1.out.om.look Try.underlying145 (Try.zeroValue3 wr) HIZ.out
      simp only [hf, Option.map_some, Option.getD_some] at hl
      have HF := hid_ hf
      clear hf hq
      by_cases ha : ow = a
      · have ha1 : (ow == a) = true := by simp [ha]
        have HP : Hid (heldB f a x = true) := by show _ = _; simp [heldB, HF.out, ha]
        rw [HP.out] at HFT
        go_wp2_with (at_builtin; refine wpList_append_own _ rfl _ _ 45 rfl w2.heap.size 3 i0 (vz 0) 1 8 Try.underlying45 hI.out hZ0.out hZ1.out hZ2.out rfl (by decide) _ _ _ rfl (HO.out.alloc _) ⟨wr.heap.size, 0, none⟩ 1 1 [vz x] rfl rfl ?c1 ?c2 ?c3 ?c4 ?c5 ?_; rotate_left 5; intro v' w3 hO1 hg1 _; have HO1 := hid_ hO1; have HG1 := hid_ hg1; clear hO1 hg1)
        case c2 => simp [Value.oneCell']
        case c3 => have := List.length_filter_le (heldB f a) (ks.take k); rw [List.length_take] at this; unfold maxLen; omega
        case c4 => have := List.length_filter_le (heldB f a) (ks.take k); rw [List.length_take] at this; omega
        case c5 => have := hB.size; simp; omega
        go_roundw
        case rel =>
          refine ⟨k + 1, by omega, by go_num, ?_, bgrown (balloc hB _) HG1.out fun k' hk' => (HO.out.lt k' hk').1⟩
          show World.ownsRow _ _ _ _ _ _ _
          rw [HFT.out]
          simpa using HO1.out
        case measure => simp [intOf]; omega
      · have ha1 : (ow == a) = false := by simp [ha]
        have HP : Hid (heldB f a x = false) := by show _ = _; simp [heldB, HF.out, ha]
        rw [HP.out] at HFT
        go_wp2
        go_roundw
        case rel =>
          refine ⟨k + 1, by omega, by go_num, ?_, hB⟩
          show World.ownsRow _ _ _ _ _ _ _
          rw [HFT.out]
          simpa using HO.out
        case measure => simp [intOf]; omega
    · obtain rfl : k = ks.length := by omega
      rw [List.take_length] at HO
      have HHO := hid_ (heldOf_filter (a := a) HK.out)
      have hfl := List.length_filter_le (heldB f a) ks
      go_wp2
      go_ret
      exact ⟨_, _, rfl, HHO.out, by omega, ownsRow_base HO.out HB.out.size, btr HB.out hB⟩

/-! ### Release -/
def relF (f : Int → Option Int) (a : Int) : Int → Option Int := fun x => if f x = some a then none else f x
def delL (f : Int → Option Int) (l : List Int) : Int → Option Int := fun x => if x ∈ l then none else f x
theorem delL_nil (f : Int → Option Int) : delL f [] = f := by funext x; simp [delL]
theorem delL_take (f : Int → Option Int) {l : List Int} {k : Nat} (hk : k < l.length) : updZ (delL f (l.take k)) l[k] none = delL f (l.take (k + 1)) := by
  funext x
  rw [List.take_add_one, List.getElem?_eq_getElem hk]
  simp only [updZ, delL, Option.toList_some, List.mem_append, List.mem_singleton]
  by_cases h1 : x = l[k] <;> by_cases h2 : x ∈ l.take k <;> simp [h1, h2]
theorem delL_held {f : Int → Option Int} {a : Int} {hs : List Int} (h : HeldOf f a hs) : delL f hs = relF f a := by
  funext x
  simp only [delL, relF, h.mem]

set_option maxHeartbeats 4000000 in
set_option maxRecDepth 100000 in
theorem release_c (tb mb n : Nat) (f : Int → Option Int) (a : Int) (w : World) (h : Tab w tb mb n f) (hn : n ≤ 7000000000000) :
    Calls Try.prog 46 #[.pointer (some ⟨tb, 0, none⟩), vz a] w fun e w' => ∃ hs, e = .returned (vz hs.length) ∧ HeldOf f a hs ∧ Tab w' tb mb n (relF f a) ∧ w.grownBy w' (some mb) := by
  have H := hid_ h
  clear h
  go_enter Try.func46, Try.ntmps46
  go_wp2_with (go_at_call 51; refine (held_c tb mb n f a _ H.out hn).mono ?_; rintro e w1 ⟨v, hs, rfl, hh, hhl, hO, hb⟩; have HH := hid_ hh; have HR := hid_ (RdI.own hO rfl); have HT := hid_ (H.out.mono hb); have HG0 := hid_ (gb_below hb (some mb)); obtain ⟨A, c, rfl, hcl, hcl', _⟩ := id HR.out; clear hh hO hb)
  go_loopw [5, 12] (fun m i wr => ∃ k : Nat, k ≤ hs.length ∧ i = .int .i64 k ∧ m = .int .i64 k ∧ Hid (Tab wr tb mb n (delL f (hs.take k)) ∧ w1.grownBy wr (some mb))) (fun _ i _ => hs.length - (intOf i).toNat)
  case atStart => exact ⟨0, Nat.zero_le _, rfl, rfl, by rw [List.take_zero, delL_nil]; exact ⟨HT.out, gb_refl _ _⟩⟩
  case round =>
    obtain ⟨k, hk, rfl, rfl, HA⟩ := hrel
    obtain ⟨ht, hg⟩ := HA.out
    have HTT := hid_ ht; have HG := hid_ hg
    clear ht hg HA
    by_cases hlt : k < hs.length
    · obtain ⟨b, o, rfl, h1⟩ := RdI.at (HR.out.keptM HT.out.om HG.out) (Below.refl _ _) hlt
      have hc1 := HTT.out.cell
      have hne : tb ≠ mb := map_ne HTT.out.om hc1
      have hfx := (HH.out.mem hs[k]).1 (List.getElem_mem hlt)
      have HIZ := hid_ (HT.out.om.inz hs[k] (by simp [hfx]))
      have HD := hid_ (delL_take f hlt)
      have HU := hid_ (upd_map (delL f (hs.take k)) hs[k] none)
      generalize hs[k] = x at h1 HIZ HD HU
      clear hfx
      go_wp2_with (at_delete; refine wpList_del rfl _ _ 145 rfl 3 Try.underlying145 mb n _ rfl HTT.out.om x rfl HIZ.out ?_; intro w2 ho hg; have HO2 := hid_ ho; have HG2 := hid_ hg.grown; clear ho hg)
      go_roundw
      case rel =>
        refine ⟨k + 1, by omega, by go_num, by go_num, ⟨gcell HG2.out hc1 hne, ?_⟩, gb_trans HG.out HG2.out⟩
        have := HO2.out
        rw [show (none : Option Value) = (none : Option Int).map vz from rfl, HU.out, HD.out] at this
        exact this
      case measure => simp [intOf]; omega
    · obtain rfl : k = hs.length := by omega
      rw [List.take_length, delL_held HH.out] at HTT
      go_wp2
      go_ret
      exact ⟨hs, rfl, HH.out, HTT.out, gb_trans HG0.out HG.out⟩

/-! ### Ints -/
set_option maxHeartbeats 1000000 in
theorem ints_c (x y : List Int) (v u : Value) (w : World) (hv : RdI w v x) (hu : RdI w u y) :
    Calls Try.prog 50 #[v, u] w fun e w' => e = .returned (.bool (decide (x = y))) ∧ Below w.heap.size w w' := by
  have HV := hid_ hv
  have HU := hid_ hu
  obtain ⟨A, c, rfl, hl, hl', _⟩ := hv
  obtain ⟨A2, c2, rfl, hl2, hl2', _⟩ := hu
  by_cases hlen : x.length = y.length
  · rw [← hlen] at HU hl2 ⊢
    have HL := hid_ hlen
    clear hlen
    go_enter Try.func50, Try.ntmps50
    go_wp2
    go_loopw [5] (fun i wr => ∃ k : Nat, k ≤ x.length ∧ i = .int .i64 k ∧ Hid (x.take k = y.take k) ∧ Below w.heap.size w wr) (fun i _ => x.length - (intOf i).toNat)
    case atStart => exact ⟨0, Nat.zero_le _, rfl, rfl, Below.refl _ _⟩
    case round =>
      obtain ⟨k, hk, rfl, hh, hB⟩ := hrel
      by_cases hlt : k < x.length
      · have hlt' : k < y.length := by rw [← HL.out]; exact hlt
        obtain ⟨b, o, rfl, h1⟩ := RdI.at HV.out hB hlt
        obtain ⟨b2, o2, rfl, h3⟩ := RdI.at HU.out hB hlt'
        have HN := hid_ hB
        have e1 := Ext.cell h1
        have e3 := Ext.cell h3
        have HT : Hid (x.take (k + 1) = x.take k ++ [x[k]]) := by rw [List.take_add_one, List.getElem?_eq_getElem hlt]; rfl
        have HT' : Hid (y.take (k + 1) = y.take k ++ [y[k]]) := by rw [List.take_add_one, List.getElem?_eq_getElem hlt']; rfl
        have HY : Hid (x = y → x[k] = y[k]) := fun h => by subst h; rfl
        generalize x[k] = s at *
        generalize y[k] = t at *
        have hlt'' := hlt'
        clear hlt'
        by_cases he : s = t
        · subst he
          have hne : (s != s) = false := by simp
          go_wp2
          refine wp_region_ext (by kernel_rfl) (by kernel_rfl) ?_
          repeat (first | go_big_quiet_skip | (go_big_quiet_want; go_big_quiet_op; first | go_big_quiet_on | (apply Exists.intro; refine ⟨fun _ => ?_, ?_⟩; (focus (fail)); go_big_quiet_on)))
          refine wpQuiet_nil ?_
          intro wq hw'
          obtain ⟨pq, rfl⟩ := hw'
          go_wp2
          go_roundw
          case rel => exact ⟨k + 1, by omega, by go_num, by show _ = _; rw [HT.out, HT'.out, hh.out], btr HN.out pq.h⟩
          case measure => simp [intOf]; omega
        · have hne : (s != t) = true := by simpa using he
          have HE := hid_ he
          clear he
          go_wp2
          refine wp_region_ext (by kernel_rfl) (by kernel_rfl) ?_
          repeat (first | go_big_quiet_skip | (go_big_quiet_want; go_big_quiet_op; first | go_big_quiet_on | (apply Exists.intro; refine ⟨fun _ => ?_, ?_⟩; (focus (fail)); go_big_quiet_on)))
          refine wpQuiet_nil ?_
          intro wq hw'
          obtain ⟨pq, rfl⟩ := hw'
          go_wp2
          go_ret
          exact ⟨by rw [decide_eq_false fun h => HE.out (HY.out h)]; rfl, btr HN.out pq.h⟩
      · go_wp2
        go_ret
        obtain rfl : k = x.length := by omega
        have := hh.out
        rw [List.take_length, HL.out, List.take_length] at this
        exact ⟨by rw [decide_eq_true this]; rfl, hB⟩
  · have hne : ((x.length : Int) == y.length) = false := by simp; omega
    have hne' : ((x.length : Int) != y.length) = true := by simp; omega
    have HL : Hid (¬ x = y) := fun h => hlen (by rw [h])
    go_enter Try.func50, Try.ntmps50
    go_wp2
    go_ret
    exact ⟨by rw [decide_eq_false HL.out]; rfl, Below.refl _ _⟩
end Go.Proofs.Ytncdkbhkjamdpaa
