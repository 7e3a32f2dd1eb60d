/- The walks of slices.AppendSeq, slices.Collect over span.gaps, and of span.Missing. -/
import Derived.Test.YtncdkbhkjamdpaaS10
import Derived.Maps.AppendAt
namespace Go.Proofs.Ytncdkbhkjamdpaa
open Go.RowKit

/-- Behind an append to a row of the call's own the slice lies in the row that it lay in, or in the newest block. -/
theorem append_block {P : Program} (w : World) (base : Nat) (t ty e : TypeId) (i : TypeInfo) (z : Value) (size bytes : Nat) (ht : P.underlying t = some (.slice e)) (hi : P.info? e = some i) (hz : i.zero = some z)
    (hsize : i.size = size) (hby : i.bytes = bytes)
    (v : Value) (n : Nat) (xs : List Value) (hown : w.ownsRow base e size v n xs)
    (a : Addr) (m c : Nat) (news : List Value) (hm : 0 < m) (hl : news.length = m * size) (hnews : ∀ j u, news[j]? = some u → w.cell? (a.add j) = some u) (h1 : ∀ u ∈ news, u.oneCell' = true)
    (h63 : n + m ≤ maxLen) (hbytes : (n + m) * bytes ≤ 140737488355328) {v' : Value} {w' : World} (hr : (Builtin.append_ #[t, t] ty #[v, .slice (some a) m c]).run P w = .ok v' w') :
    v'.ownBlock = v.ownBlock ∨ v'.ownBlock = some w.heap.size := by
  subst hsize
  subst hby
  have hsmall : n + m ≤ 9223372036854775807 := by simp only [maxLen] at h63; omega
  rcases hown.2 with ⟨rfl, rfl⟩ | ⟨g, cap, cur, rfl, hbg, hg, hnc, hcm, hcs, htake⟩
  · have hx := run_append_nil (P := P) w t ty e i z ht hi hz a m c news hl hnews (by omega) (by omega) (by have hb := hbytes; simp only [Nat.zero_add] at hb; omega)
    rw [hx] at hr
    injection hr with h1 h2
    subst h1
    exact .inr rfl
  · by_cases hroom : n + m ≤ cap
    · have hfit : n * i.size + news.length ≤ cur.size := by rw [hl, hcs, ← Nat.add_mul]; exact Nat.mul_le_mul_right _ hroom
      have hx := run_append_room (P := P) w t ty e i ht hi g n cap cur hg a m c news hl hnews h1 hroom hfit
      rw [hx] at hr
      injection hr with h1 h2
      subst h1
      exact .inl rfl
    · have holds : ∀ j u, xs[j]? = some u → w.cell? ((⟨g, 0, none⟩ : Addr).add j) = some u := hown.cells (g := g) rfl
      have hx := run_append_grow (P := P) w t ty e i z ht hi hz ⟨g, 0, none⟩ n cap xs hown.1 holds a m c news hl hnews (by omega) (by omega) (growslice_fits (by omega) hbytes)
      rw [hx] at hr
      injection hr with h1 h2
      subst h1
      exact .inr rfl

theorem wpListIn_append_own2 {F : Fence} {n : Nat} {P : Program} (w : World) {ops : Array Oper} {rest : List Oper} {o : Oper} {a : Act} {Q : Exit → Act → World → Prop}
    (hg : o.guard = none) (s x : Operand) (t : TypeId) (hop : o.op = Op.call { callee := Callee.builtin Builtin.append, args := #[s, x], argTypes := #[t, t] })
    (base : Nat) (e : TypeId) (i : TypeInfo) (z : Value) (size bytes : Nat) (h1 : P.underlying t = some (.slice e)) (h2 : P.info? e = some i) (h3 : i.zero = some z) (h4 : i.size = size) (h5 : i.bytes = bytes) (h6 : z.cells.size = size) (h7 : 0 < size)
    (v : Value) (k : Nat) (xs : List Value) (hs : a.eval s = v) (hown : w.ownsRow base e size v k xs) (ad : Addr) (m c : Nat) (news : List Value) (hx : a.eval x = .slice (some ad) m c) (hm : 0 < m) (hn : news.length = m * size)
    (hc : ∀ j u, news[j]? = some u → w.cell? (ad.add j) = some u) (h1c : ∀ u ∈ news, u.oneCell' = true) (b1 : k + m ≤ maxLen) (b2 : (k + m) * bytes ≤ 140737488355328) (b3 : base ≤ w.heap.size)
    (hK : ∀ v' w', w'.ownsRow base e size v' (k + m) (xs ++ news) → w.grownBy w' v.ownBlock → (v'.ownBlock = v.ownBlock ∨ v'.ownBlock = some w.heap.size) → wpListIn F n P ops Q rest (a.put o.dst v') w') :
    wpListIn F n P ops Q (o :: rest) a w := by
  refine wpListIn_plain hg fun K hK' => ?_
  obtain ⟨v', w', hrun, r1, r2, r3⟩ := run_append_own (P := P) w base t o.type e i z size bytes h1 h2 h3 h4 h5 h6 h7 v k xs hown ad m c news hn hc h1c b1 b2 b3
  have r4 := append_block (P := P) w base t o.type e i z size bytes h1 h2 h3 h4 h5 v k xs hown ad m c news hm hn hc h1c b1 b2 hrun
  unfold Oper.wpIn
  refine ⟨?_, ?_⟩
  · simp [Oper.about, hop, resolve, Target.leads, Sem.run_pure]
  · rw [Oper.semAt_plain F _ _ (by rw [hop]; intro c hc'; cases hc')]
    simp [execOp, hop, resolve, invoke, builtin, hs, hx, hrun, Result.andThen]
    exact hK' _ _ (hK v' w' r1 r2 r4)

attribute [local go_sem] Oper.semAt_some

/-- What the caller's own cells hold behind some rounds. -/
def SeqI (w : World) (pre : List Sp) (W : World) : Prop :=
  (∃ v, Boxed W w.heap.size 22 v ∧ W.ownsRow w.heap.size 25 2 v pre.length (flat Sp.enc pre) ∧ True) ∧ Below w.heap.size w W
theorem SeqI.own (w : World) (B : Nat) (hB : w.heap.size ≤ B) : OwnFrom B (SeqI w) :=
  OwnFrom.and (Own.from (holdsRow_own w.heap.size w.heap.size 22 25 2 (fun pre : List Sp => pre.length) (fun pre => flat Sp.enc pre) (fun _ _ => True)) _) (ownFrom_below (Nat.le_refl _) hB)

theorem rowOf_box {W : World} {B : Nat} {v : Value} (h : Boxed W B 22 v) : rowOf B W = v.ownBlock := by
  unfold rowOf; rw [h.cell]; rfl
theorem kpA_append {n₀ B base : Nat} {W w1 : World} {v v' : Value} {m : Nat} {ys : List Value} {tmp : Obj} (hn : n₀ ≤ base) (hb : Below base W (w1.setCell ⟨B, 0, none⟩ v'))
    (hv : Boxed W B 22 v) (hv2 : Boxed (w1.setCell ⟨B, 0, none⟩ v') B 22 v') (hown' : (w1.setCell ⟨B, 0, none⟩ v').ownsRow base 25 2 v' m ys) (hgrow : (W.alloc tmp).grownBy w1 v.ownBlock)
    (hk : v'.ownBlock = v.ownBlock ∨ v'.ownBlock = some (W.alloc tmp).heap.size) : KpA n₀ B W (w1.setCell ⟨B, 0, none⟩ v') := by
  refine ⟨hb.mono hn, fun i cs t fz hi hr hc => ?_, ?_, fun _ j hj => ?_⟩
  · have hlt := (Array.getElem?_eq_some_iff.1 hc).1
    rw [Below.heap_setCell _ _ _ _ (by exact hi), hgrow.block i (by simp; omega) (fun e => hr (by rw [rowOf_box hv]; exact e.symm)), Below.heap_alloc _ _ _ hlt]
    exact hc
  · rw [rowOf_box hv2, rowOf_box hv]
    rcases hk with h | h
    · exact .inl h
    · refine .inr fun j hj => ?_
      rw [h] at hj
      simp at hj
      omega
  · rw [rowOf_box hv2] at hj
    exact (hown'.lt j hj).2

set_option maxHeartbeats 4000000 in
set_option maxRecDepth 100000 in
theorem appendSeq_c (G : List Sp) (lb : Array Value) (n₀ : Nat) (w : World) (hn : n₀ ≤ w.heap.size) (hG : G.length ≤ 1000000)
    (hseq : SeqStopsK Fence.wide 2 Try.prog 120 lb encV (KpA n₀ w.heap.size) (fun xs => xs = G) (fun pre => pre <+: G) G.length (w.alloc (.cells #[.slice none 0 0] 22))) :
    Calls Try.prog 119 #[.slice none 0 0, .func (.func 120) #[] lb] w fun e w' => ∃ v', e = .returned v' ∧ w'.ownsRow w.heap.size 25 2 v' G.length (flat Sp.enc G) ∧ Below w.heap.size w w' := by
  obtain ⟨i0, hi, hz0, hz1, hz2⟩ := info_parts info25
  refine (callsIn_wide (n := 3)).1 ?_
  refine callsIn_of_wp_marks Try.func119 rfl trivial ?_ rfl
  simp only [Try.ntmps119, List.size_toArray, List.length_cons, List.length_nil, Nat.reduceAdd, Nat.reduceSub, Array.replicate_succ, Array.replicate_zero, List.push_toArray, List.append_toArray, List.nil_append, List.cons_append]
  gi_wp2
  have hsz : (w.alloc (.cells #[.slice none 0 0] 22)).heap.size = w.heap.size + 1 := by simp
  have hrow : rowOf w.heap.size (w.alloc (.cells #[.slice none 0 0] 22)) = none := by
    unfold rowOf; rw [cell_new (j := 0) (v := .slice none 0 0) rfl]; rfl
  refine wpIn_rangeFunc_ownH (F := Fence.wide) rfl (by omega) (gf := 120) (lb := lb) rfl trivial (enters_of Try.func120 (by kernel_rfl) rfl)
    hseq KpA.trans (kpA_b (by omega) (by omega)) (Below.refl _ _) (fun _ => rfl)
    (SeqI w) (fun _ _ _ => False) (SeqI.own w _ (by omega)) (fun _ _ _ _ _ hs _ _ => hs)
    ⟨⟨.slice none 0 0, Boxed.new _ _ _, World.ownsRow_nil _ _ _ _, trivial⟩, balloc' _ _⟩
    (fun x a' W => ∃ Bx, w.heap.size < Bx ∧ W.heap[Bx]? = some (.cells #[.int .i64 x.f, .int .i64 x.m] 25) ∧ a' = { tmps := #[.slice none 0 0, .func (.func 120) #[] lb, .pointer (some ⟨w.heap.size, 0, none⟩), undef, .slice none 0 0, .pointer (some ⟨Bx, 0, none⟩), .func (.func 120) #[] lb, .agg #[.int .i64 x.f, .int .i64 x.m], undef, undef, undef, undef, undef], defers := [] }) ?hAx ?assign ?body ?done ?stop
  case hAx =>
    rintro x a' s W W' row ⟨Bx, h1, h2, h3⟩ hg hr
    refine ⟨Bx, h1, (hg.block Bx (Array.getElem?_eq_some_iff.1 h2).1 (fun e => ?_)).trans h2, h3⟩
    obtain ⟨_, o, ho, hc⟩ := hr Bx e.symm
    rw [h2] at ho; cases ho; cases hc
  case assign =>
    rintro L pre x W K hi hK
    simp only [encV]
    gi_wp2
    obtain ⟨⟨v, hbx, hO, _⟩, hB⟩ := hi
    refine hK _ _ ((KeepsOthers.alloc _ _).from _) ?_ ⟨⟨v, hbx.alloc _, hO.alloc _, trivial⟩, balloc hB _⟩ ⟨W.heap.size, hbx.lt, heap_alloc_new W _, rfl⟩
    exact KpA.grow hbx.lt (fun k hk => by rw [rowOf_box hbx] at hk; exact (hO.lt k hk).2) (Nat.le_trans hn hB.size) (balloc' _ _)
  case body =>
    rintro L pre x a' W hL hr hi' ⟨Bx, g1, g2, rfl⟩ hlt
    obtain ⟨⟨v, hbx, hO, _⟩, hB⟩ := hi'
    have C1 := cell_blk g2 (j := 0) rfl
    have C2 := cell_blk g2 (j := 1) rfl
    have C3 := hbx.cell
    have HBX := hid_ hbx
    have HO := hid_ hO
    have HI := hid_ hi; have HZ0 := hid_ hz0; have HZ1 := hid_ hz1; have HZ2 := hid_ hz2
    clear hbx hO hr hi hz0 hz1 hz2
    gi_wp2_with (gi_at_builtin; refine wpListIn_append_own2 _ rfl _ _ 22 rfl w.heap.size 25 i0 (.agg #[.int .i64 0, .int .i64 0]) 2 16 Try.underlying22 HI.out HZ0.out HZ1.out HZ2.out rfl (by decide) _ _ _ rfl (HO.out.alloc _) ⟨W.heap.size, 0, none⟩ 1 1 [.int .i64 x.f, .int .i64 x.m] rfl (by omega) rfl ?c1 ?c2 ?c3 ?c4 ?c5 ?_; rotate_left 5; intro v' w1 hO1 hg1 hk1; obtain ⟨g', cap', rfl⟩ := ownsRow_succ hO1; obtain ⟨hv1, hv2, hr2, hk2, hb2⟩ := HBX.out.appended (by decide) HO.out hB.size (Nat.le_refl _) hO1 hg1; have hc1 := hv1.cell; have hf1 := hv1.frozen; have HK := hid_ (kpA_append hn hb2 HBX.out hv2 hr2 hg1 hk1); have HR2 := hid_ hr2; clear hO1 hg1 hk1 hr2)
    case c1 => exact cells_new _ _ _
    case c2 => simp [Value.oneCell']
    case c3 => unfold maxLen; omega
    case c4 => omega
    case c5 => have := hB.size; simp; omega
    refine ⟨hk2.from _, HK.out, ⟨⟨_, hv2, ?_, trivial⟩, hB.trans hb2⟩⟩
    rw [flat_append, flat_one, List.length_append]
    exact HR2.out
  case done =>
    rintro D ys W hD rfl ⟨⟨v, hbx, hO, _⟩, hB⟩ hK
    have C3 := hbx.cell
    obtain ⟨vA, vn, vc, hvs⟩ : ∃ a n c, v = .slice a n c := by
      rcases hO.2 with ⟨rfl, _⟩ | ⟨g, cap, cur, rfl, _⟩
      · exact ⟨_, _, _, rfl⟩
      · exact ⟨_, _, _, rfl⟩
    subst hvs
    gi_wp2
    refine ⟨by simp, .inl ⟨_, _, rfl, run_takeDeferred hK, ?_⟩⟩
    exact ⟨_, results_tmp rfl _ _ _, _, rfl, ownsRow_putObj hO _ hK rfl, hB.trans (belowK_b (w := w) (Nat.le_refl _) W D _ _ (by omega) hK rfl rfl)⟩
  case stop =>
    rintro D c pre W _ _ h _
    exact h.elim
set_option maxHeartbeats 1000000 in
theorem collect_c (G : List Sp) (lb : Array Value) (n₀ : Nat) (w : World) (hn : n₀ ≤ w.heap.size) (hG : G.length ≤ 1000000)
    (hseq : SeqStopsK Fence.wide 2 Try.prog 120 lb encV (KpA n₀ w.heap.size) (fun xs => xs = G) (fun pre => pre <+: G) G.length (w.alloc (.cells #[.slice none 0 0] 22))) :
    Calls Try.prog 82 #[.func (.func 120) #[] lb] w fun e w' => ∃ v', e = .returned v' ∧ w'.ownsRow w.heap.size 25 2 v' G.length (flat Sp.enc G) ∧ Below w.heap.size w w' := by
  have HC := hid_ (appendSeq_c G lb n₀ w hn hG hseq)
  clear hseq
  go_enter Try.func82, Try.ntmps82
  go_wp2_with (go_at_call 119; refine HC.out.mono ?_; rintro e w1 ⟨v', rfl, hO, hb⟩; have HO := hid_ hO; have HB := hid_ hb; clear hO hb)
  go_ret
  exact ⟨v', rfl, HO.out, HB.out⟩

theorem gapsL_len (l : List Sp) (s : Sp) : (gapsL l s).length ≤ l.length + 1 := by
  have h : ∀ (b : List Sp) (t : Int) (st : GapSt), (b.foldl (gapStep t) st).g.length ≤ st.g.length + b.length := by
    intro b t
    induction b with
    | nil => intro st; simp
    | cons x b ih =>
      intro st
      have h1 := ih (gapStep t st x)
      have h2 : (gapStep t st x).g.length ≤ st.g.length + 1 := by
        unfold gapStep
        dsimp only
        split
        · simp
        · omega
      simp only [List.foldl_cons, List.length_cons]
      omega
  have := h l (s.f + s.m) ⟨s.f, []⟩
  unfold gapsL
  split
  · simp only [List.length_append, List.length_cons, List.length_nil]
    simp only [List.length_nil] at this
    unfold gapGo
    omega
  · simp only [List.length_nil] at this
    unfold gapGo
    omega

set_option maxHeartbeats 1000000 in
set_option maxRecDepth 100000 in
theorem missing_c (l : List Sp) (s : Sp) (v : Value) (w : World) (hv : RdS w v l) (hb : BdL l) (hs : s.Bd) (hn : l.length ≤ 100000) :
    Calls Try.prog 30 #[v, .agg #[.int .i64 s.f, .int .i64 s.m]] w fun e w' => ∃ v', e = .returned v' ∧ w'.ownsRow w.heap.size 25 2 v' (gapsL l s).length (flat Sp.enc (gapsL l s)) ∧ Below w.heap.size w w' := by
  have HV := hid_ hv
  obtain ⟨A, c, rfl, hl, hl', _⟩ := hv
  have hlen := gapsL_len l s
  obtain ⟨Wc, hWc⟩ : ∃ Wc, Wc = ((w.alloc (.cells #[.int .i64 s.f, .int .i64 s.m] 25)).alloc (.cells #[.slice A l.length c] 22)).alloc (.cells #[.int .i64 s.f, .int .i64 s.m] 25) := ⟨_, rfl⟩
  have hsz : Wc.heap.size = w.heap.size + 3 := by rw [hWc]; simp
  have hB0 : Below w.heap.size w Wc := by rw [hWc]; exact balloc (balloc (balloc' _ _) _) _
  have hL : Wc.heap[w.heap.size + 1]? = some (.cells #[.slice A l.length c] 22) := by
    rw [hWc, Below.heap_alloc _ _ _ (by simp)]
    have := heap_alloc_new (w.alloc (.cells #[.int .i64 s.f, .int .i64 s.m] 25)) (.cells #[.slice A l.length c] 22)
    rwa [World.size_alloc] at this
  have hS : Wc.heap[w.heap.size + 2]? = some (.cells #[.int .i64 s.f, .int .i64 s.m] 25) := by
    rw [hWc]
    have := heap_alloc_new ((w.alloc (.cells #[.int .i64 s.f, .int .i64 s.m] 25)).alloc (.cells #[.slice A l.length c] 22)) (.cells #[.int .i64 s.f, .int .i64 s.m] 25)
    rwa [World.size_alloc, World.size_alloc] at this
  have hrow : rowOf Wc.heap.size (Wc.alloc (.cells #[.slice none 0 0] 22)) = none := by
    unfold rowOf; rw [cell_new (j := 0) (v := .slice none 0 0) rfl]; rfl
  have HC := hid_ (collect_c (gapsL l s) #[.pointer (some ⟨w.heap.size + 2, 0, none⟩), .pointer (some ⟨w.heap.size + 1, 0, none⟩)] w.heap.size Wc (by omega) (by omega)
    (gaps_stops l s (.slice A l.length c) w (Wc.alloc (.cells #[.slice none 0 0] 22)) HV.out hb hs (balloc hB0 _) (w.heap.size + 1) (w.heap.size + 2) Wc.heap.size (hmono (balloc' _ _) hL) (hmono (balloc' _ _) hS) (by simp) (by rw [hrow]; simp)))
  have HB0 := hid_ hB0
  have HWc := hid_ hWc
  have hle : w.heap.size ≤ Wc.heap.size := by omega
  clear hrow hS hL hB0 hWc hb hs
  go_enter Try.func30, Try.ntmps30
  go_wp2_with (first | (go_at_call 83; refine (gaps_c _ _ _ s _).mono ?_; rintro e w1 ⟨rfl, hw⟩; rw [← HWc.out] at hw; subst hw) | (go_at_call 82; refine HC.out.mono ?_; rintro e w2 ⟨v', rfl, hO, hb2⟩; have HO := hid_ hO; have HB2 := hid_ hb2; clear hO hb2))
  go_ret
  exact ⟨v', rfl, ownsRow_base HO.out hle, btr HB0.out HB2.out⟩
end Go.Proofs.Ytncdkbhkjamdpaa
