/- The device of chapter 03: Flush. -/
import Derived.Test.YtncdkbhkjamdpaaD8
namespace Go.Proofs.Ytncdkbhkjamdpaa
open Go.RowKit Go.Maps

def flO (at_ many x : Int) (o : Option Dt) : Option Dt := match o with
  | some d => if at_ ≤ x ∧ x - at_ < many then some ⟨d.c, d.c, true⟩ else some d
  | none => none
def flushS (S : DS) (at_ many : Int) : DS := if (stepS S).1 then { (stepS S).2 with cache := fun x => flO at_ many x (S.cache x) } else (stepS S).2
/-- The datum reads as a function. -/
def Says (D : DataW Value) (f : Int → Option Value) : Prop := ∀ x, has D (.int .i64 x) = (f x).isSome ∧ ∀ v, f x = some v → ∀ z, D.atKey (.int .i64 x) z = .held v
theorem Says.put {D : DataW Value} {f : Int → Option Value} (h : Says D f) (hm : IsMap D) {k : Int} (hk : InZ k) (v : Value) : Says (D.put (.int .i64 k) (.held v)) (upd f k (some v)) := by
  intro x
  by_cases hx : x = k
  · subst hx
    rw [upd_same]
    refine ⟨has_put_same hm (key3.key (keyOf3 hk)) _, fun u hu z => ?_⟩
    obtain rfl : v = u := Option.some.inj hu
    exact atKey_put_same hm (key3.key (keyOf3 hk)) _ _
  · rw [upd_other hx, has_put_other (by simpa using hx)]
    exact ⟨(h x).1, fun u hu z => by rw [atKey_put_other (by simpa using hx)]; exact (h x).2 u hu z⟩

/-- A step of the range: a key, the cached word of it. -/
structure FlRel (w : World) (db mb lb cp n it : Nat) (S : DS) (at_ many : Int) (wr : World) : Prop where
  ex : ∃ (left : Lit → Bool) (cnt : Nat) (D : DataW Value), wr.ranges Try.prog 3 tokR mb it n D left cnt ∧ Says D (fun x => (if left (.int .i64 x) then S.cache x else flO at_ many x (S.cache x)).map Dt.enc)
  blk : wr.heap[db]? = some (.cells (S.row lb cp mb) 156 (0, 0))
  own : wr.ownsRow 0 51 1 (.slice (some ⟨lb, 0, none⟩) S.last.length cp) S.last.length (S.last.map vu)
  fr : Fr [db, mb, lb] w wr

theorem next_open {D : DataW Value} {left : Lit → Bool} {c : Int → Option Dt} {g : Int → Option Dt} (h : Says D (fun x => (if left (.int .i64 x) then c x else g x).map Dt.enc)) {x : Int} {v : Value} {kl : Lit} {y : DataW Value × List MemPlace}
    (hkey : keyOf Try.prog 3 (vz x) = some kl) (hl : left kl = true) (hv : tokR v = some y) (hat : ∀ zd, D.atKey kl zd = y.1) : kl = .int .i64 x ∧ InZ x ∧ ∃ d, c x = some d ∧ v = d.enc := by
  obtain ⟨x', e1, rfl, hw⟩ := Maps.keyOf_i64 Try.underlying3 hkey
  have e2 : x = x' := by injection e1
  subst e2
  refine ⟨rfl, inZ_of_wf hw, ?_⟩
  obtain ⟨s1, s2⟩ := h x
  rw [has_true_of_atKey hat] at s1
  simp only [hl, if_true] at s1 s2
  cases hc : c x with
  | none => rw [hc] at s1; cases s1
  | some d =>
    refine ⟨d, rfl, ?_⟩
    have := s2 d.enc (by rw [hc]; rfl) (.held v)
    rw [hat] at this
    simp only [Option.some.injEq] at hv
    rw [← hv] at this
    exact DataW.held.inj this
theorem Fr.gbn {bs : List Nat} {w w' w'' : World} {b : Nat} (h : Fr bs w w') (hg : w'.grownBy w'' (some b)) (hb : w.heap.size ≤ b) : Fr bs w w'' :=
  ⟨hg.os.trans h.os, hg.tape.trans h.tape, hg.output.trans h.output, Nat.le_trans h.size hg.size, fun k hk hr => (hg.block k (Nat.lt_of_lt_of_le hk h.size) (by intro e; injection e with e; omega)).trans (h.block k hk hr)⟩
theorem same_z (y x : Int) : (Lit.int .i64 y).sameKey (.int .i64 x) = decide (y = x) := by
  by_cases h : y = x <;> simp [Lit.sameKey, h]
theorem says_skip {D : DataW Value} {left : Lit → Bool} {c : Int → Option Dt} {at_ many x : Int} (h : Says D (fun y => (if left (.int .i64 y) then c y else flO at_ many y (c y)).map Dt.enc)) (hl : left (.int .i64 x) = true)
    (hno : ¬ (at_ ≤ x ∧ x - at_ < many)) : Says D (fun y => (if (left (.int .i64 y) && !(Lit.int .i64 y).sameKey (.int .i64 x)) then c y else flO at_ many y (c y)).map Dt.enc) := by
  have e : (fun y => (if (left (.int .i64 y) && !(Lit.int .i64 y).sameKey (.int .i64 x)) then c y else flO at_ many y (c y)).map Dt.enc) = (fun y => (if left (.int .i64 y) then c y else flO at_ many y (c y)).map Dt.enc) := by
    funext y
    rw [same_z]
    by_cases hy : y = x
    · subst hy
      simp only [hl, decide_true, Bool.not_true, Bool.and_false, Bool.false_eq_true, if_false, if_true]
      cases hc : c y with
      | none => rfl
      | some d => simp only [flO, if_neg hno]
    · simp [hy]
  rw [e]; exact h
theorem says_hit {D : DataW Value} {left : Lit → Bool} {c : Int → Option Dt} {at_ many x : Int} {d : Dt} (hm : IsMap D) (h : Says D (fun y => (if left (.int .i64 y) then c y else flO at_ many y (c y)).map Dt.enc)) (hx : InZ x)
    (hc : c x = some d) (hno : at_ ≤ x ∧ x - at_ < many) : Says (D.put (.int .i64 x) (.held (.agg #[vu d.c, vu d.c, .bool true]))) (fun y => (if (left (.int .i64 y) && !(Lit.int .i64 y).sameKey (.int .i64 x)) then c y else flO at_ many y (c y)).map Dt.enc) := by
  have e : upd (fun y => (if left (.int .i64 y) then c y else flO at_ many y (c y)).map Dt.enc) x (some (.agg #[vu d.c, vu d.c, .bool true])) = (fun y => (if (left (.int .i64 y) && !(Lit.int .i64 y).sameKey (.int .i64 x)) then c y else flO at_ many y (c y)).map Dt.enc) := by
    funext y
    rw [same_z]
    by_cases hy : y = x
    · subst hy
      rw [upd_same]
      simp only [decide_true, Bool.not_true, Bool.and_false, Bool.false_eq_true, if_false, hc, flO, if_pos hno]
      rfl
    · rw [upd_other hy]; simp [hy]
  rw [← e]; exact h.put hm hx _
theorem says_start {D : DataW Value} {c : Int → Option Dt} (h : Says D (fun x => (c x).map Dt.enc)) (at_ many : Int) : Says D (fun x => (if has D (.int .i64 x) then c x else flO at_ many x (c x)).map Dt.enc) := by
  intro x
  have e : (if has D (.int .i64 x) then c x else flO at_ many x (c x)) = c x := by
    cases hh : has D (.int .i64 x) with
    | true => rfl
    | false =>
      have h1 := (h x).1
      rw [hh] at h1
      cases hc : c x with
      | none => rfl
      | some d => simp [hc] at h1
  simp only [e]
  exact h x

set_option maxHeartbeats 4000000 in
set_option maxRecDepth 100000 in
theorem flush_c {db mb lb cp n : Nat} {S : DS} (at_ many : Int) (w : World) (h : DevT w db mb lb cp n S) (hS : S.Ok) (_ : n ≤ 1000000) (ha : -10000000000000000 ≤ at_ ∧ at_ ≤ 10000000000000000) (_ : InZ many) :
    Calls Try.prog 104 #[.pointer (some ⟨db, 0, none⟩), vz at_, vz many] w fun e w' => e = .returned (.tuple #[]) ∧ DevRes w w' db mb lb cp n (flushS S at_ many) := by
  have H := hid_ h
  have HC := hid_ (stepS_last S)
  cases hst : (stepS S).1 with
  | false =>
    have HQ : Hid (flushS S at_ many = (stepS S).2) := by show _ = _; rw [flushS, hst]; rfl
    have HST := hid_ hst
    clear h hst
    go_enter Try.func104, Try.ntmps104
    go_wp2_with (go_at_call 128; refine (step_c _ H.out hS).mono ?_; rintro e w2 ⟨rfl, ht, hg⟩; rw [HST.out]; have HT := hid_ ht; have HG := hid_ hg; clear ht hg)
    refine bodyPost_ret (results_none rfl _ _ _) rfl ?_
    exact ⟨rfl, by rw [HQ.out]; exact HT.out, Fr.of_gb HG.out (by simp)⟩
  | true =>
    have HQ : Hid (flushS S at_ many = { (stepS S).2 with cache := fun x => flO at_ many x (S.cache x) }) := by show _ = _; rw [flushS, hst]; rfl
    have HST := hid_ hst
    obtain ⟨S1, hS1⟩ : ∃ S1, (stepS S).2 = S1 := ⟨_, rfl⟩
    have HS1 := hid_ hS1
    rw [hS1] at HQ HC
    have HOKK := hid_ hS.keys
    have HLN := hid_ hS.len
    clear h hst hS1
    go_enter Try.func104, Try.ntmps104
    go_upto_region 1 with (go_at_call 128; refine (step_c _ H.out hS).mono ?_; rintro e w2 ⟨rfl, ht, hg⟩; rw [HST.out]; rw [HS1.out] at ht; have HT := hid_ ht; have HG := hid_ hg; have hc1 := ht.c1; clear ht hg)
    obtain ⟨D, hown, hsays⟩ := HT.out.om.ex
    have HOWN := hid_ hown
    have HSAY := hid_ hsays
    clear hown hsays
    go_wp2_with (at_range; refine wpList_range_own _ rfl _ 154 rfl 3 159 key3 Try.underlying154 tokR mb n D rfl HOWN.out ?_; intro w3 hrg hg3 hs3; have HRG := hid_ hrg; have HG3 := hid_ hg3; clear hrg hg3)
    have HT3 := hid_ (HT.out.mono (w' := w3) ⟨HG3.out.os, HG3.out.tape, HG3.out.output, HG3.out.size, fun k hk => HG3.out.block k hk (by simp)⟩)
    go_frame
    go_loopw [] (fun wr => Hid (FlRel w2 db mb lb cp n w2.heap.size S1 at_ many wr)) (fun wr => wr.rangeLeft mb w2.heap.size)
    case atStart => exact ⟨⟨_, _, D, HRG.out, says_start HSAY.out at_ many⟩, HT3.out.blk, HT3.out.own, Fr.of_gb (World.grownBy.but HG3.out (some db)) (by simp)⟩
    case round =>
      obtain ⟨⟨left, cnt, D', hrg, hsy⟩, hblk, hown, hfr⟩ := hrel.out
      have HRR := hid_ hrg; have HSY := hid_ hsy; have HBK := hid_ hblk; have HOW := hid_ hown; have HFR := hid_ hfr
      clear hrg hsy hblk hown hfr
      have hdb : db ≠ w2.heap.size := by have := HT.out.lt; omega
      go_wp2_with (at_next; refine wpList_next_ranges _ rfl _ rfl 3 key3 tokR vz (fun v : Value => v) (fun key kl hk => by obtain ⟨x, e, _⟩ := Maps.keyOf_i64 Try.underlying3 hk; exact ⟨x, e⟩) (fun v y _ => ⟨v, rfl⟩) mb w2.heap.size n D' left cnt rfl HRR.out ?_ ?_; (intro hc0 hl0; have HL0 := hid_ hl0; clear hl0 hc0); rotate_left 1; (intro x v kl y w5 cnt1 hkey hlx hv hat hrg1 hlt hg5 hs5 hen; obtain ⟨rfl, hzx, d, hcd, rfl⟩ := next_open HSY.out hkey hlx hv hat; have HRG5 := hid_ hrg1; have HG5 := hid_ hg5; have HLT := hid_ hlt; have HLX := hid_ hlx; have HCD := hid_ hcd; have hen' : (Instr.entry (.pointer (some ⟨w2.heap.size, 0, none⟩))).run Try.prog w5 = .ok (.tuple #[vz x, .agg #[vu d.c, vu d.s, .bool d.fl]]) w5 := hen; have HBK5 := hid_ ((hg5.block db (Array.getElem?_eq_some_iff.1 HBK.out).1 (by simpa using hdb)).trans HBK.out); have hxb : 0 ≤ x ∧ x < S.last.length := HOKK.out x (by rw [← HC.out.2, hcd]; rfl); have hxl := HLN.out.2; obtain ⟨hxb1, hxb2⟩ := hxb; have hq1 : w5.cell? ⟨db, 1, none⟩ = some (.map (some mb)) := cell_blk HBK5.out rfl; clear hrg1 hg5 hlt hcd hen hkey hlx hv hat hs5); rotate_left 1)
      · go_end0
        refine ⟨rfl, ?_, (Fr.of_gb HG.out (by simp)).trans HFR.out⟩
        rw [HQ.out]
        refine ⟨HBK.out, HOW.out, ⟨⟨D', HRR.out.owns, ?_⟩, ?_⟩, HT.out.ne⟩
        · intro x
          have := HSY.out x
          simp only [HL0.out, Bool.false_eq_true, if_false] at this
          rw [HC.out.2] at this
          exact this
        · intro x hx
          refine HT.out.om.inz x ?_
          rw [HC.out.2]
          cases hc : S.cache x with
          | none => simp [hc, flO] at hx
          | some d => rfl
      · obtain ⟨W, hW⟩ : ∃ W, w5.alloc (.cells #[.int .u64 d.c, .int .u64 d.s, .bool d.fl] 159) = W := ⟨_, rfl⟩
        have g0 : W.drew.cell? ⟨w5.heap.size, 0, none⟩ = some (.int .u64 d.c) := by rw [← hW]; exact cell_new 0 rfl
        have hBW : Below w5.heap.size w5 W.drew := by rw [← hW]; exact (balloc' _ _).drew
        have hqm : W.drew.cell? ⟨db, 1, none⟩ = some (.map (some mb)) := cmono hBW hq1
        have HRGd := hid_ (HRG5.out.kept (gb_below hBW none) (by simp) (by simp))
        obtain ⟨w7, hrun, hrg7, ht7⟩ := ranges_put HRGd.out key3 Try.underlying154 (keyOf3 hzx) (val := .agg #[vu d.c, vu d.c, .bool true]) (d := .held (.agg #[vu d.c, vu d.c, .bool true])) (ps := []) rfl (by simp [same_z]) (by rw [(HSY.out x).1]; simp [HLX.out, HCD.out])
        have HR7 := hid_ hrg7
        have HG7 := hid_ ht7.grown
        have hdm : db ≠ mb := by have := map_ne HT.out.om HT.out.c0; exact this
        have HBW := hid_ hBW
        rw [hW]
        clear hrg7 ht7 hBW hq1
        go_region_held3 (fun W' => W'.cell? ⟨db, 1, none⟩ = some (.map (some mb)) ∧ W'.cell? ⟨w5.heap.size, 0, none⟩ = some (.int .u64 d.c))
          (first | exact ⟨hqm, g0⟩ | exact ⟨gcell HG7.out hqm hdm, gcell HG7.out g0 (by have := HT.out.om.lt; have := HFR.out.size; have := HG5.out.size; simp; omega)⟩)
          (fail)
        have hlbm : lb ≠ mb := by
          intro e
          obtain ⟨es, cc, hbm⟩ := HT.out.om.blk
          rcases HT.out.own.2 with ⟨e', _⟩ | ⟨g, cap, cur, e', _, hh, _⟩
          · cases e'
          · injection e' with e'
            injection e' with e'
            injection e' with e'
            subst e'
            rw [← e, hh] at hbm
            cases hbm
        have hlt5 := HT.out.bnd
        go_wp2
        go_roundw
        case rel =>
          refine ⟨⟨_, _, _, HR7.out, says_hit HRR.out.owns.isMap HSY.out hzx HCD.out (by omega)⟩, ?_, ?_, ?_⟩
          · exact (HG7.out.block db (by have := HBW.out.size; have := (Array.getElem?_eq_some_iff.1 HBK5.out).1; omega) (by simpa using hdm)).trans (hmono HBW.out HBK5.out)
          · exact (ownsRow_below (HOW.out.kept HG5.out (.inr (by simp only [Value.ownBlock]; intro e; injection e with e; omega))) HBW.out).kept HG7.out (.inr (by simp only [Value.ownBlock]; intro e; injection e with e; exact hlbm e))
          · exact ((HFR.out.gbn HG5.out (Nat.le_refl _)).trans (Fr.of_below HBW.out)).trans (Fr.of_gb HG7.out (by simp))
        case measure => rw [HR7.out.left_eq, HRR.out.left_eq]; exact HLT.out
      · have HA := hid_ (HRG5.out.alloc (.cells #[.int .u64 d.c, .int .u64 d.s, .bool d.fl] 159))
        refine ⟨⟨⟨_, _, _, HA.out, says_skip HSY.out HLX.out (by omega)⟩, hmono (balloc' _ _) HBK5.out, ?_, ?_⟩, ?_⟩
        · exact (HOW.out.kept HG5.out (.inr (by have := HT.out.bnd; simp only [Value.ownBlock]; intro e; injection e with e; omega))).alloc _
        · exact (HFR.out.gbn HG5.out (Nat.le_refl _)).trans (Fr.of_below (balloc' _ _))
        · rw [HA.out.left_eq, HRR.out.left_eq]; exact HLT.out
      · have HA := hid_ (HRG5.out.alloc (.cells #[.int .u64 d.c, .int .u64 d.s, .bool d.fl] 159))
        refine ⟨⟨⟨_, _, _, HA.out, says_skip HSY.out HLX.out (by omega)⟩, hmono (balloc' _ _) HBK5.out, ?_, ?_⟩, ?_⟩
        · exact (HOW.out.kept HG5.out (.inr (by have := HT.out.bnd; simp only [Value.ownBlock]; intro e; injection e with e; omega))).alloc _
        · exact (HFR.out.gbn HG5.out (Nat.le_refl _)).trans (Fr.of_below (balloc' _ _))
        · rw [HA.out.left_eq, HRR.out.left_eq]; exact HLT.out
end Go.Proofs.Ytncdkbhkjamdpaa
