/- The chapter's example (20). -/
import Derived.Test.YtncdkbhkjamdpaaT5
namespace Go.Proofs.Ytncdkbhkjamdpaa
open Go.RowKit Go.Maps

def U1 : TS := noteT newT ⟨10, 10⟩
def U2 : TS := noteT U1 ⟨15, 10⟩
theorem u_vals : noteO newT ⟨10, 10⟩ = [⟨10, 10⟩] ∧ noteO U1 ⟨15, 10⟩ = [⟨20, 5⟩] ∧ U1.words = [⟨10, 10⟩] ∧ U2.words = [⟨10, 15⟩] ∧ mayT U2 ⟨12, 12⟩ = true := by
  refine ⟨by decide +kernel, by decide +kernel, by decide +kernel, by decide +kernel, by decide +kernel⟩
theorem newT_ok : TOk newT := ⟨trivial, (fun s hs => by cases hs), List.Pairwise.nil, fun f hf => by cases hf⟩
theorem sm1 : Small ⟨10, 10⟩ := ⟨by decide, by decide, by decide, by decide⟩
theorem sm2 : Small ⟨15, 10⟩ := ⟨by decide, by decide, by decide, by decide⟩
theorem sm3 : Small ⟨12, 12⟩ := ⟨by decide, by decide, by decide, by decide⟩
theorem U1_ok : TOk U1 := noteT_ok newT_ok _ sm1
theorem U2_ok : TOk U2 := noteT_ok U1_ok _ sm2
theorem len_new : TLen newT 0 := ⟨by decide, by decide, by decide, by decide⟩
theorem len_U1 : TLen U1 0 := ⟨by rw [u_vals.2.2.1]; decide, by decide, by decide, by decide⟩
theorem len_U2 : TLen U2 0 := ⟨by rw [u_vals.2.2.2.1]; decide, by decide, by decide, by decide⟩
def U3 : TS := { U2 with depth := U2.depth + 1 }
theorem U3_ok : TOk U3 := ⟨U2_ok.rf, U2_ok.win, U2_ok.up, U2_ok.fok⟩
theorem len_U3 : TLen U3 0 := ⟨len_U2.w, len_U2.f, len_U2.n, len_U2.g⟩
/-- A transaction, whatever its slices. -/
structure TxS (w0 w : World) (tb mb n : Nat) (T : TS) : Prop where
  ex : ∃ wv gv, TxT w tb mb n wv gv T ∧ (∀ g, gv.ownBlock = some g → w0.heap.size ≤ g)
  h1 : w0.heap.size ≤ tb
  h2 : w0.heap.size ≤ mb
  b : Below w0.heap.size w0 w
theorem TxS.mono {w0 w w' : World} {tb mb n : Nat} {T : TS} (h : TxS w0 w tb mb n T) (hb : Below w.heap.size w w') : TxS w0 w' tb mb n T := by
  obtain ⟨⟨wv, gv, ht, hg⟩, a, b, c⟩ := h
  exact ⟨⟨wv, gv, ht.mono hb, hg⟩, a, b, btr c hb⟩
/-- Behind a method that writes it: rows of other kinds stay. -/
structure TxN (w0 w w' : World) (tb mb n : Nat) (T : TS) : Prop where
  s : TxS w0 w' tb mb n T
  k : ∀ {base : Nat} {e : TypeId} {k : Nat} {v : Value} {n : Nat} {xs : List Value}, e ≠ 65 → e ≠ 3 → w.ownsRow base e k v n xs → w'.ownsRow base e k v n xs
theorem TxS.step {w0 w w' : World} {tb mb n n' : Nat} {T T' : TS} {wv gv : Value} (ht0 : TxT w tb mb n wv gv T) (hg : ∀ g, gv.ownBlock = some g → w0.heap.size ≤ g) (h1 : w0.heap.size ≤ tb) (h2 : w0.heap.size ≤ mb) (hb : Below w0.heap.size w0 w) (hr : TRes w w' tb mb n' wv gv T') : TxN w0 w w' tb mb n' T' := by
  obtain ⟨⟨wv', gv', ht, _, hng⟩, hf⟩ := hr
  refine ⟨⟨⟨wv', gv', ht, fun g hg' => ?_⟩, h1, h2, hf.below hb ?_⟩, fun he1 he2 ho => hf.own ho fun b hb' => ?_⟩
  · rcases hng g hg' with h | h
    · exact hg g h
    · have := hb.size; omega
  · intro b hb'
    simp only [tw, List.mem_cons] at hb'
    rcases hb' with rfl | rfl | hb'
    · exact h1
    · exact h2
    · exact hg b (mem_ob hb')
  · simp only [tw, List.mem_cons, not_or]
    exact ⟨fun e => own_ne_cells ho ht0.blk he1 (e ▸ hb'), fun e => own_ne_map ho ht0.om (e ▸ hb'), fun e => own_ne ho ht0.go he2 hb' (mem_ob e)⟩

/-! ### The methods, over a transaction whatever its slices -/
section
variable {w0 w : World} {tb mb n : Nat} {T : TS}
theorem snote_c (s : Sp) (h : TxS w0 w tb mb n T) (hok : TOk T) (hl : TLen T n) (hs : Small s) :
    Calls Try.prog 41 #[.pointer (some ⟨tb, 0, none⟩), .agg #[.int .i64 s.f, .int .i64 s.m]] w fun e w' => ∃ v, e = .returned v ∧ w'.ownsRow w.heap.size 25 2 v (noteO T s).length (flat Sp.enc (noteO T s)) ∧ TxN w0 w w' tb mb n (noteT T s) := by
  obtain ⟨⟨wv, gv, ht, hg⟩, a, b, c⟩ := h
  refine (note_c s w ht hok hl hs).mono ?_
  rintro e w' ⟨v, rfl, hr⟩
  exact ⟨v, rfl, hr.o, TxS.step ht hg a b c hr.t⟩
theorem smay_c (s : Sp) (h : TxS w0 w tb mb n T) (hok : TOk T) (hl : TLen T n) (hs : Small s) :
    Calls Try.prog 40 #[.pointer (some ⟨tb, 0, none⟩), .agg #[.int .i64 s.f, .int .i64 s.m]] w fun e w' => e = .returned (.bool (mayT T s)) ∧ Below w.heap.size w w' := by
  obtain ⟨⟨wv, gv, ht, hg⟩, a, b, c⟩ := h
  exact may_c s w ht hok hl hs
theorem sbegin_c (h : TxS w0 w tb mb n T) (hd : 0 ≤ T.depth ∧ T.depth ≤ 1000000) :
    Calls Try.prog 71 #[.pointer (some ⟨tb, 0, none⟩)] w fun e w' => e = .returned (vz (T.depth + 1)) ∧ TxN w0 w w' tb mb n { T with depth := T.depth + 1 } := by
  obtain ⟨⟨wv, gv, ht, hg⟩, a, b, c⟩ := h
  refine (begin_c w ht hd).mono ?_
  rintro e w' ⟨rfl, hr⟩
  exact ⟨rfl, TxS.step ht hg a b c hr⟩
theorem send_c (h : TxS w0 w tb mb n T) (hd : 0 ≤ T.depth ∧ T.depth ≤ 1000000) :
    Calls Try.prog 72 #[.pointer (some ⟨tb, 0, none⟩)] w fun e w' => e = .returned (vz (max 0 (T.depth - 1))) ∧ TxN w0 w w' tb mb n { T with depth := max 0 (T.depth - 1) } := by
  obtain ⟨⟨wv, gv, ht, hg⟩, a, b, c⟩ := h
  refine (end_t w ht hd).mono ?_
  rintro e w' ⟨rfl, hr⟩
  exact ⟨rfl, TxS.step ht hg a b c hr⟩
theorem sfree_c (k : Int) (h : TxS w0 w tb mb n T) (hn : T.gone.length ≤ 100000) :
    Calls Try.prog 84 #[.pointer (some ⟨tb, 0, none⟩), vz k] w fun e w' => e = .returned (.bool (!freedB T k)) ∧ TxN w0 w w' tb mb n (freeT T k) := by
  obtain ⟨⟨wv, gv, ht, hg⟩, a, b, c⟩ := h
  refine (free_c k w ht hn).mono ?_
  rintro e w' ⟨rfl, hr⟩
  exact ⟨rfl, TxS.step ht hg a b c hr⟩
theorem sfreed_c (k : Int) (h : TxS w0 w tb mb n T) :
    Calls Try.prog 85 #[.pointer (some ⟨tb, 0, none⟩), vz k] w fun e w' => e = .returned (.bool (freedB T k)) ∧ w = w' := by
  obtain ⟨⟨wv, gv, ht, hg⟩, a, b, c⟩ := h
  exact freed_c k w ht
end

set_option maxHeartbeats 8000000 in
set_option maxRecDepth 100000 in
theorem awake20_c (w : World) : Calls Try.prog 32 #[] w fun e w' => e = .returned (.bool true) ∧ Below w.heap.size w w' := by
  obtain ⟨v1, v2, v3, v4, v5⟩ := u_vals
  have V1 := hid_ v1; have V2 := hid_ v2; have V5 := hid_ v5
  clear v1 v2 v3 v4 v5
  have HS1 : Hid (∀ W : World, RdS (W.alloc (.cells #[.int .i64 10, .int .i64 10] 25)) (.slice (some ⟨W.heap.size, 0, none⟩) 1 1) [⟨10, 10⟩]) := fun W => RdS.new W [⟨10, 10⟩] (by decide)
  have HS2 : Hid (∀ W : World, RdS (W.alloc (.cells #[.int .i64 20, .int .i64 5] 25)) (.slice (some ⟨W.heap.size, 0, none⟩) 1 1) [⟨20, 5⟩]) := fun W => RdS.new W [⟨20, 5⟩] (by decide)
  have tok1 : True := trivial
  have tok2 : True := trivial
  go_enter Try.func32, Try.ntmps32
  go_wp2_with (first
    | (go_at_call 34; refine (tnew_c _).mono ?_; rintro e w1 ⟨tb, mb, rfl, ht, hb, h1, h2⟩; have HX := hid_ (TxS.mk (w0 := w) ⟨_, _, ht, (by intro g hg; cases hg)⟩ h1 h2 hb); clear ht hb h1 h2)
    | (go_at_call 41; have _t := tok1; refine (snote_c ⟨10, 10⟩ HX.out newT_ok len_new sm1).mono ?_; rintro e w2 ⟨va, rfl, hO, hx⟩; rw [V1.out] at hO; have RA := hid_ hO; replace HX := hid_ (show TxS w w2 tb mb 0 U1 from hx.s); obtain ⟨Aa, ca, rfl, _, _, _⟩ := Rd.own (l := [⟨10, 10⟩]) hO; clear hO hx tok1)
    | (go_at_call 41; refine (snote_c ⟨15, 10⟩ HX.out U1_ok len_U1 sm2).mono ?_; rintro e w3 ⟨vb, rfl, hO, hx⟩; rw [V2.out] at hO; have RB := hid_ hO; replace RA := hid_ (hx.k (by decide) (by decide) RA.out); replace HX := hid_ (show TxS w w3 tb mb 0 U2 from hx.s); obtain ⟨Ab, cb, rfl, _, _, _⟩ := Rd.own (l := [⟨20, 5⟩]) hO; clear hO hx)
    | (go_at_call 71; refine (sbegin_c HX.out (by decide)).mono ?_; rintro e w4 ⟨rfl, hx⟩; rw [show U2.depth + 1 = 1 from rfl]; replace RA := hid_ (hx.k (by decide) (by decide) RA.out); replace RB := hid_ (hx.k (by decide) (by decide) RB.out); replace HX := hid_ (show TxS w w4 tb mb 0 U3 from hx.s); clear hx)
    | (go_at_call 28; have _t := tok2; refine (same_c [⟨10, 10⟩] [⟨10, 10⟩] _ _ _ ((Rd.own (l := [⟨10, 10⟩]) RA.out).mono (balloc' _ _)) (HS1.out _)).mono ?_; rintro e w5 ⟨rfl, hb⟩; rw [decide_eq_true rfl]; replace hb := btr (balloc' _ _) hb; replace RB := hid_ (ownsRow_below RB.out hb); replace HX := hid_ (HX.out.mono hb); clear hb tok2)
    | (go_at_call 28; refine (same_c [⟨20, 5⟩] [⟨20, 5⟩] _ _ _ ((Rd.own (l := [⟨20, 5⟩]) RB.out).mono (balloc' _ _)) (HS2.out _)).mono ?_; rintro e w5 ⟨rfl, hb⟩; rw [decide_eq_true rfl]; replace hb := btr (balloc' _ _) hb; replace HX := hid_ (HX.out.mono hb); clear hb)
    | (go_at_call 40; refine (smay_c ⟨12, 12⟩ HX.out U3_ok len_U3 sm3).mono ?_; rintro e w6 ⟨rfl, hb⟩; rw [show mayT U3 ⟨12, 12⟩ = true from V5.out]; replace HX := hid_ (HX.out.mono hb); clear hb)
    | (go_at_call 84; refine (sfree_c 3 HX.out (by decide)).mono ?_; rintro e w7 ⟨rfl, hx⟩; rw [show (!freedB U3 3) = true from rfl]; replace HX := hid_ (show TxS w w7 tb mb 0 (freeT U3 3) from hx.s); clear hx)
    | (go_at_call 85; refine (sfreed_c 3 HX.out).mono ?_; rintro e w8 ⟨rfl, rfl⟩; rw [show freedB (freeT U3 3) 3 = true from rfl]))
  go_ret
  exact ⟨rfl, HX.out.b⟩
end Go.Proofs.Ytncdkbhkjamdpaa
