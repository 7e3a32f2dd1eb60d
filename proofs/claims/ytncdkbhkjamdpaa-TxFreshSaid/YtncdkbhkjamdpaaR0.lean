/- Arguments of a statement, read as lists: slices of whatever elements. -/
import Derived.Test.YtncdkbhkjamdpaaB0
import Derived.Test.YtncdkbhkjamdpaaRows
import Derived.WalkKit
import Derived.ProofKit
import Derived.OpenShut
import Derived.ShutString
import Derived.ChangeOld
import Derived.Below
import Derived.SizedLaws
import Derived.ChangeSlices
import Derived.ChangeSame
import Derived.Deep.Slices
import Derived.Deep.Fields
namespace Go.Proofs.Ytncdkbhkjamdpaa
open Go.ChangeShapes Go.WideShapes Go.ChangeAt Go.RowKit Go.Deep

theorem own : ownKnob Try.prog.godebug = none := by kernel_rfl
theorem laidOut : laidOutB Try.prog = true := by kernel_rfl

section
variable {H : Type} {enc : TypeId × Value → H} {P : Program} {w : World} {base : Nat} {spare : Nat → Bool} {held : Bool}

theorem add_zero (a : Addr) : a.add 0 = a := by simp [Addr.add]

/-- A slice argument reads as a list. -/
theorem rd_of_trod {α : Type} (k : Nat) (encv : α → List Value) (Q : α → Prop) (hk : 0 < k) {t e : TypeId} {fuel : Nat} {v : Value} {x : DataW H × List MemPlace} (ht : P.underlying t = some (.slice e)) (hC : P.cellsOf e = k)
    (hdec : ∀ n cs y, DataW.trod enc P w base spare held n e cs = some y → cs.length = k → ∃ x, Q x ∧ cs = encv x)
    (hv : ∃ a n c, v = .slice a n c) (h : DataW.trod enc P w base spare held fuel t v.cells.toList = some x) : ∃ l : List α, Rd k encv w v l ∧ ∀ x ∈ l, Q x := by
  obtain ⟨a0, n0, c0, rfl⟩ := hv
  rcases open_slice ht h with ⟨hcs, _⟩ | ⟨a, len, cap, m, n, D, Pl, hcs, hb, hl, hm, hmm, hx, hi⟩
  · simp [Value.cells] at hcs
    obtain ⟨rfl, rfl, rfl⟩ := hcs
    exact ⟨[], Rd.nil w, by simp⟩
  · simp [Value.cells] at hcs
    obtain ⟨rfl, rfl, rfl⟩ := hcs
    have hlm : n0 ≤ m := by rw [hmm]; split <;> omega
    have hex : ∀ i : Fin n0, ∃ x : α, Q x ∧ w.cells? base (a.add (i.1 * k)) k = some (encv x) := by
      intro ⟨i, hin⟩
      obtain ⟨cs', hc, ht'⟩ := hi i (by omega)
      rw [hC] at hc
      obtain ⟨_, hlen, _⟩ := World.cells?_some hc
      obtain ⟨x, hq, rfl⟩ := hdec n cs' _ ht' hlen
      exact ⟨x, hq, hc⟩
    let f : Fin n0 → α := fun i => Classical.choose (hex i)
    have hf : ∀ i : Fin n0, Q (f i) ∧ w.cells? base (a.add (i.1 * k)) k = some (encv (f i)) := fun i => Classical.choose_spec (hex i)
    refine ⟨List.ofFn f, ⟨some a, c0, by rw [List.length_ofFn], by rw [List.length_ofFn]; exact hl, by simp only [maxLen] at hm; omega, fun j hj => ?_⟩, ?_⟩
    · have hj' : j < n0 := by simpa using hj
      have h0 := (hf ⟨0, by omega⟩).2
      obtain ⟨_, h01, h02⟩ := World.cells?_some h0
      have hc0 := h02 0 hk
      simp only [Nat.zero_mul, add_zero] at hc0
      obtain ⟨b, o, sp⟩ := a
      have hsp : sp = none := by
        cases sp with
        | none => rfl
        | some s =>
          have e0 : (encv (f ⟨0, by omega⟩))[0]? = some ((encv (f ⟨0, by omega⟩))[0]'(by omega)) := List.getElem?_eq_getElem (by omega)
          rw [e0] at hc0
          unfold World.cell? at hc0
          split at hc0
          · simp at hc0
          · cases hc0
      subst hsp
      refine ⟨b, o, rfl, fun i u hu => ?_⟩
      obtain ⟨_, _, hc⟩ := World.cells?_some (hf ⟨j, hj'⟩).2
      rw [List.getElem_ofFn] at hu
      have hik : i < k := by
        have := (List.getElem?_eq_some_iff.1 hu).1
        obtain ⟨_, h1, _⟩ := World.cells?_some (hf ⟨j, hj'⟩).2
        omega
      have := hc i hik
      rw [hu] at this
      rw [show (⟨b, o + j * k + i, none⟩ : Addr) = ((⟨b, o, none⟩ : Addr).add (j * k)).add i by unfold Addr.add; split <;> split <;> simp_all]
      exact this
    · intro x hx
      obtain ⟨i, rfl⟩ := (List.mem_ofFn).1 hx
      exact (hf i).1

/-- How long the list is: the row's own reach. -/
theorem len_of_trod {t e : TypeId} {a : Option Addr} {len cap : Nat} {d : DataW H} {ps : List MemPlace} {ts : List TypeId} {ds : List (DataW H)} {j : Nat}
    (hsz : (DataW.weightsEach P ts ds).all (· ≤ reachBytes) = true) (ht : ts[j]? = some t) (hd : ds[j]? = some d) (hu : P.underlying t = some (.slice e)) {B : Nat} (hB : P.bytesOf e = B)
    (h : DataW.Trod enc P w base spare held t (.slice a len cap) d ps) : len * B ≤ 140737488351232 := by
  obtain ⟨fuel, hf⟩ := h
  rcases open_slice hu hf with ⟨hcs, _⟩ | ⟨a', len', cap', m, n, D, Pl, hcs, hb, hl, hm, hmm, hx, hi⟩
  · simp [Value.cells] at hcs
    obtain ⟨rfl, rfl, rfl⟩ := hcs
    simp
  · simp [Value.cells] at hcs
    obtain ⟨rfl, rfl, rfl⟩ := hcs
    obtain ⟨hx, _⟩ := Prod.mk.inj hx
    subst hx
    have z := sized_slice hsz ht hd hu
    rw [hB] at z
    simp only [List.length_map, List.length_range] at z
    exact Nat.le_trans (Nat.mul_le_mul_right _ (by omega)) z
end

section
variable {H : Type} {enc : TypeId × Value → H} {base : Nat} {spare : Nat → Bool} {held : Bool}
theorem dec_span (w : World) : ∀ n cs y, DataW.trod enc Try.prog w base spare held n 25 cs = some y → cs.length = 2 → ∃ x : Sp, True ∧ cs = x.enc := by
  intro n cs y h hl
  match cs, hl with
  | [a, b], _ =>
    have hc3 : Try.prog.cellsOf 3 = 1 := by kernel_rfl
    obtain ⟨ys, m, hm, hy, hlen, hyl, hf⟩ := DataW.trod_struct Try.underlying25 h
    have h0 := hf 0 _ rfl
    have h1 := hf 1 _ rfl
    have hyl' : ys.length = 2 := hyl
    change DataW.trod enc Try.prog w base spare held m 3 (([a, b].drop 0).take (Try.prog.cellsOf 3)) = ys[0]? at h0
    change DataW.trod enc Try.prog w base spare held m 3 (([a, b].drop 1).take (Try.prog.cellsOf 3)) = ys[1]? at h1
    rw [hc3] at h0 h1
    rw [List.getElem?_eq_getElem (by omega)] at h0 h1
    obtain ⟨x0, e0, _, w0⟩ := DataW.trod_int Try.underlying3 h0
    obtain ⟨x1, e1, _, w1⟩ := DataW.trod_int Try.underlying3 h1
    simp at e0 e1
    subst e0 e1
    exact ⟨⟨x0, x1⟩, trivial, rfl⟩
theorem dec_byte (w : World) : ∀ n cs y, DataW.trod enc Try.prog w base spare held n 5 cs = some y → cs.length = 1 → ∃ x : Int, (0 ≤ x ∧ x ≤ 255) ∧ cs = [Value.int .u8 x] := by
  intro n cs y h hl
  match cs, hl with
  | [a], _ =>
    obtain ⟨x, hx, _, hw⟩ := DataW.trod_int Try.underlying5 h
    simp at hx
    subst hx
    exact ⟨x, bounds_u8 hw, rfl⟩
end
end Go.Proofs.Ytncdkbhkjamdpaa
