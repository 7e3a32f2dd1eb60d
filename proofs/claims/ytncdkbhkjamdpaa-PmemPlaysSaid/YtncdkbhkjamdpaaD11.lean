/- The states of the chapter's example. -/
import Derived.Test.YtncdkbhkjamdpaaD10
namespace Go.Proofs.Ytncdkbhkjamdpaa
open Go.RowKit Go.Maps

def only (k : Int) (d : Dt) : Int → Option Dt := fun x => if x = k then some d else none
theorem keys_only (k : Int) (d : Dt) : KeysOf (fun x => (only k d x).map Dt.enc) [k] := ⟨by simp, fun x => by
  by_cases h : x = k <;> simp [only, h]⟩
theorem keys_none : KeysOf (fun x => ((fun _ => none : Int → Option Dt) x).map Dt.enc) [] := ⟨List.Pairwise.nil, fun x => by simp⟩
def A0 : DS := newS (List.replicate 3 0)
def A1 : DS := ⟨[0, 0, 0], only 1 ⟨7, 0, false⟩, 0, false, 1⟩
def A2 : DS := ⟨[0, 0, 0], only 1 ⟨7, 7, true⟩, 0, false, 2⟩
def A3 : DS := ⟨[0, 0, 0], only 1 ⟨8, 7, true⟩, 0, false, 3⟩
def A4 : DS := ⟨[0, 7, 0], only 1 ⟨8, 0, false⟩, 0, false, 4⟩
def A5 : DS := ⟨[0, 8, 0], fun _ => none, 0, false, 4⟩
theorem a1 : storeS A0 1 7 = A1 := rfl
theorem ok_of {S : DS} (h1 : S.last.length = 3) (h2 : S.fuse = 0) (h3 : 0 ≤ S.steps ∧ S.steps ≤ 4) (h4 : ∀ k, (S.cache k).isSome = true → k = 1) : S.Ok :=
  ⟨by omega, fun k hk => by have := h4 k hk; omega, by omega, by omega⟩
theorem only_is {d : Dt} : ∀ k, (only 1 d k).isSome = true → k = 1 := by
  intro k hk
  by_cases h : k = 1
  · exact h
  · simp [only, h] at hk
theorem ok0 : A0.Ok := ok_of rfl rfl ⟨by decide, by decide⟩ fun k hk => by cases hk
theorem ok1 : A1.Ok := ok_of rfl rfl ⟨by decide, by decide⟩ only_is
theorem ok2 : A2.Ok := ok_of rfl rfl ⟨by decide, by decide⟩ only_is
theorem ok3 : A3.Ok := ok_of rfl rfl ⟨by decide, by decide⟩ only_is
theorem ok4 : A4.Ok := ok_of rfl rfl ⟨by decide, by decide⟩ only_is
theorem ok5 : A5.Ok := ok_of rfl rfl ⟨by decide, by decide⟩ fun k hk => by cases hk
theorem a2 : flushS A1 1 1 = A2 := by
  have : (fun x => flO 1 1 x (only 1 ⟨7, 0, false⟩ x)) = only 1 ⟨7, 7, true⟩ := by
    funext x
    by_cases h : x = 1
    · subst h; rfl
    · simp [only, h, flO]
  show DS.mk _ (fun x => flO 1 1 x (only 1 ⟨7, 0, false⟩ x)) _ _ _ = _
  rw [this]
  rfl
theorem a3 : storeS A2 1 8 = A3 := by
  have : updD (only 1 ⟨7, 7, true⟩) 1 (some ⟨8, 7, true⟩) = only 1 ⟨8, 7, true⟩ := by
    funext x
    by_cases h : x = 1 <;> simp [only, h, updD]
  show DS.mk _ (updD (only 1 ⟨7, 7, true⟩) 1 (some ⟨8, 7, true⟩)) _ _ _ = _
  rw [this]
  rfl
theorem a4 : [(1 : Int)].foldl fenceK (stepS A3).2 = A4 := by
  have : updD (only 1 ⟨8, 7, true⟩) 1 (some ⟨8, 0, false⟩) = only 1 ⟨8, 0, false⟩ := by
    funext x
    by_cases h : x = 1 <;> simp [only, h, updD]
  show DS.mk _ (updD (only 1 ⟨8, 7, true⟩) 1 (some ⟨8, 0, false⟩)) _ _ _ = _
  rw [this]
  rfl
theorem a5 : wipeS (([(1 : Int)].zip [(2 : Int)]).foldl crashK A4) = A5 := rfl
end Go.Proofs.Ytncdkbhkjamdpaa
