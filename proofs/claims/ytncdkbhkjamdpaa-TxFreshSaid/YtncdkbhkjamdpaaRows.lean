/-
  No cell of these rows narrows 'for every input' (looked for: loops, veiled, ifaces, maps, wideKeys, modest, calm, conditions, laid).
  DERIVED. THE GIVEN ROWS OF THIS SEAT. 19 by the template 'for every input the law returns true; each argument reads behind the call as it read before'; 0 by the template 'total and deterministic' (their statements: YtncdkbhkjamdpaaTotals.lean).
  GIVEN WITH THE SEED: the statements are not yours to turn. If you find one false, say at which input.
  Laid BY PROGRAM, IN A SANDBOX (cutbox-rows.mjs): the forced cells as the released guide's own fill.sh prints them over the translation d93794f568467fd4… (all of the seat's roots in one cut). By AI agents, Wed Nov 11 2026. No macro, syntax, notation, axiom, sorry.
-/
import Derived.Test.YtncdkbhkjamdpaaChecked
import GoSem.Claim
import GoSem.ClaimJoined
import GoSem.ClaimMapViews
import Derived.JoinedTies
import Derived.KernelRfl
namespace Go.Proofs.Ytncdkbhkjamdpaa
/- THE CELL 'sum', in the pinned program and in every row, IS THE sha256 OF THE DUMP (.gsa) THAT YtncdkbhkjamdpaaProg.lean LOADS. Nothing in Lean hashes anything: it is a label: what it is worth is what the hold of that sum in a sandbox is worth. -/
noncomputable def Try.pinned : Pinned := { name := "ytncdkbhkjamdpaa", sum := "d93794f568467fd48fbcfa71eb014f15c9c4a0e71598e75b331d04eabbc097c8", checked := Try.checked }
namespace Rows
def none {H : Type} : Left H := { results := [], args := [] }

/-- 'lockfastlaw04.SpanRight': WHATEVER THE INPUT: true; the input reads as it did. -/
def spanRightSpec : ChangeSpec := { name := "spanRight", fn := fun _ => fun
  | [d] => { results := [.lit (.bool true)], args := [d] }
  | _ => none }
def spanRightRow : OpenClaim := { program := "ytncdkbhkjamdpaa", sum := "d93794f568467fd48fbcfa71eb014f15c9c4a0e71598e75b331d04eabbc097c8", func := "lockfast/lockfastlaw04.SpanRight", spec := "spanRight", inPlace := ["slices.overlaps[lockfast/api.Span]"], unfollowed := true, recurses := true, apart := false }
def SpanRightSaid : Prop := spanRightRow.holds Try.pinned (OpenSpec.ofChange spanRightSpec)

/-- ITS FALSE NEIGHBOUR: 'it returns false'. Refute it at one input. -/
def spanRightWrong : ChangeSpec := { name := "spanRight", fn := fun _ => fun
  | [d] => { results := [.lit (.bool false)], args := [d] }
  | _ => none }
def SpanRightWrongFalsely : Prop := spanRightRow.holds Try.pinned (OpenSpec.ofChange spanRightWrong)

/-- 'lockfastlaw04.SpanOwn': WHATEVER THE INPUT: true; the input reads as it did. -/
def spanOwnSpec : ChangeSpec := { name := "spanOwn", fn := fun _ => fun
  | [d1, d2, d3, d4] => { results := [.lit (.bool true)], args := [d1, d2, d3, d4] }
  | _ => none }
def spanOwnRow : OpenClaim := { program := "ytncdkbhkjamdpaa", sum := "d93794f568467fd48fbcfa71eb014f15c9c4a0e71598e75b331d04eabbc097c8", func := "lockfast/lockfastlaw04.SpanOwn", spec := "spanOwn", inPlace := ["slices.overlaps[lockfast/api.Span]"], unfollowed := true, recurses := true, apart := false }
def SpanOwnSaid : Prop := spanOwnRow.holds Try.pinned (OpenSpec.ofChange spanOwnSpec)

/-- ITS FALSE NEIGHBOUR: 'it returns false'. Refute it at one input. -/
def spanOwnWrong : ChangeSpec := { name := "spanOwn", fn := fun _ => fun
  | [d1, d2, d3, d4] => { results := [.lit (.bool false)], args := [d1, d2, d3, d4] }
  | _ => none }
def SpanOwnWrongFalsely : Prop := spanOwnRow.holds Try.pinned (OpenSpec.ofChange spanOwnWrong)

/-- 'lockfastlaw04.SpanAdds': WHATEVER THE INPUT: true; the input reads as it did. -/
def spanAddsSpec : ChangeSpec := { name := "spanAdds", fn := fun _ => fun
  | [d1, d2, d3, d4] => { results := [.lit (.bool true)], args := [d1, d2, d3, d4] }
  | _ => none }
def spanAddsRow : OpenClaim := { program := "ytncdkbhkjamdpaa", sum := "d93794f568467fd48fbcfa71eb014f15c9c4a0e71598e75b331d04eabbc097c8", func := "lockfast/lockfastlaw04.SpanAdds", spec := "spanAdds", inPlace := ["slices.overlaps[lockfast/api.Span]"], unfollowed := true, recurses := true, apart := false }
def SpanAddsSaid : Prop := spanAddsRow.holds Try.pinned (OpenSpec.ofChange spanAddsSpec)

/-- ITS FALSE NEIGHBOUR: 'it returns false'. Refute it at one input. -/
def spanAddsWrong : ChangeSpec := { name := "spanAdds", fn := fun _ => fun
  | [d1, d2, d3, d4] => { results := [.lit (.bool false)], args := [d1, d2, d3, d4] }
  | _ => none }
def SpanAddsWrongFalsely : Prop := spanAddsRow.holds Try.pinned (OpenSpec.ofChange spanAddsWrong)

/-- 'lockfastlaw04.SpanOrder': WHATEVER THE INPUT: true; the input reads as it did. -/
def spanOrderSpec : ChangeSpec := { name := "spanOrder", fn := fun _ => fun
  | [d1, d2] => { results := [.lit (.bool true)], args := [d1, d2] }
  | _ => none }
def spanOrderRow : OpenClaim := { program := "ytncdkbhkjamdpaa", sum := "d93794f568467fd48fbcfa71eb014f15c9c4a0e71598e75b331d04eabbc097c8", func := "lockfast/lockfastlaw04.SpanOrder", spec := "spanOrder", inPlace := ["slices.overlaps[lockfast/api.Span]"], unfollowed := true, recurses := true, apart := false }
def SpanOrderSaid : Prop := spanOrderRow.holds Try.pinned (OpenSpec.ofChange spanOrderSpec)

/-- ITS FALSE NEIGHBOUR: 'it returns false'. Refute it at one input. -/
def spanOrderWrong : ChangeSpec := { name := "spanOrder", fn := fun _ => fun
  | [d1, d2] => { results := [.lit (.bool false)], args := [d1, d2] }
  | _ => none }
def SpanOrderWrongFalsely : Prop := spanOrderRow.holds Try.pinned (OpenSpec.ofChange spanOrderWrong)

/-- 'lockfastlaw20.TxOwn': WHATEVER THE INPUT: true; the input reads as it did. -/
def txOwnSpec : ChangeSpec := { name := "txOwn", fn := fun _ => fun
  | [d] => { results := [.lit (.bool true)], args := [d] }
  | _ => none }
def txOwnRow : OpenClaim := { program := "ytncdkbhkjamdpaa", sum := "d93794f568467fd48fbcfa71eb014f15c9c4a0e71598e75b331d04eabbc097c8", func := "lockfast/lockfastlaw20.TxOwn", spec := "txOwn", inPlace := ["slices.overlaps[lockfast/api.Span]"], unfollowed := true, recurses := true, apart := false }
def TxOwnSaid : Prop := txOwnRow.holds Try.pinned (OpenSpec.ofChange txOwnSpec)

/-- ITS FALSE NEIGHBOUR: 'it returns false'. Refute it at one input. -/
def txOwnWrong : ChangeSpec := { name := "txOwn", fn := fun _ => fun
  | [d] => { results := [.lit (.bool false)], args := [d] }
  | _ => none }
def TxOwnWrongFalsely : Prop := txOwnRow.holds Try.pinned (OpenSpec.ofChange txOwnWrong)

/-- 'lockfastlaw04.SpanFills': WHATEVER THE INPUT: true; the input reads as it did. -/
def spanFillsSpec : ChangeSpec := { name := "spanFills", fn := fun _ => fun
  | [d1, d2, d3] => { results := [.lit (.bool true)], args := [d1, d2, d3] }
  | _ => none }
def spanFillsRow : OpenClaim := { program := "ytncdkbhkjamdpaa", sum := "d93794f568467fd48fbcfa71eb014f15c9c4a0e71598e75b331d04eabbc097c8", func := "lockfast/lockfastlaw04.SpanFills", spec := "spanFills", inPlace := ["slices.overlaps[lockfast/api.Span]"], unfollowed := true, recurses := true, apart := false }
def SpanFillsSaid : Prop := spanFillsRow.holds Try.pinned (OpenSpec.ofChange spanFillsSpec)

/-- ITS FALSE NEIGHBOUR: 'it returns false'. Refute it at one input. -/
def spanFillsWrong : ChangeSpec := { name := "spanFills", fn := fun _ => fun
  | [d1, d2, d3] => { results := [.lit (.bool false)], args := [d1, d2, d3] }
  | _ => none }
def SpanFillsWrongFalsely : Prop := spanFillsRow.holds Try.pinned (OpenSpec.ofChange spanFillsWrong)

/-- 'lockfastlaw20.TxNotes': WHATEVER THE INPUT: true; the input reads as it did. -/
def txNotesSpec : ChangeSpec := { name := "txNotes", fn := fun _ => fun
  | [d1, d2] => { results := [.lit (.bool true)], args := [d1, d2] }
  | _ => none }
def txNotesRow : OpenClaim := { program := "ytncdkbhkjamdpaa", sum := "d93794f568467fd48fbcfa71eb014f15c9c4a0e71598e75b331d04eabbc097c8", func := "lockfast/lockfastlaw20.TxNotes", spec := "txNotes", inPlace := ["slices.overlaps[lockfast/api.Span]"], unfollowed := true, recurses := true, apart := false }
def TxNotesSaid : Prop := txNotesRow.holds Try.pinned (OpenSpec.ofChange txNotesSpec)

/-- ITS FALSE NEIGHBOUR: 'it returns false'. Refute it at one input. -/
def txNotesWrong : ChangeSpec := { name := "txNotes", fn := fun _ => fun
  | [d1, d2] => { results := [.lit (.bool false)], args := [d1, d2] }
  | _ => none }
def TxNotesWrongFalsely : Prop := txNotesRow.holds Try.pinned (OpenSpec.ofChange txNotesWrong)

/-- 'lockfastlaw04.SpanParts': WHATEVER THE INPUT: true; the input reads as it did. -/
def spanPartsSpec : ChangeSpec := { name := "spanParts", fn := fun _ => fun
  | [d1, d2, d3, d4, d5] => { results := [.lit (.bool true)], args := [d1, d2, d3, d4, d5] }
  | _ => none }
def spanPartsRow : OpenClaim := { program := "ytncdkbhkjamdpaa", sum := "d93794f568467fd48fbcfa71eb014f15c9c4a0e71598e75b331d04eabbc097c8", func := "lockfast/lockfastlaw04.SpanParts", spec := "spanParts", inPlace := ["slices.overlaps[lockfast/api.Span]"], unfollowed := true, recurses := true, apart := false }
def SpanPartsSaid : Prop := spanPartsRow.holds Try.pinned (OpenSpec.ofChange spanPartsSpec)

/-- ITS FALSE NEIGHBOUR: 'it returns false'. Refute it at one input. -/
def spanPartsWrong : ChangeSpec := { name := "spanParts", fn := fun _ => fun
  | [d1, d2, d3, d4, d5] => { results := [.lit (.bool false)], args := [d1, d2, d3, d4, d5] }
  | _ => none }
def SpanPartsWrongFalsely : Prop := spanPartsRow.holds Try.pinned (OpenSpec.ofChange spanPartsWrong)

/-- 'lockfastlaw18.LockPlays': WHATEVER THE INPUT: true; the input reads as it did. -/
def lockPlaysSpec : ChangeSpec := { name := "lockPlays", fn := fun _ => fun
  | [d] => { results := [.lit (.bool true)], args := [d] }
  | _ => none }
def lockPlaysRow : OpenClaim := { program := "ytncdkbhkjamdpaa", sum := "d93794f568467fd48fbcfa71eb014f15c9c4a0e71598e75b331d04eabbc097c8", func := "lockfast/lockfastlaw18.LockPlays", spec := "lockPlays", unfollowed := true, recurses := true, apart := false }
def LockPlaysSaid : Prop := lockPlaysRow.holds Try.pinned (OpenSpec.ofChange lockPlaysSpec)

/-- ITS FALSE NEIGHBOUR: 'it returns false'. Refute it at one input. -/
def lockPlaysWrong : ChangeSpec := { name := "lockPlays", fn := fun _ => fun
  | [d] => { results := [.lit (.bool false)], args := [d] }
  | _ => none }
def LockPlaysWrongFalsely : Prop := lockPlaysRow.holds Try.pinned (OpenSpec.ofChange lockPlaysWrong)

/-- 'lockfastlaw18.LockOnce': WHATEVER THE INPUT: true; the input reads as it did. -/
def lockOnceSpec : ChangeSpec := { name := "lockOnce", fn := fun _ => fun
  | [d1, d2, d3, d4] => { results := [.lit (.bool true)], args := [d1, d2, d3, d4] }
  | _ => none }
def lockOnceRow : OpenClaim := { program := "ytncdkbhkjamdpaa", sum := "d93794f568467fd48fbcfa71eb014f15c9c4a0e71598e75b331d04eabbc097c8", func := "lockfast/lockfastlaw18.LockOnce", spec := "lockOnce", unfollowed := true, recurses := true, apart := false }
def LockOnceSaid : Prop := lockOnceRow.holds Try.pinned (OpenSpec.ofChange lockOnceSpec)

/-- ITS FALSE NEIGHBOUR: 'it returns false'. Refute it at one input. -/
def lockOnceWrong : ChangeSpec := { name := "lockOnce", fn := fun _ => fun
  | [d1, d2, d3, d4] => { results := [.lit (.bool false)], args := [d1, d2, d3, d4] }
  | _ => none }
def LockOnceWrongFalsely : Prop := lockOnceRow.holds Try.pinned (OpenSpec.ofChange lockOnceWrong)

/-- 'lockfastlaw18.LockApart': WHATEVER THE INPUT: true; the input reads as it did. -/
def lockApartSpec : ChangeSpec := { name := "lockApart", fn := fun _ => fun
  | [d1, d2, d3] => { results := [.lit (.bool true)], args := [d1, d2, d3] }
  | _ => none }
def lockApartRow : OpenClaim := { program := "ytncdkbhkjamdpaa", sum := "d93794f568467fd48fbcfa71eb014f15c9c4a0e71598e75b331d04eabbc097c8", func := "lockfast/lockfastlaw18.LockApart", spec := "lockApart", unfollowed := true, recurses := true, apart := false }
def LockApartSaid : Prop := lockApartRow.holds Try.pinned (OpenSpec.ofChange lockApartSpec)

/-- ITS FALSE NEIGHBOUR: 'it returns false'. Refute it at one input. -/
def lockApartWrong : ChangeSpec := { name := "lockApart", fn := fun _ => fun
  | [d1, d2, d3] => { results := [.lit (.bool false)], args := [d1, d2, d3] }
  | _ => none }
def LockApartWrongFalsely : Prop := lockApartRow.holds Try.pinned (OpenSpec.ofChange lockApartWrong)

/-- 'lockfastlaw18.LockGone': WHATEVER THE INPUT: true; the input reads as it did. -/
def lockGoneSpec : ChangeSpec := { name := "lockGone", fn := fun _ => fun
  | [d1, d2, d3] => { results := [.lit (.bool true)], args := [d1, d2, d3] }
  | _ => none }
def lockGoneRow : OpenClaim := { program := "ytncdkbhkjamdpaa", sum := "d93794f568467fd48fbcfa71eb014f15c9c4a0e71598e75b331d04eabbc097c8", func := "lockfast/lockfastlaw18.LockGone", spec := "lockGone", unfollowed := true, recurses := true, apart := false }
def LockGoneSaid : Prop := lockGoneRow.holds Try.pinned (OpenSpec.ofChange lockGoneSpec)

/-- ITS FALSE NEIGHBOUR: 'it returns false'. Refute it at one input. -/
def lockGoneWrong : ChangeSpec := { name := "lockGone", fn := fun _ => fun
  | [d1, d2, d3] => { results := [.lit (.bool false)], args := [d1, d2, d3] }
  | _ => none }
def LockGoneWrongFalsely : Prop := lockGoneRow.holds Try.pinned (OpenSpec.ofChange lockGoneWrong)

/-- 'lockfastlaw18.LockHeld': WHATEVER THE INPUT: true; the input reads as it did. -/
def lockHeldSpec : ChangeSpec := { name := "lockHeld", fn := fun _ => fun
  | [d1, d2, d3] => { results := [.lit (.bool true)], args := [d1, d2, d3] }
  | _ => none }
def lockHeldRow : OpenClaim := { program := "ytncdkbhkjamdpaa", sum := "d93794f568467fd48fbcfa71eb014f15c9c4a0e71598e75b331d04eabbc097c8", func := "lockfast/lockfastlaw18.LockHeld", spec := "lockHeld", unfollowed := true, recurses := true, apart := false }
def LockHeldSaid : Prop := lockHeldRow.holds Try.pinned (OpenSpec.ofChange lockHeldSpec)

/-- ITS FALSE NEIGHBOUR: 'it returns false'. Refute it at one input. -/
def lockHeldWrong : ChangeSpec := { name := "lockHeld", fn := fun _ => fun
  | [d1, d2, d3] => { results := [.lit (.bool false)], args := [d1, d2, d3] }
  | _ => none }
def LockHeldWrongFalsely : Prop := lockHeldRow.holds Try.pinned (OpenSpec.ofChange lockHeldWrong)

/-- 'lockfastlaw03.PmemOwn': WHATEVER THE INPUT: true; the input reads as it did. -/
def pmemOwnSpec : ChangeSpec := { name := "pmemOwn", fn := fun _ => fun
  | [d1, d2, d3] => { results := [.lit (.bool true)], args := [d1, d2, d3] }
  | _ => none }
def pmemOwnRow : OpenClaim := { program := "ytncdkbhkjamdpaa", sum := "d93794f568467fd48fbcfa71eb014f15c9c4a0e71598e75b331d04eabbc097c8", func := "lockfast/lockfastlaw03.PmemOwn", spec := "pmemOwn", unfollowed := true, recurses := true, apart := false }
def PmemOwnSaid : Prop := pmemOwnRow.holds Try.pinned (OpenSpec.ofChange pmemOwnSpec)

/-- ITS FALSE NEIGHBOUR: 'it returns false'. Refute it at one input. -/
def pmemOwnWrong : ChangeSpec := { name := "pmemOwn", fn := fun _ => fun
  | [d1, d2, d3] => { results := [.lit (.bool false)], args := [d1, d2, d3] }
  | _ => none }
def PmemOwnWrongFalsely : Prop := pmemOwnRow.holds Try.pinned (OpenSpec.ofChange pmemOwnWrong)

/-- 'lockfastlaw03.PmemNew': WHATEVER THE INPUT: true; the input reads as it did. -/
def pmemNewSpec : ChangeSpec := { name := "pmemNew", fn := fun _ => fun
  | [d1, d2] => { results := [.lit (.bool true)], args := [d1, d2] }
  | _ => none }
def pmemNewRow : OpenClaim := { program := "ytncdkbhkjamdpaa", sum := "d93794f568467fd48fbcfa71eb014f15c9c4a0e71598e75b331d04eabbc097c8", func := "lockfast/lockfastlaw03.PmemNew", spec := "pmemNew", unfollowed := true, recurses := true, apart := false }
def PmemNewSaid : Prop := pmemNewRow.holds Try.pinned (OpenSpec.ofChange pmemNewSpec)

/-- ITS FALSE NEIGHBOUR: 'it returns false'. Refute it at one input. -/
def pmemNewWrong : ChangeSpec := { name := "pmemNew", fn := fun _ => fun
  | [d1, d2] => { results := [.lit (.bool false)], args := [d1, d2] }
  | _ => none }
def PmemNewWrongFalsely : Prop := pmemNewRow.holds Try.pinned (OpenSpec.ofChange pmemNewWrong)

/-- 'lockfastlaw03.PmemPlays': WHATEVER THE INPUT: true; the input reads as it did. -/
def pmemPlaysSpec : ChangeSpec := { name := "pmemPlays", fn := fun _ => fun
  | [d1, d2] => { results := [.lit (.bool true)], args := [d1, d2] }
  | _ => none }
def pmemPlaysRow : OpenClaim := { program := "ytncdkbhkjamdpaa", sum := "d93794f568467fd48fbcfa71eb014f15c9c4a0e71598e75b331d04eabbc097c8", func := "lockfast/lockfastlaw03.PmemPlays", spec := "pmemPlays", unfollowed := true, recurses := true, apart := false }
def PmemPlaysSaid : Prop := pmemPlaysRow.holds Try.pinned (OpenSpec.ofChange pmemPlaysSpec)

/-- ITS FALSE NEIGHBOUR: 'it returns false'. Refute it at one input. -/
def pmemPlaysWrong : ChangeSpec := { name := "pmemPlays", fn := fun _ => fun
  | [d1, d2] => { results := [.lit (.bool false)], args := [d1, d2] }
  | _ => none }
def PmemPlaysWrongFalsely : Prop := pmemPlaysRow.holds Try.pinned (OpenSpec.ofChange pmemPlaysWrong)

/-- 'lockfastlaw20.TxDeep': WHATEVER THE INPUT: true; the input reads as it did. -/
def txDeepSpec : ChangeSpec := { name := "txDeep", fn := fun _ => fun
  | [d] => { results := [.lit (.bool true)], args := [d] }
  | _ => none }
def txDeepRow : OpenClaim := { program := "ytncdkbhkjamdpaa", sum := "d93794f568467fd48fbcfa71eb014f15c9c4a0e71598e75b331d04eabbc097c8", func := "lockfast/lockfastlaw20.TxDeep", spec := "txDeep", inPlace := ["slices.overlaps[lockfast/api.Span]"], unfollowed := true, recurses := true, apart := false }
def TxDeepSaid : Prop := txDeepRow.holds Try.pinned (OpenSpec.ofChange txDeepSpec)

/-- ITS FALSE NEIGHBOUR: 'it returns false'. Refute it at one input. -/
def txDeepWrong : ChangeSpec := { name := "txDeep", fn := fun _ => fun
  | [d] => { results := [.lit (.bool false)], args := [d] }
  | _ => none }
def TxDeepWrongFalsely : Prop := txDeepRow.holds Try.pinned (OpenSpec.ofChange txDeepWrong)

/-- 'lockfastlaw20.TxFresh': WHATEVER THE INPUT: true; the input reads as it did. -/
def txFreshSpec : ChangeSpec := { name := "txFresh", fn := fun _ => fun
  | [d1, d2] => { results := [.lit (.bool true)], args := [d1, d2] }
  | _ => none }
def txFreshRow : OpenClaim := { program := "ytncdkbhkjamdpaa", sum := "d93794f568467fd48fbcfa71eb014f15c9c4a0e71598e75b331d04eabbc097c8", func := "lockfast/lockfastlaw20.TxFresh", spec := "txFresh", inPlace := ["slices.overlaps[lockfast/api.Span]"], unfollowed := true, recurses := true, apart := false }
def TxFreshSaid : Prop := txFreshRow.holds Try.pinned (OpenSpec.ofChange txFreshSpec)

/-- ITS FALSE NEIGHBOUR: 'it returns false'. Refute it at one input. -/
def txFreshWrong : ChangeSpec := { name := "txFresh", fn := fun _ => fun
  | [d1, d2] => { results := [.lit (.bool false)], args := [d1, d2] }
  | _ => none }
def TxFreshWrongFalsely : Prop := txFreshRow.holds Try.pinned (OpenSpec.ofChange txFreshWrong)

/-- 'lockfastlaw20.TxPlays': WHATEVER THE INPUT: true; the input reads as it did. -/
def txPlaysSpec : ChangeSpec := { name := "txPlays", fn := fun _ => fun
  | [d] => { results := [.lit (.bool true)], args := [d] }
  | _ => none }
def txPlaysRow : OpenClaim := { program := "ytncdkbhkjamdpaa", sum := "d93794f568467fd48fbcfa71eb014f15c9c4a0e71598e75b331d04eabbc097c8", func := "lockfast/lockfastlaw20.TxPlays", spec := "txPlays", inPlace := ["slices.overlaps[lockfast/api.Span]"], unfollowed := true, recurses := true, apart := false }
def TxPlaysSaid : Prop := txPlaysRow.holds Try.pinned (OpenSpec.ofChange txPlaysSpec)

/-- ITS FALSE NEIGHBOUR: 'it returns false'. Refute it at one input. -/
def txPlaysWrong : ChangeSpec := { name := "txPlays", fn := fun _ => fun
  | [d] => { results := [.lit (.bool false)], args := [d] }
  | _ => none }
def TxPlaysWrongFalsely : Prop := txPlaysRow.holds Try.pinned (OpenSpec.ofChange txPlaysWrong)

/- THE SECOND FORM. 'bulk': how many values and letters a reading holds, each counted each time it is reached (what is shared counts as often as it is met; a slice's spare places count too). A statement '..UptoSaid' is the law's where the arguments, and the package variables that the reading takes, are together of bulk at most 1048576: NARROWER than '..Said'. Prove '..Said' where nothing that the law and all that it calls make is longer than what came in: it says more and counts as full. Else prove '..UptoSaid'. A law counts once. -/
mutual
def uptoBulk {H : Type} : DataW H → Nat
  | .lit (.string bytes) => bytes.length + 1
  | .lit _ => 1
  | .nil => 1
  | .ptr d => uptoBulk d + 1
  | .slice elems spare => uptoBulkAll elems + uptoBulkAll spare + 1
  | .agg parts => uptoBulkAll parts + 1
  | .iface _ d => uptoBulk d + 1
  | .map entries => uptoBulkEntries entries + 1
  | .held _ => 1
def uptoBulkAll {H : Type} : List (DataW H) → Nat
  | [] => 0
  | d :: r => uptoBulk d + uptoBulkAll r
def uptoBulkEntries {H : Type} : List (Lit × DataW H) → Nat
  | [] => 0
  | x :: r => uptoBulkEntry x + uptoBulkEntries r
def uptoBulkEntry {H : Type} : Lit × DataW H → Nat
  | (.string bytes, d) => bytes.length + uptoBulk d + 1
  | (_, d) => uptoBulk d + 1
 end
def uptoSmall : (H : Type) → List (DataW H) → Bool := fun _ ds => decide (uptoBulkAll ds ≤ 1048576)
def OpenSpec.upto (s : _root_.Go.ChangeSpec) : _root_.Go.OpenSpec := { _root_.Go.OpenSpec.ofChange s with cond := some uptoSmall }

/-- 'lockfastlaw04.SpanRight', WHERE WHAT IT READS IS OF BULK AT MOST 1048576: true; the input reads as it did. -/
def spanRightUptoRow : OpenClaim := { program := "ytncdkbhkjamdpaa", sum := "d93794f568467fd48fbcfa71eb014f15c9c4a0e71598e75b331d04eabbc097c8", func := "lockfast/lockfastlaw04.SpanRight", spec := "spanRight", inPlace := ["slices.overlaps[lockfast/api.Span]"], unfollowed := true, recurses := true, apart := false, narrowed := true }
def SpanRightUptoSaid : Prop := spanRightUptoRow.holds Try.pinned (OpenSpec.upto spanRightSpec)

/-- 'lockfastlaw04.SpanOwn', WHERE WHAT IT READS IS OF BULK AT MOST 1048576: true; the input reads as it did. -/
def spanOwnUptoRow : OpenClaim := { program := "ytncdkbhkjamdpaa", sum := "d93794f568467fd48fbcfa71eb014f15c9c4a0e71598e75b331d04eabbc097c8", func := "lockfast/lockfastlaw04.SpanOwn", spec := "spanOwn", inPlace := ["slices.overlaps[lockfast/api.Span]"], unfollowed := true, recurses := true, apart := false, narrowed := true }
def SpanOwnUptoSaid : Prop := spanOwnUptoRow.holds Try.pinned (OpenSpec.upto spanOwnSpec)

/-- 'lockfastlaw04.SpanAdds', WHERE WHAT IT READS IS OF BULK AT MOST 1048576: true; the input reads as it did. -/
def spanAddsUptoRow : OpenClaim := { program := "ytncdkbhkjamdpaa", sum := "d93794f568467fd48fbcfa71eb014f15c9c4a0e71598e75b331d04eabbc097c8", func := "lockfast/lockfastlaw04.SpanAdds", spec := "spanAdds", inPlace := ["slices.overlaps[lockfast/api.Span]"], unfollowed := true, recurses := true, apart := false, narrowed := true }
def SpanAddsUptoSaid : Prop := spanAddsUptoRow.holds Try.pinned (OpenSpec.upto spanAddsSpec)

/-- 'lockfastlaw04.SpanOrder', WHERE WHAT IT READS IS OF BULK AT MOST 1048576: true; the input reads as it did. -/
def spanOrderUptoRow : OpenClaim := { program := "ytncdkbhkjamdpaa", sum := "d93794f568467fd48fbcfa71eb014f15c9c4a0e71598e75b331d04eabbc097c8", func := "lockfast/lockfastlaw04.SpanOrder", spec := "spanOrder", inPlace := ["slices.overlaps[lockfast/api.Span]"], unfollowed := true, recurses := true, apart := false, narrowed := true }
def SpanOrderUptoSaid : Prop := spanOrderUptoRow.holds Try.pinned (OpenSpec.upto spanOrderSpec)

/-- 'lockfastlaw20.TxOwn', WHERE WHAT IT READS IS OF BULK AT MOST 1048576: true; the input reads as it did. -/
def txOwnUptoRow : OpenClaim := { program := "ytncdkbhkjamdpaa", sum := "d93794f568467fd48fbcfa71eb014f15c9c4a0e71598e75b331d04eabbc097c8", func := "lockfast/lockfastlaw20.TxOwn", spec := "txOwn", inPlace := ["slices.overlaps[lockfast/api.Span]"], unfollowed := true, recurses := true, apart := false, narrowed := true }
def TxOwnUptoSaid : Prop := txOwnUptoRow.holds Try.pinned (OpenSpec.upto txOwnSpec)

/-- 'lockfastlaw04.SpanFills', WHERE WHAT IT READS IS OF BULK AT MOST 1048576: true; the input reads as it did. -/
def spanFillsUptoRow : OpenClaim := { program := "ytncdkbhkjamdpaa", sum := "d93794f568467fd48fbcfa71eb014f15c9c4a0e71598e75b331d04eabbc097c8", func := "lockfast/lockfastlaw04.SpanFills", spec := "spanFills", inPlace := ["slices.overlaps[lockfast/api.Span]"], unfollowed := true, recurses := true, apart := false, narrowed := true }
def SpanFillsUptoSaid : Prop := spanFillsUptoRow.holds Try.pinned (OpenSpec.upto spanFillsSpec)

/-- 'lockfastlaw20.TxNotes', WHERE WHAT IT READS IS OF BULK AT MOST 1048576: true; the input reads as it did. -/
def txNotesUptoRow : OpenClaim := { program := "ytncdkbhkjamdpaa", sum := "d93794f568467fd48fbcfa71eb014f15c9c4a0e71598e75b331d04eabbc097c8", func := "lockfast/lockfastlaw20.TxNotes", spec := "txNotes", inPlace := ["slices.overlaps[lockfast/api.Span]"], unfollowed := true, recurses := true, apart := false, narrowed := true }
def TxNotesUptoSaid : Prop := txNotesUptoRow.holds Try.pinned (OpenSpec.upto txNotesSpec)

/-- 'lockfastlaw04.SpanParts', WHERE WHAT IT READS IS OF BULK AT MOST 1048576: true; the input reads as it did. -/
def spanPartsUptoRow : OpenClaim := { program := "ytncdkbhkjamdpaa", sum := "d93794f568467fd48fbcfa71eb014f15c9c4a0e71598e75b331d04eabbc097c8", func := "lockfast/lockfastlaw04.SpanParts", spec := "spanParts", inPlace := ["slices.overlaps[lockfast/api.Span]"], unfollowed := true, recurses := true, apart := false, narrowed := true }
def SpanPartsUptoSaid : Prop := spanPartsUptoRow.holds Try.pinned (OpenSpec.upto spanPartsSpec)

/-- 'lockfastlaw18.LockPlays', WHERE WHAT IT READS IS OF BULK AT MOST 1048576: true; the input reads as it did. -/
def lockPlaysUptoRow : OpenClaim := { program := "ytncdkbhkjamdpaa", sum := "d93794f568467fd48fbcfa71eb014f15c9c4a0e71598e75b331d04eabbc097c8", func := "lockfast/lockfastlaw18.LockPlays", spec := "lockPlays", unfollowed := true, recurses := true, apart := false, narrowed := true }
def LockPlaysUptoSaid : Prop := lockPlaysUptoRow.holds Try.pinned (OpenSpec.upto lockPlaysSpec)

/-- 'lockfastlaw18.LockOnce', WHERE WHAT IT READS IS OF BULK AT MOST 1048576: true; the input reads as it did. -/
def lockOnceUptoRow : OpenClaim := { program := "ytncdkbhkjamdpaa", sum := "d93794f568467fd48fbcfa71eb014f15c9c4a0e71598e75b331d04eabbc097c8", func := "lockfast/lockfastlaw18.LockOnce", spec := "lockOnce", unfollowed := true, recurses := true, apart := false, narrowed := true }
def LockOnceUptoSaid : Prop := lockOnceUptoRow.holds Try.pinned (OpenSpec.upto lockOnceSpec)

/-- 'lockfastlaw18.LockApart', WHERE WHAT IT READS IS OF BULK AT MOST 1048576: true; the input reads as it did. -/
def lockApartUptoRow : OpenClaim := { program := "ytncdkbhkjamdpaa", sum := "d93794f568467fd48fbcfa71eb014f15c9c4a0e71598e75b331d04eabbc097c8", func := "lockfast/lockfastlaw18.LockApart", spec := "lockApart", unfollowed := true, recurses := true, apart := false, narrowed := true }
def LockApartUptoSaid : Prop := lockApartUptoRow.holds Try.pinned (OpenSpec.upto lockApartSpec)

/-- 'lockfastlaw18.LockGone', WHERE WHAT IT READS IS OF BULK AT MOST 1048576: true; the input reads as it did. -/
def lockGoneUptoRow : OpenClaim := { program := "ytncdkbhkjamdpaa", sum := "d93794f568467fd48fbcfa71eb014f15c9c4a0e71598e75b331d04eabbc097c8", func := "lockfast/lockfastlaw18.LockGone", spec := "lockGone", unfollowed := true, recurses := true, apart := false, narrowed := true }
def LockGoneUptoSaid : Prop := lockGoneUptoRow.holds Try.pinned (OpenSpec.upto lockGoneSpec)

/-- 'lockfastlaw18.LockHeld', WHERE WHAT IT READS IS OF BULK AT MOST 1048576: true; the input reads as it did. -/
def lockHeldUptoRow : OpenClaim := { program := "ytncdkbhkjamdpaa", sum := "d93794f568467fd48fbcfa71eb014f15c9c4a0e71598e75b331d04eabbc097c8", func := "lockfast/lockfastlaw18.LockHeld", spec := "lockHeld", unfollowed := true, recurses := true, apart := false, narrowed := true }
def LockHeldUptoSaid : Prop := lockHeldUptoRow.holds Try.pinned (OpenSpec.upto lockHeldSpec)

/-- 'lockfastlaw03.PmemOwn', WHERE WHAT IT READS IS OF BULK AT MOST 1048576: true; the input reads as it did. -/
def pmemOwnUptoRow : OpenClaim := { program := "ytncdkbhkjamdpaa", sum := "d93794f568467fd48fbcfa71eb014f15c9c4a0e71598e75b331d04eabbc097c8", func := "lockfast/lockfastlaw03.PmemOwn", spec := "pmemOwn", unfollowed := true, recurses := true, apart := false, narrowed := true }
def PmemOwnUptoSaid : Prop := pmemOwnUptoRow.holds Try.pinned (OpenSpec.upto pmemOwnSpec)

/-- 'lockfastlaw03.PmemNew', WHERE WHAT IT READS IS OF BULK AT MOST 1048576: true; the input reads as it did. -/
def pmemNewUptoRow : OpenClaim := { program := "ytncdkbhkjamdpaa", sum := "d93794f568467fd48fbcfa71eb014f15c9c4a0e71598e75b331d04eabbc097c8", func := "lockfast/lockfastlaw03.PmemNew", spec := "pmemNew", unfollowed := true, recurses := true, apart := false, narrowed := true }
def PmemNewUptoSaid : Prop := pmemNewUptoRow.holds Try.pinned (OpenSpec.upto pmemNewSpec)

/-- 'lockfastlaw03.PmemPlays', WHERE WHAT IT READS IS OF BULK AT MOST 1048576: true; the input reads as it did. -/
def pmemPlaysUptoRow : OpenClaim := { program := "ytncdkbhkjamdpaa", sum := "d93794f568467fd48fbcfa71eb014f15c9c4a0e71598e75b331d04eabbc097c8", func := "lockfast/lockfastlaw03.PmemPlays", spec := "pmemPlays", unfollowed := true, recurses := true, apart := false, narrowed := true }
def PmemPlaysUptoSaid : Prop := pmemPlaysUptoRow.holds Try.pinned (OpenSpec.upto pmemPlaysSpec)

/-- 'lockfastlaw20.TxDeep', WHERE WHAT IT READS IS OF BULK AT MOST 1048576: true; the input reads as it did. -/
def txDeepUptoRow : OpenClaim := { program := "ytncdkbhkjamdpaa", sum := "d93794f568467fd48fbcfa71eb014f15c9c4a0e71598e75b331d04eabbc097c8", func := "lockfast/lockfastlaw20.TxDeep", spec := "txDeep", inPlace := ["slices.overlaps[lockfast/api.Span]"], unfollowed := true, recurses := true, apart := false, narrowed := true }
def TxDeepUptoSaid : Prop := txDeepUptoRow.holds Try.pinned (OpenSpec.upto txDeepSpec)

/-- 'lockfastlaw20.TxFresh', WHERE WHAT IT READS IS OF BULK AT MOST 1048576: true; the input reads as it did. -/
def txFreshUptoRow : OpenClaim := { program := "ytncdkbhkjamdpaa", sum := "d93794f568467fd48fbcfa71eb014f15c9c4a0e71598e75b331d04eabbc097c8", func := "lockfast/lockfastlaw20.TxFresh", spec := "txFresh", inPlace := ["slices.overlaps[lockfast/api.Span]"], unfollowed := true, recurses := true, apart := false, narrowed := true }
def TxFreshUptoSaid : Prop := txFreshUptoRow.holds Try.pinned (OpenSpec.upto txFreshSpec)

/-- 'lockfastlaw20.TxPlays', WHERE WHAT IT READS IS OF BULK AT MOST 1048576: true; the input reads as it did. -/
def txPlaysUptoRow : OpenClaim := { program := "ytncdkbhkjamdpaa", sum := "d93794f568467fd48fbcfa71eb014f15c9c4a0e71598e75b331d04eabbc097c8", func := "lockfast/lockfastlaw20.TxPlays", spec := "txPlays", inPlace := ["slices.overlaps[lockfast/api.Span]"], unfollowed := true, recurses := true, apart := false, narrowed := true }
def TxPlaysUptoSaid : Prop := txPlaysUptoRow.holds Try.pinned (OpenSpec.upto txPlaysSpec)

end Rows
end Go.Proofs.Ytncdkbhkjamdpaa
