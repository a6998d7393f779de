/-
  No cell of these rows narrows 'for every input' (looked for: loops, veiled, ifaces, maps, wideKeys, modest, calm, conditions, laid).
  DERIVED. THE GIVEN ROWS OF THIS SEAT. 11 by the template 'for every input the law returns true; each argument reads behind the call as it read before'; 0 by the template 'total and deterministic' (their statements: YtigjoggpaamodaaTotals.lean).
  GIVEN WITH THE SEED: the statements are not yours to turn. If you find one false, say at which input.
  Laid BY PROGRAM, IN A SANDBOX (cutbox-rows.mjs): the forced cells as the released guide's own fill.sh prints them over the translation 97ba18a37310cff6… (all of the seat's roots in one cut). By AI agents, Wed Nov 11 2026. No macro, syntax, notation, axiom, sorry.
-/
import Derived.Test.YtigjoggpaamodaaChecked
import GoSem.Claim
import GoSem.ClaimJoined
import GoSem.ClaimMapViews
import Derived.JoinedTies
import Derived.KernelRfl
namespace Go.Proofs.Ytigjoggpaamodaa
/- THE CELL 'sum', in the pinned program and in every row, IS THE sha256 OF THE DUMP (.gsa) THAT YtigjoggpaamodaaProg.lean LOADS. Nothing in Lean hashes anything: it is a label: what it is worth is what the hold of that sum in a sandbox is worth. -/
noncomputable def Try.pinned : Pinned := { name := "ytigjoggpaamodaa", sum := "97ba18a37310cff66a17f9311c2cd31b801a5f1b54e5167c5d97a2695495b094", checked := Try.checked }
namespace Rows
def none {H : Type} : Left H := { results := [], args := [] }

/-- 'duetlaw11.WeaveScripts': WHATEVER THE INPUT: true; the input reads as it did. -/
def weaveScriptsSpec : ChangeSpec := { name := "weaveScripts", fn := fun _ => fun
  | [d1, d2] => { results := [.lit (.bool true)], args := [d1, d2] }
  | _ => none }
def weaveScriptsRow : OpenClaim := { program := "ytigjoggpaamodaa", sum := "97ba18a37310cff66a17f9311c2cd31b801a5f1b54e5167c5d97a2695495b094", func := "duet/duetlaw11.WeaveScripts", spec := "weaveScripts", inPlace := ["slices.overlaps[duet/api.Id]"], unfollowed := true, recurses := true, plainKeys := false, apart := false }
def WeaveScriptsSaid : Prop := weaveScriptsRow.holds Try.pinned (OpenSpec.ofChange weaveScriptsSpec)

/-- ITS FALSE NEIGHBOUR: 'it returns false'. Refute it at one input. -/
def weaveScriptsWrong : ChangeSpec := { name := "weaveScripts", fn := fun _ => fun
  | [d1, d2] => { results := [.lit (.bool false)], args := [d1, d2] }
  | _ => none }
def WeaveScriptsWrongFalsely : Prop := weaveScriptsRow.holds Try.pinned (OpenSpec.ofChange weaveScriptsWrong)

/-- 'duetlaw11.WeaveNil': WHATEVER THE INPUT: true; the input reads as it did. -/
def weaveNilSpec : ChangeSpec := { name := "weaveNil", fn := fun _ => fun
  | [d] => { results := [.lit (.bool true)], args := [d] }
  | _ => none }
def weaveNilRow : OpenClaim := { program := "ytigjoggpaamodaa", sum := "97ba18a37310cff66a17f9311c2cd31b801a5f1b54e5167c5d97a2695495b094", func := "duet/duetlaw11.WeaveNil", spec := "weaveNil", inPlace := ["slices.overlaps[duet/api.Id]"], unfollowed := true, recurses := true, plainKeys := false, apart := false }
def WeaveNilSaid : Prop := weaveNilRow.holds Try.pinned (OpenSpec.ofChange weaveNilSpec)

/-- ITS FALSE NEIGHBOUR: 'it returns false'. Refute it at one input. -/
def weaveNilWrong : ChangeSpec := { name := "weaveNil", fn := fun _ => fun
  | [d] => { results := [.lit (.bool false)], args := [d] }
  | _ => none }
def WeaveNilWrongFalsely : Prop := weaveNilRow.holds Try.pinned (OpenSpec.ofChange weaveNilWrong)

/-- 'duetlaw11.WeaveMixed': WHATEVER THE INPUT: true; the input reads as it did. -/
def weaveMixedSpec : ChangeSpec := { name := "weaveMixed", fn := fun _ => fun
  | [d1, d2] => { results := [.lit (.bool true)], args := [d1, d2] }
  | _ => none }
def weaveMixedRow : OpenClaim := { program := "ytigjoggpaamodaa", sum := "97ba18a37310cff66a17f9311c2cd31b801a5f1b54e5167c5d97a2695495b094", func := "duet/duetlaw11.WeaveMixed", spec := "weaveMixed", inPlace := ["slices.overlaps[duet/api.Id]"], unfollowed := true, recurses := true, plainKeys := false, apart := false }
def WeaveMixedSaid : Prop := weaveMixedRow.holds Try.pinned (OpenSpec.ofChange weaveMixedSpec)

/-- ITS FALSE NEIGHBOUR: 'it returns false'. Refute it at one input. -/
def weaveMixedWrong : ChangeSpec := { name := "weaveMixed", fn := fun _ => fun
  | [d1, d2] => { results := [.lit (.bool false)], args := [d1, d2] }
  | _ => none }
def WeaveMixedWrongFalsely : Prop := weaveMixedRow.holds Try.pinned (OpenSpec.ofChange weaveMixedWrong)

/-- 'duetlaw11.WeaveStays': WHATEVER THE INPUT: true; the input reads as it did. -/
def weaveStaysSpec : ChangeSpec := { name := "weaveStays", fn := fun _ => fun
  | [d] => { results := [.lit (.bool true)], args := [d] }
  | _ => none }
def weaveStaysRow : OpenClaim := { program := "ytigjoggpaamodaa", sum := "97ba18a37310cff66a17f9311c2cd31b801a5f1b54e5167c5d97a2695495b094", func := "duet/duetlaw11.WeaveStays", spec := "weaveStays", inPlace := ["slices.overlaps[duet/api.Id]"], unfollowed := true, recurses := true, plainKeys := false, apart := false }
def WeaveStaysSaid : Prop := weaveStaysRow.holds Try.pinned (OpenSpec.ofChange weaveStaysSpec)

/-- ITS FALSE NEIGHBOUR: 'it returns false'. Refute it at one input. -/
def weaveStaysWrong : ChangeSpec := { name := "weaveStays", fn := fun _ => fun
  | [d] => { results := [.lit (.bool false)], args := [d] }
  | _ => none }
def WeaveStaysWrongFalsely : Prop := weaveStaysRow.holds Try.pinned (OpenSpec.ofChange weaveStaysWrong)

/-- 'duetlaw11.WeaveTyped': WHATEVER THE INPUT: true; the input reads as it did. -/
def weaveTypedSpec : ChangeSpec := { name := "weaveTyped", fn := fun _ => fun
  | [d1, d2, d3] => { results := [.lit (.bool true)], args := [d1, d2, d3] }
  | _ => none }
def weaveTypedRow : OpenClaim := { program := "ytigjoggpaamodaa", sum := "97ba18a37310cff66a17f9311c2cd31b801a5f1b54e5167c5d97a2695495b094", func := "duet/duetlaw11.WeaveTyped", spec := "weaveTyped", inPlace := ["slices.overlaps[duet/api.Id]"], unfollowed := true, recurses := true, plainKeys := false, apart := false }
def WeaveTypedSaid : Prop := weaveTypedRow.holds Try.pinned (OpenSpec.ofChange weaveTypedSpec)

/-- ITS FALSE NEIGHBOUR: 'it returns false'. Refute it at one input. -/
def weaveTypedWrong : ChangeSpec := { name := "weaveTyped", fn := fun _ => fun
  | [d1, d2, d3] => { results := [.lit (.bool false)], args := [d1, d2, d3] }
  | _ => none }
def WeaveTypedWrongFalsely : Prop := weaveTypedRow.holds Try.pinned (OpenSpec.ofChange weaveTypedWrong)

/-- 'duetlaw11.WeaveKids': WHATEVER THE INPUT: true; the input reads as it did. -/
def weaveKidsSpec : ChangeSpec := { name := "weaveKids", fn := fun _ => fun
  | [d1, d2] => { results := [.lit (.bool true)], args := [d1, d2] }
  | _ => none }
def weaveKidsRow : OpenClaim := { program := "ytigjoggpaamodaa", sum := "97ba18a37310cff66a17f9311c2cd31b801a5f1b54e5167c5d97a2695495b094", func := "duet/duetlaw11.WeaveKids", spec := "weaveKids", inPlace := ["slices.overlaps[duet/api.Id]"], unfollowed := true, recurses := true, plainKeys := false, apart := false }
def WeaveKidsSaid : Prop := weaveKidsRow.holds Try.pinned (OpenSpec.ofChange weaveKidsSpec)

/-- ITS FALSE NEIGHBOUR: 'it returns false'. Refute it at one input. -/
def weaveKidsWrong : ChangeSpec := { name := "weaveKids", fn := fun _ => fun
  | [d1, d2] => { results := [.lit (.bool false)], args := [d1, d2] }
  | _ => none }
def WeaveKidsWrongFalsely : Prop := weaveKidsRow.holds Try.pinned (OpenSpec.ofChange weaveKidsWrong)

/-- 'duetlaw13.UndoNil': WHATEVER THE INPUT: true; the input reads as it did. -/
def undoNilSpec : ChangeSpec := { name := "undoNil", fn := fun _ => fun
  | [d] => { results := [.lit (.bool true)], args := [d] }
  | _ => none }
def undoNilRow : OpenClaim := { program := "ytigjoggpaamodaa", sum := "97ba18a37310cff66a17f9311c2cd31b801a5f1b54e5167c5d97a2695495b094", func := "duet/duetlaw13.UndoNil", spec := "undoNil", inPlace := ["slices.overlaps[duet/api.Id]"], unfollowed := true, recurses := true, plainKeys := false, apart := false }
def UndoNilSaid : Prop := undoNilRow.holds Try.pinned (OpenSpec.ofChange undoNilSpec)

/-- ITS FALSE NEIGHBOUR: 'it returns false'. Refute it at one input. -/
def undoNilWrong : ChangeSpec := { name := "undoNil", fn := fun _ => fun
  | [d] => { results := [.lit (.bool false)], args := [d] }
  | _ => none }
def UndoNilWrongFalsely : Prop := undoNilRow.holds Try.pinned (OpenSpec.ofChange undoNilWrong)

/-- 'duetlaw13.UndoMixed': WHATEVER THE INPUT: true; the input reads as it did. -/
def undoMixedSpec : ChangeSpec := { name := "undoMixed", fn := fun _ => fun
  | [d1, d2] => { results := [.lit (.bool true)], args := [d1, d2] }
  | _ => none }
def undoMixedRow : OpenClaim := { program := "ytigjoggpaamodaa", sum := "97ba18a37310cff66a17f9311c2cd31b801a5f1b54e5167c5d97a2695495b094", func := "duet/duetlaw13.UndoMixed", spec := "undoMixed", inPlace := ["slices.overlaps[duet/api.Id]"], unfollowed := true, recurses := true, plainKeys := false, apart := false }
def UndoMixedSaid : Prop := undoMixedRow.holds Try.pinned (OpenSpec.ofChange undoMixedSpec)

/-- ITS FALSE NEIGHBOUR: 'it returns false'. Refute it at one input. -/
def undoMixedWrong : ChangeSpec := { name := "undoMixed", fn := fun _ => fun
  | [d1, d2] => { results := [.lit (.bool false)], args := [d1, d2] }
  | _ => none }
def UndoMixedWrongFalsely : Prop := undoMixedRow.holds Try.pinned (OpenSpec.ofChange undoMixedWrong)

/-- 'duetlaw13.UndoBack': WHATEVER THE INPUT: true; the input reads as it did. -/
def undoBackSpec : ChangeSpec := { name := "undoBack", fn := fun _ => fun
  | [d1, d2] => { results := [.lit (.bool true)], args := [d1, d2] }
  | _ => none }
def undoBackRow : OpenClaim := { program := "ytigjoggpaamodaa", sum := "97ba18a37310cff66a17f9311c2cd31b801a5f1b54e5167c5d97a2695495b094", func := "duet/duetlaw13.UndoBack", spec := "undoBack", inPlace := ["slices.overlaps[duet/api.Id]"], unfollowed := true, recurses := true, plainKeys := false, apart := false }
def UndoBackSaid : Prop := undoBackRow.holds Try.pinned (OpenSpec.ofChange undoBackSpec)

/-- ITS FALSE NEIGHBOUR: 'it returns false'. Refute it at one input. -/
def undoBackWrong : ChangeSpec := { name := "undoBack", fn := fun _ => fun
  | [d1, d2] => { results := [.lit (.bool false)], args := [d1, d2] }
  | _ => none }
def UndoBackWrongFalsely : Prop := undoBackRow.holds Try.pinned (OpenSpec.ofChange undoBackWrong)

/-- 'duetlaw13.UndoAlone': WHATEVER THE INPUT: true; the input reads as it did. -/
def undoAloneSpec : ChangeSpec := { name := "undoAlone", fn := fun _ => fun
  | [d1, d2] => { results := [.lit (.bool true)], args := [d1, d2] }
  | _ => none }
def undoAloneRow : OpenClaim := { program := "ytigjoggpaamodaa", sum := "97ba18a37310cff66a17f9311c2cd31b801a5f1b54e5167c5d97a2695495b094", func := "duet/duetlaw13.UndoAlone", spec := "undoAlone", inPlace := ["slices.overlaps[duet/api.Id]"], unfollowed := true, recurses := true, plainKeys := false, apart := false }
def UndoAloneSaid : Prop := undoAloneRow.holds Try.pinned (OpenSpec.ofChange undoAloneSpec)

/-- ITS FALSE NEIGHBOUR: 'it returns false'. Refute it at one input. -/
def undoAloneWrong : ChangeSpec := { name := "undoAlone", fn := fun _ => fun
  | [d1, d2] => { results := [.lit (.bool false)], args := [d1, d2] }
  | _ => none }
def UndoAloneWrongFalsely : Prop := undoAloneRow.holds Try.pinned (OpenSpec.ofChange undoAloneWrong)

/-- 'duetlaw13.UndoTwice': WHATEVER THE INPUT: true; the input reads as it did. -/
def undoTwiceSpec : ChangeSpec := { name := "undoTwice", fn := fun _ => fun
  | [d] => { results := [.lit (.bool true)], args := [d] }
  | _ => none }
def undoTwiceRow : OpenClaim := { program := "ytigjoggpaamodaa", sum := "97ba18a37310cff66a17f9311c2cd31b801a5f1b54e5167c5d97a2695495b094", func := "duet/duetlaw13.UndoTwice", spec := "undoTwice", inPlace := ["slices.overlaps[duet/api.Id]"], unfollowed := true, recurses := true, plainKeys := false, apart := false }
def UndoTwiceSaid : Prop := undoTwiceRow.holds Try.pinned (OpenSpec.ofChange undoTwiceSpec)

/-- ITS FALSE NEIGHBOUR: 'it returns false'. Refute it at one input. -/
def undoTwiceWrong : ChangeSpec := { name := "undoTwice", fn := fun _ => fun
  | [d] => { results := [.lit (.bool false)], args := [d] }
  | _ => none }
def UndoTwiceWrongFalsely : Prop := undoTwiceRow.holds Try.pinned (OpenSpec.ofChange undoTwiceWrong)

/- THE SECOND FORM. 'bulk': how many values and letters a reading holds, each counted each time it is reached (what is shared counts as often as it is met; a slice's spare places count too). A statement '..UptoSaid' is the law's where the arguments, and the package variables that the reading takes, are together of bulk at most 1048576: NARROWER than '..Said'. Prove '..Said' where nothing that the law and all that it calls make is longer than what came in: it says more and counts as full. Else prove '..UptoSaid'. A law counts once. -/
mutual
def uptoBulk {H : Type} : DataW H → Nat
  | .lit (.string bytes) => bytes.length + 1
  | .lit _ => 1
  | .nil => 1
  | .ptr d => uptoBulk d + 1
  | .slice elems spare => uptoBulkAll elems + uptoBulkAll spare + 1
  | .agg parts => uptoBulkAll parts + 1
  | .iface _ d => uptoBulk d + 1
  | .map entries => uptoBulkEntries entries + 1
  | .held _ => 1
def uptoBulkAll {H : Type} : List (DataW H) → Nat
  | [] => 0
  | d :: r => uptoBulk d + uptoBulkAll r
def uptoBulkEntries {H : Type} : List (Lit × DataW H) → Nat
  | [] => 0
  | x :: r => uptoBulkEntry x + uptoBulkEntries r
def uptoBulkEntry {H : Type} : Lit × DataW H → Nat
  | (.string bytes, d) => bytes.length + uptoBulk d + 1
  | (_, d) => uptoBulk d + 1
 end
def uptoSmall : (H : Type) → List (DataW H) → Bool := fun _ ds => decide (uptoBulkAll ds ≤ 1048576)
def OpenSpec.upto (s : _root_.Go.ChangeSpec) : _root_.Go.OpenSpec := { _root_.Go.OpenSpec.ofChange s with cond := some uptoSmall }

/-- 'duetlaw11.WeaveScripts', WHERE WHAT IT READS IS OF BULK AT MOST 1048576: true; the input reads as it did. -/
def weaveScriptsUptoRow : OpenClaim := { program := "ytigjoggpaamodaa", sum := "97ba18a37310cff66a17f9311c2cd31b801a5f1b54e5167c5d97a2695495b094", func := "duet/duetlaw11.WeaveScripts", spec := "weaveScripts", inPlace := ["slices.overlaps[duet/api.Id]"], unfollowed := true, recurses := true, plainKeys := false, apart := false, narrowed := true }
def WeaveScriptsUptoSaid : Prop := weaveScriptsUptoRow.holds Try.pinned (OpenSpec.upto weaveScriptsSpec)

/-- 'duetlaw11.WeaveNil', WHERE WHAT IT READS IS OF BULK AT MOST 1048576: true; the input reads as it did. -/
def weaveNilUptoRow : OpenClaim := { program := "ytigjoggpaamodaa", sum := "97ba18a37310cff66a17f9311c2cd31b801a5f1b54e5167c5d97a2695495b094", func := "duet/duetlaw11.WeaveNil", spec := "weaveNil", inPlace := ["slices.overlaps[duet/api.Id]"], unfollowed := true, recurses := true, plainKeys := false, apart := false, narrowed := true }
def WeaveNilUptoSaid : Prop := weaveNilUptoRow.holds Try.pinned (OpenSpec.upto weaveNilSpec)

/-- 'duetlaw11.WeaveMixed', WHERE WHAT IT READS IS OF BULK AT MOST 1048576: true; the input reads as it did. -/
def weaveMixedUptoRow : OpenClaim := { program := "ytigjoggpaamodaa", sum := "97ba18a37310cff66a17f9311c2cd31b801a5f1b54e5167c5d97a2695495b094", func := "duet/duetlaw11.WeaveMixed", spec := "weaveMixed", inPlace := ["slices.overlaps[duet/api.Id]"], unfollowed := true, recurses := true, plainKeys := false, apart := false, narrowed := true }
def WeaveMixedUptoSaid : Prop := weaveMixedUptoRow.holds Try.pinned (OpenSpec.upto weaveMixedSpec)

/-- 'duetlaw11.WeaveStays', WHERE WHAT IT READS IS OF BULK AT MOST 1048576: true; the input reads as it did. -/
def weaveStaysUptoRow : OpenClaim := { program := "ytigjoggpaamodaa", sum := "97ba18a37310cff66a17f9311c2cd31b801a5f1b54e5167c5d97a2695495b094", func := "duet/duetlaw11.WeaveStays", spec := "weaveStays", inPlace := ["slices.overlaps[duet/api.Id]"], unfollowed := true, recurses := true, plainKeys := false, apart := false, narrowed := true }
def WeaveStaysUptoSaid : Prop := weaveStaysUptoRow.holds Try.pinned (OpenSpec.upto weaveStaysSpec)

/-- 'duetlaw11.WeaveTyped', WHERE WHAT IT READS IS OF BULK AT MOST 1048576: true; the input reads as it did. -/
def weaveTypedUptoRow : OpenClaim := { program := "ytigjoggpaamodaa", sum := "97ba18a37310cff66a17f9311c2cd31b801a5f1b54e5167c5d97a2695495b094", func := "duet/duetlaw11.WeaveTyped", spec := "weaveTyped", inPlace := ["slices.overlaps[duet/api.Id]"], unfollowed := true, recurses := true, plainKeys := false, apart := false, narrowed := true }
def WeaveTypedUptoSaid : Prop := weaveTypedUptoRow.holds Try.pinned (OpenSpec.upto weaveTypedSpec)

/-- 'duetlaw11.WeaveKids', WHERE WHAT IT READS IS OF BULK AT MOST 1048576: true; the input reads as it did. -/
def weaveKidsUptoRow : OpenClaim := { program := "ytigjoggpaamodaa", sum := "97ba18a37310cff66a17f9311c2cd31b801a5f1b54e5167c5d97a2695495b094", func := "duet/duetlaw11.WeaveKids", spec := "weaveKids", inPlace := ["slices.overlaps[duet/api.Id]"], unfollowed := true, recurses := true, plainKeys := false, apart := false, narrowed := true }
def WeaveKidsUptoSaid : Prop := weaveKidsUptoRow.holds Try.pinned (OpenSpec.upto weaveKidsSpec)

/-- 'duetlaw13.UndoNil', WHERE WHAT IT READS IS OF BULK AT MOST 1048576: true; the input reads as it did. -/
def undoNilUptoRow : OpenClaim := { program := "ytigjoggpaamodaa", sum := "97ba18a37310cff66a17f9311c2cd31b801a5f1b54e5167c5d97a2695495b094", func := "duet/duetlaw13.UndoNil", spec := "undoNil", inPlace := ["slices.overlaps[duet/api.Id]"], unfollowed := true, recurses := true, plainKeys := false, apart := false, narrowed := true }
def UndoNilUptoSaid : Prop := undoNilUptoRow.holds Try.pinned (OpenSpec.upto undoNilSpec)

/-- 'duetlaw13.UndoMixed', WHERE WHAT IT READS IS OF BULK AT MOST 1048576: true; the input reads as it did. -/
def undoMixedUptoRow : OpenClaim := { program := "ytigjoggpaamodaa", sum := "97ba18a37310cff66a17f9311c2cd31b801a5f1b54e5167c5d97a2695495b094", func := "duet/duetlaw13.UndoMixed", spec := "undoMixed", inPlace := ["slices.overlaps[duet/api.Id]"], unfollowed := true, recurses := true, plainKeys := false, apart := false, narrowed := true }
def UndoMixedUptoSaid : Prop := undoMixedUptoRow.holds Try.pinned (OpenSpec.upto undoMixedSpec)

/-- 'duetlaw13.UndoBack', WHERE WHAT IT READS IS OF BULK AT MOST 1048576: true; the input reads as it did. -/
def undoBackUptoRow : OpenClaim := { program := "ytigjoggpaamodaa", sum := "97ba18a37310cff66a17f9311c2cd31b801a5f1b54e5167c5d97a2695495b094", func := "duet/duetlaw13.UndoBack", spec := "undoBack", inPlace := ["slices.overlaps[duet/api.Id]"], unfollowed := true, recurses := true, plainKeys := false, apart := false, narrowed := true }
def UndoBackUptoSaid : Prop := undoBackUptoRow.holds Try.pinned (OpenSpec.upto undoBackSpec)

/-- 'duetlaw13.UndoAlone', WHERE WHAT IT READS IS OF BULK AT MOST 1048576: true; the input reads as it did. -/
def undoAloneUptoRow : OpenClaim := { program := "ytigjoggpaamodaa", sum := "97ba18a37310cff66a17f9311c2cd31b801a5f1b54e5167c5d97a2695495b094", func := "duet/duetlaw13.UndoAlone", spec := "undoAlone", inPlace := ["slices.overlaps[duet/api.Id]"], unfollowed := true, recurses := true, plainKeys := false, apart := false, narrowed := true }
def UndoAloneUptoSaid : Prop := undoAloneUptoRow.holds Try.pinned (OpenSpec.upto undoAloneSpec)

/-- 'duetlaw13.UndoTwice', WHERE WHAT IT READS IS OF BULK AT MOST 1048576: true; the input reads as it did. -/
def undoTwiceUptoRow : OpenClaim := { program := "ytigjoggpaamodaa", sum := "97ba18a37310cff66a17f9311c2cd31b801a5f1b54e5167c5d97a2695495b094", func := "duet/duetlaw13.UndoTwice", spec := "undoTwice", inPlace := ["slices.overlaps[duet/api.Id]"], unfollowed := true, recurses := true, plainKeys := false, apart := false, narrowed := true }
def UndoTwiceUptoSaid : Prop := undoTwiceUptoRow.holds Try.pinned (OpenSpec.upto undoTwiceSpec)

end Rows
end Go.Proofs.Ytigjoggpaamodaa
