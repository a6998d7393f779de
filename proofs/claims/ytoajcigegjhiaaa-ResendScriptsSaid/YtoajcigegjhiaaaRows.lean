/-
  No cell of these rows narrows 'for every input' (looked for: loops, veiled, ifaces, maps, wideKeys, modest, calm, conditions, laid).
  DERIVED. THE GIVEN ROWS OF THIS SEAT. 10 by the template 'for every input the law returns true; each argument reads behind the call as it read before'; 0 by the template 'total and deterministic' (their statements: YtoajcigegjhiaaaTotals.lean).
  GIVEN WITH THE SEED: the statements are not yours to turn. If you find one false, say at which input.
  Laid BY PROGRAM, IN A SANDBOX (cutbox-rows.mjs): the forced cells as the released guide's own fill.sh prints them over the translation adaea4fb9f6cf61c… (all of the seat's roots in one cut). By AI agents, Wed Nov 11 2026. No macro, syntax, notation, axiom, sorry.
-/
import Derived.Test.YtoajcigegjhiaaaChecked
import GoSem.Claim
import GoSem.ClaimJoined
import GoSem.ClaimMapViews
import Derived.JoinedTies
import Derived.KernelRfl
namespace Go.Proofs.Ytoajcigegjhiaaa
/- THE CELL 'sum', in the pinned program and in every row, IS THE sha256 OF THE DUMP (.gsa) THAT YtoajcigegjhiaaaProg.lean LOADS. Nothing in Lean hashes anything: it is a label: what it is worth is what the hold of that sum in a sandbox is worth. -/
noncomputable def Try.pinned : Pinned := { name := "ytoajcigegjhiaaa", sum := "adaea4fb9f6cf61ce6812212fab7aea32ec84873a81168e6d90a6a2e2793104d", checked := Try.checked }
namespace Rows
def none {H : Type} : Left H := { results := [], args := [] }

/-- 'duetlaw08.ResendScripts': WHATEVER THE INPUT: true; the input reads as it did. -/
def resendScriptsSpec : ChangeSpec := { name := "resendScripts", fn := fun _ => fun
  | [d1, d2, d3] => { results := [.lit (.bool true)], args := [d1, d2, d3] }
  | _ => none }
def resendScriptsRow : OpenClaim := { program := "ytoajcigegjhiaaa", sum := "adaea4fb9f6cf61ce6812212fab7aea32ec84873a81168e6d90a6a2e2793104d", func := "duet/duetlaw08.ResendScripts", spec := "resendScripts", unfollowed := true, recurses := true, plainKeys := false, apart := false }
def ResendScriptsSaid : Prop := resendScriptsRow.holds Try.pinned (OpenSpec.ofChange resendScriptsSpec)

/-- ITS FALSE NEIGHBOUR: 'it returns false'. Refute it at one input. -/
def resendScriptsWrong : ChangeSpec := { name := "resendScripts", fn := fun _ => fun
  | [d1, d2, d3] => { results := [.lit (.bool false)], args := [d1, d2, d3] }
  | _ => none }
def ResendScriptsWrongFalsely : Prop := resendScriptsRow.holds Try.pinned (OpenSpec.ofChange resendScriptsWrong)

/-- 'duetlaw08.ResendAsks': WHATEVER THE INPUT: true; the input reads as it did. -/
def resendAsksSpec : ChangeSpec := { name := "resendAsks", fn := fun _ => fun
  | [d1, d2, d3] => { results := [.lit (.bool true)], args := [d1, d2, d3] }
  | _ => none }
def resendAsksRow : OpenClaim := { program := "ytoajcigegjhiaaa", sum := "adaea4fb9f6cf61ce6812212fab7aea32ec84873a81168e6d90a6a2e2793104d", func := "duet/duetlaw08.ResendAsks", spec := "resendAsks", unfollowed := true, recurses := true, plainKeys := false, apart := false }
def ResendAsksSaid : Prop := resendAsksRow.holds Try.pinned (OpenSpec.ofChange resendAsksSpec)

/-- ITS FALSE NEIGHBOUR: 'it returns false'. Refute it at one input. -/
def resendAsksWrong : ChangeSpec := { name := "resendAsks", fn := fun _ => fun
  | [d1, d2, d3] => { results := [.lit (.bool false)], args := [d1, d2, d3] }
  | _ => none }
def ResendAsksWrongFalsely : Prop := resendAsksRow.holds Try.pinned (OpenSpec.ofChange resendAsksWrong)

/-- 'duetlaw08.ResendNil': WHATEVER THE INPUT: true; the input reads as it did. -/
def resendNilSpec : ChangeSpec := { name := "resendNil", fn := fun _ => fun
  | [d] => { results := [.lit (.bool true)], args := [d] }
  | _ => none }
def resendNilRow : OpenClaim := { program := "ytoajcigegjhiaaa", sum := "adaea4fb9f6cf61ce6812212fab7aea32ec84873a81168e6d90a6a2e2793104d", func := "duet/duetlaw08.ResendNil", spec := "resendNil", unfollowed := true, recurses := true, plainKeys := false, apart := false }
def ResendNilSaid : Prop := resendNilRow.holds Try.pinned (OpenSpec.ofChange resendNilSpec)

/-- ITS FALSE NEIGHBOUR: 'it returns false'. Refute it at one input. -/
def resendNilWrong : ChangeSpec := { name := "resendNil", fn := fun _ => fun
  | [d] => { results := [.lit (.bool false)], args := [d] }
  | _ => none }
def ResendNilWrongFalsely : Prop := resendNilRow.holds Try.pinned (OpenSpec.ofChange resendNilWrong)

/-- 'duetlaw08.ResendKept': WHATEVER THE INPUT: true; the input reads as it did. -/
def resendKeptSpec : ChangeSpec := { name := "resendKept", fn := fun _ => fun
  | [d] => { results := [.lit (.bool true)], args := [d] }
  | _ => none }
def resendKeptRow : OpenClaim := { program := "ytoajcigegjhiaaa", sum := "adaea4fb9f6cf61ce6812212fab7aea32ec84873a81168e6d90a6a2e2793104d", func := "duet/duetlaw08.ResendKept", spec := "resendKept", unfollowed := true, recurses := true, plainKeys := false, apart := false }
def ResendKeptSaid : Prop := resendKeptRow.holds Try.pinned (OpenSpec.ofChange resendKeptSpec)

/-- ITS FALSE NEIGHBOUR: 'it returns false'. Refute it at one input. -/
def resendKeptWrong : ChangeSpec := { name := "resendKept", fn := fun _ => fun
  | [d] => { results := [.lit (.bool false)], args := [d] }
  | _ => none }
def ResendKeptWrongFalsely : Prop := resendKeptRow.holds Try.pinned (OpenSpec.ofChange resendKeptWrong)

/-- 'duetlaw07.HoldScripts': WHATEVER THE INPUT: true; the input reads as it did. -/
def holdScriptsSpec : ChangeSpec := { name := "holdScripts", fn := fun _ => fun
  | [d1, d2, d3] => { results := [.lit (.bool true)], args := [d1, d2, d3] }
  | _ => none }
def holdScriptsRow : OpenClaim := { program := "ytoajcigegjhiaaa", sum := "adaea4fb9f6cf61ce6812212fab7aea32ec84873a81168e6d90a6a2e2793104d", func := "duet/duetlaw07.HoldScripts", spec := "holdScripts", inPlace := ["slices.overlaps[duet/api.Msg]"], unfollowed := true, recurses := true, plainKeys := false, apart := false }
def HoldScriptsSaid : Prop := holdScriptsRow.holds Try.pinned (OpenSpec.ofChange holdScriptsSpec)

/-- ITS FALSE NEIGHBOUR: 'it returns false'. Refute it at one input. -/
def holdScriptsWrong : ChangeSpec := { name := "holdScripts", fn := fun _ => fun
  | [d1, d2, d3] => { results := [.lit (.bool false)], args := [d1, d2, d3] }
  | _ => none }
def HoldScriptsWrongFalsely : Prop := holdScriptsRow.holds Try.pinned (OpenSpec.ofChange holdScriptsWrong)

/-- 'duetlaw07.HoldNil': WHATEVER THE INPUT: true; the input reads as it did. -/
def holdNilSpec : ChangeSpec := { name := "holdNil", fn := fun _ => fun
  | [d] => { results := [.lit (.bool true)], args := [d] }
  | _ => none }
def holdNilRow : OpenClaim := { program := "ytoajcigegjhiaaa", sum := "adaea4fb9f6cf61ce6812212fab7aea32ec84873a81168e6d90a6a2e2793104d", func := "duet/duetlaw07.HoldNil", spec := "holdNil", inPlace := ["slices.overlaps[duet/api.Msg]"], unfollowed := true, recurses := true, plainKeys := false, apart := false }
def HoldNilSaid : Prop := holdNilRow.holds Try.pinned (OpenSpec.ofChange holdNilSpec)

/-- ITS FALSE NEIGHBOUR: 'it returns false'. Refute it at one input. -/
def holdNilWrong : ChangeSpec := { name := "holdNil", fn := fun _ => fun
  | [d] => { results := [.lit (.bool false)], args := [d] }
  | _ => none }
def HoldNilWrongFalsely : Prop := holdNilRow.holds Try.pinned (OpenSpec.ofChange holdNilWrong)

/-- 'duetlaw07.HoldOrder': WHATEVER THE INPUT: true; the input reads as it did. -/
def holdOrderSpec : ChangeSpec := { name := "holdOrder", fn := fun _ => fun
  | [d1, d2] => { results := [.lit (.bool true)], args := [d1, d2] }
  | _ => none }
def holdOrderRow : OpenClaim := { program := "ytoajcigegjhiaaa", sum := "adaea4fb9f6cf61ce6812212fab7aea32ec84873a81168e6d90a6a2e2793104d", func := "duet/duetlaw07.HoldOrder", spec := "holdOrder", inPlace := ["slices.overlaps[duet/api.Msg]"], unfollowed := true, recurses := true, plainKeys := false, apart := false }
def HoldOrderSaid : Prop := holdOrderRow.holds Try.pinned (OpenSpec.ofChange holdOrderSpec)

/-- ITS FALSE NEIGHBOUR: 'it returns false'. Refute it at one input. -/
def holdOrderWrong : ChangeSpec := { name := "holdOrder", fn := fun _ => fun
  | [d1, d2] => { results := [.lit (.bool false)], args := [d1, d2] }
  | _ => none }
def HoldOrderWrongFalsely : Prop := holdOrderRow.holds Try.pinned (OpenSpec.ofChange holdOrderWrong)

/-- 'duetlaw07.HoldMixed': WHATEVER THE INPUT: true; the input reads as it did. -/
def holdMixedSpec : ChangeSpec := { name := "holdMixed", fn := fun _ => fun
  | [d1, d2, d3] => { results := [.lit (.bool true)], args := [d1, d2, d3] }
  | _ => none }
def holdMixedRow : OpenClaim := { program := "ytoajcigegjhiaaa", sum := "adaea4fb9f6cf61ce6812212fab7aea32ec84873a81168e6d90a6a2e2793104d", func := "duet/duetlaw07.HoldMixed", spec := "holdMixed", inPlace := ["slices.overlaps[duet/api.Msg]"], unfollowed := true, recurses := true, plainKeys := false, apart := false }
def HoldMixedSaid : Prop := holdMixedRow.holds Try.pinned (OpenSpec.ofChange holdMixedSpec)

/-- ITS FALSE NEIGHBOUR: 'it returns false'. Refute it at one input. -/
def holdMixedWrong : ChangeSpec := { name := "holdMixed", fn := fun _ => fun
  | [d1, d2, d3] => { results := [.lit (.bool false)], args := [d1, d2, d3] }
  | _ => none }
def HoldMixedWrongFalsely : Prop := holdMixedRow.holds Try.pinned (OpenSpec.ofChange holdMixedWrong)

/-- 'duetlaw07.HoldSame': WHATEVER THE INPUT: true; the input reads as it did. -/
def holdSameSpec : ChangeSpec := { name := "holdSame", fn := fun _ => fun
  | [d1, d2] => { results := [.lit (.bool true)], args := [d1, d2] }
  | _ => none }
def holdSameRow : OpenClaim := { program := "ytoajcigegjhiaaa", sum := "adaea4fb9f6cf61ce6812212fab7aea32ec84873a81168e6d90a6a2e2793104d", func := "duet/duetlaw07.HoldSame", spec := "holdSame", inPlace := ["slices.overlaps[duet/api.Msg]"], unfollowed := true, recurses := true, plainKeys := false, apart := false }
def HoldSameSaid : Prop := holdSameRow.holds Try.pinned (OpenSpec.ofChange holdSameSpec)

/-- ITS FALSE NEIGHBOUR: 'it returns false'. Refute it at one input. -/
def holdSameWrong : ChangeSpec := { name := "holdSame", fn := fun _ => fun
  | [d1, d2] => { results := [.lit (.bool false)], args := [d1, d2] }
  | _ => none }
def HoldSameWrongFalsely : Prop := holdSameRow.holds Try.pinned (OpenSpec.ofChange holdSameWrong)

/-- 'duetlaw08.ResendRaises': WHATEVER THE INPUT: true; the input reads as it did. -/
def resendRaisesSpec : ChangeSpec := { name := "resendRaises", fn := fun _ => fun
  | [d1, d2] => { results := [.lit (.bool true)], args := [d1, d2] }
  | _ => none }
def resendRaisesRow : OpenClaim := { program := "ytoajcigegjhiaaa", sum := "adaea4fb9f6cf61ce6812212fab7aea32ec84873a81168e6d90a6a2e2793104d", func := "duet/duetlaw08.ResendRaises", spec := "resendRaises", inPlace := ["slices.overlaps[duet/api.Msg]"], unfollowed := true, recurses := true, plainKeys := false, apart := false }
def ResendRaisesSaid : Prop := resendRaisesRow.holds Try.pinned (OpenSpec.ofChange resendRaisesSpec)

/-- ITS FALSE NEIGHBOUR: 'it returns false'. Refute it at one input. -/
def resendRaisesWrong : ChangeSpec := { name := "resendRaises", fn := fun _ => fun
  | [d1, d2] => { results := [.lit (.bool false)], args := [d1, d2] }
  | _ => none }
def ResendRaisesWrongFalsely : Prop := resendRaisesRow.holds Try.pinned (OpenSpec.ofChange resendRaisesWrong)

/- THE SECOND FORM. 'bulk': how many values and letters a reading holds, each counted each time it is reached (what is shared counts as often as it is met; a slice's spare places count too). A statement '..UptoSaid' is the law's where the arguments, and the package variables that the reading takes, are together of bulk at most 1048576: NARROWER than '..Said'. Prove '..Said' where nothing that the law and all that it calls make is longer than what came in: it says more and counts as full. Else prove '..UptoSaid'. A law counts once. -/
mutual
def uptoBulk {H : Type} : DataW H → Nat
  | .lit (.string bytes) => bytes.length + 1
  | .lit _ => 1
  | .nil => 1
  | .ptr d => uptoBulk d + 1
  | .slice elems spare => uptoBulkAll elems + uptoBulkAll spare + 1
  | .agg parts => uptoBulkAll parts + 1
  | .iface _ d => uptoBulk d + 1
  | .map entries => uptoBulkEntries entries + 1
  | .held _ => 1
def uptoBulkAll {H : Type} : List (DataW H) → Nat
  | [] => 0
  | d :: r => uptoBulk d + uptoBulkAll r
def uptoBulkEntries {H : Type} : List (Lit × DataW H) → Nat
  | [] => 0
  | x :: r => uptoBulkEntry x + uptoBulkEntries r
def uptoBulkEntry {H : Type} : Lit × DataW H → Nat
  | (.string bytes, d) => bytes.length + uptoBulk d + 1
  | (_, d) => uptoBulk d + 1
 end
def uptoSmall : (H : Type) → List (DataW H) → Bool := fun _ ds => decide (uptoBulkAll ds ≤ 1048576)
def OpenSpec.upto (s : _root_.Go.ChangeSpec) : _root_.Go.OpenSpec := { _root_.Go.OpenSpec.ofChange s with cond := some uptoSmall }

/-- 'duetlaw08.ResendScripts', WHERE WHAT IT READS IS OF BULK AT MOST 1048576: true; the input reads as it did. -/
def resendScriptsUptoRow : OpenClaim := { program := "ytoajcigegjhiaaa", sum := "adaea4fb9f6cf61ce6812212fab7aea32ec84873a81168e6d90a6a2e2793104d", func := "duet/duetlaw08.ResendScripts", spec := "resendScripts", unfollowed := true, recurses := true, plainKeys := false, apart := false, narrowed := true }
def ResendScriptsUptoSaid : Prop := resendScriptsUptoRow.holds Try.pinned (OpenSpec.upto resendScriptsSpec)

/-- 'duetlaw08.ResendAsks', WHERE WHAT IT READS IS OF BULK AT MOST 1048576: true; the input reads as it did. -/
def resendAsksUptoRow : OpenClaim := { program := "ytoajcigegjhiaaa", sum := "adaea4fb9f6cf61ce6812212fab7aea32ec84873a81168e6d90a6a2e2793104d", func := "duet/duetlaw08.ResendAsks", spec := "resendAsks", unfollowed := true, recurses := true, plainKeys := false, apart := false, narrowed := true }
def ResendAsksUptoSaid : Prop := resendAsksUptoRow.holds Try.pinned (OpenSpec.upto resendAsksSpec)

/-- 'duetlaw08.ResendNil', WHERE WHAT IT READS IS OF BULK AT MOST 1048576: true; the input reads as it did. -/
def resendNilUptoRow : OpenClaim := { program := "ytoajcigegjhiaaa", sum := "adaea4fb9f6cf61ce6812212fab7aea32ec84873a81168e6d90a6a2e2793104d", func := "duet/duetlaw08.ResendNil", spec := "resendNil", unfollowed := true, recurses := true, plainKeys := false, apart := false, narrowed := true }
def ResendNilUptoSaid : Prop := resendNilUptoRow.holds Try.pinned (OpenSpec.upto resendNilSpec)

/-- 'duetlaw08.ResendKept', WHERE WHAT IT READS IS OF BULK AT MOST 1048576: true; the input reads as it did. -/
def resendKeptUptoRow : OpenClaim := { program := "ytoajcigegjhiaaa", sum := "adaea4fb9f6cf61ce6812212fab7aea32ec84873a81168e6d90a6a2e2793104d", func := "duet/duetlaw08.ResendKept", spec := "resendKept", unfollowed := true, recurses := true, plainKeys := false, apart := false, narrowed := true }
def ResendKeptUptoSaid : Prop := resendKeptUptoRow.holds Try.pinned (OpenSpec.upto resendKeptSpec)

/-- 'duetlaw07.HoldScripts', WHERE WHAT IT READS IS OF BULK AT MOST 1048576: true; the input reads as it did. -/
def holdScriptsUptoRow : OpenClaim := { program := "ytoajcigegjhiaaa", sum := "adaea4fb9f6cf61ce6812212fab7aea32ec84873a81168e6d90a6a2e2793104d", func := "duet/duetlaw07.HoldScripts", spec := "holdScripts", inPlace := ["slices.overlaps[duet/api.Msg]"], unfollowed := true, recurses := true, plainKeys := false, apart := false, narrowed := true }
def HoldScriptsUptoSaid : Prop := holdScriptsUptoRow.holds Try.pinned (OpenSpec.upto holdScriptsSpec)

/-- 'duetlaw07.HoldNil', WHERE WHAT IT READS IS OF BULK AT MOST 1048576: true; the input reads as it did. -/
def holdNilUptoRow : OpenClaim := { program := "ytoajcigegjhiaaa", sum := "adaea4fb9f6cf61ce6812212fab7aea32ec84873a81168e6d90a6a2e2793104d", func := "duet/duetlaw07.HoldNil", spec := "holdNil", inPlace := ["slices.overlaps[duet/api.Msg]"], unfollowed := true, recurses := true, plainKeys := false, apart := false, narrowed := true }
def HoldNilUptoSaid : Prop := holdNilUptoRow.holds Try.pinned (OpenSpec.upto holdNilSpec)

/-- 'duetlaw07.HoldOrder', WHERE WHAT IT READS IS OF BULK AT MOST 1048576: true; the input reads as it did. -/
def holdOrderUptoRow : OpenClaim := { program := "ytoajcigegjhiaaa", sum := "adaea4fb9f6cf61ce6812212fab7aea32ec84873a81168e6d90a6a2e2793104d", func := "duet/duetlaw07.HoldOrder", spec := "holdOrder", inPlace := ["slices.overlaps[duet/api.Msg]"], unfollowed := true, recurses := true, plainKeys := false, apart := false, narrowed := true }
def HoldOrderUptoSaid : Prop := holdOrderUptoRow.holds Try.pinned (OpenSpec.upto holdOrderSpec)

/-- 'duetlaw07.HoldMixed', WHERE WHAT IT READS IS OF BULK AT MOST 1048576: true; the input reads as it did. -/
def holdMixedUptoRow : OpenClaim := { program := "ytoajcigegjhiaaa", sum := "adaea4fb9f6cf61ce6812212fab7aea32ec84873a81168e6d90a6a2e2793104d", func := "duet/duetlaw07.HoldMixed", spec := "holdMixed", inPlace := ["slices.overlaps[duet/api.Msg]"], unfollowed := true, recurses := true, plainKeys := false, apart := false, narrowed := true }
def HoldMixedUptoSaid : Prop := holdMixedUptoRow.holds Try.pinned (OpenSpec.upto holdMixedSpec)

/-- 'duetlaw07.HoldSame', WHERE WHAT IT READS IS OF BULK AT MOST 1048576: true; the input reads as it did. -/
def holdSameUptoRow : OpenClaim := { program := "ytoajcigegjhiaaa", sum := "adaea4fb9f6cf61ce6812212fab7aea32ec84873a81168e6d90a6a2e2793104d", func := "duet/duetlaw07.HoldSame", spec := "holdSame", inPlace := ["slices.overlaps[duet/api.Msg]"], unfollowed := true, recurses := true, plainKeys := false, apart := false, narrowed := true }
def HoldSameUptoSaid : Prop := holdSameUptoRow.holds Try.pinned (OpenSpec.upto holdSameSpec)

/-- 'duetlaw08.ResendRaises', WHERE WHAT IT READS IS OF BULK AT MOST 1048576: true; the input reads as it did. -/
def resendRaisesUptoRow : OpenClaim := { program := "ytoajcigegjhiaaa", sum := "adaea4fb9f6cf61ce6812212fab7aea32ec84873a81168e6d90a6a2e2793104d", func := "duet/duetlaw08.ResendRaises", spec := "resendRaises", inPlace := ["slices.overlaps[duet/api.Msg]"], unfollowed := true, recurses := true, plainKeys := false, apart := false, narrowed := true }
def ResendRaisesUptoSaid : Prop := resendRaisesUptoRow.holds Try.pinned (OpenSpec.upto resendRaisesSpec)

end Rows
end Go.Proofs.Ytoajcigegjhiaaa
