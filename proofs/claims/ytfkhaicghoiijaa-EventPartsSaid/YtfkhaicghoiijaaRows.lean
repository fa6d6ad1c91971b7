/-
  No cell of these rows narrows 'for every input' (looked for: loops, veiled, ifaces, maps, wideKeys, modest, calm, conditions, laid).
  DERIVED. THE GIVEN ROWS OF THIS SEAT. 6 by the template 'for every input the law returns true; each argument reads behind the call as it read before'; 0 by the template 'total and deterministic' (their statements: YtfkhaicghoiijaaTotals.lean).
  GIVEN WITH THE SEED: the statements are not yours to turn. If you find one false, say at which input.
  Laid BY PROGRAM, IN A SANDBOX (cutbox-rows.mjs): the forced cells as the released guide's own fill.sh prints them over the translation 060752ffe42a1705… (all of the seat's roots in one cut). By AI agents, Wed Nov 11 2026. No macro, syntax, notation, axiom, sorry.
-/
import Derived.Test.YtfkhaicghoiijaaChecked
import GoSem.Claim
import GoSem.ClaimJoined
import GoSem.ClaimMapViews
import Derived.JoinedTies
import Derived.KernelRfl
namespace Go.Proofs.Ytfkhaicghoiijaa
/- THE CELL 'sum', in the pinned program and in every row, IS THE sha256 OF THE DUMP (.gsa) THAT YtfkhaicghoiijaaProg.lean LOADS. Nothing in Lean hashes anything: it is a label: what it is worth is what the hold of that sum in a sandbox is worth. -/
noncomputable def Try.pinned : Pinned := { name := "ytfkhaicghoiijaa", sum := "060752ffe42a1705c6d98f7fe9bf652e08238a272d02bb93094da54d217fa23b", checked := Try.checked }
namespace Rows
def none {H : Type} : Left H := { results := [], args := [] }

/-- 'weighlocklaw07.EventDecodes': WHATEVER THE INPUT: true; the input reads as it did. -/
def eventDecodesSpec : ChangeSpec := { name := "eventDecodes", fn := fun _ => fun
  | [d] => { results := [.lit (.bool true)], args := [d] }
  | _ => none }
def eventDecodesRow : OpenClaim := { program := "ytfkhaicghoiijaa", sum := "060752ffe42a1705c6d98f7fe9bf652e08238a272d02bb93094da54d217fa23b", func := "weighlock/weighlocklaw07.EventDecodes", spec := "eventDecodes", apart := false }
def EventDecodesSaid : Prop := eventDecodesRow.holds Try.pinned (OpenSpec.ofChange eventDecodesSpec)

/-- ITS FALSE NEIGHBOUR: 'it returns false'. Refute it at one input. -/
def eventDecodesWrong : ChangeSpec := { name := "eventDecodes", fn := fun _ => fun
  | [d] => { results := [.lit (.bool false)], args := [d] }
  | _ => none }
def EventDecodesWrongFalsely : Prop := eventDecodesRow.holds Try.pinned (OpenSpec.ofChange eventDecodesWrong)

/-- 'weighlocklaw07.EventEncodes': WHATEVER THE INPUT: true; the input reads as it did. -/
def eventEncodesSpec : ChangeSpec := { name := "eventEncodes", fn := fun _ => fun
  | [d] => { results := [.lit (.bool true)], args := [d] }
  | _ => none }
def eventEncodesRow : OpenClaim := { program := "ytfkhaicghoiijaa", sum := "060752ffe42a1705c6d98f7fe9bf652e08238a272d02bb93094da54d217fa23b", func := "weighlock/weighlocklaw07.EventEncodes", spec := "eventEncodes", apart := false }
def EventEncodesSaid : Prop := eventEncodesRow.holds Try.pinned (OpenSpec.ofChange eventEncodesSpec)

/-- ITS FALSE NEIGHBOUR: 'it returns false'. Refute it at one input. -/
def eventEncodesWrong : ChangeSpec := { name := "eventEncodes", fn := fun _ => fun
  | [d] => { results := [.lit (.bool false)], args := [d] }
  | _ => none }
def EventEncodesWrongFalsely : Prop := eventEncodesRow.holds Try.pinned (OpenSpec.ofChange eventEncodesWrong)

/-- 'weighlocklaw07.EventParts': WHATEVER THE INPUT: true; the input reads as it did. -/
def eventPartsSpec : ChangeSpec := { name := "eventParts", fn := fun _ => fun
  | [d1, d2] => { results := [.lit (.bool true)], args := [d1, d2] }
  | _ => none }
def eventPartsRow : OpenClaim := { program := "ytfkhaicghoiijaa", sum := "060752ffe42a1705c6d98f7fe9bf652e08238a272d02bb93094da54d217fa23b", func := "weighlock/weighlocklaw07.EventParts", spec := "eventParts", apart := false }
def EventPartsSaid : Prop := eventPartsRow.holds Try.pinned (OpenSpec.ofChange eventPartsSpec)

/-- ITS FALSE NEIGHBOUR: 'it returns false'. Refute it at one input. -/
def eventPartsWrong : ChangeSpec := { name := "eventParts", fn := fun _ => fun
  | [d1, d2] => { results := [.lit (.bool false)], args := [d1, d2] }
  | _ => none }
def EventPartsWrongFalsely : Prop := eventPartsRow.holds Try.pinned (OpenSpec.ofChange eventPartsWrong)

/-- 'weighlocklaw25.RoundPlays': WHATEVER THE INPUT: true; the input reads as it did. -/
def roundPlaysSpec : ChangeSpec := { name := "roundPlays", fn := fun _ => fun
  | [d1, d2] => { results := [.lit (.bool true)], args := [d1, d2] }
  | _ => none }
def roundPlaysRow : OpenClaim := { program := "ytfkhaicghoiijaa", sum := "060752ffe42a1705c6d98f7fe9bf652e08238a272d02bb93094da54d217fa23b", func := "weighlock/weighlocklaw25.RoundPlays", spec := "roundPlays", unfollowed := true, recurses := true, apart := false }
def RoundPlaysSaid : Prop := roundPlaysRow.holds Try.pinned (OpenSpec.ofChange roundPlaysSpec)

/-- ITS FALSE NEIGHBOUR: 'it returns false'. Refute it at one input. -/
def roundPlaysWrong : ChangeSpec := { name := "roundPlays", fn := fun _ => fun
  | [d1, d2] => { results := [.lit (.bool false)], args := [d1, d2] }
  | _ => none }
def RoundPlaysWrongFalsely : Prop := roundPlaysRow.holds Try.pinned (OpenSpec.ofChange roundPlaysWrong)

/-- 'weighlocklaw25.RoundTurns': WHATEVER THE INPUT: true; the input reads as it did. -/
def roundTurnsSpec : ChangeSpec := { name := "roundTurns", fn := fun _ => fun
  | [d1, d2, d3] => { results := [.lit (.bool true)], args := [d1, d2, d3] }
  | _ => none }
def roundTurnsRow : OpenClaim := { program := "ytfkhaicghoiijaa", sum := "060752ffe42a1705c6d98f7fe9bf652e08238a272d02bb93094da54d217fa23b", func := "weighlock/weighlocklaw25.RoundTurns", spec := "roundTurns", unfollowed := true, recurses := true, apart := false }
def RoundTurnsSaid : Prop := roundTurnsRow.holds Try.pinned (OpenSpec.ofChange roundTurnsSpec)

/-- ITS FALSE NEIGHBOUR: 'it returns false'. Refute it at one input. -/
def roundTurnsWrong : ChangeSpec := { name := "roundTurns", fn := fun _ => fun
  | [d1, d2, d3] => { results := [.lit (.bool false)], args := [d1, d2, d3] }
  | _ => none }
def RoundTurnsWrongFalsely : Prop := roundTurnsRow.holds Try.pinned (OpenSpec.ofChange roundTurnsWrong)

/-- 'weighlocklaw25.RoundFew': WHATEVER THE INPUT: true; the input reads as it did. -/
def roundFewSpec : ChangeSpec := { name := "roundFew", fn := fun _ => fun
  | [d1, d2] => { results := [.lit (.bool true)], args := [d1, d2] }
  | _ => none }
def roundFewRow : OpenClaim := { program := "ytfkhaicghoiijaa", sum := "060752ffe42a1705c6d98f7fe9bf652e08238a272d02bb93094da54d217fa23b", func := "weighlock/weighlocklaw25.RoundFew", spec := "roundFew", unfollowed := true, recurses := true, apart := false }
def RoundFewSaid : Prop := roundFewRow.holds Try.pinned (OpenSpec.ofChange roundFewSpec)

/-- ITS FALSE NEIGHBOUR: 'it returns false'. Refute it at one input. -/
def roundFewWrong : ChangeSpec := { name := "roundFew", fn := fun _ => fun
  | [d1, d2] => { results := [.lit (.bool false)], args := [d1, d2] }
  | _ => none }
def RoundFewWrongFalsely : Prop := roundFewRow.holds Try.pinned (OpenSpec.ofChange roundFewWrong)

/- THE SECOND FORM. 'bulk': how many values and letters a reading holds, each counted each time it is reached (what is shared counts as often as it is met; a slice's spare places count too). A statement '..UptoSaid' is the law's where the arguments, and the package variables that the reading takes, are together of bulk at most 1048576: NARROWER than '..Said'. Prove '..Said' where nothing that the law and all that it calls make is longer than what came in: it says more and counts as full. Else prove '..UptoSaid'. A law counts once. -/
mutual
def uptoBulk {H : Type} : DataW H → Nat
  | .lit (.string bytes) => bytes.length + 1
  | .lit _ => 1
  | .nil => 1
  | .ptr d => uptoBulk d + 1
  | .slice elems spare => uptoBulkAll elems + uptoBulkAll spare + 1
  | .agg parts => uptoBulkAll parts + 1
  | .iface _ d => uptoBulk d + 1
  | .map entries => uptoBulkEntries entries + 1
  | .held _ => 1
def uptoBulkAll {H : Type} : List (DataW H) → Nat
  | [] => 0
  | d :: r => uptoBulk d + uptoBulkAll r
def uptoBulkEntries {H : Type} : List (Lit × DataW H) → Nat
  | [] => 0
  | x :: r => uptoBulkEntry x + uptoBulkEntries r
def uptoBulkEntry {H : Type} : Lit × DataW H → Nat
  | (.string bytes, d) => bytes.length + uptoBulk d + 1
  | (_, d) => uptoBulk d + 1
 end
def uptoSmall : (H : Type) → List (DataW H) → Bool := fun _ ds => decide (uptoBulkAll ds ≤ 1048576)
def OpenSpec.upto (s : _root_.Go.ChangeSpec) : _root_.Go.OpenSpec := { _root_.Go.OpenSpec.ofChange s with cond := some uptoSmall }

/-- 'weighlocklaw07.EventDecodes', WHERE WHAT IT READS IS OF BULK AT MOST 1048576: true; the input reads as it did. -/
def eventDecodesUptoRow : OpenClaim := { program := "ytfkhaicghoiijaa", sum := "060752ffe42a1705c6d98f7fe9bf652e08238a272d02bb93094da54d217fa23b", func := "weighlock/weighlocklaw07.EventDecodes", spec := "eventDecodes", apart := false, narrowed := true }
def EventDecodesUptoSaid : Prop := eventDecodesUptoRow.holds Try.pinned (OpenSpec.upto eventDecodesSpec)

/-- 'weighlocklaw07.EventEncodes', WHERE WHAT IT READS IS OF BULK AT MOST 1048576: true; the input reads as it did. -/
def eventEncodesUptoRow : OpenClaim := { program := "ytfkhaicghoiijaa", sum := "060752ffe42a1705c6d98f7fe9bf652e08238a272d02bb93094da54d217fa23b", func := "weighlock/weighlocklaw07.EventEncodes", spec := "eventEncodes", apart := false, narrowed := true }
def EventEncodesUptoSaid : Prop := eventEncodesUptoRow.holds Try.pinned (OpenSpec.upto eventEncodesSpec)

/-- 'weighlocklaw07.EventParts', WHERE WHAT IT READS IS OF BULK AT MOST 1048576: true; the input reads as it did. -/
def eventPartsUptoRow : OpenClaim := { program := "ytfkhaicghoiijaa", sum := "060752ffe42a1705c6d98f7fe9bf652e08238a272d02bb93094da54d217fa23b", func := "weighlock/weighlocklaw07.EventParts", spec := "eventParts", apart := false, narrowed := true }
def EventPartsUptoSaid : Prop := eventPartsUptoRow.holds Try.pinned (OpenSpec.upto eventPartsSpec)

/-- 'weighlocklaw25.RoundPlays', WHERE WHAT IT READS IS OF BULK AT MOST 1048576: true; the input reads as it did. -/
def roundPlaysUptoRow : OpenClaim := { program := "ytfkhaicghoiijaa", sum := "060752ffe42a1705c6d98f7fe9bf652e08238a272d02bb93094da54d217fa23b", func := "weighlock/weighlocklaw25.RoundPlays", spec := "roundPlays", unfollowed := true, recurses := true, apart := false, narrowed := true }
def RoundPlaysUptoSaid : Prop := roundPlaysUptoRow.holds Try.pinned (OpenSpec.upto roundPlaysSpec)

/-- 'weighlocklaw25.RoundTurns', WHERE WHAT IT READS IS OF BULK AT MOST 1048576: true; the input reads as it did. -/
def roundTurnsUptoRow : OpenClaim := { program := "ytfkhaicghoiijaa", sum := "060752ffe42a1705c6d98f7fe9bf652e08238a272d02bb93094da54d217fa23b", func := "weighlock/weighlocklaw25.RoundTurns", spec := "roundTurns", unfollowed := true, recurses := true, apart := false, narrowed := true }
def RoundTurnsUptoSaid : Prop := roundTurnsUptoRow.holds Try.pinned (OpenSpec.upto roundTurnsSpec)

/-- 'weighlocklaw25.RoundFew', WHERE WHAT IT READS IS OF BULK AT MOST 1048576: true; the input reads as it did. -/
def roundFewUptoRow : OpenClaim := { program := "ytfkhaicghoiijaa", sum := "060752ffe42a1705c6d98f7fe9bf652e08238a272d02bb93094da54d217fa23b", func := "weighlock/weighlocklaw25.RoundFew", spec := "roundFew", unfollowed := true, recurses := true, apart := false, narrowed := true }
def RoundFewUptoSaid : Prop := roundFewUptoRow.holds Try.pinned (OpenSpec.upto roundFewSpec)

end Rows
end Go.Proofs.Ytfkhaicghoiijaa
