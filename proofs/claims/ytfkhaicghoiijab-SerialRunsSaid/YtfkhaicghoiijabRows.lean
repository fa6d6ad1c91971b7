/-
  No cell of these rows narrows 'for every input' (looked for: loops, veiled, ifaces, maps, wideKeys, modest, calm, conditions, laid).
  DERIVED. THE GIVEN ROWS OF THIS SEAT. 6 by the template 'for every input the law returns true; each argument reads behind the call as it read before'; 0 by the template 'total and deterministic' (their statements: YtfkhaicghoiijabTotals.lean).
  GIVEN WITH THE SEED: the statements are not yours to turn. If you find one false, say at which input.
  Laid BY PROGRAM, IN A SANDBOX (cutbox-rows.mjs): the forced cells as the released guide's own fill.sh prints them over the translation 08d2a0efdb25d687… (all of the seat's roots in one cut). By AI agents, Wed Nov 11 2026. No macro, syntax, notation, axiom, sorry.
-/
import Derived.Test.YtfkhaicghoiijabChecked
import GoSem.Claim
import GoSem.ClaimJoined
import GoSem.ClaimMapViews
import Derived.JoinedTies
import Derived.KernelRfl
namespace Go.Proofs.Ytfkhaicghoiijab
/- THE CELL 'sum', in the pinned program and in every row, IS THE sha256 OF THE DUMP (.gsa) THAT YtfkhaicghoiijabProg.lean LOADS. Nothing in Lean hashes anything: it is a label: what it is worth is what the hold of that sum in a sandbox is worth. -/
noncomputable def Try.pinned : Pinned := { name := "ytfkhaicghoiijab", sum := "08d2a0efdb25d68715b90853ae7fc78309437fd259ae95195fdeb75e9f872c12", checked := Try.checked }
namespace Rows
def none {H : Type} : Left H := { results := [], args := [] }

/-- 'weighlocklaw24.SerialJoins': WHATEVER THE INPUT: true; the input reads as it did. -/
def serialJoinsSpec : ChangeSpec := { name := "serialJoins", fn := fun _ => fun
  | [d] => { results := [.lit (.bool true)], args := [d] }
  | _ => none }
def serialJoinsRow : OpenClaim := { program := "ytfkhaicghoiijab", sum := "08d2a0efdb25d68715b90853ae7fc78309437fd259ae95195fdeb75e9f872c12", func := "weighlock/weighlocklaw24.SerialJoins", spec := "serialJoins", plainKeys := false, apart := false }
def SerialJoinsSaid : Prop := serialJoinsRow.holds Try.pinned (OpenSpec.ofChange serialJoinsSpec)

/-- ITS FALSE NEIGHBOUR: 'it returns false'. Refute it at one input. -/
def serialJoinsWrong : ChangeSpec := { name := "serialJoins", fn := fun _ => fun
  | [d] => { results := [.lit (.bool false)], args := [d] }
  | _ => none }
def SerialJoinsWrongFalsely : Prop := serialJoinsRow.holds Try.pinned (OpenSpec.ofChange serialJoinsWrong)

/-- 'weighlocklaw24.SerialParts': WHATEVER THE INPUT: true; the input reads as it did. -/
def serialPartsSpec : ChangeSpec := { name := "serialParts", fn := fun _ => fun
  | [d1, d2, d3] => { results := [.lit (.bool true)], args := [d1, d2, d3] }
  | _ => none }
def serialPartsRow : OpenClaim := { program := "ytfkhaicghoiijab", sum := "08d2a0efdb25d68715b90853ae7fc78309437fd259ae95195fdeb75e9f872c12", func := "weighlock/weighlocklaw24.SerialParts", spec := "serialParts", plainKeys := false, apart := false }
def SerialPartsSaid : Prop := serialPartsRow.holds Try.pinned (OpenSpec.ofChange serialPartsSpec)

/-- ITS FALSE NEIGHBOUR: 'it returns false'. Refute it at one input. -/
def serialPartsWrong : ChangeSpec := { name := "serialParts", fn := fun _ => fun
  | [d1, d2, d3] => { results := [.lit (.bool false)], args := [d1, d2, d3] }
  | _ => none }
def SerialPartsWrongFalsely : Prop := serialPartsRow.holds Try.pinned (OpenSpec.ofChange serialPartsWrong)

/-- 'weighlocklaw24.SerialRuns': WHATEVER THE INPUT: true; the input reads as it did. -/
def serialRunsSpec : ChangeSpec := { name := "serialRuns", fn := fun _ => fun
  | [d1, d2, d3] => { results := [.lit (.bool true)], args := [d1, d2, d3] }
  | _ => none }
def serialRunsRow : OpenClaim := { program := "ytfkhaicghoiijab", sum := "08d2a0efdb25d68715b90853ae7fc78309437fd259ae95195fdeb75e9f872c12", func := "weighlock/weighlocklaw24.SerialRuns", spec := "serialRuns", plainKeys := false, apart := false }
def SerialRunsSaid : Prop := serialRunsRow.holds Try.pinned (OpenSpec.ofChange serialRunsSpec)

/-- ITS FALSE NEIGHBOUR: 'it returns false'. Refute it at one input. -/
def serialRunsWrong : ChangeSpec := { name := "serialRuns", fn := fun _ => fun
  | [d1, d2, d3] => { results := [.lit (.bool false)], args := [d1, d2, d3] }
  | _ => none }
def SerialRunsWrongFalsely : Prop := serialRunsRow.holds Try.pinned (OpenSpec.ofChange serialRunsWrong)

/-- 'weighlocklaw24.SerialOrder': WHATEVER THE INPUT: true; the input reads as it did. -/
def serialOrderSpec : ChangeSpec := { name := "serialOrder", fn := fun _ => fun
  | [d] => { results := [.lit (.bool true)], args := [d] }
  | _ => none }
def serialOrderRow : OpenClaim := { program := "ytfkhaicghoiijab", sum := "08d2a0efdb25d68715b90853ae7fc78309437fd259ae95195fdeb75e9f872c12", func := "weighlock/weighlocklaw24.SerialOrder", spec := "serialOrder", plainKeys := false, apart := false }
def SerialOrderSaid : Prop := serialOrderRow.holds Try.pinned (OpenSpec.ofChange serialOrderSpec)

/-- ITS FALSE NEIGHBOUR: 'it returns false'. Refute it at one input. -/
def serialOrderWrong : ChangeSpec := { name := "serialOrder", fn := fun _ => fun
  | [d] => { results := [.lit (.bool false)], args := [d] }
  | _ => none }
def SerialOrderWrongFalsely : Prop := serialOrderRow.holds Try.pinned (OpenSpec.ofChange serialOrderWrong)

/-- 'weighlocklaw19.FifoOrder': WHATEVER THE INPUT: true; the input reads as it did. -/
def fifoOrderSpec : ChangeSpec := { name := "fifoOrder", fn := fun _ => fun
  | [d1, d2] => { results := [.lit (.bool true)], args := [d1, d2] }
  | _ => none }
def fifoOrderRow : OpenClaim := { program := "ytfkhaicghoiijab", sum := "08d2a0efdb25d68715b90853ae7fc78309437fd259ae95195fdeb75e9f872c12", func := "weighlock/weighlocklaw19.FifoOrder", spec := "fifoOrder", unfollowed := true, recurses := true, plainKeys := false, apart := false }
def FifoOrderSaid : Prop := fifoOrderRow.holds Try.pinned (OpenSpec.ofChange fifoOrderSpec)

/-- ITS FALSE NEIGHBOUR: 'it returns false'. Refute it at one input. -/
def fifoOrderWrong : ChangeSpec := { name := "fifoOrder", fn := fun _ => fun
  | [d1, d2] => { results := [.lit (.bool false)], args := [d1, d2] }
  | _ => none }
def FifoOrderWrongFalsely : Prop := fifoOrderRow.holds Try.pinned (OpenSpec.ofChange fifoOrderWrong)

/-- 'weighlocklaw19.FifoBegins': WHATEVER THE INPUT: true; the input reads as it did. -/
def fifoBeginsSpec : ChangeSpec := { name := "fifoBegins", fn := fun _ => fun
  | [d1, d2, d3] => { results := [.lit (.bool true)], args := [d1, d2, d3] }
  | _ => none }
def fifoBeginsRow : OpenClaim := { program := "ytfkhaicghoiijab", sum := "08d2a0efdb25d68715b90853ae7fc78309437fd259ae95195fdeb75e9f872c12", func := "weighlock/weighlocklaw19.FifoBegins", spec := "fifoBegins", unfollowed := true, recurses := true, plainKeys := false, apart := false }
def FifoBeginsSaid : Prop := fifoBeginsRow.holds Try.pinned (OpenSpec.ofChange fifoBeginsSpec)

/-- ITS FALSE NEIGHBOUR: 'it returns false'. Refute it at one input. -/
def fifoBeginsWrong : ChangeSpec := { name := "fifoBegins", fn := fun _ => fun
  | [d1, d2, d3] => { results := [.lit (.bool false)], args := [d1, d2, d3] }
  | _ => none }
def FifoBeginsWrongFalsely : Prop := fifoBeginsRow.holds Try.pinned (OpenSpec.ofChange fifoBeginsWrong)

/- THE SECOND FORM. 'bulk': how many values and letters a reading holds, each counted each time it is reached (what is shared counts as often as it is met; a slice's spare places count too). A statement '..UptoSaid' is the law's where the arguments, and the package variables that the reading takes, are together of bulk at most 1048576: NARROWER than '..Said'. Prove '..Said' where nothing that the law and all that it calls make is longer than what came in: it says more and counts as full. Else prove '..UptoSaid'. A law counts once. -/
mutual
def uptoBulk {H : Type} : DataW H → Nat
  | .lit (.string bytes) => bytes.length + 1
  | .lit _ => 1
  | .nil => 1
  | .ptr d => uptoBulk d + 1
  | .slice elems spare => uptoBulkAll elems + uptoBulkAll spare + 1
  | .agg parts => uptoBulkAll parts + 1
  | .iface _ d => uptoBulk d + 1
  | .map entries => uptoBulkEntries entries + 1
  | .held _ => 1
def uptoBulkAll {H : Type} : List (DataW H) → Nat
  | [] => 0
  | d :: r => uptoBulk d + uptoBulkAll r
def uptoBulkEntries {H : Type} : List (Lit × DataW H) → Nat
  | [] => 0
  | x :: r => uptoBulkEntry x + uptoBulkEntries r
def uptoBulkEntry {H : Type} : Lit × DataW H → Nat
  | (.string bytes, d) => bytes.length + uptoBulk d + 1
  | (_, d) => uptoBulk d + 1
 end
def uptoSmall : (H : Type) → List (DataW H) → Bool := fun _ ds => decide (uptoBulkAll ds ≤ 1048576)
def OpenSpec.upto (s : _root_.Go.ChangeSpec) : _root_.Go.OpenSpec := { _root_.Go.OpenSpec.ofChange s with cond := some uptoSmall }

/-- 'weighlocklaw24.SerialJoins', WHERE WHAT IT READS IS OF BULK AT MOST 1048576: true; the input reads as it did. -/
def serialJoinsUptoRow : OpenClaim := { program := "ytfkhaicghoiijab", sum := "08d2a0efdb25d68715b90853ae7fc78309437fd259ae95195fdeb75e9f872c12", func := "weighlock/weighlocklaw24.SerialJoins", spec := "serialJoins", plainKeys := false, apart := false, narrowed := true }
def SerialJoinsUptoSaid : Prop := serialJoinsUptoRow.holds Try.pinned (OpenSpec.upto serialJoinsSpec)

/-- 'weighlocklaw24.SerialParts', WHERE WHAT IT READS IS OF BULK AT MOST 1048576: true; the input reads as it did. -/
def serialPartsUptoRow : OpenClaim := { program := "ytfkhaicghoiijab", sum := "08d2a0efdb25d68715b90853ae7fc78309437fd259ae95195fdeb75e9f872c12", func := "weighlock/weighlocklaw24.SerialParts", spec := "serialParts", plainKeys := false, apart := false, narrowed := true }
def SerialPartsUptoSaid : Prop := serialPartsUptoRow.holds Try.pinned (OpenSpec.upto serialPartsSpec)

/-- 'weighlocklaw24.SerialRuns', WHERE WHAT IT READS IS OF BULK AT MOST 1048576: true; the input reads as it did. -/
def serialRunsUptoRow : OpenClaim := { program := "ytfkhaicghoiijab", sum := "08d2a0efdb25d68715b90853ae7fc78309437fd259ae95195fdeb75e9f872c12", func := "weighlock/weighlocklaw24.SerialRuns", spec := "serialRuns", plainKeys := false, apart := false, narrowed := true }
def SerialRunsUptoSaid : Prop := serialRunsUptoRow.holds Try.pinned (OpenSpec.upto serialRunsSpec)

/-- 'weighlocklaw24.SerialOrder', WHERE WHAT IT READS IS OF BULK AT MOST 1048576: true; the input reads as it did. -/
def serialOrderUptoRow : OpenClaim := { program := "ytfkhaicghoiijab", sum := "08d2a0efdb25d68715b90853ae7fc78309437fd259ae95195fdeb75e9f872c12", func := "weighlock/weighlocklaw24.SerialOrder", spec := "serialOrder", plainKeys := false, apart := false, narrowed := true }
def SerialOrderUptoSaid : Prop := serialOrderUptoRow.holds Try.pinned (OpenSpec.upto serialOrderSpec)

/-- 'weighlocklaw19.FifoOrder', WHERE WHAT IT READS IS OF BULK AT MOST 1048576: true; the input reads as it did. -/
def fifoOrderUptoRow : OpenClaim := { program := "ytfkhaicghoiijab", sum := "08d2a0efdb25d68715b90853ae7fc78309437fd259ae95195fdeb75e9f872c12", func := "weighlock/weighlocklaw19.FifoOrder", spec := "fifoOrder", unfollowed := true, recurses := true, plainKeys := false, apart := false, narrowed := true }
def FifoOrderUptoSaid : Prop := fifoOrderUptoRow.holds Try.pinned (OpenSpec.upto fifoOrderSpec)

/-- 'weighlocklaw19.FifoBegins', WHERE WHAT IT READS IS OF BULK AT MOST 1048576: true; the input reads as it did. -/
def fifoBeginsUptoRow : OpenClaim := { program := "ytfkhaicghoiijab", sum := "08d2a0efdb25d68715b90853ae7fc78309437fd259ae95195fdeb75e9f872c12", func := "weighlock/weighlocklaw19.FifoBegins", spec := "fifoBegins", unfollowed := true, recurses := true, plainKeys := false, apart := false, narrowed := true }
def FifoBeginsUptoSaid : Prop := fifoBeginsUptoRow.holds Try.pinned (OpenSpec.upto fifoBeginsSpec)

end Rows
end Go.Proofs.Ytfkhaicghoiijab
