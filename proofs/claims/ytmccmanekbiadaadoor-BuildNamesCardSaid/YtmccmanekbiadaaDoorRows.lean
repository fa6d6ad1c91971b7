/-
  NARROWER THAN 'FOR EVERY INPUT', by the rows' own cells (each row's printed sentence says how): BuildNames: laid · BoundRises: laid.
  DERIVED. THE GIVEN ROWS OF THIS SEAT. 2 by the template 'for every input the law returns true; each argument reads behind the call as it read before'; 0 by the template 'total and deterministic' (their statements: YtmccmanekbiadaaDoorTotals.lean).
  GIVEN WITH THE SEED: the statements are not yours to turn. If you find one false, say at which input.
  Laid BY PROGRAM, IN A SANDBOX (cutbox-rows.mjs): the forced cells as the released guide's own fill.sh prints them over the translation ef3fe61ce857ea83… (all of the seat's roots in one cut). By AI agents, Wed Nov 11 2026. No macro, syntax, notation, axiom, sorry.
-/
import Derived.Test.YtmccmanekbiadaaDoorChecked
import GoSem.Claim
import GoSem.ClaimJoined
import GoSem.ClaimMapViews
import Derived.JoinedTies
import Derived.KernelRfl
namespace Go.Proofs.YtmccmanekbiadaaDoor
/- THE CELL 'sum', in the pinned program and in every row, IS THE sha256 OF THE DUMP (.gsa) THAT YtmccmanekbiadaaDoorProg.lean LOADS. Nothing in Lean hashes anything: it is a label: what it is worth is what the hold of that sum in a sandbox is worth. -/
noncomputable def Tryd.pinned : Pinned := { name := "ytmccmanekbiadaadoor", sum := "ef3fe61ce857ea83df9677d6d5659733502b27be24d4de164fb2c56646f931ba", checked := Tryd.checked }
namespace Rows
def none {H : Type} : Left H := { results := [], args := [] }

/- WHAT THE LISTED PACKAGE-LEVEL VARIABLES READ AS WHEN THE CALL BEGINS. Each datum BY PROGRAM (the guide's laid-datum.mjs) off the statement by which the dump's own 'gosem.cut.vars' lays the variable. In a bare row this is a premise. The card (YtmccmanekbiadaaDoorCards.lean) ties it to the program's text. -/
def laid_weighlock_build_names {H : Type} : DataW H := .agg [.lit (.string [116, 105, 99, 107, 101, 116]), .lit (.string [115, 108, 111, 116, 115]), .lit (.string [99, 108, 104]), .lit (.string [109, 99, 115]), .lit (.string [97, 98, 111, 114, 116]), .lit (.string [104, 105, 101, 114]), .lit (.string [99, 111, 104, 111, 114, 116])]
def laid_weighlock_bound_costs {H : Type} : DataW H := .agg [.lit (.int .i64 8), .lit (.int .i64 10), .lit (.int .i64 8), .lit (.int .i64 14), .lit (.int .i64 16), .lit (.int .i64 24), .lit (.int .i64 48)]

/-- 'weighlocklaw17.BuildNames': WHATEVER THE INPUT: true; the input reads as it did. -/
def buildNamesSpec : ChangeSpec := { name := "buildNames", fn := fun _ => fun
  | [d1, d2] => { results := [.lit (.bool true)], args := [d1, d2] }
  | _ => none }
def buildNamesRow : OpenClaim := { program := "ytmccmanekbiadaadoor", sum := "ef3fe61ce857ea83df9677d6d5659733502b27be24d4de164fb2c56646f931ba", func := "weighlock/weighlocklaw17.BuildNames", spec := "buildNames", inPlace := ["sync/atomic.StoreUint32"], unfollowed := true, recurses := true, named := ["weighlock/build.names"], apart := false, laid := [("weighlock/build.names", laid_weighlock_build_names)] }
def BuildNamesSaid : Prop := buildNamesRow.holds Tryd.pinned (OpenSpec.ofChange buildNamesSpec)

/-- ITS FALSE NEIGHBOUR: 'it returns false'. Refute it at one input. -/
def buildNamesWrong : ChangeSpec := { name := "buildNames", fn := fun _ => fun
  | [d1, d2] => { results := [.lit (.bool false)], args := [d1, d2] }
  | _ => none }
def BuildNamesWrongFalsely : Prop := buildNamesRow.holds Tryd.pinned (OpenSpec.ofChange buildNamesWrong)

/-- 'weighlocklaw27.BoundRises': WHATEVER THE INPUT: true; the input reads as it did. -/
def boundRisesSpec : ChangeSpec := { name := "boundRises", fn := fun _ => fun
  | [d1, d2, d3] => { results := [.lit (.bool true)], args := [d1, d2, d3] }
  | _ => none }
def boundRisesRow : OpenClaim := { program := "ytmccmanekbiadaadoor", sum := "ef3fe61ce857ea83df9677d6d5659733502b27be24d4de164fb2c56646f931ba", func := "weighlock/weighlocklaw27.BoundRises", spec := "boundRises", inPlace := ["sync/atomic.StoreUint32"], unfollowed := true, recurses := true, named := ["weighlock/bound.costs"], apart := false, laid := [("weighlock/bound.costs", laid_weighlock_bound_costs)] }
def BoundRisesSaid : Prop := boundRisesRow.holds Tryd.pinned (OpenSpec.ofChange boundRisesSpec)

/-- ITS FALSE NEIGHBOUR: 'it returns false'. Refute it at one input. -/
def boundRisesWrong : ChangeSpec := { name := "boundRises", fn := fun _ => fun
  | [d1, d2, d3] => { results := [.lit (.bool false)], args := [d1, d2, d3] }
  | _ => none }
def BoundRisesWrongFalsely : Prop := boundRisesRow.holds Tryd.pinned (OpenSpec.ofChange boundRisesWrong)

/- THE SECOND FORM. 'bulk': how many values and letters a reading holds, each counted each time it is reached (what is shared counts as often as it is met; a slice's spare places count too). A statement '..UptoSaid' is the law's where the arguments, and the package variables that the reading takes, are together of bulk at most 1048576: NARROWER than '..Said'. Prove '..Said' where nothing that the law and all that it calls make is longer than what came in: it says more and counts as full. Else prove '..UptoSaid'. A law counts once. -/
mutual
def uptoBulk {H : Type} : DataW H → Nat
  | .lit (.string bytes) => bytes.length + 1
  | .lit _ => 1
  | .nil => 1
  | .ptr d => uptoBulk d + 1
  | .slice elems spare => uptoBulkAll elems + uptoBulkAll spare + 1
  | .agg parts => uptoBulkAll parts + 1
  | .iface _ d => uptoBulk d + 1
  | .map entries => uptoBulkEntries entries + 1
  | .held _ => 1
def uptoBulkAll {H : Type} : List (DataW H) → Nat
  | [] => 0
  | d :: r => uptoBulk d + uptoBulkAll r
def uptoBulkEntries {H : Type} : List (Lit × DataW H) → Nat
  | [] => 0
  | x :: r => uptoBulkEntry x + uptoBulkEntries r
def uptoBulkEntry {H : Type} : Lit × DataW H → Nat
  | (.string bytes, d) => bytes.length + uptoBulk d + 1
  | (_, d) => uptoBulk d + 1
 end
def uptoSmall : (H : Type) → List (DataW H) → Bool := fun _ ds => decide (uptoBulkAll ds ≤ 1048576)
def OpenSpec.upto (s : _root_.Go.ChangeSpec) : _root_.Go.OpenSpec := { _root_.Go.OpenSpec.ofChange s with cond := some uptoSmall }

/-- 'weighlocklaw17.BuildNames', WHERE WHAT IT READS IS OF BULK AT MOST 1048576: true; the input reads as it did. -/
def buildNamesUptoRow : OpenClaim := { program := "ytmccmanekbiadaadoor", sum := "ef3fe61ce857ea83df9677d6d5659733502b27be24d4de164fb2c56646f931ba", func := "weighlock/weighlocklaw17.BuildNames", spec := "buildNames", inPlace := ["sync/atomic.StoreUint32"], unfollowed := true, recurses := true, named := ["weighlock/build.names"], apart := false, laid := [("weighlock/build.names", laid_weighlock_build_names)], narrowed := true }
def BuildNamesUptoSaid : Prop := buildNamesUptoRow.holds Tryd.pinned (OpenSpec.upto buildNamesSpec)

/-- 'weighlocklaw27.BoundRises', WHERE WHAT IT READS IS OF BULK AT MOST 1048576: true; the input reads as it did. -/
def boundRisesUptoRow : OpenClaim := { program := "ytmccmanekbiadaadoor", sum := "ef3fe61ce857ea83df9677d6d5659733502b27be24d4de164fb2c56646f931ba", func := "weighlock/weighlocklaw27.BoundRises", spec := "boundRises", inPlace := ["sync/atomic.StoreUint32"], unfollowed := true, recurses := true, named := ["weighlock/bound.costs"], apart := false, laid := [("weighlock/bound.costs", laid_weighlock_bound_costs)], narrowed := true }
def BoundRisesUptoSaid : Prop := boundRisesUptoRow.holds Tryd.pinned (OpenSpec.upto boundRisesSpec)

end Rows
end Go.Proofs.YtmccmanekbiadaaDoor
