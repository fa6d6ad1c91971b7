/-
  No cell of these rows narrows 'for every input' (looked for: loops, veiled, ifaces, maps, wideKeys, modest, calm, conditions, laid).
  DERIVED. THE GIVEN ROWS OF THIS SEAT. 7 by the template 'for every input the law returns true; each argument reads behind the call as it read before'; 0 by the template 'total and deterministic' (their statements: YtmccmanekbiadaaTotals.lean).
  GIVEN WITH THE SEED: the statements are not yours to turn. If you find one false, say at which input.
  Laid BY PROGRAM, IN A SANDBOX (cutbox-rows.mjs): the forced cells as the released guide's own fill.sh prints them over the translation 1278d6970296e365… (all of the seat's roots in one cut). By AI agents, Wed Nov 11 2026. No macro, syntax, notation, axiom, sorry.
-/
import Derived.Test.YtmccmanekbiadaaChecked
import GoSem.Claim
import GoSem.ClaimJoined
import GoSem.ClaimMapViews
import Derived.JoinedTies
import Derived.KernelRfl
namespace Go.Proofs.Ytmccmanekbiadaa
/- THE CELL 'sum', in the pinned program and in every row, IS THE sha256 OF THE DUMP (.gsa) THAT YtmccmanekbiadaaProg.lean LOADS. Nothing in Lean hashes anything: it is a label: what it is worth is what the hold of that sum in a sandbox is worth. -/
noncomputable def Try.pinned : Pinned := { name := "ytmccmanekbiadaa", sum := "1278d6970296e365c9687baae24af67af0042eeca16ff20a198bd53a040d7af5", checked := Try.checked }
namespace Rows
def none {H : Type} : Left H := { results := [], args := [] }

/-- 'weighlocklaw17.BuildNews': WHATEVER THE INPUT: true; the input reads as it did. -/
def buildNewsSpec : ChangeSpec := { name := "buildNews", fn := fun _ => fun
  | [d] => { results := [.lit (.bool true)], args := [d] }
  | _ => none }
def buildNewsRow : OpenClaim := { program := "ytmccmanekbiadaa", sum := "1278d6970296e365c9687baae24af67af0042eeca16ff20a198bd53a040d7af5", func := "weighlock/weighlocklaw17.BuildNews", spec := "buildNews", inPlace := ["sync/atomic.StoreUint32"], unfollowed := true, recurses := true, apart := false }
def BuildNewsSaid : Prop := buildNewsRow.holds Try.pinned (OpenSpec.ofChange buildNewsSpec)

/-- ITS FALSE NEIGHBOUR: 'it returns false'. Refute it at one input. -/
def buildNewsWrong : ChangeSpec := { name := "buildNews", fn := fun _ => fun
  | [d] => { results := [.lit (.bool false)], args := [d] }
  | _ => none }
def BuildNewsWrongFalsely : Prop := buildNewsRow.holds Try.pinned (OpenSpec.ofChange buildNewsWrong)

/-- 'weighlocklaw21.WitnessPairs': WHATEVER THE INPUT: true; the input reads as it did. -/
def witnessPairsSpec : ChangeSpec := { name := "witnessPairs", fn := fun _ => fun
  | [d1, d2] => { results := [.lit (.bool true)], args := [d1, d2] }
  | _ => none }
def witnessPairsRow : OpenClaim := { program := "ytmccmanekbiadaa", sum := "1278d6970296e365c9687baae24af67af0042eeca16ff20a198bd53a040d7af5", func := "weighlock/weighlocklaw21.WitnessPairs", spec := "witnessPairs", inPlace := ["sync/atomic.StoreUint32"], unfollowed := true, recurses := true, apart := false }
def WitnessPairsSaid : Prop := witnessPairsRow.holds Try.pinned (OpenSpec.ofChange witnessPairsSpec)

/-- ITS FALSE NEIGHBOUR: 'it returns false'. Refute it at one input. -/
def witnessPairsWrong : ChangeSpec := { name := "witnessPairs", fn := fun _ => fun
  | [d1, d2] => { results := [.lit (.bool false)], args := [d1, d2] }
  | _ => none }
def WitnessPairsWrongFalsely : Prop := witnessPairsRow.holds Try.pinned (OpenSpec.ofChange witnessPairsWrong)

/-- 'weighlocklaw21.WitnessNone': WHATEVER THE INPUT: true; the input reads as it did. -/
def witnessNoneSpec : ChangeSpec := { name := "witnessNone", fn := fun _ => fun
  | [d] => { results := [.lit (.bool true)], args := [d] }
  | _ => none }
def witnessNoneRow : OpenClaim := { program := "ytmccmanekbiadaa", sum := "1278d6970296e365c9687baae24af67af0042eeca16ff20a198bd53a040d7af5", func := "weighlock/weighlocklaw21.WitnessNone", spec := "witnessNone", inPlace := ["sync/atomic.StoreUint32"], unfollowed := true, recurses := true, apart := false }
def WitnessNoneSaid : Prop := witnessNoneRow.holds Try.pinned (OpenSpec.ofChange witnessNoneSpec)

/-- ITS FALSE NEIGHBOUR: 'it returns false'. Refute it at one input. -/
def witnessNoneWrong : ChangeSpec := { name := "witnessNone", fn := fun _ => fun
  | [d] => { results := [.lit (.bool false)], args := [d] }
  | _ => none }
def WitnessNoneWrongFalsely : Prop := witnessNoneRow.holds Try.pinned (OpenSpec.ofChange witnessNoneWrong)

/-- 'weighlocklaw21.WitnessFew': WHATEVER THE INPUT: true; the input reads as it did. -/
def witnessFewSpec : ChangeSpec := { name := "witnessFew", fn := fun _ => fun
  | [d1, d2, d3] => { results := [.lit (.bool true)], args := [d1, d2, d3] }
  | _ => none }
def witnessFewRow : OpenClaim := { program := "ytmccmanekbiadaa", sum := "1278d6970296e365c9687baae24af67af0042eeca16ff20a198bd53a040d7af5", func := "weighlock/weighlocklaw21.WitnessFew", spec := "witnessFew", inPlace := ["sync/atomic.StoreUint32"], unfollowed := true, recurses := true, apart := false }
def WitnessFewSaid : Prop := witnessFewRow.holds Try.pinned (OpenSpec.ofChange witnessFewSpec)

/-- ITS FALSE NEIGHBOUR: 'it returns false'. Refute it at one input. -/
def witnessFewWrong : ChangeSpec := { name := "witnessFew", fn := fun _ => fun
  | [d1, d2, d3] => { results := [.lit (.bool false)], args := [d1, d2, d3] }
  | _ => none }
def WitnessFewWrongFalsely : Prop := witnessFewRow.holds Try.pinned (OpenSpec.ofChange witnessFewWrong)

/-- 'weighlocklaw16.CohortRows': WHATEVER THE INPUT: true; the input reads as it did. -/
def cohortRowsSpec : ChangeSpec := { name := "cohortRows", fn := fun _ => fun
  | [d1, d2, d3] => { results := [.lit (.bool true)], args := [d1, d2, d3] }
  | _ => none }
def cohortRowsRow : OpenClaim := { program := "ytmccmanekbiadaa", sum := "1278d6970296e365c9687baae24af67af0042eeca16ff20a198bd53a040d7af5", func := "weighlock/weighlocklaw16.CohortRows", spec := "cohortRows", inPlace := ["sync/atomic.StoreUint32", "sync/atomic.LoadUint32"], unfollowed := true, recurses := true, apart := false }
def CohortRowsSaid : Prop := cohortRowsRow.holds Try.pinned (OpenSpec.ofChange cohortRowsSpec)

/-- ITS FALSE NEIGHBOUR: 'it returns false'. Refute it at one input. -/
def cohortRowsWrong : ChangeSpec := { name := "cohortRows", fn := fun _ => fun
  | [d1, d2, d3] => { results := [.lit (.bool false)], args := [d1, d2, d3] }
  | _ => none }
def CohortRowsWrongFalsely : Prop := cohortRowsRow.holds Try.pinned (OpenSpec.ofChange cohortRowsWrong)

/-- 'weighlocklaw16.CohortLeads': WHATEVER THE INPUT: true; the input reads as it did. -/
def cohortLeadsSpec : ChangeSpec := { name := "cohortLeads", fn := fun _ => fun
  | [d1, d2, d3] => { results := [.lit (.bool true)], args := [d1, d2, d3] }
  | _ => none }
def cohortLeadsRow : OpenClaim := { program := "ytmccmanekbiadaa", sum := "1278d6970296e365c9687baae24af67af0042eeca16ff20a198bd53a040d7af5", func := "weighlock/weighlocklaw16.CohortLeads", spec := "cohortLeads", inPlace := ["sync/atomic.StoreUint32", "sync/atomic.LoadUint32"], unfollowed := true, recurses := true, apart := false }
def CohortLeadsSaid : Prop := cohortLeadsRow.holds Try.pinned (OpenSpec.ofChange cohortLeadsSpec)

/-- ITS FALSE NEIGHBOUR: 'it returns false'. Refute it at one input. -/
def cohortLeadsWrong : ChangeSpec := { name := "cohortLeads", fn := fun _ => fun
  | [d1, d2, d3] => { results := [.lit (.bool false)], args := [d1, d2, d3] }
  | _ => none }
def CohortLeadsWrongFalsely : Prop := cohortLeadsRow.holds Try.pinned (OpenSpec.ofChange cohortLeadsWrong)

/-- 'weighlocklaw16.CohortTurns': WHATEVER THE INPUT: true; the input reads as it did. -/
def cohortTurnsSpec : ChangeSpec := { name := "cohortTurns", fn := fun _ => fun
  | [d1, d2, d3] => { results := [.lit (.bool true)], args := [d1, d2, d3] }
  | _ => none }
def cohortTurnsRow : OpenClaim := { program := "ytmccmanekbiadaa", sum := "1278d6970296e365c9687baae24af67af0042eeca16ff20a198bd53a040d7af5", func := "weighlock/weighlocklaw16.CohortTurns", spec := "cohortTurns", inPlace := ["sync/atomic.StoreUint32", "sync/atomic.LoadUint32"], unfollowed := true, recurses := true, apart := false }
def CohortTurnsSaid : Prop := cohortTurnsRow.holds Try.pinned (OpenSpec.ofChange cohortTurnsSpec)

/-- ITS FALSE NEIGHBOUR: 'it returns false'. Refute it at one input. -/
def cohortTurnsWrong : ChangeSpec := { name := "cohortTurns", fn := fun _ => fun
  | [d1, d2, d3] => { results := [.lit (.bool false)], args := [d1, d2, d3] }
  | _ => none }
def CohortTurnsWrongFalsely : Prop := cohortTurnsRow.holds Try.pinned (OpenSpec.ofChange cohortTurnsWrong)

/- THE SECOND FORM. 'bulk': how many values and letters a reading holds, each counted each time it is reached (what is shared counts as often as it is met; a slice's spare places count too). A statement '..UptoSaid' is the law's where the arguments, and the package variables that the reading takes, are together of bulk at most 1048576: NARROWER than '..Said'. Prove '..Said' where nothing that the law and all that it calls make is longer than what came in: it says more and counts as full. Else prove '..UptoSaid'. A law counts once. -/
mutual
def uptoBulk {H : Type} : DataW H → Nat
  | .lit (.string bytes) => bytes.length + 1
  | .lit _ => 1
  | .nil => 1
  | .ptr d => uptoBulk d + 1
  | .slice elems spare => uptoBulkAll elems + uptoBulkAll spare + 1
  | .agg parts => uptoBulkAll parts + 1
  | .iface _ d => uptoBulk d + 1
  | .map entries => uptoBulkEntries entries + 1
  | .held _ => 1
def uptoBulkAll {H : Type} : List (DataW H) → Nat
  | [] => 0
  | d :: r => uptoBulk d + uptoBulkAll r
def uptoBulkEntries {H : Type} : List (Lit × DataW H) → Nat
  | [] => 0
  | x :: r => uptoBulkEntry x + uptoBulkEntries r
def uptoBulkEntry {H : Type} : Lit × DataW H → Nat
  | (.string bytes, d) => bytes.length + uptoBulk d + 1
  | (_, d) => uptoBulk d + 1
 end
def uptoSmall : (H : Type) → List (DataW H) → Bool := fun _ ds => decide (uptoBulkAll ds ≤ 1048576)
def OpenSpec.upto (s : _root_.Go.ChangeSpec) : _root_.Go.OpenSpec := { _root_.Go.OpenSpec.ofChange s with cond := some uptoSmall }

/-- 'weighlocklaw17.BuildNews', WHERE WHAT IT READS IS OF BULK AT MOST 1048576: true; the input reads as it did. -/
def buildNewsUptoRow : OpenClaim := { program := "ytmccmanekbiadaa", sum := "1278d6970296e365c9687baae24af67af0042eeca16ff20a198bd53a040d7af5", func := "weighlock/weighlocklaw17.BuildNews", spec := "buildNews", inPlace := ["sync/atomic.StoreUint32"], unfollowed := true, recurses := true, apart := false, narrowed := true }
def BuildNewsUptoSaid : Prop := buildNewsUptoRow.holds Try.pinned (OpenSpec.upto buildNewsSpec)

/-- 'weighlocklaw21.WitnessPairs', WHERE WHAT IT READS IS OF BULK AT MOST 1048576: true; the input reads as it did. -/
def witnessPairsUptoRow : OpenClaim := { program := "ytmccmanekbiadaa", sum := "1278d6970296e365c9687baae24af67af0042eeca16ff20a198bd53a040d7af5", func := "weighlock/weighlocklaw21.WitnessPairs", spec := "witnessPairs", inPlace := ["sync/atomic.StoreUint32"], unfollowed := true, recurses := true, apart := false, narrowed := true }
def WitnessPairsUptoSaid : Prop := witnessPairsUptoRow.holds Try.pinned (OpenSpec.upto witnessPairsSpec)

/-- 'weighlocklaw21.WitnessNone', WHERE WHAT IT READS IS OF BULK AT MOST 1048576: true; the input reads as it did. -/
def witnessNoneUptoRow : OpenClaim := { program := "ytmccmanekbiadaa", sum := "1278d6970296e365c9687baae24af67af0042eeca16ff20a198bd53a040d7af5", func := "weighlock/weighlocklaw21.WitnessNone", spec := "witnessNone", inPlace := ["sync/atomic.StoreUint32"], unfollowed := true, recurses := true, apart := false, narrowed := true }
def WitnessNoneUptoSaid : Prop := witnessNoneUptoRow.holds Try.pinned (OpenSpec.upto witnessNoneSpec)

/-- 'weighlocklaw21.WitnessFew', WHERE WHAT IT READS IS OF BULK AT MOST 1048576: true; the input reads as it did. -/
def witnessFewUptoRow : OpenClaim := { program := "ytmccmanekbiadaa", sum := "1278d6970296e365c9687baae24af67af0042eeca16ff20a198bd53a040d7af5", func := "weighlock/weighlocklaw21.WitnessFew", spec := "witnessFew", inPlace := ["sync/atomic.StoreUint32"], unfollowed := true, recurses := true, apart := false, narrowed := true }
def WitnessFewUptoSaid : Prop := witnessFewUptoRow.holds Try.pinned (OpenSpec.upto witnessFewSpec)

/-- 'weighlocklaw16.CohortRows', WHERE WHAT IT READS IS OF BULK AT MOST 1048576: true; the input reads as it did. -/
def cohortRowsUptoRow : OpenClaim := { program := "ytmccmanekbiadaa", sum := "1278d6970296e365c9687baae24af67af0042eeca16ff20a198bd53a040d7af5", func := "weighlock/weighlocklaw16.CohortRows", spec := "cohortRows", inPlace := ["sync/atomic.StoreUint32", "sync/atomic.LoadUint32"], unfollowed := true, recurses := true, apart := false, narrowed := true }
def CohortRowsUptoSaid : Prop := cohortRowsUptoRow.holds Try.pinned (OpenSpec.upto cohortRowsSpec)

/-- 'weighlocklaw16.CohortLeads', WHERE WHAT IT READS IS OF BULK AT MOST 1048576: true; the input reads as it did. -/
def cohortLeadsUptoRow : OpenClaim := { program := "ytmccmanekbiadaa", sum := "1278d6970296e365c9687baae24af67af0042eeca16ff20a198bd53a040d7af5", func := "weighlock/weighlocklaw16.CohortLeads", spec := "cohortLeads", inPlace := ["sync/atomic.StoreUint32", "sync/atomic.LoadUint32"], unfollowed := true, recurses := true, apart := false, narrowed := true }
def CohortLeadsUptoSaid : Prop := cohortLeadsUptoRow.holds Try.pinned (OpenSpec.upto cohortLeadsSpec)

/-- 'weighlocklaw16.CohortTurns', WHERE WHAT IT READS IS OF BULK AT MOST 1048576: true; the input reads as it did. -/
def cohortTurnsUptoRow : OpenClaim := { program := "ytmccmanekbiadaa", sum := "1278d6970296e365c9687baae24af67af0042eeca16ff20a198bd53a040d7af5", func := "weighlock/weighlocklaw16.CohortTurns", spec := "cohortTurns", inPlace := ["sync/atomic.StoreUint32", "sync/atomic.LoadUint32"], unfollowed := true, recurses := true, apart := false, narrowed := true }
def CohortTurnsUptoSaid : Prop := cohortTurnsUptoRow.holds Try.pinned (OpenSpec.upto cohortTurnsSpec)

end Rows
end Go.Proofs.Ytmccmanekbiadaa
