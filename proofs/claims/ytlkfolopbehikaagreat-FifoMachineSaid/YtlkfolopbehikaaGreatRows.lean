/-
  No cell of these rows narrows 'for every input' (looked for: loops, veiled, ifaces, maps, wideKeys, modest, calm, conditions, laid).
  DERIVED. THE GIVEN ROWS OF THIS SEAT. 12 by the template 'for every input the law returns true; each argument reads behind the call as it read before'; 0 by the template 'total and deterministic' (their statements: YtlkfolopbehikaaGreatTotals.lean).
  GIVEN WITH THE SEED: the statements are not yours to turn. If you find one false, say at which input.
  Laid BY PROGRAM, IN A SANDBOX (cutbox-rows.mjs): the forced cells as the released guide's own fill.sh prints them over the translation bf23d1c6dd815736… (all of the seat's roots in one cut). By AI agents, Wed Nov 11 2026. No macro, syntax, notation, axiom, sorry.
-/
import Derived.Test.YtlkfolopbehikaaGreatChecked
import GoSem.Claim
import GoSem.ClaimJoined
import GoSem.ClaimMapViews
import Derived.JoinedTies
import Derived.KernelRfl
namespace Go.Proofs.YtlkfolopbehikaaGreat
/- THE CELL 'sum', in the pinned program and in every row, IS THE sha256 OF THE DUMP (.gsa) THAT YtlkfolopbehikaaGreatProg.lean LOADS. Nothing in Lean hashes anything: it is a label: what it is worth is what the hold of that sum in a sandbox is worth. -/
noncomputable def Tryz.pinned : Pinned := { name := "ytlkfolopbehikaagreat", sum := "bf23d1c6dd815736eb756d56c7f9f35d7f1beddb47f01cdd17e1bf2d7452eea6", checked := Tryz.checked }
namespace Rows
def none {H : Type} : Left H := { results := [], args := [] }

/-- 'weighlocklaw18.MachineNews': WHATEVER THE INPUT: true; the input reads as it did. -/
def machineNewsSpec : ChangeSpec := { name := "machineNews", fn := fun _ => fun
  | [d] => { results := [.lit (.bool true)], args := [d] }
  | _ => none }
def machineNewsRow : OpenClaim := { program := "ytlkfolopbehikaagreat", sum := "bf23d1c6dd815736eb756d56c7f9f35d7f1beddb47f01cdd17e1bf2d7452eea6", func := "weighlock/weighlocklaw18.MachineNews", spec := "machineNews", inPlace := ["sync/atomic.StoreUint32"], unfollowed := true, recurses := true, apart := false }
def MachineNewsSaid : Prop := machineNewsRow.holds Tryz.pinned (OpenSpec.ofChange machineNewsSpec)

/-- ITS FALSE NEIGHBOUR: 'it returns false'. Refute it at one input. -/
def machineNewsWrong : ChangeSpec := { name := "machineNews", fn := fun _ => fun
  | [d] => { results := [.lit (.bool false)], args := [d] }
  | _ => none }
def MachineNewsWrongFalsely : Prop := machineNewsRow.holds Tryz.pinned (OpenSpec.ofChange machineNewsWrong)

/-- 'weighlocklaw18.MachineOne': WHATEVER THE INPUT: true; the input reads as it did. -/
def machineOneSpec : ChangeSpec := { name := "machineOne", fn := fun _ => fun
  | [d1, d2] => { results := [.lit (.bool true)], args := [d1, d2] }
  | _ => none }
def machineOneRow : OpenClaim := { program := "ytlkfolopbehikaagreat", sum := "bf23d1c6dd815736eb756d56c7f9f35d7f1beddb47f01cdd17e1bf2d7452eea6", func := "weighlock/weighlocklaw18.MachineOne", spec := "machineOne", inPlace := ["sync/atomic.StoreUint32"], unfollowed := true, recurses := true, apart := false }
def MachineOneSaid : Prop := machineOneRow.holds Tryz.pinned (OpenSpec.ofChange machineOneSpec)

/-- ITS FALSE NEIGHBOUR: 'it returns false'. Refute it at one input. -/
def machineOneWrong : ChangeSpec := { name := "machineOne", fn := fun _ => fun
  | [d1, d2] => { results := [.lit (.bool false)], args := [d1, d2] }
  | _ => none }
def MachineOneWrongFalsely : Prop := machineOneRow.holds Tryz.pinned (OpenSpec.ofChange machineOneWrong)

/-- 'weighlocklaw18.MachineClock': WHATEVER THE INPUT: true; the input reads as it did. -/
def machineClockSpec : ChangeSpec := { name := "machineClock", fn := fun _ => fun
  | [d1, d2] => { results := [.lit (.bool true)], args := [d1, d2] }
  | _ => none }
def machineClockRow : OpenClaim := { program := "ytlkfolopbehikaagreat", sum := "bf23d1c6dd815736eb756d56c7f9f35d7f1beddb47f01cdd17e1bf2d7452eea6", func := "weighlock/weighlocklaw18.MachineClock", spec := "machineClock", inPlace := ["sync/atomic.StoreUint32"], unfollowed := true, recurses := true, apart := false }
def MachineClockSaid : Prop := machineClockRow.holds Tryz.pinned (OpenSpec.ofChange machineClockSpec)

/-- ITS FALSE NEIGHBOUR: 'it returns false'. Refute it at one input. -/
def machineClockWrong : ChangeSpec := { name := "machineClock", fn := fun _ => fun
  | [d1, d2] => { results := [.lit (.bool false)], args := [d1, d2] }
  | _ => none }
def MachineClockWrongFalsely : Prop := machineClockRow.holds Tryz.pinned (OpenSpec.ofChange machineClockWrong)

/-- 'weighlocklaw18.MachineIdle': WHATEVER THE INPUT: true; the input reads as it did. -/
def machineIdleSpec : ChangeSpec := { name := "machineIdle", fn := fun _ => fun
  | [d1, d2] => { results := [.lit (.bool true)], args := [d1, d2] }
  | _ => none }
def machineIdleRow : OpenClaim := { program := "ytlkfolopbehikaagreat", sum := "bf23d1c6dd815736eb756d56c7f9f35d7f1beddb47f01cdd17e1bf2d7452eea6", func := "weighlock/weighlocklaw18.MachineIdle", spec := "machineIdle", inPlace := ["sync/atomic.StoreUint32", "sync/atomic.LoadUint32"], unfollowed := true, recurses := true, apart := false }
def MachineIdleSaid : Prop := machineIdleRow.holds Tryz.pinned (OpenSpec.ofChange machineIdleSpec)

/-- ITS FALSE NEIGHBOUR: 'it returns false'. Refute it at one input. -/
def machineIdleWrong : ChangeSpec := { name := "machineIdle", fn := fun _ => fun
  | [d1, d2] => { results := [.lit (.bool false)], args := [d1, d2] }
  | _ => none }
def MachineIdleWrongFalsely : Prop := machineIdleRow.holds Tryz.pinned (OpenSpec.ofChange machineIdleWrong)

/-- 'weighlocklaw18.MachineParts': WHATEVER THE INPUT: true; the input reads as it did. -/
def machinePartsSpec : ChangeSpec := { name := "machineParts", fn := fun _ => fun
  | [d1, d2, d3] => { results := [.lit (.bool true)], args := [d1, d2, d3] }
  | _ => none }
def machinePartsRow : OpenClaim := { program := "ytlkfolopbehikaagreat", sum := "bf23d1c6dd815736eb756d56c7f9f35d7f1beddb47f01cdd17e1bf2d7452eea6", func := "weighlock/weighlocklaw18.MachineParts", spec := "machineParts", inPlace := ["sync/atomic.StoreUint32", "sync/atomic.LoadUint32"], unfollowed := true, recurses := true, apart := false }
def MachinePartsSaid : Prop := machinePartsRow.holds Tryz.pinned (OpenSpec.ofChange machinePartsSpec)

/-- ITS FALSE NEIGHBOUR: 'it returns false'. Refute it at one input. -/
def machinePartsWrong : ChangeSpec := { name := "machineParts", fn := fun _ => fun
  | [d1, d2, d3] => { results := [.lit (.bool false)], args := [d1, d2, d3] }
  | _ => none }
def MachinePartsWrongFalsely : Prop := machinePartsRow.holds Tryz.pinned (OpenSpec.ofChange machinePartsWrong)

/-- 'weighlocklaw18.MachinePlays': WHATEVER THE INPUT: true; the input reads as it did. -/
def machinePlaysSpec : ChangeSpec := { name := "machinePlays", fn := fun _ => fun
  | [d1, d2] => { results := [.lit (.bool true)], args := [d1, d2] }
  | _ => none }
def machinePlaysRow : OpenClaim := { program := "ytlkfolopbehikaagreat", sum := "bf23d1c6dd815736eb756d56c7f9f35d7f1beddb47f01cdd17e1bf2d7452eea6", func := "weighlock/weighlocklaw18.MachinePlays", spec := "machinePlays", inPlace := ["sync/atomic.StoreUint32", "sync/atomic.LoadUint32"], unfollowed := true, recurses := true, apart := false }
def MachinePlaysSaid : Prop := machinePlaysRow.holds Tryz.pinned (OpenSpec.ofChange machinePlaysSpec)

/-- ITS FALSE NEIGHBOUR: 'it returns false'. Refute it at one input. -/
def machinePlaysWrong : ChangeSpec := { name := "machinePlays", fn := fun _ => fun
  | [d1, d2] => { results := [.lit (.bool false)], args := [d1, d2] }
  | _ => none }
def MachinePlaysWrongFalsely : Prop := machinePlaysRow.holds Tryz.pinned (OpenSpec.ofChange machinePlaysWrong)

/-- 'weighlocklaw17.BuildPlays': WHATEVER THE INPUT: true; the input reads as it did. -/
def buildPlaysSpec : ChangeSpec := { name := "buildPlays", fn := fun _ => fun
  | [d1, d2] => { results := [.lit (.bool true)], args := [d1, d2] }
  | _ => none }
def buildPlaysRow : OpenClaim := { program := "ytlkfolopbehikaagreat", sum := "bf23d1c6dd815736eb756d56c7f9f35d7f1beddb47f01cdd17e1bf2d7452eea6", func := "weighlock/weighlocklaw17.BuildPlays", spec := "buildPlays", inPlace := ["sync/atomic.StoreUint32", "sync/atomic.LoadUint32"], unfollowed := true, recurses := true, apart := false }
def BuildPlaysSaid : Prop := buildPlaysRow.holds Tryz.pinned (OpenSpec.ofChange buildPlaysSpec)

/-- ITS FALSE NEIGHBOUR: 'it returns false'. Refute it at one input. -/
def buildPlaysWrong : ChangeSpec := { name := "buildPlays", fn := fun _ => fun
  | [d1, d2] => { results := [.lit (.bool false)], args := [d1, d2] }
  | _ => none }
def BuildPlaysWrongFalsely : Prop := buildPlaysRow.holds Tryz.pinned (OpenSpec.ofChange buildPlaysWrong)

/-- 'weighlocklaw17.BuildApart': WHATEVER THE INPUT: true; the input reads as it did. -/
def buildApartSpec : ChangeSpec := { name := "buildApart", fn := fun _ => fun
  | [d1, d2] => { results := [.lit (.bool true)], args := [d1, d2] }
  | _ => none }
def buildApartRow : OpenClaim := { program := "ytlkfolopbehikaagreat", sum := "bf23d1c6dd815736eb756d56c7f9f35d7f1beddb47f01cdd17e1bf2d7452eea6", func := "weighlock/weighlocklaw17.BuildApart", spec := "buildApart", inPlace := ["sync/atomic.StoreUint32", "sync/atomic.LoadUint32"], unfollowed := true, recurses := true, apart := false }
def BuildApartSaid : Prop := buildApartRow.holds Tryz.pinned (OpenSpec.ofChange buildApartSpec)

/-- ITS FALSE NEIGHBOUR: 'it returns false'. Refute it at one input. -/
def buildApartWrong : ChangeSpec := { name := "buildApart", fn := fun _ => fun
  | [d1, d2] => { results := [.lit (.bool false)], args := [d1, d2] }
  | _ => none }
def BuildApartWrongFalsely : Prop := buildApartRow.holds Tryz.pinned (OpenSpec.ofChange buildApartWrong)

/-- 'weighlocklaw23.ClientNews': WHATEVER THE INPUT: true; the input reads as it did. -/
def clientNewsSpec : ChangeSpec := { name := "clientNews", fn := fun _ => fun
  | [d] => { results := [.lit (.bool true)], args := [d] }
  | _ => none }
def clientNewsRow : OpenClaim := { program := "ytlkfolopbehikaagreat", sum := "bf23d1c6dd815736eb756d56c7f9f35d7f1beddb47f01cdd17e1bf2d7452eea6", func := "weighlock/weighlocklaw23.ClientNews", spec := "clientNews", inPlace := ["sync/atomic.StoreUint32"], unfollowed := true, recurses := true, apart := false }
def ClientNewsSaid : Prop := clientNewsRow.holds Tryz.pinned (OpenSpec.ofChange clientNewsSpec)

/-- ITS FALSE NEIGHBOUR: 'it returns false'. Refute it at one input. -/
def clientNewsWrong : ChangeSpec := { name := "clientNews", fn := fun _ => fun
  | [d] => { results := [.lit (.bool false)], args := [d] }
  | _ => none }
def ClientNewsWrongFalsely : Prop := clientNewsRow.holds Tryz.pinned (OpenSpec.ofChange clientNewsWrong)

/-- 'weighlocklaw21.WitnessDepth': WHATEVER THE INPUT: true; the input reads as it did. -/
def witnessDepthSpec : ChangeSpec := { name := "witnessDepth", fn := fun _ => fun
  | [d1, d2] => { results := [.lit (.bool true)], args := [d1, d2] }
  | _ => none }
def witnessDepthRow : OpenClaim := { program := "ytlkfolopbehikaagreat", sum := "bf23d1c6dd815736eb756d56c7f9f35d7f1beddb47f01cdd17e1bf2d7452eea6", func := "weighlock/weighlocklaw21.WitnessDepth", spec := "witnessDepth", inPlace := ["sync/atomic.StoreUint32"], unfollowed := true, recurses := true, apart := false }
def WitnessDepthSaid : Prop := witnessDepthRow.holds Tryz.pinned (OpenSpec.ofChange witnessDepthSpec)

/-- ITS FALSE NEIGHBOUR: 'it returns false'. Refute it at one input. -/
def witnessDepthWrong : ChangeSpec := { name := "witnessDepth", fn := fun _ => fun
  | [d1, d2] => { results := [.lit (.bool false)], args := [d1, d2] }
  | _ => none }
def WitnessDepthWrongFalsely : Prop := witnessDepthRow.holds Tryz.pinned (OpenSpec.ofChange witnessDepthWrong)

/-- 'weighlocklaw21.WitnessNobody': WHATEVER THE INPUT: true; the input reads as it did. -/
def witnessNobodySpec : ChangeSpec := { name := "witnessNobody", fn := fun _ => fun
  | [d1, d2] => { results := [.lit (.bool true)], args := [d1, d2] }
  | _ => none }
def witnessNobodyRow : OpenClaim := { program := "ytlkfolopbehikaagreat", sum := "bf23d1c6dd815736eb756d56c7f9f35d7f1beddb47f01cdd17e1bf2d7452eea6", func := "weighlock/weighlocklaw21.WitnessNobody", spec := "witnessNobody", inPlace := ["sync/atomic.StoreUint32"], unfollowed := true, recurses := true, apart := false }
def WitnessNobodySaid : Prop := witnessNobodyRow.holds Tryz.pinned (OpenSpec.ofChange witnessNobodySpec)

/-- ITS FALSE NEIGHBOUR: 'it returns false'. Refute it at one input. -/
def witnessNobodyWrong : ChangeSpec := { name := "witnessNobody", fn := fun _ => fun
  | [d1, d2] => { results := [.lit (.bool false)], args := [d1, d2] }
  | _ => none }
def WitnessNobodyWrongFalsely : Prop := witnessNobodyRow.holds Tryz.pinned (OpenSpec.ofChange witnessNobodyWrong)

/-- 'weighlocklaw19.FifoMachine': WHATEVER THE INPUT: true; the input reads as it did. -/
def fifoMachineSpec : ChangeSpec := { name := "fifoMachine", fn := fun _ => fun
  | [d1, d2] => { results := [.lit (.bool true)], args := [d1, d2] }
  | _ => none }
def fifoMachineRow : OpenClaim := { program := "ytlkfolopbehikaagreat", sum := "bf23d1c6dd815736eb756d56c7f9f35d7f1beddb47f01cdd17e1bf2d7452eea6", func := "weighlock/weighlocklaw19.FifoMachine", spec := "fifoMachine", inPlace := ["sync/atomic.StoreUint32"], unfollowed := true, recurses := true, apart := false }
def FifoMachineSaid : Prop := fifoMachineRow.holds Tryz.pinned (OpenSpec.ofChange fifoMachineSpec)

/-- ITS FALSE NEIGHBOUR: 'it returns false'. Refute it at one input. -/
def fifoMachineWrong : ChangeSpec := { name := "fifoMachine", fn := fun _ => fun
  | [d1, d2] => { results := [.lit (.bool false)], args := [d1, d2] }
  | _ => none }
def FifoMachineWrongFalsely : Prop := fifoMachineRow.holds Tryz.pinned (OpenSpec.ofChange fifoMachineWrong)

/- THE SECOND FORM. 'bulk': how many values and letters a reading holds, each counted each time it is reached (what is shared counts as often as it is met; a slice's spare places count too). A statement '..UptoSaid' is the law's where the arguments, and the package variables that the reading takes, are together of bulk at most 1048576: NARROWER than '..Said'. Prove '..Said' where nothing that the law and all that it calls make is longer than what came in: it says more and counts as full. Else prove '..UptoSaid'. A law counts once. -/
mutual
def uptoBulk {H : Type} : DataW H → Nat
  | .lit (.string bytes) => bytes.length + 1
  | .lit _ => 1
  | .nil => 1
  | .ptr d => uptoBulk d + 1
  | .slice elems spare => uptoBulkAll elems + uptoBulkAll spare + 1
  | .agg parts => uptoBulkAll parts + 1
  | .iface _ d => uptoBulk d + 1
  | .map entries => uptoBulkEntries entries + 1
  | .held _ => 1
def uptoBulkAll {H : Type} : List (DataW H) → Nat
  | [] => 0
  | d :: r => uptoBulk d + uptoBulkAll r
def uptoBulkEntries {H : Type} : List (Lit × DataW H) → Nat
  | [] => 0
  | x :: r => uptoBulkEntry x + uptoBulkEntries r
def uptoBulkEntry {H : Type} : Lit × DataW H → Nat
  | (.string bytes, d) => bytes.length + uptoBulk d + 1
  | (_, d) => uptoBulk d + 1
 end
def uptoSmall : (H : Type) → List (DataW H) → Bool := fun _ ds => decide (uptoBulkAll ds ≤ 1048576)
def OpenSpec.upto (s : _root_.Go.ChangeSpec) : _root_.Go.OpenSpec := { _root_.Go.OpenSpec.ofChange s with cond := some uptoSmall }

/-- 'weighlocklaw18.MachineNews', WHERE WHAT IT READS IS OF BULK AT MOST 1048576: true; the input reads as it did. -/
def machineNewsUptoRow : OpenClaim := { program := "ytlkfolopbehikaagreat", sum := "bf23d1c6dd815736eb756d56c7f9f35d7f1beddb47f01cdd17e1bf2d7452eea6", func := "weighlock/weighlocklaw18.MachineNews", spec := "machineNews", inPlace := ["sync/atomic.StoreUint32"], unfollowed := true, recurses := true, apart := false, narrowed := true }
def MachineNewsUptoSaid : Prop := machineNewsUptoRow.holds Tryz.pinned (OpenSpec.upto machineNewsSpec)

/-- 'weighlocklaw18.MachineOne', WHERE WHAT IT READS IS OF BULK AT MOST 1048576: true; the input reads as it did. -/
def machineOneUptoRow : OpenClaim := { program := "ytlkfolopbehikaagreat", sum := "bf23d1c6dd815736eb756d56c7f9f35d7f1beddb47f01cdd17e1bf2d7452eea6", func := "weighlock/weighlocklaw18.MachineOne", spec := "machineOne", inPlace := ["sync/atomic.StoreUint32"], unfollowed := true, recurses := true, apart := false, narrowed := true }
def MachineOneUptoSaid : Prop := machineOneUptoRow.holds Tryz.pinned (OpenSpec.upto machineOneSpec)

/-- 'weighlocklaw18.MachineClock', WHERE WHAT IT READS IS OF BULK AT MOST 1048576: true; the input reads as it did. -/
def machineClockUptoRow : OpenClaim := { program := "ytlkfolopbehikaagreat", sum := "bf23d1c6dd815736eb756d56c7f9f35d7f1beddb47f01cdd17e1bf2d7452eea6", func := "weighlock/weighlocklaw18.MachineClock", spec := "machineClock", inPlace := ["sync/atomic.StoreUint32"], unfollowed := true, recurses := true, apart := false, narrowed := true }
def MachineClockUptoSaid : Prop := machineClockUptoRow.holds Tryz.pinned (OpenSpec.upto machineClockSpec)

/-- 'weighlocklaw18.MachineIdle', WHERE WHAT IT READS IS OF BULK AT MOST 1048576: true; the input reads as it did. -/
def machineIdleUptoRow : OpenClaim := { program := "ytlkfolopbehikaagreat", sum := "bf23d1c6dd815736eb756d56c7f9f35d7f1beddb47f01cdd17e1bf2d7452eea6", func := "weighlock/weighlocklaw18.MachineIdle", spec := "machineIdle", inPlace := ["sync/atomic.StoreUint32", "sync/atomic.LoadUint32"], unfollowed := true, recurses := true, apart := false, narrowed := true }
def MachineIdleUptoSaid : Prop := machineIdleUptoRow.holds Tryz.pinned (OpenSpec.upto machineIdleSpec)

/-- 'weighlocklaw18.MachineParts', WHERE WHAT IT READS IS OF BULK AT MOST 1048576: true; the input reads as it did. -/
def machinePartsUptoRow : OpenClaim := { program := "ytlkfolopbehikaagreat", sum := "bf23d1c6dd815736eb756d56c7f9f35d7f1beddb47f01cdd17e1bf2d7452eea6", func := "weighlock/weighlocklaw18.MachineParts", spec := "machineParts", inPlace := ["sync/atomic.StoreUint32", "sync/atomic.LoadUint32"], unfollowed := true, recurses := true, apart := false, narrowed := true }
def MachinePartsUptoSaid : Prop := machinePartsUptoRow.holds Tryz.pinned (OpenSpec.upto machinePartsSpec)

/-- 'weighlocklaw18.MachinePlays', WHERE WHAT IT READS IS OF BULK AT MOST 1048576: true; the input reads as it did. -/
def machinePlaysUptoRow : OpenClaim := { program := "ytlkfolopbehikaagreat", sum := "bf23d1c6dd815736eb756d56c7f9f35d7f1beddb47f01cdd17e1bf2d7452eea6", func := "weighlock/weighlocklaw18.MachinePlays", spec := "machinePlays", inPlace := ["sync/atomic.StoreUint32", "sync/atomic.LoadUint32"], unfollowed := true, recurses := true, apart := false, narrowed := true }
def MachinePlaysUptoSaid : Prop := machinePlaysUptoRow.holds Tryz.pinned (OpenSpec.upto machinePlaysSpec)

/-- 'weighlocklaw17.BuildPlays', WHERE WHAT IT READS IS OF BULK AT MOST 1048576: true; the input reads as it did. -/
def buildPlaysUptoRow : OpenClaim := { program := "ytlkfolopbehikaagreat", sum := "bf23d1c6dd815736eb756d56c7f9f35d7f1beddb47f01cdd17e1bf2d7452eea6", func := "weighlock/weighlocklaw17.BuildPlays", spec := "buildPlays", inPlace := ["sync/atomic.StoreUint32", "sync/atomic.LoadUint32"], unfollowed := true, recurses := true, apart := false, narrowed := true }
def BuildPlaysUptoSaid : Prop := buildPlaysUptoRow.holds Tryz.pinned (OpenSpec.upto buildPlaysSpec)

/-- 'weighlocklaw17.BuildApart', WHERE WHAT IT READS IS OF BULK AT MOST 1048576: true; the input reads as it did. -/
def buildApartUptoRow : OpenClaim := { program := "ytlkfolopbehikaagreat", sum := "bf23d1c6dd815736eb756d56c7f9f35d7f1beddb47f01cdd17e1bf2d7452eea6", func := "weighlock/weighlocklaw17.BuildApart", spec := "buildApart", inPlace := ["sync/atomic.StoreUint32", "sync/atomic.LoadUint32"], unfollowed := true, recurses := true, apart := false, narrowed := true }
def BuildApartUptoSaid : Prop := buildApartUptoRow.holds Tryz.pinned (OpenSpec.upto buildApartSpec)

/-- 'weighlocklaw23.ClientNews', WHERE WHAT IT READS IS OF BULK AT MOST 1048576: true; the input reads as it did. -/
def clientNewsUptoRow : OpenClaim := { program := "ytlkfolopbehikaagreat", sum := "bf23d1c6dd815736eb756d56c7f9f35d7f1beddb47f01cdd17e1bf2d7452eea6", func := "weighlock/weighlocklaw23.ClientNews", spec := "clientNews", inPlace := ["sync/atomic.StoreUint32"], unfollowed := true, recurses := true, apart := false, narrowed := true }
def ClientNewsUptoSaid : Prop := clientNewsUptoRow.holds Tryz.pinned (OpenSpec.upto clientNewsSpec)

/-- 'weighlocklaw21.WitnessDepth', WHERE WHAT IT READS IS OF BULK AT MOST 1048576: true; the input reads as it did. -/
def witnessDepthUptoRow : OpenClaim := { program := "ytlkfolopbehikaagreat", sum := "bf23d1c6dd815736eb756d56c7f9f35d7f1beddb47f01cdd17e1bf2d7452eea6", func := "weighlock/weighlocklaw21.WitnessDepth", spec := "witnessDepth", inPlace := ["sync/atomic.StoreUint32"], unfollowed := true, recurses := true, apart := false, narrowed := true }
def WitnessDepthUptoSaid : Prop := witnessDepthUptoRow.holds Tryz.pinned (OpenSpec.upto witnessDepthSpec)

/-- 'weighlocklaw21.WitnessNobody', WHERE WHAT IT READS IS OF BULK AT MOST 1048576: true; the input reads as it did. -/
def witnessNobodyUptoRow : OpenClaim := { program := "ytlkfolopbehikaagreat", sum := "bf23d1c6dd815736eb756d56c7f9f35d7f1beddb47f01cdd17e1bf2d7452eea6", func := "weighlock/weighlocklaw21.WitnessNobody", spec := "witnessNobody", inPlace := ["sync/atomic.StoreUint32"], unfollowed := true, recurses := true, apart := false, narrowed := true }
def WitnessNobodyUptoSaid : Prop := witnessNobodyUptoRow.holds Tryz.pinned (OpenSpec.upto witnessNobodySpec)

/-- 'weighlocklaw19.FifoMachine', WHERE WHAT IT READS IS OF BULK AT MOST 1048576: true; the input reads as it did. -/
def fifoMachineUptoRow : OpenClaim := { program := "ytlkfolopbehikaagreat", sum := "bf23d1c6dd815736eb756d56c7f9f35d7f1beddb47f01cdd17e1bf2d7452eea6", func := "weighlock/weighlocklaw19.FifoMachine", spec := "fifoMachine", inPlace := ["sync/atomic.StoreUint32"], unfollowed := true, recurses := true, apart := false, narrowed := true }
def FifoMachineUptoSaid : Prop := fifoMachineUptoRow.holds Tryz.pinned (OpenSpec.upto fifoMachineSpec)

end Rows
end Go.Proofs.YtlkfolopbehikaaGreat
