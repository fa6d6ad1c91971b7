/- FifoMachine holds: what a machine of one of the five kinds that are first come, first served enters is a trace of that lock. No condition beyond the given statement's own. -/
import Derived.Test.YtlkfolopbehikaaGreatRows
import Derived.Test.YtlkfolopbehikaaGreatSxV
import Derived.Test.YtlkfolopbehikaaGreatMd
namespace Go.Proofs.YtlkfolopbehikaaGreat
open Go Go.Sx
theorem ZHH : (Rows.fifoMachineRow.inPlace == Tryz.prog.inPlace 14) = true := by kernel_rfl
theorem ZHI : (Rows.fifoMachineRow.unfollowed == Tryz.prog.unfollowed 14) = true := by kernel_rfl
theorem ZHJ : (Rows.fifoMachineRow.recurses == Tryz.prog.recurses 14) = true := by kernel_rfl
theorem ZHK : (Rows.fifoMachineRow.named == Tryz.prog.varsNamed 14) = true := by kernel_rfl
theorem ZHL : laidOutB Tryz.prog = true := by kernel_rfl
theorem ZHM : mapsRowed Tryz.prog = true := by kernel_rfl
theorem ZHN : Tryz.prog.funcNamed Rows.fifoMachineRow.func = some 14 := by kernel_rfl
theorem ZHO : joinedFacts Tryz.prog 14 Tryz.f14 Rows.fifoMachineSpec Rows.fifoMachineRow = true := by
 unfold joinedFacts
 rw [ZHH, ZHI, ZHJ, ZHK, ZHL, ZHM]
 kernel_rfl
theorem ZFI (os : Os) (started : os.Started) (H : Type) (enc : TypeId × Value -> H) :
  ReturnsInHanded {} Tryz.checked os 14 .any (Rows.fifoMachineSpec.pre6 enc Tryz.prog Tryz.f14 Rows.fifoMachineRow.domain false) (Rows.fifoMachineSpec.post enc Tryz.prog Tryz.f14 false true false false) :=
 ZQK (C := Tryz.checked) 14 4 (by kernel_rfl) started (by kernel_rfl) (by kernel_rfl) Tryz.func14
  (ChangeSpec.witness6 (enc := enc) (C := Tryz.checked) false ⟨#[], #[.agg #[.int .i64 0, .slice none 0 0, .int .u32 0, .int .i64 0, .int .i64 0, .int .i64 0, .int .i64 0, .int .i64 0], .slice none 0 0], []⟩ 8 (by kernel_rfl) (by kernel_rfl) (by kernel_rfl) (by kernel_rfl))
  rfl (by kernel_rfl) (by kernel_rfl) (fun ds h => by match ds, h with | [_, _], _ => rfl) (by kernel_rfl) fifoMachine_law rfl
theorem fifoMachine_holds : Rows.FifoMachineSaid :=
 OpenClaim.holds_of_wide 14 Tryz.f14 rfl rfl rfl rfl rfl rfl rfl ⟨rfl, rfl, rfl, rfl, rfl⟩ rfl rfl rfl rfl rfl ZHN Tryz.func14 ZHO
  (of_decide_eq_true (by kernel_rfl)) (by unfold Func.isWrapper; first | (rw [if_pos (by decide +kernel)]; kernel_rfl) | (rw [if_neg (by decide +kernel)]; exact ⟨rfl, rfl⟩))
  (fun os started H enc _ => ZFI os started H enc)
#print axioms fifoMachine_holds
end Go.Proofs.YtlkfolopbehikaaGreat
