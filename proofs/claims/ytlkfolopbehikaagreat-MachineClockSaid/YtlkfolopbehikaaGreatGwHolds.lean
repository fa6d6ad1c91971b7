/- MachineClock holds: the clock is how many Ticks there were; all that is entered has the tick at which it was. No condition beyond the given statement's own. -/
import Derived.Test.YtlkfolopbehikaaGreatRows
import Derived.Test.YtlkfolopbehikaaGreatSxV
import Derived.Test.YtlkfolopbehikaaGreatGwLaw
namespace Go.Proofs.YtlkfolopbehikaaGreat
open Go Go.Sx
theorem ZGF : (Rows.machineClockRow.inPlace == Tryz.prog.inPlace 5) = true := by kernel_rfl
theorem ZGG : (Rows.machineClockRow.unfollowed == Tryz.prog.unfollowed 5) = true := by kernel_rfl
theorem ZGH : (Rows.machineClockRow.recurses == Tryz.prog.recurses 5) = true := by kernel_rfl
theorem ZGI : (Rows.machineClockRow.named == Tryz.prog.varsNamed 5) = true := by kernel_rfl
theorem ZGJ : laidOutB Tryz.prog = true := by kernel_rfl
theorem ZGK : mapsRowed Tryz.prog = true := by kernel_rfl
theorem ZGL : Tryz.prog.funcNamed Rows.machineClockRow.func = some 5 := by kernel_rfl
theorem ZGM : joinedFacts Tryz.prog 5 Tryz.f5 Rows.machineClockSpec Rows.machineClockRow = true := by
 unfold joinedFacts
 rw [ZGF, ZGG, ZGH, ZGI, ZGJ, ZGK]
 kernel_rfl
theorem ZEg (os : Os) (started : os.Started) (H : Type) (enc : TypeId × Value -> H) :
  ReturnsInHanded {} Tryz.checked os 5 .any (Rows.machineClockSpec.pre6 enc Tryz.prog Tryz.f5 Rows.machineClockRow.domain false) (Rows.machineClockSpec.post enc Tryz.prog Tryz.f5 false true false false) :=
 ZPE (C := Tryz.checked) 5 4 (by kernel_rfl) started (by kernel_rfl) (by kernel_rfl) Tryz.func5
  (ChangeSpec.witness6 (enc := enc) (C := Tryz.checked) false ⟨#[], #[.agg #[.int .i64 0, .slice none 0 0, .int .u32 0, .int .i64 0, .int .i64 0, .int .i64 0, .int .i64 0, .int .i64 0], .slice none 0 0], []⟩ 8 (by kernel_rfl) (by kernel_rfl) (by kernel_rfl) (by kernel_rfl))
  rfl (by kernel_rfl) (by kernel_rfl) (fun ds h => by match ds, h with | [_, _], _ => rfl) (by kernel_rfl) machineClock_law rfl
theorem machineClock_holds : Rows.MachineClockSaid :=
 OpenClaim.holds_of_wide 5 Tryz.f5 rfl rfl rfl rfl rfl rfl rfl ⟨rfl, rfl, rfl, rfl, rfl⟩ rfl rfl rfl rfl rfl ZGL Tryz.func5 ZGM
  (of_decide_eq_true (by kernel_rfl)) (by unfold Func.isWrapper; first | (rw [if_pos (by decide +kernel)]; kernel_rfl) | (rw [if_neg (by decide +kernel)]; exact ⟨rfl, rfl⟩))
  (fun os started H enc _ => ZEg os started H enc)
#print axioms machineClock_holds
end Go.Proofs.YtlkfolopbehikaaGreat
