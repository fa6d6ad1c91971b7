/- SerialRuns holds: what any jobs come to, in any order, is what the document says; whether one stands twice, too; up to 60 jobs, an order of up to 30. No condition beyond the given statement's own. -/
import Derived.Test.YtfkhaicghoiijabRows
import Derived.Test.YtfkhaicghoiijabSxV
import Derived.Test.YtfkhaicghoiijabTzLaw
namespace Go.Proofs.Ytfkhaicghoiijab
open Go Go.Sx
theorem serialRuns_lifted (os : Os) (started : os.Started) (H : Type) (enc : TypeId × Value → H) :
    ReturnsInHanded {} Try.checked os 5 .any (Rows.serialRunsSpec.pre6 enc Try.prog Try.f5 Rows.serialRunsRow.domain false) (Rows.serialRunsSpec.post enc Try.prog Try.f5 false true false false) :=
  law_lift (C := Try.checked) 5 4 (by kernel_rfl) started (by kernel_rfl) (by kernel_rfl) Try.func5
    (ChangeSpec.witness6 (enc := enc) (C := Try.checked) false ⟨#[], #[.agg #[.int .u32 0, .int .u32 0, .int .u32 0, .int .u32 0, .int .u32 0, .int .u32 0, .int .u32 0, .int .u32 0, .int .u32 0, .int .u32 0, .int .u32 0, .int .u32 0, .int .u32 0, .int .u32 0, .int .u32 0, .int .u32 0], .slice none 0 0, .slice none 0 0], []⟩ 8 (by kernel_rfl) (by kernel_rfl) (by kernel_rfl) (by kernel_rfl))
    rfl (by kernel_rfl) (by kernel_rfl) (fun ds h => by match ds, h with | [_, _, _], _ => rfl) (by kernel_rfl) serialRuns_law
/-- The row. -/
theorem serialRuns_holds : Rows.SerialRunsSaid :=
  OpenClaim.holds_of_wide 5 Try.f5 rfl rfl rfl rfl rfl rfl rfl ⟨rfl, rfl, rfl, rfl, rfl⟩ rfl rfl rfl rfl rfl (by kernel_rfl) Try.func5 (by kernel_rfl)
    (of_decide_eq_true (by kernel_rfl)) (by unfold Func.isWrapper; first | (rw [if_pos (by decide +kernel)]; kernel_rfl) | (rw [if_neg (by decide +kernel)]; exact ⟨rfl, rfl⟩))
    (fun os started H enc _ => serialRuns_lifted os started H enc)
#print axioms serialRuns_holds
end Go.Proofs.Ytfkhaicghoiijab
