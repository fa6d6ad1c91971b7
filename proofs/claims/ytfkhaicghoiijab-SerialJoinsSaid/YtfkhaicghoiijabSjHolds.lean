/- SerialJoins holds: two orders, one behind the other, come to what the second one comes to behind the first one; up to 60 jobs, orders of up to 15. No condition beyond the given statement's own. -/
import Derived.Test.YtfkhaicghoiijabRows
import Derived.Test.YtfkhaicghoiijabSxV
import Derived.Test.YtfkhaicghoiijabSjLaw
namespace Go.Proofs.Ytfkhaicghoiijab
open Go Go.Sx
theorem serialJoins_lifted (os : Os) (started : os.Started) (H : Type) (enc : TypeId × Value → H) :
    ReturnsInHanded {} Try.checked os 3 .any (Rows.serialJoinsSpec.pre6 enc Try.prog Try.f3 Rows.serialJoinsRow.domain false) (Rows.serialJoinsSpec.post enc Try.prog Try.f3 false true false false) :=
  law_lift (C := Try.checked) 3 4 (by kernel_rfl) started (by kernel_rfl) (by kernel_rfl) Try.func3
    (ChangeSpec.witness6 (enc := enc) (C := Try.checked) false ⟨#[], #[.agg #[.int .u32 0, .int .u32 0, .int .u32 0, .int .u32 0, .int .u32 0, .int .u32 0, .int .u32 0, .int .u32 0, .int .u32 0, .int .u32 0, .int .u32 0, .int .u32 0, .int .u32 0, .int .u32 0, .int .u32 0, .int .u32 0, .slice none 0 0, .slice none 0 0, .int .u8 0]], []⟩ 8 (by kernel_rfl) (by kernel_rfl) (by kernel_rfl) (by kernel_rfl))
    rfl (by kernel_rfl) (by kernel_rfl) (fun ds h => by match ds, h with | [_], _ => rfl) (by kernel_rfl) serialJoins_law
/-- The row. -/
theorem serialJoins_holds : Rows.SerialJoinsSaid :=
  OpenClaim.holds_of_wide 3 Try.f3 rfl rfl rfl rfl rfl rfl rfl ⟨rfl, rfl, rfl, rfl, rfl⟩ rfl rfl rfl rfl rfl (by kernel_rfl) Try.func3 (by kernel_rfl)
    (of_decide_eq_true (by kernel_rfl)) (by unfold Func.isWrapper; first | (rw [if_pos (by decide +kernel)]; kernel_rfl) | (rw [if_neg (by decide +kernel)]; exact ⟨rfl, rfl⟩))
    (fun os started H enc _ => serialJoins_lifted os started H enc)
#print axioms serialJoins_holds
end Go.Proofs.Ytfkhaicghoiijab
