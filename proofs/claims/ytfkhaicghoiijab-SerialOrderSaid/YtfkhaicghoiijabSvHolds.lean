/- SerialOrder holds: the threads of the Grants in any entries are told, in their order; up to 100 entries. No condition beyond the given statement's own. -/
import Derived.Test.YtfkhaicghoiijabRows
import Derived.Test.YtfkhaicghoiijabSxV
import Derived.Test.YtfkhaicghoiijabSvLaw
namespace Go.Proofs.Ytfkhaicghoiijab
open Go Go.Sx
theorem serialOrder_lifted (os : Os) (started : os.Started) (H : Type) (enc : TypeId × Value → H) :
    ReturnsInHanded {} Try.checked os 6 .any (Rows.serialOrderSpec.pre6 enc Try.prog Try.f6 Rows.serialOrderRow.domain false) (Rows.serialOrderSpec.post enc Try.prog Try.f6 false true false false) :=
  law_lift (C := Try.checked) 6 4 (by kernel_rfl) started (by kernel_rfl) (by kernel_rfl) Try.func6
    (ChangeSpec.witness6 (enc := enc) (C := Try.checked) false ⟨#[], #[.slice none 0 0], []⟩ 8 (by kernel_rfl) (by kernel_rfl) (by kernel_rfl) (by kernel_rfl))
    rfl (by kernel_rfl) (by kernel_rfl) (fun ds h => by match ds, h with | [_], _ => rfl) (by kernel_rfl) serialOrder_law
/-- The row. -/
theorem serialOrder_holds : Rows.SerialOrderSaid :=
  OpenClaim.holds_of_wide 6 Try.f6 rfl rfl rfl rfl rfl rfl rfl ⟨rfl, rfl, rfl, rfl, rfl⟩ rfl rfl rfl rfl rfl (by kernel_rfl) Try.func6 (by kernel_rfl)
    (of_decide_eq_true (by kernel_rfl)) (by unfold Func.isWrapper; first | (rw [if_pos (by decide +kernel)]; kernel_rfl) | (rw [if_neg (by decide +kernel)]; exact ⟨rfl, rfl⟩))
    (fun os started H enc _ => serialOrder_lifted os started H enc)
#print axioms serialOrder_holds
end Go.Proofs.Ytfkhaicghoiijab
