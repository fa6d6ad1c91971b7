/- FifoOrder holds: who comes in finds nobody within, and stands in front of the queue No condition beyond the given statement's own. -/
import Derived.Test.YtfkhaicghoiijabRows
import Derived.Test.YtfkhaicghoiijabSxV
import Derived.Test.YtfkhaicghoiijabFjLaw
namespace Go.Proofs.Ytfkhaicghoiijab
open Go Go.Sx
theorem fifoOrder_lifted (os : Os) (started : os.Started) (H : Type) (enc : TypeId × Value → H) :
    ReturnsInHanded {} Try.checked os 7 .any (Rows.fifoOrderSpec.pre6 enc Try.prog Try.f7 Rows.fifoOrderRow.domain false) (Rows.fifoOrderSpec.post enc Try.prog Try.f7 false true false false) :=
  law_lift (C := Try.checked) 7 4 (by kernel_rfl) started (by kernel_rfl) (by kernel_rfl) Try.func7
    (ChangeSpec.witness6 (enc := enc) (C := Try.checked) false ⟨#[], #[.int .i64 0, .slice none 0 0], []⟩ 8 (by kernel_rfl) (by kernel_rfl) (by kernel_rfl) (by kernel_rfl))
    rfl (by kernel_rfl) (by kernel_rfl) (fun ds h => by match ds, h with | [_, _], _ => rfl) (by kernel_rfl) fifoOrder_law
/-- The row. -/
theorem fifoOrder_holds : Rows.FifoOrderSaid :=
  OpenClaim.holds_of_wide 7 Try.f7 rfl rfl rfl rfl rfl rfl rfl ⟨rfl, rfl, rfl, rfl, rfl⟩ rfl rfl rfl rfl rfl (by kernel_rfl) Try.func7 (by kernel_rfl)
    (of_decide_eq_true (by kernel_rfl)) (by unfold Func.isWrapper; first | (rw [if_pos (by decide +kernel)]; kernel_rfl) | (rw [if_neg (by decide +kernel)]; exact ⟨rfl, rfl⟩))
    (fun os started H enc _ => fifoOrder_lifted os started H enc)
#print axioms fifoOrder_holds
end Go.Proofs.Ytfkhaicghoiijab
