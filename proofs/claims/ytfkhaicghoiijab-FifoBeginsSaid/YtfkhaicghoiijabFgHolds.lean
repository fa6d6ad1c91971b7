/- FifoBegins holds: a trace cut short is checked as its front is No condition beyond the given statement's own. -/
import Derived.Test.YtfkhaicghoiijabRows
import Derived.Test.YtfkhaicghoiijabSxV
import Derived.Test.YtfkhaicghoiijabFgLaw
namespace Go.Proofs.Ytfkhaicghoiijab
open Go Go.Sx
theorem fifoBegins_lifted (os : Os) (started : os.Started) (H : Type) (enc : TypeId × Value → H) :
    ReturnsInHanded {} Try.checked os 8 .any (Rows.fifoBeginsSpec.pre6 enc Try.prog Try.f8 Rows.fifoBeginsRow.domain false) (Rows.fifoBeginsSpec.post enc Try.prog Try.f8 false true false false) :=
  law_lift (C := Try.checked) 8 4 (by kernel_rfl) started (by kernel_rfl) (by kernel_rfl) Try.func8
    (ChangeSpec.witness6 (enc := enc) (C := Try.checked) false ⟨#[], #[.int .i64 0, .slice none 0 0, .int .u8 0], []⟩ 8 (by kernel_rfl) (by kernel_rfl) (by kernel_rfl) (by kernel_rfl))
    rfl (by kernel_rfl) (by kernel_rfl) (fun ds h => by match ds, h with | [_, _, _], _ => rfl) (by kernel_rfl) fifoBegins_law
/-- The row. -/
theorem fifoBegins_holds : Rows.FifoBeginsSaid :=
  OpenClaim.holds_of_wide 8 Try.f8 rfl rfl rfl rfl rfl rfl rfl ⟨rfl, rfl, rfl, rfl, rfl⟩ rfl rfl rfl rfl rfl (by kernel_rfl) Try.func8 (by kernel_rfl)
    (of_decide_eq_true (by kernel_rfl)) (by unfold Func.isWrapper; first | (rw [if_pos (by decide +kernel)]; kernel_rfl) | (rw [if_neg (by decide +kernel)]; exact ⟨rfl, rfl⟩))
    (fun os started H enc _ => fifoBegins_lifted os started H enc)
#print axioms fifoBegins_holds
end Go.Proofs.Ytfkhaicghoiijab
