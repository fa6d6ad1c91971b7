/- AheadLongest holds: the longest queue of the document is the longest queue of the program No condition beyond the given statement's own. -/
import Derived.Test.YtfkhaicghoiijacRows
import Derived.Test.YtfkhaicghoiijacSxV
import Derived.Test.YtfkhaicghoiijacArLaw
namespace Go.Proofs.Ytfkhaicghoiijac
open Go Go.Sx
theorem aheadLongest_lifted (os : Os) (started : os.Started) (H : Type) (enc : TypeId × Value → H) :
    ReturnsInHanded {} Try.checked os 3 .any (Rows.aheadLongestSpec.pre6 enc Try.prog Try.f3 Rows.aheadLongestRow.domain false) (Rows.aheadLongestSpec.post enc Try.prog Try.f3 false true false false) :=
  law_lift (C := Try.checked) 3 4 (by kernel_rfl) started (by kernel_rfl) (by kernel_rfl) Try.func3
    (ChangeSpec.witness6 (enc := enc) (C := Try.checked) false ⟨#[], #[.slice none 0 0], []⟩ 8 (by kernel_rfl) (by kernel_rfl) (by kernel_rfl) (by kernel_rfl))
    rfl (by kernel_rfl) (by kernel_rfl) (fun ds h => by match ds, h with | [_], _ => rfl) (by kernel_rfl) aheadLongest_law
/-- The row. -/
theorem aheadLongest_holds : Rows.AheadLongestSaid :=
  OpenClaim.holds_of_wide 3 Try.f3 rfl rfl rfl rfl rfl rfl rfl ⟨rfl, rfl, rfl, rfl, rfl⟩ rfl rfl rfl rfl rfl (by kernel_rfl) Try.func3 (by kernel_rfl)
    (of_decide_eq_true (by kernel_rfl)) (by unfold Func.isWrapper; first | (rw [if_pos (by decide +kernel)]; kernel_rfl) | (rw [if_neg (by decide +kernel)]; exact ⟨rfl, rfl⟩))
    (fun os started H enc _ => aheadLongest_lifted os started H enc)
#print axioms aheadLongest_holds
end Go.Proofs.Ytfkhaicghoiijac
