/- RoundFew holds: while one who is busy from the beginning on is never picked, no round ends. No condition beyond the given statement's own. -/
import Derived.Test.YtfkhaicghoiijaaRows
import Derived.Test.YtfkhaicghoiijaaSxV
import Derived.Test.YtfkhaicghoiijaaRfLaw
namespace Go.Proofs.Ytfkhaicghoiijaa
open Go Go.Sx
theorem roundFew_lifted (os : Os) (started : os.Started) (H : Type) (enc : TypeId × Value → H) :
    ReturnsInHanded {} Try.checked os 8 .any (Rows.roundFewSpec.pre6 enc Try.prog Try.f8 Rows.roundFewRow.domain false) (Rows.roundFewSpec.post enc Try.prog Try.f8 false true false false) :=
  law_lift (C := Try.checked) 8 4 (by kernel_rfl) started (by kernel_rfl) (by kernel_rfl) Try.func8
    (ChangeSpec.witness6 (enc := enc) (C := Try.checked) false ⟨#[], #[.int .u8 0, .slice none 0 0], []⟩ 8 (by kernel_rfl) (by kernel_rfl) (by kernel_rfl) (by kernel_rfl))
    rfl (by kernel_rfl) (by kernel_rfl) (fun ds h => by match ds, h with | [_, _], _ => rfl) (by kernel_rfl) roundFew_law
/-- The row. -/
theorem roundFew_holds : Rows.RoundFewSaid :=
  OpenClaim.holds_of_wide 8 Try.f8 rfl rfl rfl rfl rfl rfl rfl ⟨rfl, rfl, rfl, rfl, rfl⟩ rfl rfl rfl rfl rfl (by kernel_rfl) Try.func8 (by kernel_rfl)
    (of_decide_eq_true (by kernel_rfl)) (by unfold Func.isWrapper; first | (rw [if_pos (by decide +kernel)]; kernel_rfl) | (rw [if_neg (by decide +kernel)]; exact ⟨rfl, rfl⟩))
    (fun os started H enc _ => roundFew_lifted os started H enc)
#print axioms roundFew_holds
end Go.Proofs.Ytfkhaicghoiijaa
