/- RoundPlays holds: the counter answers as the document does, draw for draw. No condition beyond the given statement's own. -/
import Derived.Test.YtfkhaicghoiijaaRows
import Derived.Test.YtfkhaicghoiijaaSxV
import Derived.Test.YtfkhaicghoiijaaRqLaw
namespace Go.Proofs.Ytfkhaicghoiijaa
open Go Go.Sx
theorem roundPlays_lifted (os : Os) (started : os.Started) (H : Type) (enc : TypeId × Value → H) :
    ReturnsInHanded {} Try.checked os 6 .any (Rows.roundPlaysSpec.pre6 enc Try.prog Try.f6 Rows.roundPlaysRow.domain false) (Rows.roundPlaysSpec.post enc Try.prog Try.f6 false true false false) :=
  law_lift (C := Try.checked) 6 4 (by kernel_rfl) started (by kernel_rfl) (by kernel_rfl) Try.func6
    (ChangeSpec.witness6 (enc := enc) (C := Try.checked) false ⟨#[], #[.int .i64 0, .slice none 0 0], []⟩ 8 (by kernel_rfl) (by kernel_rfl) (by kernel_rfl) (by kernel_rfl))
    rfl (by kernel_rfl) (by kernel_rfl) (fun ds h => by match ds, h with | [_, _], _ => rfl) (by kernel_rfl) roundPlays_law
/-- The row. -/
theorem roundPlays_holds : Rows.RoundPlaysSaid :=
  OpenClaim.holds_of_wide 6 Try.f6 rfl rfl rfl rfl rfl rfl rfl ⟨rfl, rfl, rfl, rfl, rfl⟩ rfl rfl rfl rfl rfl (by kernel_rfl) Try.func6 (by kernel_rfl)
    (of_decide_eq_true (by kernel_rfl)) (by unfold Func.isWrapper; first | (rw [if_pos (by decide +kernel)]; kernel_rfl) | (rw [if_neg (by decide +kernel)]; exact ⟨rfl, rfl⟩))
    (fun os started H enc _ => roundPlays_lifted os started H enc)
#print axioms roundPlays_holds
end Go.Proofs.Ytfkhaicghoiijaa
