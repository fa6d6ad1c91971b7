/- EventParts holds: what stands behind encoded events is decoded behind them. No condition beyond the given statement's own. -/
import Derived.Test.YtfkhaicghoiijaaRows
import Derived.Test.YtfkhaicghoiijaaSxV
import Derived.Test.YtfkhaicghoiijaaEgLaw
namespace Go.Proofs.Ytfkhaicghoiijaa
open Go Go.Sx
theorem eventParts_lifted (os : Os) (started : os.Started) (H : Type) (enc : TypeId × Value → H) :
    ReturnsInHanded {} Try.checked os 5 .any (Rows.eventPartsSpec.pre6 enc Try.prog Try.f5 Rows.eventPartsRow.domain false) (Rows.eventPartsSpec.post enc Try.prog Try.f5 false true false false) :=
  law_lift (C := Try.checked) 5 4 (by kernel_rfl) started (by kernel_rfl) (by kernel_rfl) Try.func5
    (ChangeSpec.witness6 (enc := enc) (C := Try.checked) false ⟨#[], #[.slice none 0 0, .slice none 0 0], []⟩ 8 (by kernel_rfl) (by kernel_rfl) (by kernel_rfl) (by kernel_rfl))
    rfl (by kernel_rfl) (by kernel_rfl) (fun ds h => by match ds, h with | [_, _], _ => rfl) (by kernel_rfl) eventParts_law
/-- The row. -/
theorem eventParts_holds : Rows.EventPartsSaid :=
  OpenClaim.holds_of_wide 5 Try.f5 rfl rfl rfl rfl rfl rfl rfl ⟨rfl, rfl, rfl, rfl, rfl⟩ rfl rfl rfl rfl rfl (by kernel_rfl) Try.func5 (by kernel_rfl)
    (of_decide_eq_true (by kernel_rfl)) (by unfold Func.isWrapper; first | (rw [if_pos (by decide +kernel)]; kernel_rfl) | (rw [if_neg (by decide +kernel)]; exact ⟨rfl, rfl⟩))
    (fun os started H enc _ => eventParts_lifted os started H enc)
#print axioms eventParts_holds
end Go.Proofs.Ytfkhaicghoiijaa
