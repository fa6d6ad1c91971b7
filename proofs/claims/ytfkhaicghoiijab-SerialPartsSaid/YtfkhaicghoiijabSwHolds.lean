/- SerialParts holds: the cells behind some deeds of any section are what the document says. No condition beyond the given statement's own. -/
import Derived.Test.YtfkhaicghoiijabRows
import Derived.Test.YtfkhaicghoiijabSxV
import Derived.Test.YtfkhaicghoiijabSwLaw
namespace Go.Proofs.Ytfkhaicghoiijab
open Go Go.Sx
theorem serialParts_lifted (os : Os) (started : os.Started) (H : Type) (enc : TypeId × Value → H) :
    ReturnsInHanded {} Try.checked os 4 .any (Rows.serialPartsSpec.pre6 enc Try.prog Try.f4 Rows.serialPartsRow.domain false) (Rows.serialPartsSpec.post enc Try.prog Try.f4 false true false false) :=
  law_lift (C := Try.checked) 4 4 (by kernel_rfl) started (by kernel_rfl) (by kernel_rfl) Try.func4
    (ChangeSpec.witness6 (enc := enc) (C := Try.checked) false ⟨#[], #[.agg #[.int .u32 0, .int .u32 0, .int .u32 0, .int .u32 0, .int .u32 0, .int .u32 0, .int .u32 0, .int .u32 0, .int .u32 0, .int .u32 0, .int .u32 0, .int .u32 0, .int .u32 0, .int .u32 0, .int .u32 0, .int .u32 0], .slice none 0 0, .int .i64 0], []⟩ 8 (by kernel_rfl) (by kernel_rfl) (by kernel_rfl) (by kernel_rfl))
    rfl (by kernel_rfl) (by kernel_rfl) (fun ds h => by match ds, h with | [_, _, _], _ => rfl) (by kernel_rfl) serialParts_law
/-- The row. -/
theorem serialParts_holds : Rows.SerialPartsSaid :=
  OpenClaim.holds_of_wide 4 Try.f4 rfl rfl rfl rfl rfl rfl rfl ⟨rfl, rfl, rfl, rfl, rfl⟩ rfl rfl rfl rfl rfl (by kernel_rfl) Try.func4 (by kernel_rfl)
    (of_decide_eq_true (by kernel_rfl)) (by unfold Func.isWrapper; first | (rw [if_pos (by decide +kernel)]; kernel_rfl) | (rw [if_neg (by decide +kernel)]; exact ⟨rfl, rfl⟩))
    (fun os started H enc _ => serialParts_lifted os started H enc)
#print axioms serialParts_holds
end Go.Proofs.Ytfkhaicghoiijab
