/- AheadTells holds: who is in the queue at any place of any entries, and how many are ahead, is what the document says; up to 60 entries. Conditions: none beyond the statement. No condition beyond the given statement's own. -/
import Derived.Test.YtfkhaicghoiijacRows
import Derived.Test.YtfkhaicghoiijacSxV
import Derived.Test.YtfkhaicghoiijacBdLaw
namespace Go.Proofs.Ytfkhaicghoiijac
open Go Go.Sx
theorem aheadTells_lifted (os : Os) (started : os.Started) (H : Type) (enc : TypeId × Value → H) :
    ReturnsInHanded {} Try.checked os 4 .any (Rows.aheadTellsSpec.pre6 enc Try.prog Try.f4 Rows.aheadTellsRow.domain false) (Rows.aheadTellsSpec.post enc Try.prog Try.f4 false true false false) :=
  law_lift (C := Try.checked) 4 4 (by kernel_rfl) started (by kernel_rfl) (by kernel_rfl) Try.func4
    (ChangeSpec.witness6 (enc := enc) (C := Try.checked) false ⟨#[], #[.slice none 0 0, .int .i64 0], []⟩ 8 (by kernel_rfl) (by kernel_rfl) (by kernel_rfl) (by kernel_rfl))
    rfl (by kernel_rfl) (by kernel_rfl) (fun ds h => by match ds, h with | [_, _], _ => rfl) (by kernel_rfl) aheadTells_law
/-- The row. -/
theorem aheadTells_holds : Rows.AheadTellsSaid :=
  OpenClaim.holds_of_wide 4 Try.f4 rfl rfl rfl rfl rfl rfl rfl ⟨rfl, rfl, rfl, rfl, rfl⟩ rfl rfl rfl rfl rfl (by kernel_rfl) Try.func4 (by kernel_rfl)
    (of_decide_eq_true (by kernel_rfl)) (by unfold Func.isWrapper; first | (rw [if_pos (by decide +kernel)]; kernel_rfl) | (rw [if_neg (by decide +kernel)]; exact ⟨rfl, rfl⟩))
    (fun os started H enc _ => aheadTells_lifted os started H enc)
#print axioms aheadTells_holds
end Go.Proofs.Ytfkhaicghoiijac
