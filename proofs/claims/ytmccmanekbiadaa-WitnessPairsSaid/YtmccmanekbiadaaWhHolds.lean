/- WitnessPairs holds: overtakes are counted as the document says it No condition beyond the given statement's own. -/
import Derived.Test.YtmccmanekbiadaaRows
import Derived.Test.YtmccmanekbiadaaSxV
import Derived.Test.YtmccmanekbiadaaWhLaw
namespace Go.Proofs.Ytmccmanekbiadaa
open Go Go.Sx
theorem witnessPairs_lifted (os : Os) (started : os.Started) (H : Type) (enc : TypeId × Value → H) :
    ReturnsInHanded {} Try.checked os 4 .any (Rows.witnessPairsSpec.pre6 enc Try.prog Try.f4 Rows.witnessPairsRow.domain false) (Rows.witnessPairsSpec.post enc Try.prog Try.f4 false true false false) :=
  law_lift (C := Try.checked) 4 4 (by kernel_rfl) started (by kernel_rfl) (by kernel_rfl) Try.func4
    (ChangeSpec.witness6 (enc := enc) (C := Try.checked) false ⟨#[], #[.slice none 0 0, .slice none 0 0], []⟩ 8 (by kernel_rfl) (by kernel_rfl) (by kernel_rfl) (by kernel_rfl))
    rfl (by kernel_rfl) (by kernel_rfl) (fun ds h => by match ds, h with | [_, _], _ => rfl) (by kernel_rfl) witnessPairs_law rfl
/-- The row. -/
theorem witnessPairs_holds : Rows.WitnessPairsSaid :=
  OpenClaim.holds_of_wide 4 Try.f4 rfl rfl rfl rfl rfl rfl rfl ⟨rfl, rfl, rfl, rfl, rfl⟩ rfl rfl rfl rfl rfl (by kernel_rfl) Try.func4 (by kernel_rfl)
    (of_decide_eq_true (by kernel_rfl)) (by unfold Func.isWrapper; first | (rw [if_pos (by decide +kernel)]; kernel_rfl) | (rw [if_neg (by decide +kernel)]; exact ⟨rfl, rfl⟩))
    (fun os started H enc _ => witnessPairs_lifted os started H enc)
#print axioms witnessPairs_holds
end Go.Proofs.Ytmccmanekbiadaa
