/- WitnessFew holds: of a trace, ever fewer overtakes are witnessed within homes and ahead of a place No condition beyond the given statement's own. -/
import Derived.Test.YtmccmanekbiadaaRows
import Derived.Test.YtmccmanekbiadaaSxV
import Derived.Test.YtmccmanekbiadaaWdLaw
namespace Go.Proofs.Ytmccmanekbiadaa
open Go Go.Sx
theorem witnessFew_lifted (os : Os) (started : os.Started) (H : Type) (enc : TypeId × Value → H) :
    ReturnsInHanded {} Try.checked os 6 .any (Rows.witnessFewSpec.pre6 enc Try.prog Try.f6 Rows.witnessFewRow.domain false) (Rows.witnessFewSpec.post enc Try.prog Try.f6 false true false false) :=
  law_lift (C := Try.checked) 6 4 (by kernel_rfl) started (by kernel_rfl) (by kernel_rfl) Try.func6
    (ChangeSpec.witness6 (enc := enc) (C := Try.checked) false ⟨#[], #[.slice none 0 0, .slice none 0 0, .int .u8 0], []⟩ 8 (by kernel_rfl) (by kernel_rfl) (by kernel_rfl) (by kernel_rfl))
    rfl (by kernel_rfl) (by kernel_rfl) (fun ds h => by match ds, h with | [_, _, _], _ => rfl) (by kernel_rfl) witnessFew_law rfl
/-- The row. -/
theorem witnessFew_holds : Rows.WitnessFewSaid :=
  OpenClaim.holds_of_wide 6 Try.f6 rfl rfl rfl rfl rfl rfl rfl ⟨rfl, rfl, rfl, rfl, rfl⟩ rfl rfl rfl rfl rfl (by kernel_rfl) Try.func6 (by kernel_rfl)
    (of_decide_eq_true (by kernel_rfl)) (by unfold Func.isWrapper; first | (rw [if_pos (by decide +kernel)]; kernel_rfl) | (rw [if_neg (by decide +kernel)]; exact ⟨rfl, rfl⟩))
    (fun os started H enc _ => witnessFew_lifted os started H enc)
#print axioms witnessFew_holds
end Go.Proofs.Ytmccmanekbiadaa
