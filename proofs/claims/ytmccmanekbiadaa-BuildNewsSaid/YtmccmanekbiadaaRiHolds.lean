/- BuildNews holds: whatever lock is made of any configuration is made as the document makes it. No condition beyond the given statement's own. -/
import Derived.Test.YtmccmanekbiadaaRows
import Derived.Test.YtmccmanekbiadaaSxV
import Derived.Test.YtmccmanekbiadaaRiLaw
namespace Go.Proofs.Ytmccmanekbiadaa
open Go Go.Sx
theorem buildNews_lifted (os : Os) (started : os.Started) (H : Type) (enc : TypeId × Value → H) :
    ReturnsInHanded {} Try.checked os 3 .any (Rows.buildNewsSpec.pre6 enc Try.prog Try.f3 Rows.buildNewsRow.domain false) (Rows.buildNewsSpec.post enc Try.prog Try.f3 false true false false) :=
  law_lift (C := Try.checked) 3 4 (by kernel_rfl) started (by kernel_rfl) (by kernel_rfl) Try.func3
    (ChangeSpec.witness6 (enc := enc) (C := Try.checked) false ⟨#[], #[.agg #[.int .i64 0, .slice none 0 0, .int .u32 0, .int .i64 0, .int .i64 0, .int .i64 0, .int .i64 0, .int .i64 0]], []⟩ 8 (by kernel_rfl) (by kernel_rfl) (by kernel_rfl) (by kernel_rfl))
    rfl (by kernel_rfl) (by kernel_rfl) (fun ds h => by match ds, h with | [_], _ => rfl) (by kernel_rfl) buildNews_law rfl
/-- The row. -/
theorem buildNews_holds : Rows.BuildNewsSaid :=
  OpenClaim.holds_of_wide 3 Try.f3 rfl rfl rfl rfl rfl rfl rfl ⟨rfl, rfl, rfl, rfl, rfl⟩ rfl rfl rfl rfl rfl (by kernel_rfl) Try.func3 (by kernel_rfl)
    (of_decide_eq_true (by kernel_rfl)) (by unfold Func.isWrapper; first | (rw [if_pos (by decide +kernel)]; kernel_rfl) | (rw [if_neg (by decide +kernel)]; exact ⟨rfl, rfl⟩))
    (fun os started H enc _ => buildNews_lifted os started H enc)
#print axioms buildNews_holds
end Go.Proofs.Ytmccmanekbiadaa
