/- WitnessNone holds: the depth of any configuration is what the document says. No condition beyond the given statement's own. -/
import Derived.Test.YtmccmanekbiadaaRows
import Derived.Test.YtmccmanekbiadaaSxV
import Derived.Test.YtmccmanekbiadaaWlLaw
namespace Go.Proofs.Ytmccmanekbiadaa
open Go Go.Sx
theorem witnessNone_lifted (os : Os) (started : os.Started) (H : Type) (enc : TypeId × Value → H) :
    ReturnsInHanded {} Try.checked os 5 .any (Rows.witnessNoneSpec.pre6 enc Try.prog Try.f5 Rows.witnessNoneRow.domain false) (Rows.witnessNoneSpec.post enc Try.prog Try.f5 false true false false) :=
  law_lift (C := Try.checked) 5 4 (by kernel_rfl) started (by kernel_rfl) (by kernel_rfl) Try.func5
    (ChangeSpec.witness6 (enc := enc) (C := Try.checked) false ⟨#[], #[.agg #[.int .i64 0, .slice none 0 0, .int .u32 0, .int .i64 0, .int .i64 0, .int .i64 0, .int .i64 0, .int .i64 0]], []⟩ 8 (by kernel_rfl) (by kernel_rfl) (by kernel_rfl) (by kernel_rfl))
    rfl (by kernel_rfl) (by kernel_rfl) (fun ds h => by match ds, h with | [_], _ => rfl) (by kernel_rfl) witnessNone_law rfl
/-- The row. -/
theorem witnessNone_holds : Rows.WitnessNoneSaid :=
  OpenClaim.holds_of_wide 5 Try.f5 rfl rfl rfl rfl rfl rfl rfl ⟨rfl, rfl, rfl, rfl, rfl⟩ rfl rfl rfl rfl rfl (by kernel_rfl) Try.func5 (by kernel_rfl)
    (of_decide_eq_true (by kernel_rfl)) (by unfold Func.isWrapper; first | (rw [if_pos (by decide +kernel)]; kernel_rfl) | (rw [if_neg (by decide +kernel)]; exact ⟨rfl, rfl⟩))
    (fun os started H enc _ => witnessNone_lifted os started H enc)
#print axioms witnessNone_holds
end Go.Proofs.Ytmccmanekbiadaa
