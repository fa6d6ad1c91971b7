/- RoundTurns holds: if each of some busy threads is picked by turns, each so many events are a round. No condition beyond the given statement's own. -/
import Derived.Test.YtfkhaicghoiijaaRows
import Derived.Test.YtfkhaicghoiijaaSxV
import Derived.Test.YtfkhaicghoiijaaRtLaw
namespace Go.Proofs.Ytfkhaicghoiijaa
open Go Go.Sx
theorem roundTurns_lifted (os : Os) (started : os.Started) (H : Type) (enc : TypeId × Value → H) :
    ReturnsInHanded {} Try.checked os 7 .any (Rows.roundTurnsSpec.pre6 enc Try.prog Try.f7 Rows.roundTurnsRow.domain false) (Rows.roundTurnsSpec.post enc Try.prog Try.f7 false true false false) :=
  law_lift (C := Try.checked) 7 4 (by kernel_rfl) started (by kernel_rfl) (by kernel_rfl) Try.func7
    (ChangeSpec.witness6 (enc := enc) (C := Try.checked) false ⟨#[], #[.int .u8 0, .int .u8 0, .int .u8 0], []⟩ 8 (by kernel_rfl) (by kernel_rfl) (by kernel_rfl) (by kernel_rfl))
    rfl (by kernel_rfl) (by kernel_rfl) (fun ds h => by match ds, h with | [_, _, _], _ => rfl) (by kernel_rfl) roundTurns_law
/-- The row. -/
theorem roundTurns_holds : Rows.RoundTurnsSaid :=
  OpenClaim.holds_of_wide 7 Try.f7 rfl rfl rfl rfl rfl rfl rfl ⟨rfl, rfl, rfl, rfl, rfl⟩ rfl rfl rfl rfl rfl (by kernel_rfl) Try.func7 (by kernel_rfl)
    (of_decide_eq_true (by kernel_rfl)) (by unfold Func.isWrapper; first | (rw [if_pos (by decide +kernel)]; kernel_rfl) | (rw [if_neg (by decide +kernel)]; exact ⟨rfl, rfl⟩))
    (fun os started H enc _ => roundTurns_lifted os started H enc)
#print axioms roundTurns_holds
end Go.Proofs.Ytfkhaicghoiijaa
