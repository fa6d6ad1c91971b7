/- AheadTurns holds: from place to place at most one thread comes into the queue, or goes out of it; up to 60 entries. Conditions: none beyond the statement. No condition beyond the given statement's own. -/
import Derived.Test.YtfkhaicghoiijacRows
import Derived.Test.YtfkhaicghoiijacSxV
import Derived.Test.YtfkhaicghoiijacBfLaw
namespace Go.Proofs.Ytfkhaicghoiijac
open Go Go.Sx
theorem aheadTurns_lifted (os : Os) (started : os.Started) (H : Type) (enc : TypeId × Value → H) :
    ReturnsInHanded {} Try.checked os 5 .any (Rows.aheadTurnsSpec.pre6 enc Try.prog Try.f5 Rows.aheadTurnsRow.domain false) (Rows.aheadTurnsSpec.post enc Try.prog Try.f5 false true false false) :=
  law_lift (C := Try.checked) 5 4 (by kernel_rfl) started (by kernel_rfl) (by kernel_rfl) Try.func5
    (ChangeSpec.witness6 (enc := enc) (C := Try.checked) false ⟨#[], #[.slice none 0 0], []⟩ 8 (by kernel_rfl) (by kernel_rfl) (by kernel_rfl) (by kernel_rfl))
    rfl (by kernel_rfl) (by kernel_rfl) (fun ds h => by match ds, h with | [_], _ => rfl) (by kernel_rfl) aheadTurns_law
/-- The row. -/
theorem aheadTurns_holds : Rows.AheadTurnsSaid :=
  OpenClaim.holds_of_wide 5 Try.f5 rfl rfl rfl rfl rfl rfl rfl ⟨rfl, rfl, rfl, rfl, rfl⟩ rfl rfl rfl rfl rfl (by kernel_rfl) Try.func5 (by kernel_rfl)
    (of_decide_eq_true (by kernel_rfl)) (by unfold Func.isWrapper; first | (rw [if_pos (by decide +kernel)]; kernel_rfl) | (rw [if_neg (by decide +kernel)]; exact ⟨rfl, rfl⟩))
    (fun os started H enc _ => aheadTurns_lifted os started H enc)
#print axioms aheadTurns_holds
end Go.Proofs.Ytfkhaicghoiijac
