/- BuildNames holds: each kind has its word, and each word its kind, or none; what kinds are is what the document says. No condition beyond the given statement's own. -/
import Derived.Test.YtmccmanekbiadaaDoorRows
import Derived.Test.YtmccmanekbiadaaDoorCards
import Derived.Test.YtmccmanekbiadaaDoorTie
import Derived.Test.YtmccmanekbiadaaDoorSxVL
import Derived.Lay
import Derived.SevenTiedAt
import Derived.Test.YtmccmanekbiadaaDoorNbLaw
namespace Go.Proofs.YtmccmanekbiadaaDoor
open Go Go.Sx
theorem buildNames_glob (W : World) (h : laidMetH Tryd.prog Rows.buildNamesRow.laid W) : GlobW W := by
  intro g vs hg
  simp only [laidL, List.mem_cons, Prod.mk.injEq, List.not_mem_nil, or_false] at hg
  obtain ⟨rfl, rfl⟩ := hg
  · exact laid_at h (by kernel_rfl) (name := "weighlock/build.names") (g := 0) (t := 37) (e := 9) (by first | exact List.mem_singleton.2 rfl | simp [Rows.buildNamesRow]) (by kernel_rfl) (by kernel_rfl) (by kernel_rfl) (by kernel_rfl) (by kernel_rfl) (by kernel_rfl) (by kernel_rfl) (by decide)

set_option maxRecDepth 100000 in
theorem buildNames_lifted (os : Os) (started : os.Started) (H : Type) (enc : TypeId × Value → H) :
    ReturnsInHanded {} Tryd.checked os 3 .any (fun w args => (Rows.buildNamesSpec.pre enc Tryd.prog Tryd.f3 Rows.buildNamesRow.domain false w args ∧ laidMetH Tryd.prog Rows.buildNamesRow.laid w) ∧ sizedMet enc Tryd.prog Tryd.f3 (OpenSpec.ofChange Rows.buildNamesSpec) false w args)
      (Rows.buildNamesSpec.post enc Tryd.prog Tryd.f3 false true false false) :=
  law_lift_laid (C := Tryd.checked) 3 4 Rows.buildNamesRow.laid (by kernel_rfl) (by kernel_rfl) started (by kernel_rfl) (by kernel_rfl) Tryd.func3
    (ChangeSpec.witness_shaped (enc := enc) (C := Tryd.checked) (os := os) (X := fun w _ => laidMetH Tryd.prog Rows.buildNamesRow.laid w) false (World.laidAll Tryd.prog os Rows.buildNamesRow.laid) #[.int .i64 0, .string ⟨#[]⟩] 8 (World.laidAll_os _ _ _)
      (World.shaped_of_ZipB (by kernel_rfl) (by kernel_rfl)) (by kernel_rfl) (by kernel_rfl) (by kernel_rfl)
      (by rw [MakeChecks.laidMetH_plain _ _ _ (by kernel_rfl)]; exact laidMet_laidAll _ (by kernel_rfl) (by kernel_rfl)))
    rfl (by kernel_rfl) (by kernel_rfl) (fun ds h => by match ds, h with | [_, _], _ => rfl) (by kernel_rfl) buildNames_law buildNames_glob
/-- The row. -/
theorem buildNames_row : Rows.BuildNamesSaid :=
  OpenClaim.holds_of_wide 3 Tryd.f3 rfl rfl rfl rfl rfl rfl rfl ⟨rfl, rfl, rfl, rfl, rfl⟩ rfl rfl rfl rfl rfl (by kernel_rfl) Tryd.func3 (by kernel_rfl)
    (of_decide_eq_true (by kernel_rfl)) (by unfold Func.isWrapper; first | (rw [if_pos (by decide +kernel)]; kernel_rfl) | (rw [if_neg (by decide +kernel)]; exact ⟨rfl, rfl⟩))
    (fun os started H enc _ => buildNames_lifted os started H enc)
/-- The tied card. -/
theorem buildNames_holds : Rows.BuildNamesCardSaid :=
  Claim7.holds_tied_plain_at .later [] [.widerDeep] true (true, "b340e8a419291ec7c70d7f193b5ff037c7fc45640b99aa698f6af02695ea6570") false buildNames_row (fun _ h => by cases h) (by kernel_rfl) (fun _ h => by cases h) buildNames_row_tie rfl ⟨rfl, rfl⟩ (by kernel_rfl) rfl
    (fun f fn hf hfn => by
      obtain rfl : f = 3 := Option.some.inj ((show Tryd.prog.funcNamed "weighlock/weighlocklaw17.BuildNames" = some 3 by kernel_rfl).symm.trans hf) |>.symm
      obtain rfl : fn = Tryd.f3 := (Option.some.inj (Tryd.func3.symm.trans hfn)).symm
      exact ⟨by kernel_rfl, fun j t ht => by
        rw [Tryd.params3] at ht
        have hm : t ∈ [3, 9] := by simpa using Array.mem_of_getElem? ht
        have hall : ([3, 9].all fun u => !Tryd.prog.wantsStandIn u) = true := by kernel_rfl
        exact (show Tryd.prog.wantsStandIn t = false by simpa using List.all_eq_true.1 hall t hm)⟩)
    (by kernel_rfl)
#print axioms buildNames_holds
end Go.Proofs.YtmccmanekbiadaaDoor
