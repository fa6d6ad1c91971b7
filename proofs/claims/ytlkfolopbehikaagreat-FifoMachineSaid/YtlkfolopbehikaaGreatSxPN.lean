/- part -/
import Derived.Test.YtlkfolopbehikaaGreatSxPM
set_option linter.unusedSimpArgs false
set_option linter.unusedVariables false
namespace Go.Sx
open Go
theorem ZGy {P : Program} {G : Ctx} {t : TypeId} {name : String} {fid : FuncId} {k : Nat} {xs : List AV} {h : Heap} {n : Nat} {K : SV -> Heap -> Nat -> Prop} (hP : G.P = P)
  (hm : ∀ (v : Value) (args : Array Value) (w : World), (callMethod (.iface t v) name args).run P w = .ok (.enter fid (#[v] ++ args)) w)
  (hc : CallP G fid (.l (.p k 0 0 0) :: xs) h n K) : InvP G (.l (.i t k)) name xs h n K := by
 subst hP
 rw [ZCd] at hc
 rw [ZD9]
 intro G' hG' ρ φ w g hr hxs
 have hk : (AV.l (.p k 0 0 0)).ok ρ (lt n) := hr
 refine ⟨fid, _, hm _ _ _, ?_⟩
 have := hc.2 G' hG' ρ φ w g (fun x hx => by
  rcases List.mem_cons.1 hx with rfl | hx
  ·exact hk
  ·exact hxs x hx)
 simpa [AV.at, LV.at] using this
end Go.Sx
