/- part -/
import Derived.Test.YtlkfolopbehikaaGreatSxM
set_option linter.unusedSimpArgs false
set_option linter.unusedVariables false
set_option linter.unusedSectionVars false
namespace Go.Sx
open Go
section
variable {G : Ctx} {o : Oper} {a : Act} {r : Regs} {h : Heap} {n : Nat} {ρ : Env} {φ : Nat -> List Nat} {w : World} {K : SV -> Heap -> Nat -> Prop}
theorem ZLQ (n : Nat) : ¬ lt n n := Nat.lt_irrefl n
theorem ZOz (g : GM G h (lt n) ρ φ w) (hr : RM r (lt n) ρ a) (he : evI (CallP G) (InvP G) (EscP G) (.esc o.op) r h n K) : OpWp G o a h n ρ w K := by
 simp only [evI] at he
 rw [ZCw] at he
 exact he G rfl o ρ φ a w rfl g hr
theorem ZGr (g : GM G h (lt n) ρ φ w) (hr : RM r (lt n) ρ a) {i : I} (hc : cI G.P o = some i) (he : evI (CallP G) (InvP G) (EscP G) i r h n K) : OpWp G o a h n ρ w K := by
 have hn := ZLQ n
 have esc : i = .esc o.op -> OpWp G o a h n ρ w K := fun e => by subst e; exact ZOz g hr he
 cases hop : o.op with
 | move x =>
  simp only [cI, hop, Option.map_eq_some_iff] at hc
  obtain ⟨y, hy, rfl⟩ := hc
  exact .of_runs (ZL5 g hr (.inl hop) he hy)
 | assign x =>
  simp only [cI, hop, Option.map_eq_some_iff] at hc
  obtain ⟨y, hy, rfl⟩ := hc
  exact .of_runs (ZL5 g hr (.inr hop) he hy)
 | pick c x y =>
  simp only [cI, hop] at hc
  split at hc
  ·rename_i c' x' y' h1 h2 h3
   simp only [Option.some.injEq] at hc; subst hc
   exact .of_runs (ZP5 g hr hop h1 h2 h3 he)
  ·cases hc
 | alloc t =>
  simp only [cI, hop, Option.map_eq_some_iff] at hc
  obtain ⟨z, hz, rfl⟩ := hc
  exact .of_runs (ZOm g hr hn hop hz he)
 | box t x =>
  simp only [cI, hop, Option.map_eq_some_iff] at hc
  obtain ⟨y, hy, rfl⟩ := hc
  exact .of_runs (ZRJ g hr hn hop hy he)
 | build t parts =>
  simp only [cI, hop] at hc
  split at hc
  ·rename_i fs z ht hz
   split at hc
   ·rename_i pl hpl
    simp only [Option.map_eq_some_iff] at hc
    obtain ⟨ps, hps, rfl⟩ := hc
    refine .of_runs (ZOq g hr hop hps hz (fun cells vs hf => ?_) he)
    obtain ⟨ti, zv, hi, hz1, hz2, hz3⟩ := ZBJ hz
    have : z.toArray = zv.cells := by rw [<- hz3]
    unfold ZL4 at hpl
    simp only [Program.built, hi, ht, hz1, hpl]
    rw [<- this]; exact hf
   ·cases hc
  ·rename_i m e z ht hz
   split at hc
   ·rename_i ie hie
    simp only [Option.map_eq_some_iff] at hc
    obtain ⟨ps, hps, rfl⟩ := hc
    refine .of_runs (ZOq g hr hop hps hz (fun cells vs hf => ?_) he)
    obtain ⟨ti, zv, hi, hz1, hz2, hz3⟩ := ZBJ hz
    have : z.toArray = zv.cells := by rw [<- hz3]
    simp only [Program.built, hi, ht, hz1, hie]
    rw [<- this]; exact hf
   ·cases hc
  ·cases hc
 | buildSlice t m parts =>
  simp only [cI, hop] at hc
  split at hc
  ·rename_i e ht
   split at hc
   ·rename_i ti z hti hz
    split at hc
    ·rename_i hcond
     simp only [Option.map_eq_some_iff] at hc
     obtain ⟨ps, hps, rfl⟩ := hc
     exact .of_runs (ZRb g hr hn hop ht hti hz hcond.1 hcond.2.1 hcond.2.2 hps he)
    ·cases hc
   ·cases hc
  ·cases hc
 | load t x =>
  simp only [cI, hop] at hc
  split at hc
  ·rename_i y d ti hy hd hti
   split at hc
   ·rename_i hag
    simp only [Option.some.injEq] at hc; subst hc
    exact .of_runs (ZRK g hr hop hy hd hag hti he)
   ·rename_i hag
    simp only [Option.some.injEq] at hc; subst hc
    exact .of_runs (ZSK g hr hop hy hd (by simpa using hag) he)
  ·cases hc
 | store t x y =>
  simp only [cI, hop] at hc
  split at hc
  ·rename_i x' y' ti h1 h2 hti
   simp only [Option.some.injEq] at hc; subst hc
   exact .of_runs (ZRL g hr hop h1 h2 hti he)
  ·cases hc
 | nilCheck x =>
  simp only [cI, hop, Option.map_eq_some_iff] at hc
  obtain ⟨y, hy, rfl⟩ := hc
  exact .of_runs (ZRM g hr hop hy he)
 | binOp op t x y yt =>
  simp only [cI, hop] at hc
  split at hc
  ·rename_i x' y' d hx hy hd
   have eqc : ∀ (neg : Bool) (opx : BinOp) (c : EqK), o.op = .binOp opx t x y yt -> ((neg = false /\ opx = .eql) \/ (neg = true /\ opx = .neq)) -> ZEb d = some c -> (c = .n -> ZCA x = true \/ ZCA y = true) -> (∀ k, c ≠ .k k) -> i = .eq c neg x' y' -> OpWp G o a h n ρ w K := by
    intro neg opx c ho hcase hk hcn hck hi
    subst hi
    exact .of_runs (ZSM g hr ho hcase hx hy hd hk hcn hck he)
   cases op with
   | add =>
    simp only at hc
    split at hc
    ·simp only [Option.some.injEq] at hc; subst hc; exact .of_runs (ZOn g hr hop hx hy he)
    ·simp only [Option.some.injEq] at hc; subst hc; exact .of_runs (ZRP g hr hop hx hy he)
    ·simp only [Option.some.injEq] at hc; exact esc (by rw [<- hc, hop])
   | sub =>
    simp only at hc
    split at hc
    ·simp only [Option.some.injEq] at hc; subst hc; exact .of_runs (ZOn g hr hop hx hy he)
    ·simp only [Option.some.injEq] at hc; exact esc (by rw [<- hc, hop])
   | mul =>
    simp only at hc
    split at hc
    ·simp only [Option.some.injEq] at hc; subst hc; exact .of_runs (ZOn g hr hop hx hy he)
    ·simp only [Option.some.injEq] at hc; exact esc (by rw [<- hc, hop])
   | quo =>
    simp only at hc
    split at hc
    ·simp only [Option.some.injEq] at hc; subst hc; exact .of_runs (ZQT g hr hop hx hy he)
    ·simp only [Option.some.injEq] at hc; exact esc (by rw [<- hc, hop])
   | rem =>
    simp only at hc
    split at hc
    ·simp only [Option.some.injEq] at hc; subst hc; exact .of_runs (ZQT g hr hop hx hy he)
    ·simp only [Option.some.injEq] at hc; exact esc (by rw [<- hc, hop])
   | and =>
    simp only at hc
    split at hc
    ·simp only [Option.some.injEq] at hc; subst hc; exact .of_runs (ZL6 g hr hop hx hy he)
    ·simp only [Option.some.injEq] at hc; exact esc (by rw [<- hc, hop])
   | or =>
    simp only at hc
    split at hc
    ·simp only [Option.some.injEq] at hc; subst hc; exact .of_runs (ZL6 g hr hop hx hy he)
    ·simp only [Option.some.injEq] at hc; exact esc (by rw [<- hc, hop])
   | xor =>
    simp only at hc
    split at hc
    ·simp only [Option.some.injEq] at hc; subst hc; exact .of_runs (ZL6 g hr hop hx hy he)
    ·simp only [Option.some.injEq] at hc; exact esc (by rw [<- hc, hop])
   | andNot =>
    simp only at hc
    split at hc
    ·simp only [Option.some.injEq] at hc; subst hc; exact .of_runs (ZL6 g hr hop hx hy he)
    ·simp only [Option.some.injEq] at hc; exact esc (by rw [<- hc, hop])
   | shl =>
    simp only at hc
    split at hc
    ·simp only [Option.some.injEq] at hc; subst hc; exact .of_runs (ZQU g hr hop hx hy he)
    ·simp only [Option.some.injEq] at hc; exact esc (by rw [<- hc, hop])
   | shr =>
    simp only at hc
    split at hc
    ·simp only [Option.some.injEq] at hc; subst hc; exact .of_runs (ZQU g hr hop hx hy he)
    ·simp only [Option.some.injEq] at hc; exact esc (by rw [<- hc, hop])
   | lss =>
    simp only at hc
    split at hc
    ·simp only [Option.some.injEq] at hc; subst hc; exact .of_runs (ZFr g hr hop hx hy he)
    ·simp only [Option.some.injEq] at hc; exact esc (by rw [<- hc, hop])
   | leq =>
    simp only at hc
    split at hc
    ·simp only [Option.some.injEq] at hc; subst hc; exact .of_runs (ZFr g hr hop hx hy he)
    ·simp only [Option.some.injEq] at hc; exact esc (by rw [<- hc, hop])
   | gtr =>
    simp only at hc
    split at hc
    ·simp only [Option.some.injEq] at hc; subst hc; exact .of_runs (ZFr g hr hop hx hy he)
    ·simp only [Option.some.injEq] at hc; exact esc (by rw [<- hc, hop])
   | geq =>
    simp only at hc
    split at hc
    ·simp only [Option.some.injEq] at hc; subst hc; exact .of_runs (ZFr g hr hop hx hy he)
    ·simp only [Option.some.injEq] at hc; exact esc (by rw [<- hc, hop])
   | eql =>
    simp only at hc
    split at hc
    ·simp only [Option.some.injEq] at hc; subst hc; exact .of_runs (ZFr g hr hop hx hy he)
    ·rename_i fs
     split at hc
     ·rename_i cs hcs
      split at hc
      ·rename_i hcond
       simp only [Option.some.injEq] at hc; subst hc
       exact .of_runs (ZOs g hr hop (.inl ⟨rfl, rfl⟩) hx hy hd hcs hcond.1 hcond.2 he)
      ·simp only [Option.some.injEq] at hc; exact esc (by rw [<- hc, hop])
     ·simp only [Option.some.injEq] at hc; exact esc (by rw [<- hc, hop])
    ·rename_i ml el
     split at hc
     ·rename_i cs hcs
      split at hc
      ·rename_i hcond
       simp only [Option.some.injEq] at hc; subst hc
       exact .of_runs (ZMA g hr hop (.inl ⟨rfl, rfl⟩) hx hy hd hcs hcond he)
      ·simp only [Option.some.injEq] at hc; exact esc (by rw [<- hc, hop])
     ·simp only [Option.some.injEq] at hc; exact esc (by rw [<- hc, hop])
    ·rename_i ms
     split at hc
     ·rename_i hcst
      simp only [Option.some.injEq] at hc
      exact eqc false .eql .n hop (.inl ⟨rfl, rfl⟩) rfl (fun _ => by simpa using hcst) (fun k => by simp) hc.symm
     ·simp only [Option.some.injEq] at hc; exact esc (by rw [<- hc, hop])
    ·rename_i d' hd1 hd2 hd4 hd3
     split at hc
     ·rename_i c hk
      simp only [Option.some.injEq] at hc
      refine eqc false .eql c hop (.inl ⟨rfl, rfl⟩) hk (fun hcn => ?_) (fun k hck => ?_) hc.symm
      ·subst hcn; cases d <;> simp [ZEb] at hk
       exact absurd rfl (hd3 _)
      ·subst hck; cases d <;> simp [ZEb] at hk
       exact absurd rfl (hd1 _)
     ·simp only [Option.some.injEq] at hc; exact esc (by rw [<- hc, hop])
   | neq =>
    simp only at hc
    split at hc
    ·simp only [Option.some.injEq] at hc; subst hc; exact .of_runs (ZFr g hr hop hx hy he)
    ·rename_i fs
     split at hc
     ·rename_i cs hcs
      split at hc
      ·rename_i hcond
       simp only [Option.some.injEq] at hc; subst hc
       exact .of_runs (ZOs g hr hop (.inr ⟨rfl, rfl⟩) hx hy hd hcs hcond.1 hcond.2 he)
      ·simp only [Option.some.injEq] at hc; exact esc (by rw [<- hc, hop])
     ·simp only [Option.some.injEq] at hc; exact esc (by rw [<- hc, hop])
    ·rename_i ml el
     split at hc
     ·rename_i cs hcs
      split at hc
      ·rename_i hcond
       simp only [Option.some.injEq] at hc; subst hc
       exact .of_runs (ZMA g hr hop (.inr ⟨rfl, rfl⟩) hx hy hd hcs hcond he)
      ·simp only [Option.some.injEq] at hc; exact esc (by rw [<- hc, hop])
     ·simp only [Option.some.injEq] at hc; exact esc (by rw [<- hc, hop])
    ·rename_i ms
     split at hc
     ·rename_i hcst
      simp only [Option.some.injEq] at hc
      exact eqc true .neq .n hop (.inr ⟨rfl, rfl⟩) rfl (fun _ => by simpa using hcst) (fun k => by simp) hc.symm
     ·simp only [Option.some.injEq] at hc; exact esc (by rw [<- hc, hop])
    ·rename_i d' hd1 hd2 hd4 hd3
     split at hc
     ·rename_i c hk
      simp only [Option.some.injEq] at hc
      refine eqc true .neq c hop (.inr ⟨rfl, rfl⟩) hk (fun hcn => ?_) (fun k hck => ?_) hc.symm
      ·subst hcn; cases d <;> simp [ZEb] at hk
       exact absurd rfl (hd3 _)
      ·subst hck; cases d <;> simp [ZEb] at hk
       exact absurd rfl (hd1 _)
     ·simp only [Option.some.injEq] at hc; exact esc (by rw [<- hc, hop])
  ·cases hc
 | unOp op t x =>
  simp only [cI, hop] at hc
  split at hc
  ·rename_i y hy
   simp only [Option.some.injEq] at hc; subst hc
   exact .of_runs (ZRN g hr hop hy he)
  ·rename_i y k hy hd
   simp only [Option.some.injEq] at hc; subst hc
   exact .of_runs (ZRO g hr hop hy he)
  ·simp only [Option.some.injEq] at hc; exact esc (by rw [<- hc, hop])
 | convert s d x =>
  simp only [cI, hop] at hc
  split at hc
  ·rename_i y k0 k hy h1 h2
   simp only [Option.some.injEq] at hc; subst hc
   exact .of_runs (ZP6 g hr hop hy h1 h2 he)
  ·simp only [Option.some.injEq] at hc; exact esc (by rw [<- hc, hop])
 | makeInterface t x =>
  simp only [cI, hop] at hc
  split at hc
  ·simp only [Option.some.injEq] at hc; exact esc (by rw [<- hc, hop])
  ·rename_i y d hnot hy hd
   simp only [Option.some.injEq] at hc; subst hc
   exact .of_runs (ZRW g hr hop hy hd (fun m hm => hnot m hm) he)
  ·cases hc
 | makeFunc fn first caps =>
  cases fn with
  | func f =>
   simp only [cI, hop] at hc
   split at hc
   ·rename_i cs hf hcs
    simp only [Option.some.injEq] at hc; subst hc
    exact .of_runs (ZRX g hr hop hf hcs he)
   ·simp only [Option.some.injEq] at hc; exact esc (by rw [<- hc, hop])
  | method _ => simp only [cI, hop, Option.some.injEq] at hc; exact esc (by rw [<- hc, hop])
  | methodOf _ _ => simp only [cI, hop, Option.some.injEq] at hc; exact esc (by rw [<- hc, hop])
  | via _ _ _ _ => simp only [cI, hop, Option.some.injEq] at hc; exact esc (by rw [<- hc, hop])
  | yield _ => simp only [cI, hop, Option.some.injEq] at hc; exact esc (by rw [<- hc, hop])
 | makeSlice t l c =>
  simp only [cI, hop] at hc
  split at hc
  ·rename_i e l' c' ht h1 h2
   split at hc
   ·rename_i ti z hti hz
    simp only [Option.some.injEq] at hc; subst hc
    exact .of_runs (ZRY g hr hn hop h1 h2 ht hti hz he)
   ·cases hc
  ·cases hc
 | slice t x lo hi mx =>
  cases mx with
  | some m => simp only [cI, hop, Option.some.injEq] at hc; exact esc (by rw [<- hc, hop])
  | none =>
   simp only [cI, hop] at hc
   split at hc
   ·rename_i e y ht hy h1 h2
    simp only [Option.map_eq_some_iff] at hc
    obtain ⟨ti, hti, rfl⟩ := hc
    cases lo <;> simp at h1
    cases hi <;> simp at h2
    exact .of_runs (ZIs (lo := none) (hi := none) g hr hop hy (by simp) (by simp) (by simp) (by simp) ht hti he)
   ·rename_i e y l ht hy h1 h2
    simp only [Option.map_eq_some_iff] at hc
    obtain ⟨ti, hti, rfl⟩ := hc
    cases lo <;> simp at h1
    cases hi <;> simp at h2
    exact .of_runs (ZIs (lo := (some l)) (hi := none) g hr hop hy (by simp [h1]) (by simp) (by simp) (by simp) ht hti he)
   ·rename_i e y l ht hy h1 h2
    simp only [Option.map_eq_some_iff] at hc
    obtain ⟨ti, hti, rfl⟩ := hc
    cases lo <;> simp at h1
    cases hi <;> simp at h2
    exact .of_runs (ZIs (lo := none) (hi := (some l)) g hr hop hy (by simp) (by simp) (by simp [h2]) (by simp) ht hti he)
   ·rename_i e y l u ht hy h1 h2
    simp only [Option.map_eq_some_iff] at hc
    obtain ⟨ti, hti, rfl⟩ := hc
    cases lo <;> simp at h1
    cases hi <;> simp at h2
    exact .of_runs (ZIs (lo := (some l)) (hi := (some u)) g hr hop hy (by simp [h1]) (by simp) (by simp [h2]) (by simp) ht hti he)
   ·rename_i y ht hy h1 h2
    simp only [Option.some.injEq] at hc; subst hc
    cases lo <;> simp at h1
    cases hi <;> simp at h2
    exact .of_runs (ZIt (lo := none) (hi := none) g hr hop hy (by simp) (by simp) (by simp) (by simp) ht he)
   ·rename_i y l ht hy h1 h2
    simp only [Option.some.injEq] at hc; subst hc
    cases lo <;> simp at h1
    cases hi <;> simp at h2
    exact .of_runs (ZIt (lo := (some l)) (hi := none) g hr hop hy (by simp [h1]) (by simp) (by simp) (by simp) ht he)
   ·rename_i y l ht hy h1 h2
    simp only [Option.some.injEq] at hc; subst hc
    cases lo <;> simp at h1
    cases hi <;> simp at h2
    exact .of_runs (ZIt (lo := none) (hi := (some l)) g hr hop hy (by simp) (by simp) (by simp [h2]) (by simp) ht he)
   ·rename_i y l u ht hy h1 h2
    simp only [Option.some.injEq] at hc; subst hc
    cases lo <;> simp at h1
    cases hi <;> simp at h2
    exact .of_runs (ZIt (lo := (some l)) (hi := (some u)) g hr hop hy (by simp [h1]) (by simp) (by simp [h2]) (by simp) ht he)
   ·simp only [Option.some.injEq] at hc; exact esc (by rw [<- hc, hop])
 | fieldAddr s x j =>
  simp only [cI, hop] at hc
  split at hc
  ·rename_i fs y hs hy
   split at hc
   ·rename_i f hf
    split at hc
    ·rename_i ti hti
     split at hc
     ·simp only [Option.some.injEq] at hc; exact esc (by rw [<- hc, hop])
     ·rename_i hsz
      simp only [Option.some.injEq] at hc; subst hc
      exact .of_runs (ZSL g hr hop hy hs hf hti hsz he)
    ·cases hc
   ·cases hc
  ·cases hc
 | field s x j =>
  simp only [cI, hop] at hc
  split at hc
  ·rename_i fs y hs hy
   split at hc
   ·rename_i f hf
    split at hc
    ·rename_i d ti hd hti
     split at hc
     ·rename_i hag
      simp only [Option.some.injEq] at hc; subst hc
      exact .of_runs (ZP7 g hr hop hy hs hf hd hag hti he)
     ·rename_i hag
      simp only [Option.some.injEq] at hc; subst hc
      exact .of_runs (ZRT g hr hop hy hs hf hd (by simpa using hag) he)
    ·cases hc
   ·cases hc
  ·cases hc
 | indexAddr t x j =>
  simp only [cI, hop] at hc
  split at hc
  ·rename_i e y k ht hy hk
   simp only [Option.map_eq_some_iff] at hc
   obtain ⟨ti, hti, rfl⟩ := hc
   exact .of_runs (ZRQ g hr hop hy hk ht hti he)
  ·rename_i m e y k ht hy hk
   simp only [Option.map_eq_some_iff] at hc
   obtain ⟨ti, hti, rfl⟩ := hc
   exact .of_runs (ZRR g hr hop hy hk ht hti he)
  ·cases hc
 | index t x j =>
  simp only [cI, hop] at hc
  split at hc
  ·rename_i y k ht hy hk
   simp only [Option.some.injEq] at hc; subst hc
   exact .of_runs (ZRS g hr hop hy hk ht he)
  ·simp only [Option.some.injEq] at hc; exact esc (by rw [<- hc, hop])
 | extract x j =>
  simp only [cI, hop, Option.map_eq_some_iff] at hc
  obtain ⟨y, hy, rfl⟩ := hc
  exact .of_runs (ZRU g hr hop hy he)
 | call c =>
  obtain ⟨callee, args, ats⟩ := c
  cases callee with
  | builtin b =>
   simp only [cI, hop] at hc
   split at hc
   ·rename_i x t h1 h2
    split at hc
    ·rename_i y e hy ht
     simp only [Option.some.injEq] at hc; subst hc
     exact .of_runs (ZRV g hr hop h1 h2 hy ht he)
    ·rename_i y hy ht
     simp only [Option.some.injEq] at hc; subst hc
     exact .of_runs (ZP8 g hr hop h1 h2 hy ht he)
    ·rename_i y kt et hy ht
     split at hc
     ·rename_i q qe hm
      simp only [Option.some.injEq] at hc; subst hc
      exact .of_runs (ZRd (q := q) (qe := qe) g hr hop h1 h2 hy ht he)
     ·simp only [Option.some.injEq] at hc; exact esc (by rw [<- hc, hop])
    ·simp only [Option.some.injEq] at hc; exact esc (by rw [<- hc, hop])
   ·rename_i x y t t2 h1 h2
    split at hc
    ·rename_i x' y' k hx hy ht
     simp only [Option.some.injEq] at hc; subst hc
     exact .of_runs (ZSN g hr hop h1 hx hy he)
    ·simp only [Option.some.injEq] at hc; exact esc (by rw [<- hc, hop])
   ·rename_i x y t t2 h1 h2
    split at hc
    ·rename_i x' y' k hx hy ht
     simp only [Option.some.injEq] at hc; subst hc
     exact .of_runs (ZSO g hr hop h1 hx hy he)
    ·simp only [Option.some.injEq] at hc; exact esc (by rw [<- hc, hop])
   ·rename_i x y t t2 h1 h2
    split at hc
    ·rename_i x' y' e hx hy ht
     split at hc
     ·rename_i ti z hti hz
      split at hc
      ·simp only [Option.some.injEq] at hc; exact esc (by rw [<- hc, hop])
      ·rename_i hcond
       simp only [Option.some.injEq] at hc; subst hc
       have hne : t = t2 := by
        apply Classical.byContradiction
        intro hne
        exact hcond (.inr (.inr hne))
       subst hne
       exact .of_runs (ZRZ g hr hn hop h1 h2 hx hy ht hti hz (fun hh => hcond (.inl hh)) (fun hh => hcond (.inr (.inl hh))) he)
     ·cases hc
    ·simp only [Option.some.injEq] at hc; exact esc (by rw [<- hc, hop])
   ·rename_i x y t t2 h1 h2
    split at hc
    ·rename_i q qe x' y' hm hx hy
     simp only [Option.some.injEq] at hc; subst hc
     exact .of_runs (ZRg g hr hop h1 h2 hx hy hm he)
    ·simp only [Option.some.injEq] at hc; exact esc (by rw [<- hc, hop])
   ·simp only [Option.some.injEq] at hc; exact esc (by rw [<- hc, hop])
  | value fv =>
   have dyn : ∀ v xs, cO fv = some v -> cOs args.toList = some xs -> i = .callv v xs -> OpWp G o a h n ρ w K := fun v xs h1 h2 hi => by
    subst hi
    exact ZOy g hr hop h1 h2 he
   cases fv with
   | func f =>
    simp only [cI, hop] at hc
    split at hc
    ·rename_i xs hx
     split at hc
     ·rename_i hb
      simp only [Option.some.injEq] at hc; subst hc
      exact ZP9 g hr hop hx hb he
     ·simp only [Option.some.injEq] at hc; exact esc (by rw [<- hc, hop])
    ·cases hc
   | tmp t =>
    simp only [cI, hop] at hc
    split at hc
    ·rename_i v xs h1 h2
     simp only [Option.some.injEq] at hc
     exact dyn v xs h1 h2 hc.symm
    ·cases hc
   | const v0 =>
    simp only [cI, hop] at hc
    split at hc
    ·rename_i v xs h1 h2
     simp only [Option.some.injEq] at hc
     exact dyn v xs h1 h2 hc.symm
    ·cases hc
   | global g0 =>
    simp only [cI, hop] at hc
    split at hc
    ·rename_i v xs h1 h2
     simp only [Option.some.injEq] at hc
     exact dyn v xs h1 h2 hc.symm
    ·cases hc
  | invoke rc name =>
   simp only [cI, hop] at hc
   split at hc
   ·rename_i v xs h1 h2
    simp only [Option.some.injEq] at hc; subst hc
    exact ZRk g hr hop h1 h2 he
   ·cases hc
 | makeMap t rr =>
  cases rr with
  | some m => simp only [cI, hop, Option.some.injEq] at hc; exact esc (by rw [<- hc, hop])
  | none =>
   simp only [cI, hop] at hc
   split at hc
   ·rename_i q qe hm
    simp only [Option.some.injEq] at hc; subst hc
    exact .of_runs (ZRc (q := q) (qe := qe) g hr hn hop he)
   ·simp only [Option.some.injEq] at hc; exact esc (by rw [<- hc, hop])
 | lookup t x j ok =>
  cases ok with
  | true => simp only [cI, hop, Option.some.injEq] at hc; exact esc (by rw [<- hc, hop])
  | false =>
   simp only [cI, hop] at hc
   split at hc
   ·rename_i q qe y z hm hy hz
    simp only [Option.some.injEq] at hc; subst hc
    exact .of_runs (ZRe g hr hop hy hz hm he)
   ·simp only [Option.some.injEq] at hc; exact esc (by rw [<- hc, hop])
 | mapUpdate t m k v =>
  simp only [cI, hop] at hc
  split at hc
  ·rename_i q qe y z u hm hy hz hu
   simp only [Option.some.injEq] at hc; subst hc
   exact .of_runs (ZRf g hr hop hy hz hu hm he)
  ·simp only [Option.some.injEq] at hc; exact esc (by rw [<- hc, hop])
 | mapEntry t m k =>
  simp only [cI, hop] at hc
  split at hc
  ·rename_i q qe y z hm hy hz
   simp only [Option.some.injEq] at hc; subst hc
   exact .of_runs (ZRh g hr hn hop hy hz hm he)
  ·simp only [Option.some.injEq] at hc; exact esc (by rw [<- hc, hop])
 | entryStore t m k v =>
  simp only [cI, hop] at hc
  split at hc
  ·rename_i q qe y z u hm hy hz hu
   simp only [Option.some.injEq] at hc; subst hc
   exact .of_runs (ZRi g hr hop hy hz hu he)
  ·simp only [Option.some.injEq] at hc; exact esc (by rw [<- hc, hop])
 | _ => simp only [cI, hop, Option.some.injEq] at hc; exact esc (by rw [<- hc, hop])
end
end Go.Sx
