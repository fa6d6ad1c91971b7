/- SerialJoins: the contract of the law's function, over whatever is handed in. -/
import Derived.Test.YtfkhaicghoiijabSj
import Derived.Test.YtfkhaicghoiijabSwLaw
set_option linter.unusedVariables false
namespace Go.Proofs.Ytfkhaicghoiijab
open Go Go.Sx
theorem deeds_told {d : DV} {m : Nat} (h : DVT Try.prog (m + 1) (.sl 79) d) : ∃ (n : Nat) (D : Nat → Dd), DvEqB d (.sl 3 n fun l => ddC (D l)) ∧ n ≤ 5864062014634 := by
  simp only [DVT] at h
  obtain ⟨n, f', cols, hc, _, rfl, hm, hrow⟩ := h
  have hcols : cols = [.i .i64, .i .i64, .i .u32] := by
    have : colsT Try.prog 6 79 = some [.i .i64, .i .i64, .i .u32] := by kernel_rfl
    rw [this] at hc; exact (Option.some.inj hc).symm
  subst hcols
  have : Inhabited Dd := ⟨⟨0, 0, 0⟩⟩
  have h1 : ∀ j, j < n → ∃ x : Dd, f' j 0 = .v (.int .i64 x.k) ∧ f' j 1 = .v (.int .i64 x.c) ∧ f' j 2 = .v (.int .u32 x.n) := fun j hj => by
    have a := hrow j hj 0 _ rfl
    have b := hrow j hj 1 _ rfl
    have c := hrow j hj 2 _ rfl
    simp only [DVT] at a b c
    obtain ⟨p, hp, _⟩ := a
    obtain ⟨q, hq, _⟩ := b
    obtain ⟨r, hr, _⟩ := c
    exact ⟨⟨p, q, r⟩, hp, hq, hr⟩
  obtain ⟨g, hg⟩ := choose_lt h1
  refine ⟨n, g, ⟨rfl, rfl, fun j hj c hc => ?_⟩, ?_⟩
  · obtain ⟨k1, k2, k3⟩ := hg j hj
    have hc : c < 3 := hc
    match c, hc with
    | 0, _ => rw [k1]; exact rfl
    | 1, _ => rw [k2]; exact rfl
    | 2, _ => rw [k3]; exact rfl
  · have := hm.2
    rw [show Try.prog.bytesOf 79 = 24 by kernel_rfl] at this
    unfold reachBytes at this
    omega
theorem jobs_told {wd n : Nat} {f : Nat → Nat → DV} (h : DVT Try.prog 4 (.sl 37) (.sl wd n f)) : ∃ b : Jb, b.small ∧ DvEqB (.sl wd n f) (jobsD b) := by
  simp only [DVT] at h
  obtain ⟨n0, f', cols, hc, _, he, hm, hrow⟩ := h
  have hcols : cols = [.sl 40] := by
    have : colsT Try.prog 6 37 = some [.sl 40] := by kernel_rfl
    rw [this] at hc; exact (Option.some.inj hc).symm
  subst hcols
  cases he
  have h1 : ∀ t, t < n → ∃ x : Nat × (Nat → Int) × (Nat → Nat) × (Nat → Nat → Dd), (∀ j, j < x.1 → x.2.2.1 j ≤ 5864062014634) ∧ x.1 ≤ 5864062014634 ∧ DvEqB (f t 0) (.sl 2 x.1 fun j c => match c with | 0 => .v (.int .i64 (x.2.1 j)) | _ => .sl 3 (x.2.2.1 j) fun l => ddC (x.2.2.2 j l)) := fun t ht => by
    have a := hrow t ht 0 _ rfl
    simp only [DVT] at a
    obtain ⟨n2, f2, cols2, hc2, _, he2, hm2, hrow2⟩ := a
    have hcols2 : cols2 = [.i .i64, .sl 79] := by
      have : colsT Try.prog 6 40 = some [.i .i64, .sl 79] := by kernel_rfl
      rw [this] at hc2; exact (Option.some.inj hc2).symm
    subst hcols2
    have h2 : ∀ j, j < n2 → ∃ x : Int × Nat × (Nat → Dd), f2 j 0 = .v (.int .i64 x.1) ∧ DvEqB (f2 j 1) (.sl 3 x.2.1 fun l => ddC (x.2.2 l)) ∧ x.2.1 ≤ 5864062014634 := fun j hj => by
      have a := hrow2 j hj 0 _ rfl
      have b := hrow2 j hj 1 _ rfl
      simp only [DVT] at a
      obtain ⟨p, hp, _⟩ := a
      obtain ⟨nd, D, hD, hnd⟩ := deeds_told b
      exact ⟨(p, nd, D), hp, hD, hnd⟩
    have : Inhabited Dd := ⟨⟨0, 0, 0⟩⟩
    obtain ⟨g, hg⟩ := choose_lt h2
    refine ⟨(n2, fun j => (g j).1, fun j => (g j).2.1, fun j => (g j).2.2), fun j hj => (hg j hj).2.2, ?_, ?_⟩
    · have := hm2.2
      rw [show Try.prog.bytesOf 40 = 32 by kernel_rfl] at this
      unfold reachBytes at this
      simp only
      omega
    · rw [he2]
      refine ⟨rfl, rfl, fun j hj c hc => ?_⟩
      obtain ⟨k1, k2, _⟩ := hg j hj
      have hc : c < 2 := hc
      match c, hc with
      | 0, _ => rw [k1]; exact rfl
      | 1, _ => exact k2
  have : Inhabited Dd := ⟨⟨0, 0, 0⟩⟩
  obtain ⟨g, hg⟩ := choose_lt h1
  refine ⟨⟨n, fun t => (g t).1, fun t => (g t).2.1, fun t => (g t).2.2.1, fun t => (g t).2.2.2⟩, ⟨?_, fun t ht => (hg t ht).2.1, fun t ht j hj => (hg t ht).1 j hj⟩, ⟨rfl, rfl, fun t ht c hc => ?_⟩⟩
  · have := hm.2
    rw [show Try.prog.bytesOf 37 = 24 by kernel_rfl] at this
    unfold reachBytes at this
    simp only
    omega
  · have hc : c < 1 := hc
    match c, hc with
    | 0, _ =>
      obtain ⟨_, _, hd⟩ := hg t ht
      revert hd
      cases f t 0 with
      | v x => exact fun h => h
      | sl w2 n2 f2 =>
        rintro ⟨e1, e2, e3⟩
        refine ⟨e1, e2, fun j hj c hc => ?_⟩
        have := e3 j hj c hc
        have hc2 : c < 2 := by omega
        match c, hc2 with
        | 0, _ => exact this
        | 1, _ => exact this
theorem cells_told2 {P : Program} {cs : List Col} {xs : List OC} (hx : OCTs P (List.replicate 16 (.i .u32) ++ cs) xs) : ∃ (c : Nat → Int) (ys : List OC), xs = ((List.range 16).map fun i => .v (.int .u32 (c i))) ++ ys ∧ OCTs P cs ys := by
  obtain ⟨x0, xs0, rfl, ⟨_, rfl, n0, rfl, _⟩, hx0⟩ := octs_cons hx
  obtain ⟨x1, xs1, rfl, ⟨_, rfl, n1, rfl, _⟩, hx1⟩ := octs_cons hx0
  obtain ⟨x2, xs2, rfl, ⟨_, rfl, n2, rfl, _⟩, hx2⟩ := octs_cons hx1
  obtain ⟨x3, xs3, rfl, ⟨_, rfl, n3, rfl, _⟩, hx3⟩ := octs_cons hx2
  obtain ⟨x4, xs4, rfl, ⟨_, rfl, n4, rfl, _⟩, hx4⟩ := octs_cons hx3
  obtain ⟨x5, xs5, rfl, ⟨_, rfl, n5, rfl, _⟩, hx5⟩ := octs_cons hx4
  obtain ⟨x6, xs6, rfl, ⟨_, rfl, n6, rfl, _⟩, hx6⟩ := octs_cons hx5
  obtain ⟨x7, xs7, rfl, ⟨_, rfl, n7, rfl, _⟩, hx7⟩ := octs_cons hx6
  obtain ⟨x8, xs8, rfl, ⟨_, rfl, n8, rfl, _⟩, hx8⟩ := octs_cons hx7
  obtain ⟨x9, xs9, rfl, ⟨_, rfl, n9, rfl, _⟩, hx9⟩ := octs_cons hx8
  obtain ⟨x10, xs10, rfl, ⟨_, rfl, n10, rfl, _⟩, hx10⟩ := octs_cons hx9
  obtain ⟨x11, xs11, rfl, ⟨_, rfl, n11, rfl, _⟩, hx11⟩ := octs_cons hx10
  obtain ⟨x12, xs12, rfl, ⟨_, rfl, n12, rfl, _⟩, hx12⟩ := octs_cons hx11
  obtain ⟨x13, xs13, rfl, ⟨_, rfl, n13, rfl, _⟩, hx13⟩ := octs_cons hx12
  obtain ⟨x14, xs14, rfl, ⟨_, rfl, n14, rfl, _⟩, hx14⟩ := octs_cons hx13
  obtain ⟨x15, xs15, rfl, ⟨_, rfl, n15, rfl, _⟩, hx15⟩ := octs_cons hx14
  exact ⟨fun i => [n0, n1, n2, n3, n4, n5, n6, n7, n8, n9, n10, n11, n12, n13, n14, n15].getD i 0, xs15, rfl, hx15⟩
theorem ran_told {f : Nat → List Value} {m : Nat} (hf : ∀ i, i < m → PrimsV [.i .i64, .i .i64] (f i)) : ∃ T J : Nat → Int, ∀ i, i < m → f i = ranE T J i := by
  obtain ⟨g, hg⟩ := choose_lt (α := Int × Int) (p := fun i x => f i = [.int .i64 x.1, .int .i64 x.2]) fun i hi => by
    obtain ⟨v1, l1, e1, ⟨k, rfl, _⟩, h1⟩ := prims_cons (hf i hi)
    obtain ⟨v2, l2, rfl, ⟨t, rfl, _⟩, h2⟩ := prims_cons h1
    obtain rfl := prims_nil h2
    exact ⟨(k, t), e1⟩
  exact ⟨fun i => (g i).1, fun i => (g i).2, hg⟩
theorem serialJoins_law (ps : List OP) (h : typedPs Try.prog Try.f3.params.toList ps) : FSpec Try.prog 3 (heapC 0 (chksP ps)) (chksP ps).length (avsP 0 ps) fun x _ _ => x = sBool true := by
  rw [Try.params3] at h
  obtain ⟨p1, ps1, rfl, h1, h⟩ := typed_cons h
  obtain rfl := typed_nil h
  obtain ⟨xs, rfl, hx⟩ := typed_cols h1 (cols := List.replicate 16 (.i .u32) ++ [.sl 37, .sl 54, .i .u8]) (b := true) (by kernel_rfl) (by kernel_rfl)
  obtain ⟨c, ys, rfl, hy⟩ := cells_told2 hx
  obtain ⟨y1, ys1, rfl, o1, hy1⟩ := octs_cons hy
  obtain ⟨y2, ys2, rfl, o2, hy2⟩ := octs_cons hy1
  obtain ⟨y3, ys3, rfl, ⟨_, rfl, q, rfl, hq0, hq1⟩, hy3⟩ := octs_cons hy2
  obtain rfl := octs_nil hy3
  obtain ⟨wd, n, f, l, F, rfl, hD⟩ := oct_deep o1 (by kernel_rfl)
  obtain ⟨m, g, l2, F2, rfl, hm, hg⟩ := oct_slice (cols := [.i .i64, .i .i64]) o2 (by kernel_rfl)
  obtain ⟨b, hb, he⟩ := jobs_told hD
  obtain ⟨T, J, hT⟩ := ran_told hg
  obtain rfl : wd = 1 := he.1
  obtain rfl : n = b.n := he.2.1
  exact (sjoins_spec b hb T J m c q hq0 hq1 hm.1).pre (And.intro (.inr ⟨rfl, he⟩) (And.intro (And.intro rfl (And.intro (Nat.le_refl _) fun i hi => hT i hi)) trivial))
end Go.Proofs.Ytfkhaicghoiijab
