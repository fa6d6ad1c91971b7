/- part -/
import Derived.Test.YtlkfolopbehikaaGreatSxPN
import Derived.Test.YtlkfolopbehikaaGreatSxPK
set_option linter.unusedSimpArgs false
set_option linter.unusedVariables false
set_option linter.unusedSectionVars false
namespace Go.Sx
open Go
def ZDN (P : Program) (rc : AV) (name : String) (pre : Heap) (np : Nat) (args : List AV) (Q : SV -> Heap -> Nat -> Prop) : Prop :=
 ∀ ρ φ w, HM pre (lt np) ρ φ w -> rc.ok ρ (lt np) -> (∀ x ∈ args, x.ok ρ (lt np)) -> ZP3 w -> ZP4 (Own pre φ) -> ∃ f vargs, (callMethod (rc.at ρ) name (args.map (AV.at ρ)).toArray).run P w = .ok (.enter f vargs) w /\ Calls P f vargs w fun e w' =>
  ∃ x h' n' ρ' φ', e = .returned (x.at ρ') /\ Q x h' n' /\ np <= n' /\ (∀ k, k < np -> ρ' k = ρ k) /\ HM h' (lt n') ρ' φ' w' /\ x.ok ρ' (lt n') /\ Frm w (Own pre φ) w' /\
   ∀ k e, hget h' k = some e -> e.own = true -> ∀ b ∈ φ' k, Own pre φ b \/ w.heap.size <= b
theorem ZA5 {P : Program} {rc : AV} {name : String} {pre : Heap} {np : Nat} {args : List AV} {Q : SV -> Heap -> Nat -> Prop}
  (hev : ∀ G : Ctx, G.P = P -> G.A = np -> InvP G rc name args pre np fun x u n' => FinP np x (u ++ pre) n' Q) : ZDN P rc name pre np args Q := by
 intro ρ φ w hm hrc hok hgw hgf
 let G : Ctx := { P := P, w0 := w, F0 := Own pre φ, R0 := fun b => ∃ k e, hget pre k = some e /\ b ∈ φ k, ρ0 := ρ, A := np, N := 0 }
 have hg : GM G pre (lt np) ρ φ w := ⟨hm, fun k hk => ⟨hk, rfl⟩, fun k e hk ho b hb => .inl ⟨k, e, hk, ho, hb⟩, ⟨Nat.le_refl _, fun _ _ _ => rfl, rfl, rfl, rfl⟩, fun k e hk b hb => .inl ⟨k, e, hk, hb⟩, hgw, hgf⟩
 have h1 := hev G rfl rfl
 rw [ZD9] at h1
 obtain ⟨f, vargs, h2, h3⟩ := h1 G rfl ρ φ w hg hrc hok
 refine ⟨f, vargs, h2, h3.mono fun e w' ⟨x, u, n', ρ', φ', q1, q2, q3, q4, q5, q6⟩ => ?_⟩
 obtain ⟨x', h', n2, ρ2, φ2, k1, hQ, k2, k3, k4, k5, k6⟩ := q2.out ρ' φ' w' q5.hm q6
 refine ⟨x', h', n2, ρ2, φ2, by rw [q1, k1], hQ, k2, fun k hk => ?_, k4, k5, q5.frm, fun k e hk ho b hb => ?_⟩
 ·rw [(k3 k hk).2]; exact q4 k hk
 ·obtain ⟨k0, e0, r1, r2, r3⟩ := k6 k e hk ho b hb
  exact q5.ow _ e0 r1 r2 b r3
theorem ZKH {G : Ctx} {rc : AV} {name : String} {pre : Heap} {np : Nat} {args : List AV} {Q : SV -> Heap -> Nat -> Prop} (hsp : ZDN G.P rc name pre np args Q) (l : List Nat) {rc' : AV} {xs : List AV} {h : Heap} {n : Nat} {K : SV -> Heap -> Nat -> Prop}
  (hnp : l.length = np) (hl : l.all (fun j => decide (j < n)) = true) (hrc : rc' = rc.ren (ren1 l n)) (hxs : xs = args.map (AV.ren (ren1 l n))) (hpre : ZBB (ren1 l n) h pre) (hap : ZBv (ren1 l n) pre = true)
  (hK : ∀ x h' n', Q x h' n' -> ZEv (ren2 l n) n' h' = true /\ K (x.ren (ren2 l n)) (renH (ren2 l n) h' ++ tomb (ren1 l n) pre) (n + (n' - np))) : InvP G rc' name xs h n K := by
 subst hnp
 rw [ZD9]
 intro G' hG' ρ φ w g hokr hok
 subst hxs hrc
 have hok' : ∀ x ∈ args, x.ok (fun k => ρ (ren1 l n k)) (lt l.length) := fun x hx => by
  have := (AV.ok_ren ρ (lt n) (ren1 l n) x).1 (hok _ (List.mem_map.2 ⟨x, hx, rfl⟩))
  exact AV.ok_mono (fun _ _ => rfl) (fun k hk => ZCf hk) this
 have hokr' : rc.ok (fun k => ρ (ren1 l n k)) (lt l.length) := AV.ok_mono (fun _ _ => rfl) (fun k hk => ZCf hk) ((AV.ok_ren ρ (lt n) (ren1 l n) rc).1 hokr)
 obtain ⟨f, vargs, h1, h2⟩ := hsp _ _ w (ZLT g.hm l hpre hap) hokr' hok' g.glob (fun b vs hb ⟨k, e, hk, ho, hbk⟩ => by
  obtain ⟨e', h1, h2⟩ := hpre.get (ZAa hk)
  rcases g.ow _ e' h1 (h2.own ho) b hbk with h3 | h3
  ·exact g.gb.2 b vs hb h3
  ·obtain ⟨t, h4⟩ := g.gb.1 b vs hb
   have := (Array.getElem?_eq_some_iff.1 h4).1
   omega)
 have hargs : (args.map (AV.ren (ren1 l n))).map (AV.at ρ) = args.map (AV.at fun k => ρ (ren1 l n k)) := by simp [Function.comp_def, AV.at_ren]
 refine ⟨f, vargs, by rw [hargs, AV.at_ren]; exact h1, h2.mono fun e w' ⟨x, h', n', ρ', φ', he, hQ, hnp, hρ, hm, hxok, hfrm, how⟩ => ?_⟩
 obtain ⟨hpost, hKK⟩ := hK x h' n' hQ
 obtain ⟨ρ2, φ2, a1, a2, a3, a4, a5, a6, a7⟩ := ZIv g.hm l hl hpre hnp hρ hm hfrm how hpost
 refine ⟨x.ren (ren2 l n), _, n + (n' - l.length), ρ2, φ2, ?_, hKK, Nat.le_add_right _ _, a1, ZGL g (Nat.le_add_right _ _) a1 a4 ⟨hfrm.size, fun b hb hn => hfrm.blk b hb fun ho => hn (a7 b ho), hfrm.os, hfrm.tape, hfrm.output⟩ a5 a6, ?_⟩
 ·rw [he, SV.at_ren]
  congr 1
  exact (SV.at_mono (D := lt n') (fun k hk => a2 k hk) hxok).symm
 ·refine (SV.ok_ren ρ2 _ (ren2 l n) x).2 ?_
  exact SV.ok_mono (fun k hk => a2 k hk) (fun k hk => a3 k hk) hxok
theorem ZKI {P : Program} {t : TypeId} {name : String} {fid : FuncId} {pre : Heap} {np : Nat} {args : List AV} {Q : SV -> Heap -> Nat -> Prop}
  (hm : ∀ (v : Value) (args : Array Value) (w : World), (callMethod (.iface t v) name args).run P w = .ok (.enter fid (#[v] ++ args)) w) (h : ZAE P fid pre np (.l (.p 0 0 0 0) :: args) Q) : ZDN P (.l (.i t 0)) name pre np args Q := by
 intro ρ φ w hmm hrc hok hgw hgf
 refine ⟨fid, _, hm _ _ w, ?_⟩
 have := h.2 ρ φ w hmm (fun x hx => by
  rcases List.mem_cons.1 hx with rfl | hx
  ·exact hrc
  ·exact hok x hx) hgw hgf
 simpa [AV.at, LV.at] using this
section
variable {P : Program} {G : Ctx} {name : String} {pre : Heap} {np : Nat} {rc rc' : AV} {args : List AV} {X : SV} {M : Nat} {H : Heap} {xs : List AV} {h : Heap} {n : Nat} {K : SV -> Heap -> Nat -> Prop}
theorem ZMG (hP : G.P = P) (hsp : ZDN P rc name pre np args fun x h m => x = X /\ m = M /\ h = H)
  (hk : ZG9 np (rc :: args) (rc' :: xs) pre h fun l => (l.length = np /\ l.all (fun j => decide (j < n)) = true /\ rc' :: xs = (rc :: args).map (AV.ren (ren1 l n)) /\ ZBB (ren1 l n) h pre /\ ZBv (ren1 l n) pre = true /\ ZEv (ren2 l n) M H = true) /\
   K (X.ren (ren2 l n)) (renH (ren2 l n) H ++ tomb (ren1 l n) pre) (n + (M - np))) : InvP G rc' name xs h n K := by
 subst hP
 obtain ⟨l, ⟨h1, h2, h3, h4, h5, h6⟩, h7⟩ := ZEH hk
 simp only [List.map_cons, List.cons.injEq] at h3
 exact ZKH hsp l h1 h2 h3.1 h3.2 h4 h5 fun x h' n' ⟨e1, e2, e3⟩ => by subst e1 e2 e3; exact ⟨h6, h7⟩
theorem ZKJ (hP : G.P = P) (hsp : ZDN P rc name pre np args fun x h m => x = X /\ m = M /\ h = H)
  (hk : ZG9 np (rc :: args) (rc' :: xs) pre h fun l => (l.length = np /\ l.all (fun j => decide (j < n)) = true /\ rc' :: xs = (rc :: args).map (AV.ren (ren1 l n)) /\ ZBB (ren1 l n) h pre /\ ZBv (ren1 l n) pre = true /\ ZEv (ren2 l n) M H = true) /\
   K (X.ren (ren2 l n)) (renH (ren2 l n) H ++ tomb (ren1 l n) pre) (n + (M - np))) : InvD G rc' name xs h n K := by
 subst hP
 obtain ⟨l, ⟨h1, h2, h3, h4, h5, h6⟩, h7⟩ := ZEH hk
 simp only [List.map_cons, List.cons.injEq] at h3
 exact ⟨_, _, _, ZKH hsp l h1 h2 h3.1 h3.2 h4 h5 fun x h' n' ⟨e1, e2, e3⟩ => by subst e1 e2 e3; exact ⟨h6, ⟨rfl, rfl, rfl⟩⟩, h7⟩
end
end Go.Sx
