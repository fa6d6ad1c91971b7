/- part -/
import Derived.Test.YtlkfolopbehikaaGreatSxU
import Derived.ProofKit
import Derived.ShutString
import Derived.Below
import Derived.Carry
import Derived.SizedLaws
import Derived.Handed
import Derived.WalkKit
set_option linter.unusedSimpArgs false
set_option linter.unusedVariables false
namespace Go.Sx
open Go
open Go.ChangeShapes Go.WideShapes Go.ChangeAt Go.RowKit
section
variable {H : Type} {enc : TypeId × Value -> H} {P : Program} {W : World}
theorem ZMO {base : Nat} : ∀ {ts : List TypeId} {vs : List Value} {ds : List (DataW H)} {pl : List MemPlace}, DataW.TrodAll enc P W 0 (fun _ => true) true ts vs ds pl ->
  (∀ (j : Nat) t v, ts[j]? = some t -> vs[j]? = some v -> Value.okWide P W .any base t v) -> (∀ t ∈ ts, ZHy P t = true) -> (∀ b ∈ DataW.weightsEach P ts ds, b <= reachBytes) -> (∀ p ∈ pl, p.block < W.heap.size) ->
  ∃ ps : List OP, ZEz P ts ps /\ (∀ c ∈ ZG8 ps, ZRx W c) /\ ∀ (ρ : Env) (D : Nat -> Prop) (k : Nat), (∀ j c, (ZG8 ps)[j]? = some c -> ρ (k + j) = c.l /\ D (k + j)) ->
   (avsP k ps).map (AV.at ρ) = vs /\ ∀ x ∈ avsP k ps, x.ok ρ D
 | [], vs, ds, pl, h, _, _, _, _ => by
  obtain ⟨rfl, rfl, rfl⟩ := trodAll_nil h
  exact ⟨[], trivial, fun c hc => by (cases hc), fun ρ D k _ => ⟨rfl, fun x hx => by (cases hx)⟩⟩
 | t :: ts, vs, ds, pl, h, hv, ht, hwt, hb => by
  obtain ⟨v, vs', d, ds', p, q, rfl, rfl, rfl, h1, h2⟩ := trodAll_cons h
  obtain ⟨xs, cols, hc, ho, ha1, ha2⟩ := ZNX (ht t (by simp)) (hv 0 t v rfl rfl) h1 (fun b hb => hwt b (by simp only [DataW.weightsEach, List.mem_append]; exact .inl hb))
  obtain ⟨ps, k1, k2, k3⟩ := ZMO h2 (fun j t v hj hj' => hv (j + 1) t v (by simpa using hj) (by simpa using hj')) (fun t h => ht t (by simp [h])) (fun b hb => hwt b (by simp only [DataW.weightsEach, List.mem_append]; exact .inr hb)) (fun p hp => hb p (by simp [hp]))
  have hbl : ∀ b ∈ p.map MemPlace.block, b < W.heap.size := fun b hbb => by
   obtain ⟨y, hy, rfl⟩ := List.mem_map.1 hbb
   exact hb y (by simp [hy])
  refine ⟨(ZCW P t, xs) :: ps, ⟨⟨rfl, cols, hc, ZPK ho⟩, k1⟩, fun c hcc => ?_, fun ρ D k hρ => ?_⟩
  ·simp only [ZG8, List.mem_append] at hcc
   rcases hcc with hcc | hcc
   ·exact ZPL hbl ho c hcc
   ·exact k2 c hcc
  ·simp only [ZG8] at hρ
   obtain ⟨a1, a2⟩ := ZSU (ρ := ρ) (D := D) k ho (fun j c hj => hρ j c (by
    have := (List.getElem?_eq_some_iff.1 hj).1
    rw [List.getElem?_append_left this]; exact hj))
   obtain ⟨b1, b2⟩ := k3 ρ D (k + cntO xs) (fun j c hj => by
    have := hρ ((ZGB xs).length + j) c (by rw [List.getElem?_append_right (by omega)]; simpa using hj)
    rw [ZLf, show k + (ZGB xs).length + j = k + ((ZGB xs).length + j) by omega]
    exact this)
   simp only [avsP, List.map_cons, b1]
   have one : (avP (ZCW P t) (lvsO k xs)).at ρ = v /\ (avP (ZCW P t) (lvsO k xs)).ok ρ D := by
    cases hag : ZCW P t with
    | true =>
     obtain ⟨c, rfl⟩ := ha1 hag
     refine ⟨?_, a2⟩
     simp only [avP, AV.at, a1]
     simp [Value.cells]
    | false =>
     obtain ⟨e1, e2⟩ := ha2 hag
     have hlen : (lvsO k xs).length = 1 := by rw [ZE0, ho.len.2, e2]
     match hl : lvsO k xs, hlen with
     | [x], _ =>
      rw [hl] at a1 a2
      simp only [avP, AV.at]
      rw [e1] at a1
      simp at a1
      exact ⟨a1, a2 x (by simp)⟩
   refine ⟨by rw [one.1], fun x hx => ?_⟩
   rcases List.mem_cons.1 hx with rfl | hx
   ·exact one.2
   ·exact b2 x hx
end
theorem ZQK {H : Type} {enc : TypeId × Value -> H} {C : _root_.Go.Checked} {os : Os} (fid : FuncId) (tb : TypeId) {fn : Func} {s : ChangeSpec}
  (own : ownKnob C.prog.godebug = none) (started : os.Started) (laid : laidOutB C.prog = true) (noInit : C.prog.inits.idxOf? fid = none) (hfn : C.prog.funcs[fid]? = some fn)
  (wit : ∃ (w : World) (tape : Tape) (i : Input), w.os = os /\ (w.forCall tape i).Shaped C.prog /\ i.vars = [] /\ Input.okWide C.prog (w.forCall tape i) .any w.heap.size fid i /\
   s.pre6 enc C.prog fn [] false (w.forCall tape i).memory i.args /\ ({} : Assume).holds C.prog (lone (Frame.enter C.prog fid i.args .normal) [] (w.forCall tape i)))
  (hvars : s.vars = []) (hres : fn.resultTypes.toList = [tb]) (hbool : C.prog.underlying tb = some .bool)
  (hs : ∀ ds : List (DataW H), ds.length = fn.params.toList.length -> s.fn H ds = { results := [.lit (.bool true)], args := ds })
  (hts : fn.params.toList.all (ZHy C.prog) = true)
  (hspec : ∀ ps, ZEz C.prog fn.params.toList ps -> ZAE C.prog fid (ZLe 0 (ZG8 ps)) (ZG8 ps).length (avsP 0 ps) fun x _ _ => x = ZAR true) (hgl : ZNC = []) :
  ReturnsInHanded {} C os fid .any (s.pre6 enc C.prog fn [] false) (s.post enc C.prog fn false true false false) := by
 refine returnsInHanded_of_change_sized (C := C) own started noInit hfn wit ?_
 intro W base args ds gs before hval hW _ hsz _
 have hW' := hW
 obtain ⟨p, q, hA, hV, rfl, hfz, hnd⟩ := hW
 rw [hvars] at hV
 have hgs : gs = [] /\ q = [] := by
  cases gs with
  | nil => exact ⟨rfl, hV⟩
  | cons => exact hV.elim
 obtain ⟨rfl, rfl⟩ := hgs
 have hts := List.all_eq_true.1 hts
 have hsz' : ∀ b ∈ DataW.weightsEach C.prog fn.params.toList ds, b <= reachBytes := by
  have hvt : s.plain.varTypes C.prog = [] := by
   unfold DataSpec.varTypes
   have : s.plain.vars = s.vars := rfl
   rw [this, hvars]; rfl
  rw [hvt, List.append_nil, List.append_nil] at hsz
  rw [List.all_eq_true] at hsz
  exact fun b hb => by simpa using hsz b hb
 have hlt : ∀ y ∈ p, y.block < W.heap.size := by
  have go : ∀ {ts : List TypeId} {vs : List Value} {ds : List (DataW H)} {pl : List MemPlace}, DataW.TrodAll enc C.prog W 0 (fun _ => true) true ts vs ds pl -> ∀ y ∈ pl, y.block < W.heap.size := by
   intro ts
   induction ts with
   | nil => intro vs ds pl h y hy; obtain ⟨_, _, rfl⟩ := trodAll_nil h; cases hy
   | cons t ts ih =>
    intro vs ds pl h y hy
    obtain ⟨v, vs', d, ds', p1, q1, rfl, rfl, rfl, h1, h2⟩ := trodAll_cons h
    rcases List.mem_append.1 hy with hy | hy
    ·obtain ⟨m, hm⟩ := h1; exact DataW.trod_lt m _ _ _ hm y hy
    ·exact ih h2 y hy
  exact go hA
 obtain ⟨ps, h1, h2, h3⟩ := ZMO (base := base) hA (fun j t v hj hj' => hval j t v (by simpa using hj) (by simpa using hj')) hts hsz' hlt
 obtain ⟨a1, a2⟩ := h3 (locs (ZG8 ps)) (lt (ZG8 ps).length) 0 (fun j c hj => by
  refine ⟨by simp [locs, hj], ?_⟩
  have := (List.getElem?_eq_some_iff.1 hj).1
  show 0 + j < _
  omega)
 have hcall := (hspec ps h1).2 _ _ W (ZQJ h2) a2 (fun g vs hg => by rw [hgl] at hg; cases hg) (fun g vs hg => by rw [hgl] at hg; cases hg)
 rw [a1] at hcall
 rw [show args.toList.toArray = args from rfl] at hcall
 refine hcall.mono fun e w' ⟨x, h', n', ρ', φ', he, hx, hn, hρ, hm, hok, hf, _⟩ => ?_
 subst hx
 have bel : Below W.heap.size W w' := ⟨hf.os, hf.tape, hf.output, hf.size, fun k hk => hf.blk k hk fun ⟨j, e, hj, ho, hb⟩ => by
  obtain ⟨_, c, _, hc, rfl⟩ := ZCm _ _ _ _ hj
  rw [(h2 c (List.mem_of_getElem? hc)).2.2] at ho
  cases ho⟩
 have hlen : ds.length = fn.params.toList.length := by
  have go : ∀ {ts : List TypeId} {vs : List Value} {ds : List (DataW H)} {pl : List MemPlace}, DataW.TrodAll enc C.prog W 0 (fun _ => true) true ts vs ds pl -> ds.length = ts.length := by
   intro ts
   induction ts with
   | nil => intro vs ds pl h; obtain ⟨_, rfl, _⟩ := trodAll_nil h; rfl
   | cons t ts ih =>
    intro vs ds pl h
    obtain ⟨v, vs', d, ds', p1, q1, rfl, rfl, rfl, h1, h2⟩ := trodAll_cons h
    simp [ih h2]
  exact go hA
 have hkeep : ∀ {ts : List TypeId} {vs : List Value} {ds : List (DataW H)} {pl : List MemPlace}, (∀ t ∈ ts, ZHy C.prog t = true) -> (∀ y ∈ pl, y.block < W.heap.size) -> DataW.TrodAll enc C.prog W 0 (fun _ => true) true ts vs ds pl ->
   DataW.TrodAll enc C.prog w' 0 (fun b => decide (b < W.heap.size)) true ts vs ds pl := by
  intro ts
  induction ts with
  | nil => intro vs ds pl _ _ h; obtain ⟨rfl, rfl, rfl⟩ := trodAll_nil h; exact trodAll_mk0
  | cons t ts ih =>
   intro vs ds pl ht hb h
   obtain ⟨v, vs', d, ds', p1, q1, rfl, rfl, rfl, h1, h2⟩ := trodAll_cons h
   have htt := ht t (by simp)
   unfold ZHy at htt
   split at htt
   ·simp only [Bool.and_eq_true, decide_eq_true_eq] at htt
    exact trodAll_cons_mk (Below.trod laid htt.1.1.2 htt.1.2 h1 bel fun y hy => hb y (by simp [hy])) (ih (fun t h => ht t (by simp [h])) (fun y hy => hb y (by simp [hy])) h2)
   ·cases htt
 refine ⟨_, he, ds, [], p ++ [], [], p, [], hW', ?_, ?_, ?_, bel.frame _, fun h => by cases h⟩
 ·rw [hres, List.append_nil, hs ds hlen]
  have hsz : fn.resultTypes.size = 1 := by
   have := congrArg List.length hres
   simpa using this
  simp only [hsz]
  exact trodAll_mk1 (shut_bool hbool _)
 ·rw [List.append_nil, hs ds hlen]
  exact hkeep hts hlt hA
 ·rw [List.append_nil, hs ds hlen, hvars]
  exact rfl
theorem ZPM {P : Program} {ps : List OP} (h : ZEz P [] ps) : ps = [] := by cases ps with | nil => rfl | cons => exact h.elim
theorem ZHz {P : Program} {t : TypeId} {ts : List TypeId} {ps : List OP} (h : ZEz P (t :: ts) ps) : ∃ p ps', ps = p :: ps' /\ (p.1 = ZCW P t /\ ∃ cols, ZC1 P 6 t = some cols /\ OCTs P cols p.2) /\ ZEz P ts ps' := by
 cases ps with
 | nil => exact h.elim
 | cons p ps => exact ⟨p, ps, rfl, h.1, h.2⟩
theorem ZH0 {P : Program} {t : TypeId} {p : OP} {cols : List Col} {b : Bool} (h : p.1 = ZCW P t /\ ∃ cols, ZC1 P 6 t = some cols /\ OCTs P cols p.2) (hc : ZC1 P 6 t = some cols) (hb : ZCW P t = b) : ∃ xs, p = (b, xs) /\ OCTs P cols xs := by
 obtain ⟨h1, cols', h2, h3⟩ := h
 rw [hc] at h2; cases h2
 exact ⟨p.2, by rw [<- hb, <- h1], h3⟩
theorem ZMP {P : Program} {xs : List OC} (h : OCTs P [] xs) : xs = [] := by cases xs with | nil => rfl | cons => exact h.elim
theorem ZCD {P : Program} {c : Col} {cs : List Col} {xs : List OC} (h : OCTs P (c :: cs) xs) : ∃ x xs', xs = x :: xs' /\ OCT P c x /\ OCTs P cs xs' := by
 cases xs with
 | nil => exact h.elim
 | cons x xs => exact ⟨x, xs, rfl, h.1, h.2⟩
theorem ZKQ {P : Program} {e : TypeId} {x : OC} {cols : List Col} (h : OCT P (.sl e) x) (hf : ZNT P e = some cols) : ∃ n f l F, x = .c ⟨.ro cols.length n f, fun k => .s k cols.length 0 n 0, l, F⟩ /\ Lim P e n /\ ∀ i, i < n -> ZC2 cols (f i) := by
 rcases h with ⟨cols', n, f, l, F, rfl, h1, h2⟩ | ⟨h1, _⟩
 ·rw [hf] at h1; cases h1
  exact ⟨n, f, l, F, rfl, h2⟩
 ·rw [hf] at h1; cases h1
theorem ZLg {P : Program} {t e : TypeId} {p : OP} {cols : List Col} (h : p.1 = ZCW P t /\ ∃ cols, ZC1 P 6 t = some cols /\ OCTs P cols p.2) (hc : ZC1 P 6 t = some [.sl e]) (hb : ZCW P t = false) (hf : ZNT P e = some cols) :
  ∃ n f l F, p = (false, [.c ⟨.ro cols.length n f, fun k => .s k cols.length 0 n 0, l, F⟩]) /\ Lim P e n /\ ∀ i, i < n -> ZC2 cols (f i) := by
 obtain ⟨xs, rfl, hh⟩ := ZH0 h hc hb
 obtain ⟨x, xs', rfl, h1, h2⟩ := ZCD hh
 obtain rfl := ZMP h2
 obtain ⟨n, f, l, F, rfl, h3⟩ := ZKQ h1 hf
 exact ⟨n, f, l, F, rfl, h3⟩
end Go.Sx
