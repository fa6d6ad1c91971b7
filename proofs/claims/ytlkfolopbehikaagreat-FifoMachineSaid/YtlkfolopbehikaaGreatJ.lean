/- part -/
import Derived.Test.YtlkfolopbehikaaGreatSxPA
import Derived.Test.YtlkfolopbehikaaGreatSxPU
import Derived.Test.YtlkfolopbehikaaGreatSxPQ
import Derived.Test.YtlkfolopbehikaaGreatSxC
import Derived.Test.YtlkfolopbehikaaGreatSxV
set_option linter.unusedSimpArgs false
set_option linter.unusedVariables false
set_option maxHeartbeats 8000000
set_option maxRecDepth 8000
set_option maxHeartbeats 8000000
namespace Go.Proofs.YtlkfolopbehikaaGreat
open Go Go.Sx
theorem follows : Tryz.prog.follows .mixedOrders = true := by kernel_rfl
theorem dI {G : Ctx} {is : List IOp} {after : List (List Nat)} {r : Regs} {h : Heap} {n : Nat} {K : X -> Regs -> Heap -> Nat -> Prop} (hP : G.P = Tryz.prog)
  (he : evD (CallD G) (InvD G) (EscD G) is r h n [] fun T r h n => obl (CallD G) (InvD G) (EscD G) (ZKP is (masks after)) T.reverse h n (K .nrm r h n)) (hok : ZML is after = true := by kernel_rfl) : DrawP G is after r h n K := ZLc (by rw [hP]; exact follows) hok he
theorem mS {p q : Prop} (h : q) (t : q -> p := by
 first
  | exact fun h => aI h
  | exact fun h => a64 h
  | exact fun h => a32 h
  | exact fun h => dY h
  | exact fun h => dN h
  | exact fun h => ZAH h
  | exact fun h => dI (by assumption) h
  | exact fun h => oI h
  | exact fun h => qI h) : p := t h
structure Hd (q : Prop) : Prop where
 k : q
theorem cU {p q a : Prop} (h : a) (k : q) (t : a -> q -> p := by
 first
  | exact fun h k => ZBx (by assumption) h k
  | exact fun h k => ZBO (by assumption) h k
  | exact fun h k => ZMG (by assumption) h k
  | exact fun h k => ZKJ (by assumption) h k
  | fail) : p := t h k
theorem cA {a p q : Prop} (h : a) (k : q) (t : a -> Hd q -> p := by
 intro h k
 first | (refine cU h ?_; (conv => whnf); refine zA ?_; (conv => whnf); exact k.k) | fail) : p := t h ⟨k⟩
theorem cQ {a p q r : Prop} (h : a) (x : q) (k : r) (t : a -> Hd q -> Hd r -> p := by
 intro h x k
 first | (refine cU h ?_; (conv => whnf); exact ⟨⟨rfl, rfl, rfl, x.k, rfl, rfl⟩, k.k⟩) | fail) : p := t h ⟨x⟩ ⟨k⟩
theorem fA {p : Prop} (t : p := by
 first | (refine ZGQ ?_; (conv => whnf); exact zF) | fail) : p := t
theorem fQ {p a b : Prop} (x : a) (y : b) (t : Hd a -> Hd b -> p := by
 intro x y
 first | (refine ZGQ ?_; (conv => whnf); exact ⟨rfl, rfl, rfl, x.k, y.k, rfl⟩) | fail) : p := t ⟨x⟩ ⟨y⟩
theorem fB {p a : Prop} (x : a) (t : Hd a -> p := by
 intro x
 first | (refine ZGQ ?_; (conv => whnf); exact ⟨rfl, rfl, rfl, ZQL x.k, ZAB, rfl⟩) | fail) : p := t ⟨x⟩
theorem fI {p a : Prop} (x : a) (t : Hd a -> p := by
 intro x
 first | (refine ZGQ ?_; (conv => whnf); exact ⟨rfl, rfl, rfl, ZRy x.k, ZAB, rfl⟩) | fail) : p := t ⟨x⟩
theorem iA {p : Prop} (t : p := by
 first | ((conv => whnf); refine ZMQ (by assumption) ?_; (conv => whnf); exact zI) | fail) : p := t
theorem iQ {p a : Prop} (x : a) (t : Hd a -> p := by
 intro x
 first | ((conv => whnf); refine ZMQ (by assumption) ?_; (conv => whnf); exact ⟨rfl, rfl, rfl, ZJ2, x.k, rfl⟩) | fail) : p := t ⟨x⟩
theorem zP {p q : Prop} (k : q) (t : Hd q -> p := by
 intro k
 repeat ((first | refine aI ?_ | refine a64 ?_ | refine a32 ?_ | refine a8 ?_ | fail); conv => whnf)
 exact k.k) : p := t ⟨k⟩
theorem zW {p q : Prop} (k : q) (t : Hd q -> p := by
 intro k
 repeat (first | ((first | refine aI ?_ | refine a64 ?_ | refine a32 ?_ | refine a8 ?_); conv => whnf) | (refine arW ?_; conv => whnf) | fail)
 exact k.k) : p := t ⟨k⟩
theorem zO {p q : Prop} (k : q) (t : Hd q -> p := by
 intro k
 repeat (first | (refine oI ?_; conv => whnf) | fail)
 exact k.k) : p := t ⟨k⟩
theorem zD {p q : Prop} (k : q) (t : Hd q -> p := by
 intro k
 first | (refine dI (by assumption) ?_; (conv => whnf); exact k.k) | fail) : p := t ⟨k⟩
theorem zJ {p q : Prop} (k : q) (t : Hd q -> p := by
 intro k
 first | (refine ZAH ?_; (conv => whnf); exact k.k) | fail) : p := t ⟨k⟩
theorem oR {e a b : Prop} (he : e) (h : b) (ha : e -> a := by
 intro he
 (conv => whnf)
 first
  | exact ⟨rfl, rfl, rfl⟩
  | (refine And.intro (by first | omega | assumption | (simp only [ZAO]; omega) | (simp [ZAO]; omega)) ?_; (conv => whnf); first | exact ⟨rfl, rfl, rfl⟩ | (refine ⟨?_, ?_, ?_⟩ <;> first | rfl | (rw [ZAb]; first | done | rfl) | (rw [he]; first | done | rfl) | (rw [he.1]; first | done | rfl) | (rw [he.2]; first | done | rfl) | (rw [he.2.1]; first | done | rfl) | (rw [he.2.2]; first | done | rfl) | (rw [he.2.2.1]; first | done | rfl) | (rw [he.2.2.2]; first | done | rfl)))
  | (refine ⟨?_, ?_, ?_⟩ <;> first | rfl | (rw [ZAb]; first | done | rfl) | (rw [he]; first | done | rfl) | (rw [he.1]; first | done | rfl) | (rw [he.2]; first | done | rfl) | (rw [he.2.1]; first | done | rfl) | (rw [he.2.2]; first | done | rfl) | (rw [he.2.2.1]; first | done | rfl) | (rw [he.2.2.2]; first | done | rfl))) : a /\ b := ⟨ha he, h⟩
theorem g0 {p q : Prop}(k : q) (t : Hd q -> p := by
 intro k
 repeat (first | (refine mS ?_; conv => whnf) | rw [natI] | rw [ZAb] | (refine arW ?_; conv => whnf) | fail)
 exact k.k) : p := t ⟨k⟩
theorem k0 {p q : Prop}(k : q) (t : Hd q -> p := by
 intro k
 repeat (first | (refine mS ?_; conv => whnf) | rw [natI] | rw [ZAb] | fail)
 exact k.k) : p := t ⟨k⟩
theorem g1 {a1 p q : Prop} (h1 : a1) (k : q) (t : a1 -> Hd q -> p := by
 intro h1 k
 repeat (first | (refine mS ?_; conv => whnf) | rw [natI] | rw [ZAb] | refine cA h1 ?_ | (refine arW ?_; conv => whnf) | fail)
 exact k.k) : p := t h1 ⟨k⟩
theorem k1 {a1 p q : Prop} (h1 : a1) (k : q) (t : a1 -> Hd q -> p := by
 intro h1 k
 repeat (first | (refine mS ?_; conv => whnf) | rw [natI] | rw [ZAb] | refine cA h1 ?_ | fail)
 exact k.k) : p := t h1 ⟨k⟩
theorem g2 {a1 a2 p q : Prop} (h1 : a1) (h2 : a2) (k : q) (t : a1 -> a2 -> Hd q -> p := by
 intro h1 h2 k
 repeat (first | (refine mS ?_; conv => whnf) | rw [natI] | rw [ZAb] | refine cA h1 ?_ | refine cA h2 ?_ | (refine arW ?_; conv => whnf) | fail)
 exact k.k) : p := t h1 h2 ⟨k⟩
theorem k2 {a1 a2 p q : Prop} (h1 : a1) (h2 : a2) (k : q) (t : a1 -> a2 -> Hd q -> p := by
 intro h1 h2 k
 repeat (first | (refine mS ?_; conv => whnf) | rw [natI] | rw [ZAb] | refine cA h1 ?_ | refine cA h2 ?_ | fail)
 exact k.k) : p := t h1 h2 ⟨k⟩
theorem g3 {a1 a2 a3 p q : Prop} (h1 : a1) (h2 : a2) (h3 : a3) (k : q) (t : a1 -> a2 -> a3 -> Hd q -> p := by
 intro h1 h2 h3 k
 repeat (first | (refine mS ?_; conv => whnf) | rw [natI] | rw [ZAb] | refine cA h1 ?_ | refine cA h2 ?_ | refine cA h3 ?_ | (refine arW ?_; conv => whnf) | fail)
 exact k.k) : p := t h1 h2 h3 ⟨k⟩
theorem k3 {a1 a2 a3 p q : Prop} (h1 : a1) (h2 : a2) (h3 : a3) (k : q) (t : a1 -> a2 -> a3 -> Hd q -> p := by
 intro h1 h2 h3 k
 repeat (first | (refine mS ?_; conv => whnf) | rw [natI] | rw [ZAb] | refine cA h1 ?_ | refine cA h2 ?_ | refine cA h3 ?_ | fail)
 exact k.k) : p := t h1 h2 h3 ⟨k⟩
theorem g4 {a1 a2 a3 a4 p q : Prop} (h1 : a1) (h2 : a2) (h3 : a3) (h4 : a4) (k : q) (t : a1 -> a2 -> a3 -> a4 -> Hd q -> p := by
 intro h1 h2 h3 h4 k
 repeat (first | (refine mS ?_; conv => whnf) | rw [natI] | rw [ZAb] | refine cA h1 ?_ | refine cA h2 ?_ | refine cA h3 ?_ | refine cA h4 ?_ | (refine arW ?_; conv => whnf) | fail)
 exact k.k) : p := t h1 h2 h3 h4 ⟨k⟩
theorem k4 {a1 a2 a3 a4 p q : Prop} (h1 : a1) (h2 : a2) (h3 : a3) (h4 : a4) (k : q) (t : a1 -> a2 -> a3 -> a4 -> Hd q -> p := by
 intro h1 h2 h3 h4 k
 repeat (first | (refine mS ?_; conv => whnf) | rw [natI] | rw [ZAb] | refine cA h1 ?_ | refine cA h2 ?_ | refine cA h3 ?_ | refine cA h4 ?_ | fail)
 exact k.k) : p := t h1 h2 h3 h4 ⟨k⟩
theorem g5 {a1 a2 a3 a4 a5 p q : Prop} (h1 : a1) (h2 : a2) (h3 : a3) (h4 : a4) (h5 : a5) (k : q) (t : a1 -> a2 -> a3 -> a4 -> a5 -> Hd q -> p := by
 intro h1 h2 h3 h4 h5 k
 repeat (first | (refine mS ?_; conv => whnf) | rw [natI] | rw [ZAb] | refine cA h1 ?_ | refine cA h2 ?_ | refine cA h3 ?_ | refine cA h4 ?_ | refine cA h5 ?_ | (refine arW ?_; conv => whnf) | fail)
 exact k.k) : p := t h1 h2 h3 h4 h5 ⟨k⟩
theorem k5 {a1 a2 a3 a4 a5 p q : Prop} (h1 : a1) (h2 : a2) (h3 : a3) (h4 : a4) (h5 : a5) (k : q) (t : a1 -> a2 -> a3 -> a4 -> a5 -> Hd q -> p := by
 intro h1 h2 h3 h4 h5 k
 repeat (first | (refine mS ?_; conv => whnf) | rw [natI] | rw [ZAb] | refine cA h1 ?_ | refine cA h2 ?_ | refine cA h3 ?_ | refine cA h4 ?_ | refine cA h5 ?_ | fail)
 exact k.k) : p := t h1 h2 h3 h4 h5 ⟨k⟩
theorem g6 {a1 a2 a3 a4 a5 a6 p q : Prop} (h1 : a1) (h2 : a2) (h3 : a3) (h4 : a4) (h5 : a5) (h6 : a6) (k : q) (t : a1 -> a2 -> a3 -> a4 -> a5 -> a6 -> Hd q -> p := by
 intro h1 h2 h3 h4 h5 h6 k
 repeat (first | (refine mS ?_; conv => whnf) | rw [natI] | rw [ZAb] | refine cA h1 ?_ | refine cA h2 ?_ | refine cA h3 ?_ | refine cA h4 ?_ | refine cA h5 ?_ | refine cA h6 ?_ | (refine arW ?_; conv => whnf) | fail)
 exact k.k) : p := t h1 h2 h3 h4 h5 h6 ⟨k⟩
theorem k6 {a1 a2 a3 a4 a5 a6 p q : Prop} (h1 : a1) (h2 : a2) (h3 : a3) (h4 : a4) (h5 : a5) (h6 : a6) (k : q) (t : a1 -> a2 -> a3 -> a4 -> a5 -> a6 -> Hd q -> p := by
 intro h1 h2 h3 h4 h5 h6 k
 repeat (first | (refine mS ?_; conv => whnf) | rw [natI] | rw [ZAb] | refine cA h1 ?_ | refine cA h2 ?_ | refine cA h3 ?_ | refine cA h4 ?_ | refine cA h5 ?_ | refine cA h6 ?_ | fail)
 exact k.k) : p := t h1 h2 h3 h4 h5 h6 ⟨k⟩
theorem k7 {a1 a2 a3 a4 a5 a6 a7 p q : Prop} (h1 : a1) (h2 : a2) (h3 : a3) (h4 : a4) (h5 : a5) (h6 : a6) (h7 : a7) (k : q) (t : a1 -> a2 -> a3 -> a4 -> a5 -> a6 -> a7 -> Hd q -> p := by
 intro h1 h2 h3 h4 h5 h6 h7 k
 repeat (first | (refine mS ?_; conv => whnf) | rw [natI] | rw [ZAb] | refine cA h1 ?_ | refine cA h2 ?_ | refine cA h3 ?_ | refine cA h4 ?_ | refine cA h5 ?_ | refine cA h6 ?_ | refine cA h7 ?_ | fail)
 exact k.k) : p := t h1 h2 h3 h4 h5 h6 h7 ⟨k⟩
theorem k8 {a1 a2 a3 a4 a5 a6 a7 a8 p q : Prop} (h1 : a1) (h2 : a2) (h3 : a3) (h4 : a4) (h5 : a5) (h6 : a6) (h7 : a7) (h8 : a8) (k : q) (t : a1 -> a2 -> a3 -> a4 -> a5 -> a6 -> a7 -> a8 -> Hd q -> p := by
 intro h1 h2 h3 h4 h5 h6 h7 h8 k
 repeat (first | (refine mS ?_; conv => whnf) | rw [natI] | rw [ZAb] | refine cA h1 ?_ | refine cA h2 ?_ | refine cA h3 ?_ | refine cA h4 ?_ | refine cA h5 ?_ | refine cA h6 ?_ | refine cA h7 ?_ | refine cA h8 ?_ | fail)
 exact k.k) : p := t h1 h2 h3 h4 h5 h6 h7 h8 ⟨k⟩
theorem gr0 {ee p q : Prop} (e : ee)(k : q) (t : ee -> Hd q -> p := by
 intro e k
 repeat (first | (rw [e]) | (rw [e.1]) | (rw [e.2]) | (rw [e.2.1]) | (rw [e.2.2]) | (rw [e.2.2.1]) | (rw [e.2.2.2]) | ((first | refine aI ?_ | refine a64 ?_ | refine a32 ?_ | refine dY ?_ | refine dN ?_ | refine ZAH ?_ | refine dI (by assumption) ?_); conv => whnf) | (refine oR e ?_; conv => whnf) | rw [natI] | rw [ZAb] | (refine arW ?_; conv => whnf) | fail)
 exact k.k) : p := t e ⟨k⟩
theorem gr1 {a1 ee p q : Prop} (e : ee) (h1 : a1) (k : q) (t : ee -> a1 -> Hd q -> p := by
 intro e h1 k
 repeat (first | (rw [e]) | (rw [e.1]) | (rw [e.2]) | (rw [e.2.1]) | (rw [e.2.2]) | (rw [e.2.2.1]) | (rw [e.2.2.2]) | ((first | refine aI ?_ | refine a64 ?_ | refine a32 ?_ | refine dY ?_ | refine dN ?_ | refine ZAH ?_ | refine dI (by assumption) ?_); conv => whnf) | (refine oR e ?_; conv => whnf) | rw [natI] | rw [ZAb] | refine cA h1 ?_ | (refine arW ?_; conv => whnf) | fail)
 exact k.k) : p := t e h1 ⟨k⟩
theorem gr2 {a1 a2 ee p q : Prop} (e : ee) (h1 : a1) (h2 : a2) (k : q) (t : ee -> a1 -> a2 -> Hd q -> p := by
 intro e h1 h2 k
 repeat (first | (rw [e]) | (rw [e.1]) | (rw [e.2]) | (rw [e.2.1]) | (rw [e.2.2]) | (rw [e.2.2.1]) | (rw [e.2.2.2]) | ((first | refine aI ?_ | refine a64 ?_ | refine a32 ?_ | refine dY ?_ | refine dN ?_ | refine ZAH ?_ | refine dI (by assumption) ?_); conv => whnf) | (refine oR e ?_; conv => whnf) | rw [natI] | rw [ZAb] | refine cA h1 ?_ | refine cA h2 ?_ | (refine arW ?_; conv => whnf) | fail)
 exact k.k) : p := t e h1 h2 ⟨k⟩
theorem gr6 {a1 a2 a3 a4 a5 a6 ee p q : Prop} (e : ee) (h1 : a1) (h2 : a2) (h3 : a3) (h4 : a4) (h5 : a5) (h6 : a6) (k : q) (t : ee -> a1 -> a2 -> a3 -> a4 -> a5 -> a6 -> Hd q -> p := by
 intro e h1 h2 h3 h4 h5 h6 k
 repeat (first | (rw [e]) | (rw [e.1]) | (rw [e.2]) | (rw [e.2.1]) | (rw [e.2.2]) | (rw [e.2.2.1]) | (rw [e.2.2.2]) | ((first | refine aI ?_ | refine a64 ?_ | refine a32 ?_ | refine dY ?_ | refine dN ?_ | refine ZAH ?_ | refine dI (by assumption) ?_); conv => whnf) | (refine oR e ?_; conv => whnf) | rw [natI] | rw [ZAb] | refine cA h1 ?_ | refine cA h2 ?_ | refine cA h3 ?_ | refine cA h4 ?_ | refine cA h5 ?_ | refine cA h6 ?_ | (refine arW ?_; conv => whnf) | fail)
 exact k.k) : p := t e h1 h2 h3 h4 h5 h6 ⟨k⟩
theorem gr7 {a1 a2 a3 a4 a5 a6 a7 ee p q : Prop} (e : ee) (h1 : a1) (h2 : a2) (h3 : a3) (h4 : a4) (h5 : a5) (h6 : a6) (h7 : a7) (k : q) (t : ee -> a1 -> a2 -> a3 -> a4 -> a5 -> a6 -> a7 -> Hd q -> p := by
 intro e h1 h2 h3 h4 h5 h6 h7 k
 repeat (first | (rw [e]) | (rw [e.1]) | (rw [e.2]) | (rw [e.2.1]) | (rw [e.2.2]) | (rw [e.2.2.1]) | (rw [e.2.2.2]) | ((first | refine aI ?_ | refine a64 ?_ | refine a32 ?_ | refine dY ?_ | refine dN ?_ | refine ZAH ?_ | refine dI (by assumption) ?_); conv => whnf) | (refine oR e ?_; conv => whnf) | rw [natI] | rw [ZAb] | refine cA h1 ?_ | refine cA h2 ?_ | refine cA h3 ?_ | refine cA h4 ?_ | refine cA h5 ?_ | refine cA h6 ?_ | refine cA h7 ?_ | (refine arW ?_; conv => whnf) | fail)
 exact k.k) : p := t e h1 h2 h3 h4 h5 h6 h7 ⟨k⟩
theorem gr8 {a1 a2 a3 a4 a5 a6 a7 a8 ee p q : Prop} (e : ee) (h1 : a1) (h2 : a2) (h3 : a3) (h4 : a4) (h5 : a5) (h6 : a6) (h7 : a7) (h8 : a8) (k : q) (t : ee -> a1 -> a2 -> a3 -> a4 -> a5 -> a6 -> a7 -> a8 -> Hd q -> p := by
 intro e h1 h2 h3 h4 h5 h6 h7 h8 k
 repeat (first | (rw [e]) | (rw [e.1]) | (rw [e.2]) | (rw [e.2.1]) | (rw [e.2.2]) | (rw [e.2.2.1]) | (rw [e.2.2.2]) | ((first | refine aI ?_ | refine a64 ?_ | refine a32 ?_ | refine dY ?_ | refine dN ?_ | refine ZAH ?_ | refine dI (by assumption) ?_); conv => whnf) | (refine oR e ?_; conv => whnf) | rw [natI] | rw [ZAb] | refine cA h1 ?_ | refine cA h2 ?_ | refine cA h3 ?_ | refine cA h4 ?_ | refine cA h5 ?_ | refine cA h6 ?_ | refine cA h7 ?_ | refine cA h8 ?_ | (refine arW ?_; conv => whnf) | fail)
 exact k.k) : p := t e h1 h2 h3 h4 h5 h6 h7 h8 ⟨k⟩
end Go.Proofs.YtlkfolopbehikaaGreat
