/- part -/
import Derived.Test.YtlkfolopbehikaaGreatSx0
import Derived.Calls
import Derived.Orders
import Derived.Laws.Sem
namespace Go.Sx
open Go
structure Loc0 where
 blk : Nat
 off : Nat
 cap : Nat
 nil : Bool
 spot : Option Nat
 there : Bool := true
structure Loc where
 blk : Nat
 off : Nat
 cap : Nat
 nil : Bool
 spot : Option Nat := none
 sub : List (Nat × Nat) -> Loc0 := fun _ => ⟨0, 0, 0, true, none, false⟩
def Loc0.loc (l : Loc0) : Loc := { blk := l.blk, off := l.off, cap := l.cap, nil := l.nil, spot := l.spot }
abbrev Env := Nat -> Loc
inductive LV where
 | v (x : Value)
 | p (k wd row col : Nat)
 | s (k wd row len d : Nat)
 | i (t : TypeId) (k : Nat)
 | io (b : Bool) (t : TypeId) (k : Nat)
 | c (f : FuncId) (caps : List Nat)
 | fp (k : Nat) (p : List (Nat × Nat)) (wd row col : Nat)
 | fs (k : Nat) (p : List (Nat × Nat)) (wd row len d : Nat)
 | mref (k : Nat)
 | stmp (k : Nat)
inductive DV where
 | v (x : Value)
 | sl (wd n : Nat) (f : Nat -> Nat -> DV)
def ZAv (d : DV) : List (Nat × Nat) -> DV
 | [] => d
 | (i, c) :: p => match ZAv d p with
  | .sl _ _ f => f i c
  | .v x => .v x
inductive AV where
 | l (x : LV)
 | a (xs : List LV)
inductive SV where
 | o (x : AV)
 | t (xs : List AV)
inductive KK where
 | i (q : IntKind)
 | p (a b : IntKind)
 deriving DecidableEq
abbrev KK.i64 : KK := .i .i64
def khi (n : Int) : Int := (n + 9223372036854775808) / 18446744073709551616
def klo (n : Int) : Int := n - khi n * 18446744073709551616
def keyV : KK -> Int -> Value
 | .i q, n => .int q n
 | .p a b, n => .agg #[.int a (khi n), .int b (klo n)]
def keyR : KK -> Int -> Prop
 | .i q, n => q.min <= n /\ n <= q.max
 | .p a b, n => (a.min <= khi n /\ khi n <= a.max) /\ b.min <= klo n /\ klo n <= b.max
def keyK (q : KK) (y : AV) (K : Int -> Prop) : Prop := match q with
 | .i q => match y with
  | .l (.v (.int q1 n)) => if q1 = q then (q.min <= n /\ n <= q.max) /\ K n else False
  | _ => False
 | .p qa qb => match y with
  | .a [.v (.int q1 a), .v (.int q2 b)] => if q1 = qa then if q2 = qb then ((qa.min <= a /\ a <= qa.max) /\ (qb.min <= b /\ b <= qb.max) /\ -9223372036854775808 <= b /\ b <= 9223372036854775807) /\ K (a * 18446744073709551616 + b) else False else False
  | _ => False
inductive Ent where
 | st (cs : List LV)
 | ar (wd n : Nat) (f : Nat -> List Value)
 | ro (wd n : Nat) (f : Nat -> List Value)
 | ob (ks : List Nat) (R : List Loc -> Loc -> List Nat -> World -> Prop)
 | rd (R : Loc -> List Nat -> World -> Prop)
 | dp (o : Bool) (d : DV)
 | mp (q : KK) (qe : IntKind) (M : Int -> Option Int) (s : Nat) (o : Option (Int × Nat))
 | hl (n : Nat) (f : Nat -> Value) (i : Nat) (x : LV)
abbrev Heap := List (Nat × Option Ent)
abbrev Regs := List (Nat × SV)
inductive O where
 | r (t : Nat)
 | c (x : AV)
inductive EqK where
 | b
 | s
 | p
 | f
 | n
 | k (k : IntKind)
 deriving DecidableEq
inductive MOp where
 | mk
 | lk (m i : O)
 | up (m i v : O)
 | dl (m i : O)
 | ln (m : O)
 | en (m i : O)
 | st (m s v : O)
inductive I where
 | mov (x : O)
 | pick (c a b : O)
 | alloc (z : List LV)
 | box (x : O)
 | ld (x : O)
 | lda (m : Nat) (x : O)
 | sto (m : Nat) (a x : O)
 | nck (x : O)
 | ar (op : BinOp) (k : IntKind) (x y : O)
 | dv (op : BinOp) (k : IntKind) (x y : O)
 | bt (op : BinOp) (k : IntKind) (x y : O)
 | sh (op : BinOp) (k : IntKind) (x y : O)
 | cmp (op : BinOp) (k : IntKind) (x y : O)
 | eq (c : EqK) (neg : Bool) (x y : O)
 | eqa (cs : List EqK) (neg : Bool) (x y : O)
 | cat (x y : O)
 | not (x : O)
 | neg (k : IntKind) (x : O)
 | conv (k : IntKind) (x : O)
 | fa (off : Nat) (x : O)
 | ixs (wd : Nat) (x i : O)
 | ixa (sz m : Nat) (x i : O)
 | ixt (x i : O)
 | fld (off : Nat) (x : O)
 | flda (off m : Nat) (x : O)
 | ext (j : Nat) (x : O)
 | bld (z : List LV) (parts : List (Nat × Nat × O))
 | bsl (wd m : Nat) (z : List Value) (parts : List (Nat × Nat × O))
 | mks (wd bytes : Nat) (z : List Value) (l c : O)
 | len (x : O)
 | lens (x : O)
 | mx (k : IntKind) (x y : O)
 | mn (k : IntKind) (x y : O)
 | slc (wd : Nat) (x : O) (lo hi : Option O)
 | slt (x : O) (lo hi : Option O)
 | app (wd bytes : Nat) (s x : O)
 | call (f : FuncId) (args : List O)
 | callv (fv : O) (args : List O)
 | inv (recv : O) (name : String) (args : List O)
 | mki (t : TypeId) (x : O)
 | mkf (f : FuncId) (caps : List O)
 | mp (q : KK) (qe : IntKind) (op : MOp)
 | esc (op : Op)
structure IOp where
 dst : Option Nat
 guard : Option (Nat × Bool)
 i : I
inductive IC where
 | skip
 | reg (ops : List IOp)
 | draw (ops : List IOp) (after : List (List Nat))
 | seq (a b : IC)
 | jn (a b : IC)
 | cond (c : O) (a b : IC)
 | blk (id : Nat) (b : IC)
 | loop (b : IC)
 | exit (id : Nat)
 | ret
inductive X where
 | nrm
 | ex (id : Nat)
 | ret
def rget : Regs -> Nat -> Option SV
 | [], _ => none
 | (t, x) :: rest, u => bif Nat.beq t u then some x else rget rest u
def hget : Heap -> Nat -> Option Ent
 | [], _ => none
 | (t, x) :: rest, u => bif Nat.beq t u then x else hget rest u
def nth {α : Type} : List α -> Nat -> Option α
 | [], _ => none
 | x :: _, 0 => some x
 | _ :: xs, n + 1 => nth xs n
def setL {α : Type} : List α -> Nat -> α -> List α
 | [], _, _ => []
 | _ :: xs, 0, y => y :: xs
 | x :: xs, n + 1, y => x :: setL xs n y
def cut {α : Type} (xs : List α) (n m : Nat) : Option (List α) :=
 let l := (xs.drop n).take m
 bif Nat.beq l.length m then some l else none
def ZAI {α : Type} : List α -> Nat -> List α -> List α
 | xs, _, [] => xs
 | xs, n, y :: ys => ZAI (setL xs n y) (n + 1) ys
def ZHj (wd m : Nat) (cs : List Value) : Nat -> List Value :=
 match m with
 | 1 => fun _ => cs
 | _ => fun j => (cs.drop (j * wd)).take wd
def nadd : Nat -> Nat -> Nat
 | 0, x => x
 | n + 1, x => x + (n + 1)
def dcut : Nat -> Nat -> Nat
 | 0, d => d
 | n + 1, _ => n + 1
def catH {α : Type} : List α -> List α -> (List α -> Prop) -> Prop
 | [], h, K => K h
 | e :: es, h, K => catH es h fun h' => K (e :: h')
theorem ZGj {α : Type} (u h : List α) (K : List α -> Prop) : catH u h K = K (u ++ h) := by
 induction u generalizing K with
 | nil => rfl
 | cons e es ih => simp [catH, ih]
def natK (n : Nat) (K : Nat -> Prop) : Prop := match n with
 | 0 => K 0
 | m + 1 => K (m + 1)
theorem ZBP (n : Nat) (K : Nat -> Prop) : natK n K = K n := by cases n <;> rfl
def ZHR : List Nat -> (List Nat -> Prop) -> Prop
 | [], K => K []
 | x :: xs, K => natK x fun y => ZHR xs fun ys => K (y :: ys)
theorem ZFO (xs : List Nat) (K : List Nat -> Prop) : ZHR xs K = K xs := by
 induction xs generalizing K with
 | nil => rfl
 | cons x xs ih => simp [ZHR, ZBP, ih]
def lvK (x : LV) (K : LV -> Prop) : Prop := match x with
 | .v x => K (.v x)
 | .p k wd row col => natK k fun k => K (.p k wd row col)
 | .s k wd row len d => natK k fun k => K (.s k wd row len d)
 | .i t k => natK k fun k => K (.i t k)
 | .io b t k => natK k fun k => K (.io b t k)
 | .c f ks => ZHR ks fun ks => K (.c f ks)
 | .fp k p wd row col => natK k fun k => K (.fp k p wd row col)
 | .fs k p wd row len d => natK k fun k => K (.fs k p wd row len d)
 | .mref k => natK k fun k => K (.mref k)
 | .stmp k => natK k fun k => K (.stmp k)
theorem ZGk (x : LV) (K : LV -> Prop) : lvK x K = K x := by cases x <;> simp [lvK, ZBP, ZFO]
def lvsK : List LV -> (List LV -> Prop) -> Prop
 | [], K => K []
 | x :: xs, K => lvK x fun y => lvsK xs fun ys => K (y :: ys)
theorem ZBz (xs : List LV) (K : List LV -> Prop) : lvsK xs K = K xs := by
 induction xs generalizing K with
 | nil => rfl
 | cons x xs ih => simp [lvsK, ZGk, ih]
def avK (x : AV) (K : AV -> Prop) : Prop := match x with
 | .l x => lvK x fun x => K (.l x)
 | .a xs => lvsK xs fun xs => K (.a xs)
theorem ZQS (x : AV) (K : AV -> Prop) : avK x K = K x := by cases x <;> simp [avK, ZGk, ZBz]
def avsK : List AV -> (List AV -> Prop) -> Prop
 | [], K => K []
 | x :: xs, K => avK x fun y => avsK xs fun ys => K (y :: ys)
theorem ZRF (xs : List AV) (K : List AV -> Prop) : avsK xs K = K xs := by
 induction xs generalizing K with
 | nil => rfl
 | cons x xs ih => simp [avsK, ZQS, ih]
def svK (x : SV) (K : SV -> Prop) : Prop := match x with
 | .o x => avK x fun x => K (.o x)
 | .t xs => avsK xs fun xs => K (.t xs)
theorem ZFP (x : SV) (K : SV -> Prop) : svK x K = K x := by cases x <;> simp [svK, ZQS, ZRF]
def entK (e : Option Ent) (K : Option Ent -> Prop) : Prop := match e with
 | none => K none
 | some (.st cs) => lvsK cs fun cs => K (some (.st cs))
 | some (.ar wd n f) => K (some (.ar wd n f))
 | some (.ro wd n f) => K (some (.ro wd n f))
 | some (.ob ks R) => ZHR ks fun ks => K (some (.ob ks R))
 | some (.rd R) => K (some (.rd R))
 | some (.dp o d) => K (some (.dp o d))
 | some (.hl n f i x) => lvK x fun x => K (some (.hl n f i x))
 | some (.mp q qe M s none) => K (some (.mp q qe M s none))
 | some (.mp q qe M s (some (n, j))) => natK j fun j => K (some (.mp q qe M s (some (n, j))))
theorem ZRG (e : Option Ent) (K : Option Ent -> Prop) : entK e K = K e := by
 cases e with
 | none => rfl
 | some e =>
  cases e
  case mp q qe M s o =>
   cases o with
   | none => rfl
   | some p => obtain ⟨n, j⟩ := p; simp [entK, ZBP]
  all_goals simp [entK, ZBz, ZGk, ZFO]
def ZFm : Heap -> (Heap -> Prop) -> Prop
 | [], K => K []
 | (k, e) :: u, K => natK k fun k => entK e fun e => ZFm u fun u => K ((k, e) :: u)
theorem ZCL (u : Heap) (K : Heap -> Prop) : ZFm u K = K u := by
 induction u generalizing K with
 | nil => rfl
 | cons e u ih => obtain ⟨k, e⟩ := e; simp [ZFm, ZBP, ZRG, ih]
def putR (d : Option Nat) (x : SV) (r : Regs) : Regs := match d with | some t => (t, x) :: r | none => r
def ZBe : SV := .o (.l (.v undef))
def oget (r : Regs) : O -> Option AV
 | .r t => match rget r t with | some (.o x) => some x | _ => none
 | .c x => some x
def ogets (r : Regs) : List O -> Option (List AV)
 | [] => some []
 | x :: xs => match oget r x, ogets r xs with | some y, some ys => some (y :: ys) | _, _ => none
def sInt (k : IntKind) (n : Int) : SV := .o (.l (.v (.int k n)))
def ZAR (b : Bool) : SV := .o (.l (.v (.bool b)))
def ZGl (x : Value) (K : Value -> Prop) : Prop :=
 match x with
 | .bool b => K (.bool b)
 | .int k n => K (.int k n)
 | .float k b => K (.float k b)
 | .complex k a b => K (.complex k a b)
 | .string s => K (.string s)
 | .pointer a => K (.pointer a)
 | .slice a l c => K (.slice a l c)
 | .map r => K (.map r)
 | .chan r => K (.chan r)
 | .func f a b => K (.func f a b)
 | .nilFunc => K .nilFunc
 | .iface t v => K (.iface t v)
 | .nilIface => K .nilIface
 | .agg c => K (.agg c)
 | .tuple c => K (.tuple c)
theorem ZAj (x : Value) (K : Value -> Prop) : ZGl x K = K x := by cases x <;> rfl
def ZGm : List Value -> (List Value -> Prop) -> Prop
 | [], K => K []
 | x :: xs, K => ZGl x fun y => ZGm xs fun ys => K (y :: ys)
theorem ZB2 (xs : List Value) (K : List Value -> Prop) : ZGm xs K = K xs := by
 induction xs generalizing K with
 | nil => rfl
 | cons x xs ih => simp [ZGm, ZAj, ih]
def mrg (c : Prop) [Decidable c] (x y : Value) : Value :=
 match x, y with
 | .int k a, .int k' b => if k = k' then .int k (if c then a else b) else (if c then x else y)
 | .bool a, .bool b => .bool (if c then a else b)
 | _, _ => if c then x else y
theorem ZA0 (c : Prop) [Decidable c] (x y : Value) : mrg c x y = if c then x else y := by
 unfold mrg
 split
 ·rename_i k a k' b
  by_cases h : k = k'
  ·subst h; by_cases hc : c <;> simp [hc]
  ·simp [h]
 ·by_cases hc : c <;> simp [hc]
 ·rfl
def mrgL (c : Prop) [Decidable c] : List Value -> List Value -> List Value
 | x :: xs, y :: ys => mrg c x y :: mrgL c xs ys
 | _, ys => ys
theorem ZEp (c : Prop) [Decidable c] : ∀ (xs ys : List Value), xs.length = ys.length -> mrgL c xs ys = if c then xs else ys
 | [], [], _ => by simp [mrgL]
 | x :: xs, y :: ys, h => by
  simp only [mrgL, ZA0, ZEp c xs ys (by simpa using h)]
  by_cases hc : c <;> simp [hc]
 | [], _ :: _, h => by simp at h
 | _ :: _, [], h => by simp at h
def plain : List LV -> Option (List Value)
 | [] => some []
 | .v x :: xs => match plain xs with | some ys => some (x :: ys) | none => none
 | .c f [] :: xs => match plain xs with | some ys => some (.func (.func f) #[] #[] :: ys) | none => none
 | _ :: _ => none
structure ArP (k : IntKind) (n : Int) (K : Int -> Prop) : Prop where
 out : K (k.wrap n)
theorem ZAk (k : IntKind) (n : Int) (K : Int -> Prop) : ArP k n K = (K (k.wrap n)) := propext ⟨fun h => h.out, fun h => ⟨h⟩⟩
structure QuoP (k : IntKind) (a b : Int) (K : Int -> Prop) : Prop where
 out : b ≠ 0 /\ K (k.wrap (a.tdiv b))
theorem ZAt (k : IntKind) (a b : Int) (K : Int -> Prop) : QuoP k a b K = (b ≠ 0 /\ K (k.wrap (a.tdiv b))) := propext ⟨fun h => h.out, fun h => ⟨h⟩⟩
structure RemP (a b : Int) (K : Int -> Prop) : Prop where
 out : b ≠ 0 /\ K (a.tmod b)
theorem ZAw (a b : Int) (K : Int -> Prop) : RemP a b K = (b ≠ 0 /\ K (a.tmod b)) := propext ⟨fun h => h.out, fun h => ⟨h⟩⟩
def bitZ (op : BinOp) (k : IntKind) (x y : Int) : Int :=
 let a := BitVec.ofInt k.bits x
 let b := BitVec.ofInt k.bits y
 match op with
 | .and => k.wrap (a &&& b).toNat
 | .or => k.wrap (a ||| b).toNat
 | .xor => k.wrap (a ^^^ b).toNat
 | _ => k.wrap (a &&& ~~~b).toNat
structure ShlP (k : IntKind) (a b : Int) (K : Int -> Prop) : Prop where
 out : 0 <= b /\ K (k.wrap (a * 2 ^ (min b.toNat k.bits)))
theorem ZAu (k : IntKind) (a b : Int) (K : Int -> Prop) : ShlP k a b K = (0 <= b /\ K (k.wrap (a * 2 ^ (min b.toNat k.bits)))) := propext ⟨fun h => h.out, fun h => ⟨h⟩⟩
structure ShrP (k : IntKind) (a b : Int) (K : Int -> Prop) : Prop where
 out : 0 <= b /\ K (a.fdiv (2 ^ (min b.toNat k.bits)))
theorem ZAx (k : IntKind) (a b : Int) (K : Int -> Prop) : ShrP k a b K = (0 <= b /\ K (a.fdiv (2 ^ (min b.toNat k.bits)))) := propext ⟨fun h => h.out, fun h => ⟨h⟩⟩
def cmpB (op : BinOp) (a b : Int) : Option Bool :=
 match op with
 | .eql => some (decide (a = b))
 | .neq => some (decide (a ≠ b))
 | .lss => some (decide (a < b))
 | .leq => some (decide (a <= b))
 | .gtr => some (decide (b < a))
 | .geq => some (decide (b <= a))
 | _ => none
def eqLV : EqK -> LV -> LV -> Option Bool
 | .k k0, .v (.int k a), .v (.int k' b) => if k = k0 then if k' = k0 then some (decide (a = b)) else none else none
 | .b, .v (.bool a), .v (.bool b) => some (a == b)
 | .s, .v (.string a), .v (.string b) => some (a.toList == b.toList)
 | .p, .p .., .v (.pointer none) => some false
 | .p, .v (.pointer none), .p .. => some false
 | .p, .v (.pointer none), .v (.pointer none) => some true
 | .p, .v (.pointer (some _)), .v (.pointer none) => some false
 | .n, .i .., .v .nilIface => some false
 | .n, .v .nilIface, .v .nilIface => some true
 | .n, .v (.iface _ _), .v .nilIface => some false
 | .f, .c .., .v .nilFunc => some false
 | .f, .v .nilFunc, .v .nilFunc => some true
 | .n, .io b _ _, .v .nilIface => some (!b)
 | .f, .v (.func _ _ _), .v .nilFunc => some false
 | _, _, _ => none
def ZC4 : List EqK -> List LV -> List LV -> Option Bool
 | [], [], [] => some true
 | [c], [x], [y] => eqLV c x y
 | c :: cs, x :: xs, y :: ys => match eqLV c x y, ZC4 cs xs ys with
   | some a, some b => some (a && b)
   | _, _ => none
 | _, _, _ => none
def xb (neg b : Bool) : Bool := match neg with | true => !b | false => b
structure Ctx where
 P : Program
 w0 : World
 F0 : Nat -> Prop
 R0 : Nat -> Prop
 ρ0 : Env
 A : Nat
 N : Nat
section
variable (CallP : FuncId -> List AV -> Heap -> Nat -> (SV -> Heap -> Nat -> Prop) -> Prop)
variable (InvP : AV -> String -> List AV -> Heap -> Nat -> (SV -> Heap -> Nat -> Prop) -> Prop)
variable (EscP : Op -> Regs -> Heap -> Nat -> (SV -> Heap -> Nat -> Prop) -> Prop)
variable (LoopP : IC -> Regs -> Heap -> Nat -> (X -> Regs -> Heap -> Nat -> Prop) -> Prop)
variable (DrawP : List IOp -> List (List Nat) -> Regs -> Heap -> Nat -> (X -> Regs -> Heap -> Nat -> Prop) -> Prop)
def ldAt (h : Heap) (k wd row col : Nat) (K : LV -> Prop) : Prop :=
 match hget h k with
 | some (.st cs) => match nth cs (row * wd + col) with | some x => K x | none => False
 | some (.ar wd' n f) => match Nat.beq wd' wd with
  | true => row < n /\ match nth (f row) col with | some x => ZGl x fun y => K (.v y) | none => False
  | false => False
 | some (.ro wd' n f) => match Nat.beq wd' wd with
  | true => row < n /\ match nth (f row) col with | some x => ZGl x fun y => K (.v y) | none => False
  | false => False
 | some (.hl n _ i x) => match Nat.beq 1 wd, Nat.beq 0 col with
  | true, true => (row = i /\ row < n) /\ K x
  | _, _ => False
 | _ => False
def ZEY (h : Heap) (k wd row col m : Nat) (K : List LV -> Prop) : Prop :=
 match hget h k with
 | some (.st cs) => match cut cs (row * wd + col) m with | some xs => lvsK xs fun xs => K xs | none => False
 | some (.ar wd' n f) => match Nat.beq wd' wd with
  | true => row < n /\ match cut (f row) col m with | some xs => ZGm xs fun ys => K (ys.map LV.v) | none => False
  | false => False
 | some (.ro wd' n f) => match Nat.beq wd' wd with
  | true => row < n /\ match cut (f row) col m with | some xs => ZGm xs fun ys => K (ys.map LV.v) | none => False
  | false => False
 | _ => False
def ZRH : LV -> Bool
 | .v x => x.oneCell'
 | _ => true
def ZF0 : List LV -> Bool
 | [] => true
 | x :: xs => match ZRH x with | true => ZF0 xs | false => false
def cellsOf : AV -> List LV
 | .l x => [x]
 | .a xs => xs
def oneA : AV -> Bool
 | .l x => ZRH x
 | .a _ => true
def ZF9 (r : Regs) (acc : Option (List LV)) (p : Nat × Nat × O) : Option (List LV) :=
 match acc, oget r p.2.2 with
 | some cs, some v => match Nat.beq (cellsOf v).length p.2.1, Nat.ble (p.1 + p.2.1) cs.length, oneA v with
  | true, true, true => some (ZAI cs p.1 (cellsOf v))
  | _, _, _ => none
 | _, _ => none
def stAt (h : Heap) (k wd row col m : Nat) (x : AV) (K : Heap -> Prop) : Prop :=
 match Nat.beq (cellsOf x).length m, ZF0 (cellsOf x) with
 | true, true => match hget h k with
  | some (.st cs) => match Nat.ble (row * wd + col + m) cs.length with
   | true => lvsK (ZAI cs (row * wd + col) (cellsOf x)) fun cs => K [(k, some (.st cs))]
   | false => False
  | some (.ar wd' n f) => match Nat.beq wd' wd, Nat.ble (col + m) wd, plain (cellsOf x) with
   | true, true, some xs => row < n /\ K [(k, some (.ar wd n fun j => mrgL (j = row) (ZAI (f j) col xs) (f j)))]
   | _, _, _ => False
  | some (.hl n f i _) => match Nat.beq 1 wd, Nat.beq 0 col with
   | true, true => match cellsOf x with
    | [z] => (row = i /\ row < n) /\ lvK z fun z => K [(k, some (.hl n f i z))]
    | _ => False
   | _, _ => False
  | _ => False
 | _, _ => False
def ldDp (h : Heap) (k : Nat) (p : List (Nat × Nat)) (wd row col : Nat) (K : LV -> Prop) : Prop :=
 match hget h k with
 | some (.dp _ d) => match ZAv d p with
  | .sl wd' n f => match Nat.beq wd' wd, Nat.ble (col + 1) wd with
   | true, true => row < n /\ match f row col with
    | .v x => ZGl x fun y => K (.v y)
    | .sl wd2 n2 _ => K (.fs k ((row, col) :: p) wd2 0 n2 0)
   | _, _ => False
  | .v _ => False
 | _ => False
def ZEq (k : Nat) (p : List (Nat × Nat)) (row : Nat) (f : Nat -> Nat -> DV) : Nat -> Nat -> (List LV -> Prop) -> Prop
 | _, 0, K => K []
 | col, m + 1, K => match f row col with
  | .v x => ZGl x fun y => ZEq k p row f (col + 1) m fun xs => K (.v y :: xs)
  | .sl wd2 n2 _ => ZEq k p row f (col + 1) m fun xs => K (.fs k ((row, col) :: p) wd2 0 n2 0 :: xs)
def ZP1 (h : Heap) (k : Nat) (p : List (Nat × Nat)) (wd row col m : Nat) (K : List LV -> Prop) : Prop :=
 match hget h k with
 | some (.dp _ d) => match ZAv d p with
  | .sl wd' n f => match Nat.beq wd' wd, Nat.ble (col + m) wd with
   | true, true => row < n /\ ZEq k p row f col m K
   | _, _ => False
  | .v _ => False
 | _ => False
def ZIp (h : Heap) : List LV -> (List DV -> Heap -> Prop) -> Prop
 | [], K => K [] []
 | .v x :: xs, K => ZIp h xs fun ds dead => K (.v x :: ds) dead
 | .s k wd 0 len 0 :: xs, K => match hget h k with
  | some (.ar wd' n f) => match Nat.beq wd' wd with
   | true => len = n /\ ZIp h xs fun ds dead => K (.sl wd len (fun i c => .v ((f i).getD c (.bool false))) :: ds) ((k, none) :: dead)
   | false => False
  | _ => False
 | .fs k [] wd 0 len 0 :: xs, K => match hget h k with
  | some (.dp true (.sl wd' n f)) => match Nat.beq wd' wd with
   | true => len = n /\ ZIp h xs fun ds dead => K (.sl wd len f :: ds) ((k, none) :: dead)
   | false => False
  | _ => False
 | _ :: _, _ => False
def ZEZ (wd : Nat) (ds : List DV) (i c : Nat) : DV := match nth ds (i * wd + c) with | some d => d | none => .v (.bool false)
def ZEK : List (Nat × List Value) -> Nat -> Option (List Value)
 | [], _ => none
 | (g, vs) :: rest, b => match Nat.beq g b with
  | true => some vs
  | false => ZEK rest b
def gget (g off : Nat) : Option Value := match ZEK ZNC g with
 | some vs => nth vs off
 | none => none
def gcut (g off m : Nat) : Option (List Value) := match ZEK ZNC g with
 | some vs => cut vs off m
 | none => none
def ldX (h : Heap) (y : Option AV) (K : LV -> Prop) : Prop := match y with
 | some (.l (.fp k p wd row col)) => ldDp h k p wd row col K
 | some (.l (.v (.pointer (some ⟨g, off, none⟩)))) => match gget g off with
  | some v => ZGl v fun y => K (.v y)
  | none => False
 | _ => False
def ldsX (h : Heap) (y : Option AV) (m : Nat) (K : List LV -> Prop) : Prop := match y with
 | some (.l (.fp k p wd row col)) => ZP1 h k p wd row col m K
 | some (.l (.v (.pointer (some ⟨g, off, none⟩)))) => match gcut g off m with
  | some vs => lvsK (vs.map LV.v) K
  | none => False
 | _ => False
def faX (off : Nat) (y : Option AV) (K : LV -> Prop) : Prop := match y with
 | some (.l (.fp k p wd row col)) => K (.fp k p wd row (col + off))
 | _ => False
def ixsX (wd : Nat) (y z : Option AV) (K : LV -> Prop) : Prop := match y with
 | some (.l (.fs k p wd' row len _)) => match z with
  | some (.l (.v (.int _ n))) => match Nat.beq wd' wd with
   | true => (0 <= n /\ n < (len : Int)) /\ K (.fp k p wd (nadd row n.toNat) 0)
   | false => False
  | _ => False
 | some (.l (.v (.slice (some ⟨g, off, none⟩) len _))) => match z with
  | some (.l (.v (.int _ n))) => (0 <= n /\ n < (len : Int)) /\ K (.v (.pointer (some ⟨g, off + n.toNat * wd, none⟩)))
  | _ => False
 | _ => False
def ixaX (sz m : Nat) (y z : Option AV) (K : LV -> Prop) : Prop := match y with
 | some (.l (.v (.pointer (some ⟨g, off, none⟩)))) => match z with
  | some (.l (.v (.int _ n))) => (0 <= n /\ n < (m : Int)) /\ K (.v (.pointer (some ⟨g, off + n.toNat * sz, none⟩)))
  | _ => False
 | _ => False
def lenX (y : Option AV) (K : Int -> Prop) : Prop := match y with
 | some (.l (.fs _ _ _ _ len _)) => K (len : Int)
 | _ => False
def slcX (wd : Nat) (r : Regs) (y : Option AV) (lo hi : Option O) (K : LV -> Prop) : Prop := match y with
 | some (.l (.fs k p wd' row len d)) => match Nat.beq wd' wd with
  | true => match lo, hi with
   | none, none => K (.fs k p wd row len d)
   | some l, none => match oget r l with
    | some (.l (.v (.int _ a))) => (0 <= a /\ a <= (len : Int)) /\ K (.fs k p wd (nadd row a.toNat) (len - a.toNat) (dcut a.toNat d))
    | _ => False
   | none, some h => match oget r h with
    | some (.l (.v (.int _ b))) => (0 <= b /\ b <= (len : Int)) /\ K (.fs k p wd row b.toNat d)
    | _ => False
   | some l, some h => match oget r l with
    | some (.l (.v (.int _ a))) => match oget r h with
     | some (.l (.v (.int _ b))) => (0 <= a /\ a <= b /\ b <= (len : Int)) /\ K (.fs k p wd (nadd row a.toNat) (b.toNat - a.toNat) (dcut a.toNat d))
     | _ => False
    | _ => False
  | false => False
 | _ => False
def bslX (hp : Heap) (wd m nx : Nat) (cs : List LV) (o : Option (List Value)) (a b : Bool) (K : SV -> Heap -> Nat -> Prop) : Prop := match o with
 | none => match a with
  | true => match b with
   | true => ZIp hp cs fun ds dead => K (.o (.l (.fs nx [] wd 0 m 0))) ((nx, some (.dp true (.sl wd m (ZEZ wd ds)))) :: dead) (nx + 1)
   | false => False
  | false => False
 | some _ => False
def ZFn (wd : Nat) (f : Nat -> Nat -> DV) (i : Nat) : List Value := (List.range wd).map fun c => match f i c with | .v x => x | .sl _ _ _ => .bool false
def appF (hp : Heap) (wd bytes nx : Nat) (y : Option AV) (k2 : Nat) (q : List (Nat × Nat)) (wd2 row2 len2 : Nat) (K : SV -> Heap -> Nat -> Prop) : Prop := match hget hp k2 with
 | some (.dp _ d) => match ZAv d q with
  | .sl wb m g => match Nat.beq wb wd, Nat.beq wd2 wd with
   | true, true => match y with
    | some (.l (.s k wd' 0 len _)) => match hget hp k with
     | some (.ar wa n f) => match Nat.beq wa wd, Nat.beq wd' wd with
      | true, true => (len = n /\ row2 + len2 <= m /\ (len + len2) * bytes <= 140737488355328 /\ ∀ i, i < len2 -> ∀ c, c < wd -> ∃ x, g (row2 + i) c = .v x) /\
        K (.o (.l (.s nx wd 0 (len + len2) 0))) [(nx, some (.ar wd (len + len2) fun j => if j < len then f j else ZFn wd g (row2 + (j - len)))), (k, none)] (nx + 1)
      | _, _ => False
     | _ => False
    | _ => False
   | _, _ => False
  | .v _ => False
 | _ => False
def appX (hp : Heap) (wd bytes nx : Nat) (y z : Option AV) (K : SV -> Heap -> Nat -> Prop) : Prop := match z with
 | some (.l (.fs k2 [] wd2 0 len2 _)) => match hget hp k2 with
  | some (.dp true (.sl wb m g)) => match Nat.beq wb wd, Nat.beq wd2 wd with
   | true, true => match y with
    | some (.l (.fs k [] wd' 0 len _)) => match Nat.beq wd' wd, Nat.beq k k2 with
     | true, false => match hget hp k with
      | some (.dp true (.sl wa n f)) => match Nat.beq wa wd with
       | true => (len = n /\ len2 = m /\ (len + len2) * bytes <= 140737488355328) /\
         K (.o (.l (.fs nx [] wd 0 (len + len2) 0))) [(nx, some (.dp true (.sl wd (len + len2) fun j c => if j < len then f j c else g (j - len) c))), (k, none), (k2, none)] (nx + 1)
       | false => False
      | _ => False
     | _, _ => False
    | some (.l (.v (.slice none 0 0))) => (len2 = m /\ len2 * bytes <= 140737488355328) /\ K (.o (.l (.fs nx [] wd 0 len2 0))) [(nx, some (.dp true (.sl wd len2 g))), (k2, none)] (nx + 1)
    | _ => False
   | _, _ => False
  | _ => False
 | some (.l (.fs k2 q wd2 row2 len2 _)) => appF hp wd bytes nx y k2 q wd2 row2 len2 K
 | _ => False
def mupd (M : Int -> Option Int) (n : Int) (x : Option Int) : Int -> Option Int := fun k => if k = n then x else M k
def msz (M : Int -> Option Int) (n : Int) (s : Nat) : Nat := match M n with | some _ => s | none => s + 1
def mszd (M : Int -> Option Int) (n : Int) (s : Nat) : Nat := match M n with | some _ => s - 1 | none => s
def evM (q : KK) (qe : IntKind) (op : MOp) (r : Regs) (hp : Heap) (nx : Nat) (K : SV -> Heap -> Nat -> Prop) : Prop :=
 match op with
 | .mk => K (.o (.l (.mref nx))) [(nx, some (.mp q qe (fun _ => none) 0 none))] (nx + 1)
 | .ln m => match oget r m with
  | some (.l (.mref k)) => match hget hp k with
   | some (.mp _ _ _ s _) => K (sInt .i64 (s : Int)) [] nx
   | _ => False
  | _ => False
 | .lk m i => match oget r m, oget r i with
  | some (.l (.mref k)), some y => match hget hp k with
   | some (.mp q2 qe2 M _ _) => if q2 = q then if qe2 = qe then keyK q y fun n => K (sInt qe ((M n).getD 0)) [] nx else False else False
   | _ => False
  | _, _ => False
 | .up m i v => match oget r m, oget r i, oget r v with
  | some (.l (.mref k)), some y, some (.l (.v (.int qe1 x))) => match hget hp k with
   | some (.mp q2 qe2 M s _) => if q2 = q then if qe2 = qe then if qe1 = qe then keyK q y fun n => K ZBe [(k, some (.mp q qe (mupd M n (some x)) (msz M n s) none))] nx else False else False else False
   | _ => False
  | _, _, _ => False
 | .dl m i => match oget r m, oget r i with
  | some (.l (.mref k)), some y => match hget hp k with
   | some (.mp q2 qe2 M s _) => if q2 = q then keyK q y fun n => K (.t []) [(k, some (.mp q qe2 (mupd M n none) (mszd M n s) none))] nx else False
   | _ => False
  | _, _ => False
 | .en m i => match oget r m, oget r i with
  | some (.l (.mref k)), some y => match hget hp k with
   | some (.mp q2 qe2 M s _) => if q2 = q then if qe2 = qe then keyK q y fun n =>
     K (.t [.l (.v (.int qe ((M n).getD 0))), .l (.stmp nx)]) [(k, some (.mp q qe (mupd M n (some ((M n).getD 0))) (msz M n s) (some (n, nx))))] (nx + 1) else False else False
   | _ => False
  | _, _ => False
 | .st m s v => match oget r m, oget r s, oget r v with
  | some (.l (.mref k)), some (.l (.stmp j)), some (.l (.v (.int qe1 x))) => match hget hp k with
   | some (.mp q2 qe2 M s (some (n, j2))) => match Nat.beq j j2 with
    | true => if q2 = q then if qe2 = qe then if qe1 = qe then K ZBe [(k, some (.mp q qe (mupd M n (some x)) s none))] nx else False else False else False
    | false => False
   | _ => False
  | _, _, _ => False
def evI (i : I) (r : Regs) (hp : Heap) (nx : Nat) (K : SV -> Heap -> Nat -> Prop) : Prop :=
 match i with
 | .mov x => match oget r x with
  | some v => K (.o v) [] nx
  | none => match x with
   | .r t => match rget r t with
    | some (.t xs) => K (.t xs) [] nx
    | _ => False
   | .c _ => False
 | .pick c a b => match oget r c with
  | some (.l (.v (.bool t))) => @Bool.rec (fun _ => Prop)
    (match oget r b with | some v => K (.o v) [] nx | none => False)
    (match oget r a with | some v => K (.o v) [] nx | none => False) t
  | _ => False
 | .alloc z => K (.o (.l (.p nx 0 0 0))) [(nx, some (.st z))] (nx + 1)
 | .box x => match oget r x with
  | some (.l v) => match ZRH v with
   | true => K (.o (.l (.p nx 0 0 0))) [(nx, some (.st [v]))] (nx + 1)
   | false => False
  | some (.a vs) => K (.o (.l (.p nx 0 0 0))) [(nx, some (.st vs))] (nx + 1)
  | none => False
 | .ld x => match oget r x with
  | some (.l (.p k wd row col)) => ldAt hp k wd row col fun v => K (.o (.l v)) [] nx
  | y => ldX hp y fun v => K (.o (.l v)) [] nx
 | .lda m x => match oget r x with
  | some (.l (.p k wd row col)) => ZEY hp k wd row col m fun v => K (.o (.a v)) [] nx
  | y => ldsX hp y m fun v => K (.o (.a v)) [] nx
 | .sto m a x => match oget r a, oget r x with
  | some (.l (.p k wd row col)), some v => stAt hp k wd row col m v fun h => K ZBe h nx
  | _, _ => False
 | .nck x => match oget r x with
  | some (.l (.p k wd row col)) => K (.o (.l (.p k wd row col))) [] nx
  | some (.l (.i t k)) => K (.o (.l (.i t k))) [] nx
  | some (.l (.c f ks)) => K (.o (.l (.c f ks))) [] nx
  | y => faX 0 y fun v => K (.o (.l v)) [] nx
 | .ar op k x y => match oget r x, oget r y with
  | some (.l (.v (.int k1 a))), some (.l (.v (.int k2 b))) =>
   if k1 = k then if k2 = k then match op with
    | .add => ArP k (a + b) fun n => K (sInt k n) [] nx
    | .sub => ArP k (a - b) fun n => K (sInt k n) [] nx
    | .mul => ArP k (a * b) fun n => K (sInt k n) [] nx
    | _ => False
   else False else False
  | _, _ => False
 | .dv op k x y => match oget r x, oget r y with
  | some (.l (.v (.int k1 a))), some (.l (.v (.int k2 b))) =>
   if k1 = k then if k2 = k then match op with
    | .quo => QuoP k a b fun n => K (sInt k n) [] nx
    | .rem => RemP a b fun n => K (sInt k n) [] nx
    | _ => False
   else False else False
  | _, _ => False
 | .bt op k x y => match oget r x, oget r y with
  | some (.l (.v (.int k1 a))), some (.l (.v (.int k2 b))) =>
   if k1 = k then if k2 = k then match op with
    | .and => K (sInt k (bitZ .and k a b)) [] nx
    | .or => K (sInt k (bitZ .or k a b)) [] nx
    | .xor => K (sInt k (bitZ .xor k a b)) [] nx
    | .andNot => K (sInt k (bitZ .andNot k a b)) [] nx
    | _ => False
   else False else False
  | _, _ => False
 | .sh op k x y => match oget r x, oget r y with
  | some (.l (.v (.int k1 a))), some (.l (.v (.int _ b))) =>
   if k1 = k then match op with
    | .shl => ShlP k a b fun n => K (sInt k n) [] nx
    | .shr => ShrP k a b fun n => K (sInt k n) [] nx
    | _ => False
   else False
  | _, _ => False
 | .cmp op k x y => match oget r x, oget r y with
  | some (.l (.v (.int k1 a))), some (.l (.v (.int k2 b))) =>
   if k1 = k then if k2 = k then match cmpB op a b with
    | some t => K (ZAR t) [] nx
    | none => False
   else False else False
  | _, _ => False
 | .eq c neg x y => match oget r x, oget r y with
  | some (.l u), some (.l v) => match eqLV c u v with
   | some t => K (ZAR (xb neg t)) [] nx
   | none => False
  | _, _ => False
 | .eqa cs neg x y => match oget r x, oget r y with
  | some (.a us), some (.a vs) => match ZC4 cs us vs with
   | some t => K (ZAR (xb neg t)) [] nx
   | none => False
  | _, _ => False
 | .cat x y => match oget r x, oget r y with
  | some (.l (.v (.string a))), some (.l (.v (.string b))) => ((a.size : Int) + b.size <= 9223372036854775807) /\ K (.o (.l (.v (.string (a ++ b))))) [] nx
  | _, _ => False
 | .not x => match oget r x with
  | some (.l (.v (.bool t))) => K (ZAR (!t)) [] nx
  | _ => False
 | .neg k x => match oget r x with
  | some (.l (.v (.int k1 a))) => if k1 = k then ArP k (0 - a) fun n => K (sInt k n) [] nx else False
  | _ => False
 | .conv k x => match oget r x with
  | some (.l (.v (.int _ a))) => ArP k a fun n => K (sInt k n) [] nx
  | _ => False
 | .fa off x => match oget r x with
  | some (.l (.p k wd row col)) => K (.o (.l (.p k wd row (col + off)))) [] nx
  | y => faX off y fun v => K (.o (.l v)) [] nx
 | .ixs wd x i => match oget r x, oget r i with
  | some (.l (.s k wd' row len _)), some (.l (.v (.int _ n))) => match Nat.beq wd' wd with
   | true => (0 <= n /\ n < (len : Int)) /\ K (.o (.l (.p k wd (nadd row n.toNat) 0))) [] nx
   | false => False
  | y, z => ixsX wd y z fun v => K (.o (.l v)) [] nx
 | .ixa sz m x i => match oget r x, oget r i with
  | some (.l (.p k wd row col)), some (.l (.v (.int _ n))) => (0 <= n /\ n < (m : Int)) /\ K (.o (.l (.p k wd row (col + n.toNat * sz)))) [] nx
  | y, z => ixaX sz m y z fun v => K (.o (.l v)) [] nx
 | .ixt x i => match oget r x, oget r i with
  | some (.l (.v (.string s))), some (.l (.v (.int _ n))) =>
   (0 <= n /\ n < (s.size : Int)) /\ K (sInt .u8 (if h : n.toNat < s.size then ((s[n.toNat]'h).toNat : Int) else 0)) [] nx
  | _, _ => False
 | .fld off x => match oget r x with
  | some (.a vs) => match nth vs off with | some v => K (.o (.l v)) [] nx | none => False
  | _ => False
 | .flda off m x => match oget r x with
  | some (.a vs) => match cut vs off m with | some us => K (.o (.a us)) [] nx | none => False
  | _ => False
 | .ext j x => match x with
  | .r t => match rget r t with
   | some (.t xs) => match nth xs j with | some v => K (.o v) [] nx | none => False
   | _ => False
  | _ => False
 | .bld z parts => match parts.foldl (ZF9 r) (some z) with
  | some cs => lvsK cs fun cs => K (.o (.a cs)) [] nx
  | none => False
 | .bsl wd m z parts => match parts.foldl (ZF9 r) (some (z.map LV.v)) with
  | some cs => match plain cs, ZF0 cs, Nat.beq cs.length (m * wd) with
   | some vs, true, true => K (.o (.l (.s nx wd 0 m 0))) [(nx, some (.ar wd m (ZHj wd m vs)))] (nx + 1)
   | o, a, b => bslX hp wd m nx cs o a b K
  | none => False
 | .mks wd bytes z l c => match oget r l, oget r c with
  | some (.l (.v (.int .i64 n))), some (.l (.v (.int .i64 n'))) =>
   match ZF0 (z.map LV.v) with
   | true => (n = n' /\ 0 <= n /\ n * bytes <= 281474976710656 /\ 0 < bytes) /\ K (.o (.l (.s nx wd 0 n.toNat 0))) [(nx, some (.ar wd n.toNat fun _ => z))] (nx + 1)
   | false => False
  | _, _ => False
 | .len x => match oget r x with
  | some (.l (.s _ _ _ len _)) => K (sInt .i64 (len : Int)) [] nx
  | some (.l (.v (.slice _ len _))) => K (sInt .i64 (len : Int)) [] nx
  | y => lenX y fun n => K (sInt .i64 n) [] nx
 | .lens x => match oget r x with
  | some (.l (.v (.string s))) => K (sInt .i64 (s.size : Int)) [] nx
  | _ => False
 | .mx k x y => match oget r x, oget r y with
  | some (.l (.v (.int k1 a))), some (.l (.v (.int k2 b))) =>
   if k1 = k then if k2 = k then K (sInt k (max a b)) [] nx else False else False
  | _, _ => False
 | .mn k x y => match oget r x, oget r y with
  | some (.l (.v (.int k1 a))), some (.l (.v (.int k2 b))) =>
   if k1 = k then if k2 = k then K (sInt k (min a b)) [] nx else False else False
  | _, _ => False
 | .slc wd x lo hi => match oget r x with
  | some (.l (.s k wd' row len d)) => match Nat.beq wd' wd with
   | true => match lo, hi with
    | none, none => K (.o (.l (.s k wd row len d))) [] nx
    | some l, none => match oget r l with
     | some (.l (.v (.int _ a))) => (0 <= a /\ a <= (len : Int)) /\ K (.o (.l (.s k wd (nadd row a.toNat) (len - a.toNat) (dcut a.toNat d)))) [] nx
     | _ => False
    | none, some h => match oget r h with
     | some (.l (.v (.int _ b))) => (0 <= b /\ b <= (len : Int)) /\ K (.o (.l (.s k wd row b.toNat d))) [] nx
     | _ => False
    | some l, some h => match oget r l, oget r h with
     | some (.l (.v (.int _ a))), some (.l (.v (.int _ b))) => (0 <= a /\ a <= b /\ b <= (len : Int)) /\
       K (.o (.l (.s k wd (nadd row a.toNat) (b.toNat - a.toNat) (dcut a.toNat d)))) [] nx
     | _, _ => False
   | false => False
  | y => slcX wd r y lo hi fun v => K (.o (.l v)) [] nx
 | .slt x lo hi => match oget r x with
  | some (.l (.v (.string s))) => match lo, hi with
   | none, none => K (.o (.l (.v (.string s)))) [] nx
   | some l, none => match oget r l with
    | some (.l (.v (.int _ a))) => (0 <= a /\ a <= (s.size : Int)) /\ K (.o (.l (.v (.string (s.extract a.toNat s.size))))) [] nx
    | _ => False
   | none, some h => match oget r h with
    | some (.l (.v (.int _ b))) => (0 <= b /\ b <= (s.size : Int)) /\ K (.o (.l (.v (.string (s.extract 0 b.toNat))))) [] nx
    | _ => False
   | some l, some h => match oget r l, oget r h with
    | some (.l (.v (.int _ a))), some (.l (.v (.int _ b))) => (0 <= a /\ a <= b /\ b <= (s.size : Int)) /\ K (.o (.l (.v (.string (s.extract a.toNat b.toNat))))) [] nx
    | _, _ => False
  | _ => False
 | .app wd bytes s x => match oget r s, oget r x with
  | some (.l (.s k wd' row len _)), some (.l (.s k2 wd2 row2 len2 _)) => match Nat.beq wd' wd, Nat.beq wd2 wd, Nat.beq k k2, row with
   | true, true, false, 0 => match hget hp k, hget hp k2 with
    | some (.ar wa n f), some (.ar wb m g) => match Nat.beq wa wd, Nat.beq wb wd with
     | true, true => (len = n /\ row2 + len2 <= m /\ (len + len2) * bytes <= 140737488355328) /\
       K (.o (.l (.s nx wd 0 (len + len2) 0))) [(nx, some (.ar wd (len + len2) fun j => if j < len then f j else g (nadd row2 (j - len)))), (k, none)] (nx + 1)
     | _, _ => False
    | some (.ar wa n f), some (.ro wb m g) => match Nat.beq wa wd, Nat.beq wb wd with
     | true, true => (len = n /\ row2 + len2 <= m /\ (len + len2) * bytes <= 140737488355328) /\
       K (.o (.l (.s nx wd 0 (len + len2) 0))) [(nx, some (.ar wd (len + len2) fun j => if j < len then f j else g (nadd row2 (j - len)))), (k, none)] (nx + 1)
     | _, _ => False
    | _, _ => False
   | _, _, _, _ => False
  | some (.l (.v (.slice none 0 0))), some (.l (.s k2 wd2 row2 len2 _)) => match Nat.beq wd2 wd with
   | true => match hget hp k2 with
    | some (.ar wb m g) => match Nat.beq wb wd with
     | true => (row2 + len2 <= m /\ len2 * bytes <= 140737488355328) /\
       K (.o (.l (.s nx wd 0 len2 0))) [(nx, some (.ar wd len2 fun j => g (nadd row2 j)))] (nx + 1)
     | false => False
    | some (.ro wb m g) => match Nat.beq wb wd with
     | true => (row2 + len2 <= m /\ len2 * bytes <= 140737488355328) /\
       K (.o (.l (.s nx wd 0 len2 0))) [(nx, some (.ar wd len2 fun j => g (nadd row2 j)))] (nx + 1)
     | false => False
    | _ => False
   | false => False
  | y, z => appX hp wd bytes nx y z K
 | .call f args => match ogets r args with
  | some xs => CallP f xs hp nx fun x u n => svK x fun x => ZFm u fun u => natK n fun n => K x u n
  | none => False
 | .callv fv args => match oget r fv, ogets r args with
  | some (.l (.c f ks)), some xs => CallP f (xs ++ ks.map fun k => .l (.p k 0 0 0)) hp nx fun x u n => svK x fun x => ZFm u fun u => natK n fun n => K x u n
  | some (.l (.v (.func (.func f) ⟨[]⟩ ⟨[]⟩))), some xs => CallP f xs hp nx fun x u n => svK x fun x => ZFm u fun u => natK n fun n => K x u n
  | _, _ => False
 | .inv recv name args => match oget r recv, ogets r args with
  | some x, some xs => InvP x name xs hp nx fun x u n => svK x fun x => ZFm u fun u => natK n fun n => K x u n
  | _, _ => False
 | .mki t x => match oget r x with
  | some (.l (.p k 0 0 0)) => K (.o (.l (.i t k))) [] nx
  | some (.l (.v x)) => K (.o (.l (.v (.iface t x)))) [] nx
  | _ => False
 | .mkf f caps => match caps.foldr (fun o (acc : Option (List Nat)) => match oget r o, acc with
    | some (.l (.p k 0 0 0)), some ks => some (k :: ks)
    | _, _ => none) (some []) with
  | some ks => K (.o (.l (.c f ks))) [] nx
  | none => False
 | .mp q qe op => evM q qe op r hp nx K
 | .esc op => EscP op r hp nx K
def ZLK (o : IOp) (next : Regs -> Heap -> Nat -> (Regs -> Heap -> Nat -> Prop) -> Prop) (r : Regs) (h : Heap) (n : Nat) (K : Regs -> Heap -> Nat -> Prop) : Prop := match o.guard with
  | none => evI CallP InvP EscP o.i r h n fun x u n' => catH u h fun h' => match o.dst with
   | some d => next ((d, x) :: r) h' n' K
   | none => next r h' n' K
  | some (g, want) => match rget r g with
   | some (.o (.l (.v (.bool b)))) => @Bool.rec (fun _ => Prop)
    (match want with
     | true => match o.dst with
      | some d => next ((d, ZBe) :: (g, ZAR false) :: r) h n K
      | none => next ((g, ZAR false) :: r) h n K
     | false => evI CallP InvP EscP o.i ((g, ZAR false) :: r) h n fun x u n' => catH u h fun h' => match o.dst with
      | some d => next ((d, x) :: (g, ZAR false) :: r) h' n' K
      | none => next ((g, ZAR false) :: r) h' n' K)
    (match want with
     | false => match o.dst with
      | some d => next ((d, ZBe) :: (g, ZAR true) :: r) h n K
      | none => next ((g, ZAR true) :: r) h n K
     | true => evI CallP InvP EscP o.i ((g, ZAR true) :: r) h n fun x u n' => catH u h fun h' => match o.dst with
      | some d => next ((d, x) :: (g, ZAR true) :: r) h' n' K
      | none => next ((g, ZAR true) :: r) h' n' K) b
   | some _ => match o.dst with
    | some d => next ((d, ZBe) :: r) h n K
    | none => next r h n K
   | none => False
def ZSI (r : Regs) (h : Heap) (n : Nat) (K : Regs -> Heap -> Nat -> Prop) : Prop := K r h n
noncomputable def ZIq (l : List IOp) : Regs -> Heap -> Nat -> (Regs -> Heap -> Nat -> Prop) -> Prop :=
 @List.rec IOp (fun _ => Regs -> Heap -> Nat -> (Regs -> Heap -> Nat -> Prop) -> Prop) ZSI (fun o _ next => ZLK CallP InvP EscP o next) l
theorem ZND (o : IOp) (rest : List IOp) (r : Regs) (h : Heap) (n : Nat) (K : Regs -> Heap -> Nat -> Prop) : ZIq CallP InvP EscP (o :: rest) r h n K = ZLK CallP InvP EscP o (ZIq CallP InvP EscP rest) r h n K := rfl
abbrev CK := Regs -> Heap -> Nat -> (X -> Regs -> Heap -> Nat -> Prop) -> Prop
def ZSh : CK := fun r h n K => K .nrm r h n
noncomputable def cReg (ops : List IOp) : CK := fun r h n K => ZIq CallP InvP EscP ops r h n fun r h n => K .nrm r h n
def ZSi (ops : List IOp) (after : List (List Nat)) : CK := fun r h n K => DrawP ops after r h n K
def cSeq (a b : CK) : CK := fun r h n K => a r h n fun e r h n => match e with
  | .nrm => b r h n K
  | .ex id => K (.ex id) r h n
  | .ret => K .ret r h n
def cJn (a b : IC) : CK := fun r h n K => LoopP (.loop (.jn a b)) r h n K
def ZHS (c : O) (a b : CK) : CK := fun r h n K => match c with
  | .r t => match rget r t with
   | some (.o (.l (.v (.bool x)))) => @Bool.rec (fun _ => Prop) (b ((t, ZAR false) :: r) h n K) (a ((t, ZAR true) :: r) h n K) x
   | _ => False
  | _ => False
def cBlk (id : Nat) (b : CK) : CK := fun r h n K => b r h n fun e r h n => match e with
  | .nrm => K .nrm r h n
  | .ret => K .ret r h n
  | .ex j => match Nat.beq j id with
   | true => K .nrm r h n
   | false => K (.ex j) r h n
def ZHT (b : IC) : CK := fun r h n K => match b with
  | .loop _ => False
  | _ => LoopP b r h n K
def ZSj (id : Nat) : CK := fun r h n K => K (.ex id) r h n
def cRet : CK := fun r h n K => K .ret r h n
noncomputable def evC (ic : IC) : CK :=
 @IC.rec (fun _ => CK) ZSh (fun ops => cReg CallP InvP EscP ops) (fun ops after => ZSi DrawP ops after) (fun _ _ a b => cSeq a b) (fun a b _ _ => cJn LoopP a b) (fun c _ _ a b => ZHS c a b)
  (fun id _ b => cBlk id b) (fun b _ => ZHT LoopP b) ZSj cRet ic
section
variable (r : Regs) (h : Heap) (n : Nat) (K : X -> Regs -> Heap -> Nat -> Prop)
theorem ZC7 : evC CallP InvP EscP LoopP DrawP .skip r h n K = K .nrm r h n := rfl
theorem ZD3 (ops : List IOp) : evC CallP InvP EscP LoopP DrawP (.reg ops) r h n K = ZIq CallP InvP EscP ops r h n fun r h n => K .nrm r h n := rfl
theorem ZC8 (ops : List IOp) (after : List (List Nat)) : evC CallP InvP EscP LoopP DrawP (.draw ops after) r h n K = DrawP ops after r h n K := rfl
theorem ZD4 (a b : IC) : evC CallP InvP EscP LoopP DrawP (.seq a b) r h n K = cSeq (evC CallP InvP EscP LoopP DrawP a) (evC CallP InvP EscP LoopP DrawP b) r h n K := rfl
theorem ZF1 (a b : IC) : evC CallP InvP EscP LoopP DrawP (.jn a b) r h n K = LoopP (.loop (.jn a b)) r h n K := rfl
theorem ZC9 (c : O) (a b : IC) : evC CallP InvP EscP LoopP DrawP (.cond c a b) r h n K = ZHS c (evC CallP InvP EscP LoopP DrawP a) (evC CallP InvP EscP LoopP DrawP b) r h n K := rfl
theorem ZD5 (id : Nat) (b : IC) : evC CallP InvP EscP LoopP DrawP (.blk id b) r h n K = cBlk id (evC CallP InvP EscP LoopP DrawP b) r h n K := rfl
theorem ZDA (b : IC) : evC CallP InvP EscP LoopP DrawP (.loop b) r h n K = ZHT LoopP b r h n K := rfl
theorem ZDB (id : Nat) : evC CallP InvP EscP LoopP DrawP (.exit id) r h n K = K (.ex id) r h n := rfl
theorem ZD6 : evC CallP InvP EscP LoopP DrawP .ret r h n K = K .ret r h n := rfl
end
end
theorem ZAB {p : Prop} (h : p := by repeat' (first | exact trivial | exact rfl | (intro _ _; exact rfl) | (intro _ hj; exact absurd hj (Nat.not_lt_zero _)) | exact Nat.le_refl _ | exact Or.inl (Or.inl (And.intro (fun h => h) rfl)) | exact Or.inl rfl | apply And.intro)) : p := h
theorem ZJ2 {p : Prop} (h : p := by repeat' (first | exact trivial | exact rfl | apply And.intro)) : p := h
end Go.Sx
