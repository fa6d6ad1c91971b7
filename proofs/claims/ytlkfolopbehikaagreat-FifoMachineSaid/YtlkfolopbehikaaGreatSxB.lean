/- part -/
import Derived.Test.YtlkfolopbehikaaGreatSxA
import GoSem.ClaimDataLaid
import GoSem.ClaimKeys
namespace Go.Sx
open Go
def cO : Operand -> Option O
 | .tmp t => some (.r t)
 | .const (.agg cs) => some (.c (.a (cs.toList.map LV.v)))
 | .const v => some (.c (.l (.v v)))
 | .func f => some (.c (.l (.c f [])))
 | .global g => some (.c (.l (.v (.pointer (some ⟨g, 0, none⟩)))))
def cOs : List Operand -> Option (List O)
 | [] => some []
 | x :: xs => match cO x, cOs xs with | some y, some ys => some (y :: ys) | _, _ => none
def ZEa : TypeDesc -> Bool
 | .struct _ | .array _ _ => true
 | _ => false
def ZCA : Operand -> Bool
 | .const _ => true
 | _ => false
def ZEb : TypeDesc -> Option EqK
 | .bool => some .b
 | .int k => some (.k k)
 | .string => some .s
 | .pointer _ => some .p
 | .func .. => some .f
 | .interface _ => some .n
 | _ => none
def eqFields (P : Program) : Nat -> List Field -> Option (List EqK)
 | _, [] => some []
 | n, f :: fs =>
  if f.offset = n /\ f.name ≠ "_" then
   match P.underlying f.type, eqFields P (n + 1) fs with
   | some .bool, some cs => some (.b :: cs)
   | some (.int k), some cs => some (.k k :: cs)
   | _, _ => none
  else none
def ZP2 (P : Program) (m : Nat) (e : TypeId) : Option (List EqK) := match P.underlying e with
 | some (.int k) => if P.cellsOf e = 1 then (match P.info? e with | some _ => some (List.replicate m (.k k)) | none => none) else none
 | _ => none
def cPts (pl : Nat -> Option (Nat × Nat)) : List (Nat × Operand) -> Option (List (Nat × Nat × O))
 | [] => some []
 | (i, x) :: rest => match pl i, cO x, cPts pl rest with
  | some p, some y, some ys => some ((p.1, p.2, y) :: ys)
  | _, _, _ => none
def ZL4 (P : Program) (fs : Array Field) : Option (List (Nat × Nat)) := fs.toList.mapM fun f => (P.info? f.type).map fun i => (f.offset, i.size)
def ZCS (P : Program) (f : FuncId) : Bool :=
 match P.funcs[f]? with
 | some fn => fn.body.isSome && !(fn.name == "runtime.NumGoroutine")
 | none => false
def ZB0 (P : Program) (t : TypeId) : Option (List Value) :=
 match P.info? t with
 | some i => match i.zero with
  | some z => if z.cells.size = i.size then some z.cells.toList else none
  | none => none
 | none => none
def ZRI (P : Program) (kt : TypeId) : Option KK := match P.underlying kt with
 | some (.int q) => some (.i q)
 | some (.struct fs) => match fs.toList with
  | [f, g] => match P.underlying f.type, P.underlying g.type with
   | some (.int a), some (.int b) => if (f.offset = 0 /\ g.offset = 1 /\ (f.name != "_") = true /\ (g.name != "_") = true) /\ (P.cellsOf f.type = 1 /\ P.cellsOf g.type = 1 /\ P.cellsOf kt = 2) /\ P.keyTypeAt 2 kt = true /\ P.keyType kt = true /\ laidOutB P = true /\ kt < P.types.size then some (.p a b) else none
   | _, _ => none
  | _ => none
 | _ => none
def ZFo (P : Program) (t : TypeId) : Option (KK × IntKind) := match P.underlying t with
 | some (.map k e) => match ZRI P k, P.underlying e with
  | some q, some (.int qe) => match P.info? e with
   | some i => match i.zero with
    | some (.int q3 x) => if q3 = qe /\ x = 0 then some (q, qe) else none
    | _ => none
   | none => none
  | _, _ => none
 | _ => none
def cI (P : Program) (o : Oper) : Option I :=
 match o.op with
 | .move x => (cO x).map .mov
 | .assign x => (cO x).map .mov
 | .pick c a b => match cO c, cO a, cO b with | some c, some a, some b => some (.pick c a b) | _, _, _ => none
 | .alloc t => (ZB0 P t).map fun z => .alloc (z.map LV.v)
 | .box _ x => (cO x).map .box
 | .load t a => match cO a, P.underlying t, P.info? t with
  | some x, some d, some i => if ZEa d then some (.lda i.size x) else some (.ld x)
  | _, _, _ => none
 | .store t a v => match cO a, cO v, P.info? t with
  | some x, some y, some i => some (.sto i.size x y)
  | _, _, _ => none
 | .nilCheck x => (cO x).map .nck
 | .binOp op t x y _ => match cO x, cO y, P.underlying t with
  | some a, some b, some d => match op with
   | .add => match d with | .int k => some (.ar .add k a b) | .string => some (.cat a b) | _ => some (.esc o.op)
   | .sub => match d with | .int k => some (.ar .sub k a b) | _ => some (.esc o.op)
   | .mul => match d with | .int k => some (.ar .mul k a b) | _ => some (.esc o.op)
   | .quo => match d with | .int k => some (.dv .quo k a b) | _ => some (.esc o.op)
   | .rem => match d with | .int k => some (.dv .rem k a b) | _ => some (.esc o.op)
   | .and => match d with | .int k => some (.bt .and k a b) | _ => some (.esc o.op)
   | .or => match d with | .int k => some (.bt .or k a b) | _ => some (.esc o.op)
   | .xor => match d with | .int k => some (.bt .xor k a b) | _ => some (.esc o.op)
   | .andNot => match d with | .int k => some (.bt .andNot k a b) | _ => some (.esc o.op)
   | .shl => match d with | .int k => some (.sh .shl k a b) | _ => some (.esc o.op)
   | .shr => match d with | .int k => some (.sh .shr k a b) | _ => some (.esc o.op)
   | .eql => match d with
    | .int k => some (.cmp .eql k a b)
    | .struct fs => match eqFields P 0 fs.toList with
     | some cs => if P.stoodInHeld t = false /\ P.eqGuardType P.depth t = false then some (.eqa cs false a b) else some (.esc o.op)
     | none => some (.esc o.op)
    | .array m e => match ZP2 P m e with
     | some cs => if P.eqGuardType P.depth t = false then some (.eqa cs false a b) else some (.esc o.op)
     | none => some (.esc o.op)
    | .interface _ => if ZCA x || ZCA y then some (.eq .n false a b) else some (.esc o.op)
    | d => match ZEb d with | some c => some (.eq c false a b) | none => some (.esc o.op)
   | .neq => match d with
    | .int k => some (.cmp .neq k a b)
    | .struct fs => match eqFields P 0 fs.toList with
     | some cs => if P.stoodInHeld t = false /\ P.eqGuardType P.depth t = false then some (.eqa cs true a b) else some (.esc o.op)
     | none => some (.esc o.op)
    | .array m e => match ZP2 P m e with
     | some cs => if P.eqGuardType P.depth t = false then some (.eqa cs true a b) else some (.esc o.op)
     | none => some (.esc o.op)
    | .interface _ => if ZCA x || ZCA y then some (.eq .n true a b) else some (.esc o.op)
    | d => match ZEb d with | some c => some (.eq c true a b) | none => some (.esc o.op)
   | .lss => match d with | .int k => some (.cmp .lss k a b) | _ => some (.esc o.op)
   | .leq => match d with | .int k => some (.cmp .leq k a b) | _ => some (.esc o.op)
   | .gtr => match d with | .int k => some (.cmp .gtr k a b) | _ => some (.esc o.op)
   | .geq => match d with | .int k => some (.cmp .geq k a b) | _ => some (.esc o.op)
  | _, _, _ => none
 | .unOp op t x => match cO x, op, P.underlying t with
  | some a, .not, _ => some (.not a)
  | some a, .neg, some (.int k) => some (.neg k a)
  | _, _, _ => some (.esc o.op)
 | .convert src dst x => match cO x, P.underlying src, P.underlying dst with
  | some a, some (.int _), some (.int k) => some (.conv k a)
  | _, _, _ => some (.esc o.op)
 | .makeInterface t x => match cO x, P.underlying t with
  | some _, some (.interface _) => some (.esc o.op)
  | some a, some _ => some (.mki t a)
  | _, _ => none
 | .makeFunc (.func f) first caps => match first.toList, cOs caps.toList with
  | [], some cs => some (.mkf f cs)
  | _, _ => some (.esc o.op)
 | .makeSlice t l c => match P.underlying t, cO l, cO c with
  | some (.slice e), some a, some b => match P.info? e, ZB0 P e with
   | some i, some z => some (.mks i.size i.bytes z a b)
   | _, _ => none
  | _, _, _ => none
 | .slice t x lo hi none => match P.underlying t, cO x, lo.map cO, hi.map cO with
  | some (.slice e), some a, none, none => (P.info? e).map fun i => .slc i.size a none none
  | some (.slice e), some a, some (some l), none => (P.info? e).map fun i => .slc i.size a (some l) none
  | some (.slice e), some a, none, some (some h) => (P.info? e).map fun i => .slc i.size a none (some h)
  | some (.slice e), some a, some (some l), some (some h) => (P.info? e).map fun i => .slc i.size a (some l) (some h)
  | some .string, some a, none, none => some (.slt a none none)
  | some .string, some a, some (some l), none => some (.slt a (some l) none)
  | some .string, some a, none, some (some h) => some (.slt a none (some h))
  | some .string, some a, some (some l), some (some h) => some (.slt a (some l) (some h))
  | _, _, _, _ => some (.esc o.op)
 | .fieldAddr s x j => match P.underlying s, cO x with
  | some (.struct fs), some a => match fs[j]? with
   | some f => match P.info? f.type with
    | some i => if i.size = 0 then some (.esc o.op) else some (.fa f.offset a)
    | none => none
   | none => none
  | _, _ => none
 | .field s x j => match P.underlying s, cO x with
  | some (.struct fs), some a => match fs[j]? with
   | some f => match P.underlying f.type, P.info? f.type with
    | some d, some i => if ZEa d then some (.flda f.offset i.size a) else some (.fld f.offset a)
    | _, _ => none
   | none => none
  | _, _ => none
 | .indexAddr t x i => match P.underlying t, cO x, cO i with
  | some (.slice e), some a, some b => (P.info? e).map fun n => .ixs n.size a b
  | some (.array m e), some a, some b => (P.info? e).map fun n => .ixa n.size m a b
  | _, _, _ => none
 | .index t x i => match P.underlying t, cO x, cO i with
  | some .string, some a, some b => some (.ixt a b)
  | _, _, _ => some (.esc o.op)
 | .extract x j => (cO x).map (.ext j)
 | .build t parts => match P.underlying t, ZB0 P t with
  | some (.struct fs), some z => match ZL4 P fs with
   | some pl => (cPts (pl.toArray[·]?) parts.toList).map fun ps => .bld (z.map LV.v) ps
   | none => none
  | some (.array _ e), some z => match P.info? e with
   | some i => (cPts (fun j => some (j * i.size, i.size)) parts.toList).map fun ps => .bld (z.map LV.v) ps
   | none => none
  | _, _ => none
 | .buildSlice t m parts => match P.underlying t with
  | some (.slice e) => match P.info? e, ZB0 P e with
   | some i, some z => if m * i.size <= 16777216 /\ z.length = i.size /\ i.size ≠ 0 then
     (cPts (fun j => some (j * i.size, i.size)) parts.toList).map fun ps => .bsl i.size m ((List.replicate m z).flatten) ps else none
   | _, _ => none
  | _ => none
 | .makeMap t none => match ZFo P t with | some (q, qe) => some (.mp q qe .mk) | none => some (.esc o.op)
 | .lookup t x i false => match ZFo P t, cO x, cO i with | some (q, qe), some a, some b => some (.mp q qe (.lk a b)) | _, _, _ => some (.esc o.op)
 | .mapUpdate t m k v => match ZFo P t, cO m, cO k, cO v with | some (q, qe), some a, some b, some c => some (.mp q qe (.up a b c)) | _, _, _, _ => some (.esc o.op)
 | .mapEntry t m k => match ZFo P t, cO m, cO k with | some (q, qe), some a, some b => some (.mp q qe (.en a b)) | _, _, _ => some (.esc o.op)
 | .entryStore t m k v => match ZFo P t, cO m, cO k, cO v with | some (q, qe), some a, some b, some c => some (.mp q qe (.st a b c)) | _, _, _, _ => some (.esc o.op)
 | .call { callee := .builtin b, args, argTypes } => match b, args.toList, argTypes.toList with
  | .len, [x], [t] => match cO x, P.underlying t with
   | some a, some (.slice _) => some (.len a)
   | some a, some .string => some (.lens a)
   | some a, some (.map _ _) => match ZFo P t with | some (q, qe) => some (.mp q qe (.ln a)) | none => some (.esc o.op)
   | _, _ => some (.esc o.op)
  | .max, [x, y], [t, _] => match cO x, cO y, P.underlying t with | some a, some b, some (.int k) => some (.mx k a b) | _, _, _ => some (.esc o.op)
  | .min, [x, y], [t, _] => match cO x, cO y, P.underlying t with | some a, some b, some (.int k) => some (.mn k a b) | _, _, _ => some (.esc o.op)
  | .append, [s, x], [t, tx] => match cO s, cO x, P.underlying t with
   | some a, some b, some (.slice e) => match P.info? e, ZB0 P e with
    | some i, some _ => if i.bytes = 0 \/ i.size = 0 \/ t ≠ tx then some (.esc o.op) else some (.app i.size i.bytes a b)
    | _, _ => none
   | _, _, _ => some (.esc o.op)
  | .delete, [x, y], [t, _] => match ZFo P t, cO x, cO y with | some (q, qe), some a, some b => some (.mp q qe (.dl a b)) | _, _, _ => some (.esc o.op)
  | _, _, _ => some (.esc o.op)
 | .call { callee := .value (.func f), args, .. } => match cOs args.toList with
  | some xs => if ZCS P f then some (.call f xs) else some (.esc o.op)
  | none => none
 | .call { callee := .value fv, args, .. } => match cO fv, cOs args.toList with
  | some v, some xs => some (.callv v xs)
  | _, _ => none
 | .call { callee := .invoke r name, args, .. } => match cO r, cOs args.toList with
  | some v, some xs => some (.inv v name xs)
  | _, _ => none
 | op => some (.esc op)
def cG (ops : Array Oper) : Option (Nat × Bool) -> Option (Option (Nat × Bool))
 | none => some none
 | some (j, want) => match (ops[j]?).bind (·.dst) with
  | some d => some (some (d, want))
  | none => none
def ZLL (N : Nat) : Option Nat -> Bool
 | none => true
 | some d => decide (d < N)
def cOp (P : Program) (N : Nat) (ops : Array Oper) (o : Oper) : Option IOp :=
 match cI P o, cG ops o.guard, ZLL N o.dst with
 | some i, some g, true => some ⟨o.dst, g, i⟩
 | _, _, _ => none
def cOps (P : Program) (N : Nat) (ops : Array Oper) : List Oper -> Option (List IOp)
 | [] => some []
 | o :: rest => match cOp P N ops o, cOps P N ops rest with
  | some i, some is => some (i :: is)
  | _, _ => none
def ZCI (o : Oper) : List Nat := (o.after.toList.filter (Region.binds .any ·)).map (·.on)
def ZFQ (id : Nat) : IC -> Nat
 | .exit j => bif Nat.beq j id then 1 else 0
 | .seq a b => ZFQ id a + ZFQ id b
 | .jn a b => ZFQ id a + ZFQ id b
 | .cond _ a b => ZFQ id a + ZFQ id b
 | .blk _ b => ZFQ id b
 | .loop b => ZFQ id b
 | _ => 0
def ZHU : IC -> Nat
 | .skip => 1
 | .reg _ => 1
 | .draw _ _ => 1
 | .seq a b => ZHU a * ZHU b
 | .jn a b => bif Nat.beq (ZHU a) 0 then 0 else ZHU b
 | .cond _ a b => ZHU a + ZHU b
 | .blk id b => ZHU b + ZFQ id b
 | .loop _ => 0
 | .exit _ => 0
 | .ret => 0
def seqJ (x y : IC) : IC := bif Nat.ble (ZHU x) 1 then .seq x y else .jn x y
def cC (P : Program) (N : Nat) : Code -> Option IC
 | .skip => some .skip
 | .label _ => some .skip
 | .region _ ops d => match cOps P N ops ops.toList with
  | some is => if d then some (.draw is (ops.toList.map ZCI)) else some (.reg is)
  | none => none
 | .seq a b => match cC P N a, cC P N b with | some x, some y => some (seqJ x y) | _, _ => none
 | .cond c a b => match cO c, cC P N a, cC P N b with | some c, some x, some y => some (.cond c x y) | _, _, _ => none
 | .block id b => (cC P N b).map (.blk id)
 | .loop b => (cC P N b).map .loop
 | .exit id => some (.exit id)
 | .ret => some .ret
 | _ => none
def cF (P : Program) (f : Func) : Option IC := match f.body with | some c => cC P f.ntmps c | none => none
def zm (d s : Nat) : IOp := ⟨some d, none, .mov (.r s)⟩
def zn (d s : Nat) : IOp := ⟨some d, none, .nck (.r s)⟩
def zf (d o s : Nat) : IOp := ⟨some d, none, .fa o (.r s)⟩
def zl (d s : Nat) : IOp := ⟨some d, none, .ld (.r s)⟩
def zc (d f : Nat) (xs : List Nat) : IOp := ⟨some d, none, .call f (xs.map .r)⟩
def zo (d : Nat) (i : I) : IOp := ⟨some d, none, i⟩
def zs (w a b : Nat) : IOp := ⟨none, none, .sto w (.r a) (.r b)⟩
instance (n : Nat) : OfNat O n := ⟨.r n⟩
def zi (n : Int) : O := .c (.l (.v (.int .i64 n)))
end Go.Sx
