/- From the model's code to the abstract evaluator's: what a piece of code is made of, with all that hangs on types looked up. Only definitions. -/
import Derived.Test.YtiiajdfjnamfcaaGreatAbsDefs
set_option autoImplicit false
namespace Go.Abs
open Go
def scalarV : Value → Option AV
 | .bool b => some (.bool b)
 | .int k n => some (.int k n)
 | .string b => some (.str (b.data.toList.map (·.toNat)))
 | .pointer none => some .nilptr
 | .slice none 0 0 => some .nilslc
 | .map none => some .nilmap
 | .nilFunc => some .nilfn
 | .nilIface => some .nilifc
 | _ => none
def scalarVs : List Value → Option (List AV)
 | [] => some []
 | v :: vs => match scalarV v, scalarVs vs with
  | some x, some xs => some (x :: xs)
  | _, _ => none
def constV : Value → Option AV
 | .agg cs => (scalarVs cs.toList).map .agg
 | .tuple vs => if vs.size = 0 then some (.tup []) else none
 | .func (.func f) a b => if a.size = 0 ∧ b.size = 0 then some (.fn f [] []) else none
 | .iface t v => (scalarV v).map (.ifc t ·)
 | v => scalarV v
def compO : Operand → Option AO
 | .tmp t => some (.t t)
 | .const v => (constV v).map .c
 | .func f => some (.c (.fn f [] []))
 | .global _ => none
def compOs : List Operand → Option (List AO)
 | [] => some []
 | x :: xs => match compO x, compOs xs with
  | some a, some as => some (a :: as)
  | _, _ => none
def compOo : Option Operand → Option (Option AO)
 | none => some none
 | some x => (compO x).map some
section
variable (P : Program)
def sizeT (t : TypeId) : Option Nat := (P.info? t).map (·.size)
def bytesT (t : TypeId) : Option Nat := (P.info? t).map (·.bytes)
def zeroT (t : TypeId) : Option AV := match P.info? t with
 | some i => match i.zero with
  | some v => match constV v with
   | some z => if plainV z then some z else none
   | none => none
  | none => none
 | none => none
def zerosT (t : TypeId) : Option (List AV) := match zeroT P t, sizeT P t with
 | some z, some n => if (cellsOf z).length = n then some (cellsOf z) else none
 | _, _ => none
def aggT (t : TypeId) : Option Bool := match P.underlying t with
 | some (.struct _) | some (.array _ _) => some true
 | some _ => some false
 | none => none
def elemT (t : TypeId) : Option TypeId := match P.underlying t with
 | some (.slice e) => some e
 | _ => none
def flatFs (flat : TypeId → Option (List CK)) : List Field → Nat → Option (List CK)
 | [], _ => some []
 | f :: fs, off =>
  if f.name = "_" then none else if f.offset ≠ off then none else
  match flat f.type, sizeT P f.type with
  | some ks, some n => if ks.length ≠ n then none else match flatFs flat fs (off + n) with
   | some r => some (ks ++ r)
   | none => none
  | _, _ => none
def flatT : Nat → TypeId → Option (List CK)
 | 0, _ => none
 | d + 1, t => match P.underlying t with
  | some .bool => some [.b]
  | some (.int _) => some [.i]
  | some .string => some [.s]
  | some (.struct fs) => if P.stoodInHeld t then none else flatFs P (flatT d) fs.toList 0
  | _ => none
def partsS (fs : Array Field) : List (Nat × Operand) → Option (List (Nat × Nat × AO))
 | [] => some []
 | (i, x) :: r => match fs[i]? with
  | none => none
  | some f => match sizeT P f.type, compO x, partsS fs r with
   | some n, some a, some l => some ((f.offset, n, a) :: l)
   | _, _, _ => none
def partsA (size : Nat) : List (Nat × Operand) → Option (List (Nat × Nat × AO))
 | [] => some []
 | (i, x) :: r => match compO x, partsA size r with
  | some a, some l => some ((i * size, size, a) :: l)
  | _, _ => none
def sizesOk (fs : List Field) : Bool := fs.all fun f => (sizeT P f.type).isSome
def isNilC : Operand → Bool
 | .const .nilIface => true
 | _ => false
def compEq (neg : Bool) (t : TypeId) (x y : Operand) : Option AOp :=
 match compO x, compO y with
 | some a, some b =>
  match P.underlying t with
  | some (.int _) | some .string => some (.p (.bin (if neg then .neq else .eql) a b))
  | some .bool => some (.p (.eq neg (.flat false [.b]) a b))
  | some (.struct _) => if P.eqGuardType P.depth t then none else match flatT P 4 t with
   | some ks => some (.p (.eq neg (.flat true ks) a b))
   | none => none
  | some (.pointer _) => some (.p (.eq neg .ptrnil a b))
  | some (.slice _) => some (.p (.eq neg .slcnil a b))
  | some (.map _ _) => some (.p (.eq neg .mapnil a b))
  | some (.func _ _ _) => some (.p (.eq neg .fnnil a b))
  | some (.interface _) => if isNilC x || isNilC y then some (.p (.eq neg .ifcnil a b)) else none
  | _ => none
 | _, _ => none
def compConv (src dst : TypeId) (x : Operand) : Option AOp :=
 match compO x with
 | none => none
 | some a => match P.underlying src, P.underlying dst with
  | some (.int _), some (.int k) => some (.p (.toInt k a))
  | some .string, some .string => some (.p (.same a))
  | some (.slice e), some .string => match P.underlying e with
   | some (.int .u8) => some (.r .b2s a a)
   | _ => none
  | some .string, some (.slice e) => match P.underlying e with
   | some (.int .u8) => if sizeT P e = some 1 then some (.a (.s2b a)) else none
   | _ => none
  | _, _ => none
def compBuiltin (b : Builtin) (args : List Operand) (ts : Array TypeId) : Option AOp :=
 match compOs args with
 | none => none
 | some as => match b, as, ts[0]? with
  | .len, [a], some t => match P.underlying t with
   | some .string => some (.p (.len true a))
   | some (.slice _) => some (.p (.len false a))
   | some (.array n _) => some (.p (.const (.int .i64 n)))
   | some (.pointer arr) => match P.underlying arr with
    | some (.array n _) => some (.p (.const (.int .i64 n)))
    | _ => none
   | some (.map _ _) => some (.r .mlen a a)
   | _ => none
  | .append, [a, b], some t => match elemT P t with
   | none => none
   | some e => match sizeT P e, bytesT P e, zerosT P e with
    | some n, some k, some _ =>
     if n = 0 ∨ k > 1048576 then none else
     match ts[1]? with
     | none => some (.e (.append n k a b))
     | some u => match P.underlying u with
      | some (.int _) => none
      | some _ => some (.e (.append n k a b))
      | none => none
    | _, _, _ => none
  | .copy, [a, b], some t => match elemT P t with
   | none => none
   | some e => match sizeT P e with
    | some n => if n = 0 then none else some (.e (.copy n a b))
    | none => none
  | .delete, [a, b], some t => match P.underlying t with
   | some (.map k _) => match flatT P 4 k, aggT P k with
    | some ks, some ag => some (.e (.mdel ag ks a b))
    | _, _ => none
   | _ => none
  | .max, as, _ => some (.p (.mmax as))
  | .min, as, _ => some (.p (.mmin as))
  | _, _, _ => none
def compCall (c : Call) : Option AOp :=
 match c.callee with
 | .builtin b => compBuiltin P b c.args.toList c.argTypes
 | .invoke _ _ => none
 | .value (.func f) => (compOs c.args.toList).map fun as => .e (.call f as)
 | .value f => match compO f, compOs c.args.toList with
  | some g, some as => some (.e (.callv g as))
  | _, _ => none
def compSlice (t : TypeId) (x : Operand) (lo hi mx : Option Operand) : Option AOp :=
 match compO x, compOo lo, compOo hi, compOo mx with
 | some a, some l, some h, some m =>
  if mx.isSome && hi.isNone then none else
  match P.underlying t with
  | some (.array n e) => (sizeT P e).map fun sz => .p (.sarr n sz a l h m)
  | some .string => if mx.isSome then none else some (.p (.sstr a l h))
  | some (.slice e) => match sizeT P e with
   | some sz => if sz = 0 then none else some (.p (.sslc sz a l h m))
   | none => none
  | some (.pointer arr) => match P.underlying arr with
   | some (.array n e) => (sizeT P e).map fun sz => .p (.sarr n sz a l h m)
   | _ => none
  | _ => none
 | _, _, _, _ => none
def compOp : Op → Option AOp
 | .move x | .assign x => (compO x).map fun a => .p (.mov a)
 | .pick c a b => match compO c, compO a, compO b with
  | some c, some a, some b => some (.p (.pick c a b))
  | _, _, _ => none
 | .alloc e => (zeroT P e).map fun z => .a (.alloc (cellsOf z))
 | .box _ x => (compO x).map fun a => .a (.box a)
 | .build t parts => match zeroT P t, P.underlying t with
  | some z, some (.struct fs) => if sizesOk P fs.toList then (partsS P fs parts.toList).map fun l => .p (.build (cellsOf z) l) else none
  | some z, some (.array _ e) => match sizeT P e with
   | some n => (partsA n parts.toList).map fun l => .p (.build (cellsOf z) l)
   | none => none
  | _, _ => none
 | .buildSlice t len parts => match elemT P t with
  | none => none
  | some e => match sizeT P e, zerosT P e with
   | some n, some zs => if len * n > 16777216 ∨ n = 0 then none else (partsA n parts.toList).map fun l => .a (.lits len n zs l)
   | _, _ => none
 | .load t a => match compO a, aggT P t, sizeT P t with
  | some a, some true, some n => some (.r (.loadn n) a a)
  | some a, some false, _ => some (.r .load1 a a)
  | _, _, _ => none
 | .store t a x => match compO a, compO x, sizeT P t with
  | some a, some x, some n => some (.e (.store n a x))
  | _, _, _ => none
 | .nilCheck x => (compO x).map fun a => .p (.nilchk a)
 | .binOp op t x y _ => match op with
  | .eql => compEq P false t x y
  | .neq => compEq P true t x y
  | op => match compO x, compO y with
   | some a, some b => some (.p (.bin op a b))
   | _, _ => none
 | .unOp op _ x => (compO x).map fun a => .p (.un op a)
 | .convert s d x => compConv P s d x
 | .makeInterface t x => match compO x, P.underlying t with
  | _, some (.interface _) => none
  | some a, some _ => some (.p (.mkifc t a))
  | _, _ => none
 | .makeFunc (.func f) first captured => match compOs first.toList, compOs captured.toList with
  | some a, some b => some (.p (.mkfn f a b))
  | _, _ => none
 | .makeMap _ none => some (.a .mkmap)
 | .makeSlice t l c => match elemT P t, compO l, compO c with
  | some e, some l, some c => match sizeT P e, bytesT P e, zerosT P e with
   | some n, some k, some zs => if n = 0 then none else some (.a (.mkslc n k zs l c))
   | _, _, _ => none
  | _, _, _ => none
 | .slice t x lo hi mx => compSlice P t x lo hi mx
 | .fieldAddr t x f => match compO x, P.underlying t with
  | some a, some (.struct fs) => match fs[f]? with
   | some fd => match sizeT P fd.type with
    | some n => if n = 0 then none else some (.p (.fadr fd.offset n a))
    | none => none
   | none => none
  | _, _ => none
 | .field t x f => match compO x, P.underlying t with
  | some a, some (.struct fs) => match fs[f]? with
   | some fd => match sizeT P fd.type, aggT P fd.type with
    | some n, some g => some (.p (.field g fd.offset n a))
    | _, _ => none
   | none => none
  | _, _ => none
 | .indexAddr t x i => match compO x, compO i, P.underlying t with
  | some a, some b, some (.slice e) => match sizeT P e with
   | some n => if n = 0 then none else some (.p (.iadr n a b))
   | none => none
  | some a, some b, some (.array len e) => match sizeT P e with
   | some n => if n = 0 then none else some (.p (.aadr len n a b))
   | none => none
  | _, _, _ => none
 | .index t x i => match compO x, compO i, P.underlying t with
  | some a, some b, some .string => some (.p (.idxs a b))
  | some a, some b, some (.array len e) => match sizeT P e, aggT P e with
   | some n, some g => some (.p (.idxa g len n a b))
   | _, _ => none
  | _, _, _ => none
 | .lookup t x i ok => match compO x, compO i, P.underlying t with
  | some a, some b, some (.map k e) => match flatT P 4 k, aggT P k, zeroT P e with
   | some ks, some ag, some z => some (.r (.lookup ag ks z ok) a b)
   | _, _, _ => none
  | _, _, _ => none
 | .mapUpdate t m k v | .insert t m k v => match compO m, compO k, compO v, P.underlying t with
  | some m, some k, some v, some (.map kt _) => match flatT P 4 kt, aggT P kt with
   | some ks, some ag => some (.e (.mupd ag ks m k v))
   | _, _ => none
  | _, _, _, _ => none
 | .mapEntry t m k => match compO m, compO k, P.underlying t with
  | some m, some k, some (.map kt e) => match flatT P 4 kt, aggT P kt, zeroT P e with
   | some ks, some ag, some z => some (.e (.ment ag ks z m k))
   | _, _, _ => none
  | _, _, _ => none
 | .entryStore _ m n v => match compO m, compO n, compO v with
  | some m, some n, some v => some (.e (.mput m n v))
  | _, _, _ => none
 | .range t x => match compO x, P.underlying t with
  | some a, some .string => some (.e (.rng true a))
  | some a, some (.map _ _) => some (.e (.rng false a))
  | _, _ => none
 | .next it str => (compO it).map fun a => .e (.next str a)
 | .entry it => (compO it).map fun a => .r .ment a a
 | .typeAssert x _ t ok => match compO x, P.underlying t, zeroT P t with
  | _, some (.interface _), _ => none
  | some a, some _, some z => some (.p (.tas t z ok a))
  | _, _, _ => none
 | .extract x i => (compO x).map fun a => .p (.ext a i)
 | .call c => compCall P c
 | _ => none
def preOf (pres : List Nat) (o : Oper) : Nat :=
 o.after.toList.foldl (fun s e => if Region.binds .any e then s ||| 2 ^ e.on ||| pres.getD e.on 0 else s) 0
def compGuard (ops : Array Oper) : Option (Nat × Bool) → Option (Option (Nat × Bool))
 | none => some none
 | some (j, w) => match ops[j]? with
  | some o => match o.dst with
   | some t => some (some (t, w))
   | none => none
  | none => none
def compOpers (ops : Array Oper) : List Oper → List Nat → Option (List AOper)
 | [], _ => some []
 | o :: os, pres => match compOp P o.op, compGuard ops o.guard with
  | some a, some g =>
   match compOpers ops os (pres ++ [preOf pres o]) with
   | some l => some (⟨o.dst, a, g, preOf pres o⟩ :: l)
   | none => none
  | _, _ => none
end
def AO.tmps : AO → List Nat
 | .t n => [n]
 | .c _ => []
def oTmps : Option AO → List Nat
 | none => []
 | some x => x.tmps
def lTmps (l : List AO) : List Nat := l.flatMap AO.tmps
def pTmps (l : List (Nat × Nat × AO)) : List Nat := l.flatMap fun x => x.2.2.tmps
def POp.tmps : POp → List Nat
 | .mov x | .same x | .nilchk x | .un _ x | .toInt _ x | .mkifc _ x | .fadr _ _ x | .field _ _ _ x | .len _ x | .tas _ _ _ x | .ext x _ => x.tmps
 | .pick c a b => c.tmps ++ a.tmps ++ b.tmps
 | .build _ l => pTmps l
 | .bin _ x y | .eq _ _ x y | .iadr _ x y | .aadr _ _ x y | .idxs x y | .idxa _ _ _ x y => x.tmps ++ y.tmps
 | .mkfn _ a b => lTmps a ++ lTmps b
 | .sstr x l h => x.tmps ++ oTmps l ++ oTmps h
 | .sslc _ x l h m | .sarr _ _ x l h m => x.tmps ++ oTmps l ++ oTmps h ++ oTmps m
 | .const _ => []
 | .mmax l | .mmin l => lTmps l
def LOp.tmps : LOp → List Nat
 | .alloc _ | .mkmap => []
 | .box x | .s2b x => x.tmps
 | .lits _ _ _ l => pTmps l
 | .mkslc _ _ _ a b => a.tmps ++ b.tmps
def EOp.tmps : EOp → List Nat
 | .store _ a x => a.tmps ++ x.tmps
 | .append _ _ a b | .copy _ a b => a.tmps ++ b.tmps
 | .mupd _ _ m k v => m.tmps ++ k.tmps ++ v.tmps
 | .mdel _ _ m k => m.tmps ++ k.tmps
 | .ment _ _ _ m k => m.tmps ++ k.tmps
 | .mput m n v => m.tmps ++ n.tmps ++ v.tmps
 | .rng _ x | .next _ x => x.tmps
 | .call _ l => lTmps l
 | .callv f l => f.tmps ++ lTmps l
def AOp.tmps : AOp → List Nat
 | .p o => o.tmps
 | .r _ x y => x.tmps ++ y.tmps
 | .a o => o.tmps
 | .e o => o.tmps
def gTmps : Option (Nat × Bool) → List Nat
 | none => []
 | some (t, _) => [t]
def AOper.uses (o : AOper) : List Nat := o.op.tmps ++ gTmps o.guard
def AOper.hits (o p : AOper) : Bool := match o.dst with
 | none => false
 | some d => p.uses.contains d || p.dst == some d
def AOp.isE : AOp → Bool
 | .e _ => true
 | _ => false
def AOp.isA : AOp → Bool
 | .a _ => true
 | _ => false
def pairOk (i : Nat) (o p : AOper) : Bool :=
 Nat.testBit p.pre i || (!(o.hits p || p.hits o) && !((o.op.isE || o.op.isA) && p.op.isE))
def rowOk (i : Nat) (o : AOper) : List AOper → Bool
 | [] => true
 | p :: ps => pairOk i o p && rowOk i o ps
def drawOk : Nat → List AOper → Bool
 | _, [] => true
 | i, o :: os => Nat.blt o.pre (2 ^ i) && rowOk i o os && drawOk (i + 1) os
def dstsOk (n : Nat) (ops : List AOper) : Bool := ops.all fun o => match o.dst with
 | none => true
 | some d => Nat.blt d n
def edgesOk (ops : List Oper) : Bool := (ops.zipIdx).all fun (o, i) => o.after.toList.all fun e => !Region.binds .any e || decide (e.on < i)
def hasGoto : Code → Option Nat
 | .seq a b => match hasGoto a with
  | some l => some l
  | none => hasGoto b
 | .cond _ a b => match hasGoto a with
  | some l => some l
  | none => hasGoto b
 | .block _ b | .loop b | .scope b => hasGoto b
 | .goto l => some l
 | _ => none
section
variable (P : Program) (ntmps : Nat)
def compReg (ops : Array Oper) (draw : Bool) : Option ACode :=
 match compOpers P ops ops.toList [] with
 | none => none
 | some l => if dstsOk ntmps l then
   if draw then (if drawOk 0 l && edgesOk ops.toList then some (.draw l) else none) else some (.reg l)
  else none
def compC (sub : Code → Option ACode) : Code → Option ACode
 | .skip => some .skip
 | .label _ => some .skip
 | .region _ ops d => compReg P ntmps ops d
 | .seq a b => match compC sub a, compC sub b with
  | some x, some y => some (.seq x y)
  | _, _ => none
 | .cond c a b => match compO c, compC sub a, compC sub b with
  | some c, some x, some y => some (.cond c x y)
  | _, _, _ => none
 | .block id b => (compC sub b).map (.blk id ·)
 | .loop b => (compC sub b).map .loop
 | .exit id => some (.ext id)
 | .scope b => match compC sub b with
  | none => none
  | some x => match hasGoto b with
   | none => some (.scp x)
   | some l => match findLabel b l with
    | some rest => (sub rest).map (.scpj l x ·)
    | none => none
 | .goto l => some (.goto l)
 | .ret => some .ret
 | _ => none
end
def compRV (P : Program) : ResultVar → Option RV
 | .tmp t => some (.t t)
 | .cell a t => match aggT P t, sizeT P t with
  | some true, some n => some (.cn a n)
  | some false, _ => some (.c1 a)
  | _, _ => none
def compRVs (P : Program) : List ResultVar → Option (List RV)
 | [] => some []
 | r :: rs => match compRV P r, compRVs P rs with
  | some a, some as => some (a :: as)
  | _, _ => none
def compFn (P : Program) (fn : Func) : Option AFunc :=
 if fn.name == "runtime.NumGoroutine" then none else
 match fn.body with
 | none => none
 | some c => match compC P fn.ntmps (compC P fn.ntmps fun _ => none) c, compRVs P fn.results.toList with
  | some b, some r => some ⟨fn.ntmps, r, b⟩
  | _, _ => none
def comp (P : Program) (f : FuncId) : Option AFunc :=
 match P.funcs[f]? with
 | some fn => compFn P fn
 | none => none
end Go.Abs
