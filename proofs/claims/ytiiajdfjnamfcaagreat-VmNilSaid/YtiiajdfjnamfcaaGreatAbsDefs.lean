/- An abstract evaluator for the Go model's code: values without addresses, a store of objects, one order of evaluation. No statement stands here, only definitions. -/
import GoSem.Dispatch
import GoSem.Step
import Derived.KernelRfl
set_option autoImplicit false
namespace Go.Abs
open Go
inductive Tr (α : Type) where
 | e : Tr α
 | n (v : Option α) (a b c d p q r s : Tr α) : Tr α
namespace Tr
variable {α : Type}
noncomputable def sel {β : Type} (j : Nat) (a b c d p q r s : β) : β :=
 Bool.rec
  (Bool.rec (Bool.rec s r (Nat.beq j 6)) (Bool.rec q p (Nat.beq j 4)) (Nat.blt j 6))
  (Bool.rec (Bool.rec d c (Nat.beq j 2)) (Bool.rec b a (Nat.beq j 0)) (Nat.blt j 2))
  (Nat.blt j 4)
noncomputable def get (t : Tr α) : Nat → Option α :=
 Tr.rec (motive := fun _ => Nat → Option α) (fun _ => none)
  (fun v _ _ _ _ _ _ _ _ a b c d p q r s k => Nat.rec (motive := fun _ => Option α) v (fun k _ => sel (k % 8) a b c d p q r s (k / 8)) k) t
noncomputable def top (x : Option α) (t : Tr α) : Tr α :=
 Tr.rec (motive := fun _ => Tr α) (.n x .e .e .e .e .e .e .e .e) (fun _ a b c d p q r s _ _ _ _ _ _ _ _ => .n x a b c d p q r s) t
noncomputable def setF (x : Option α) (f : Nat) : Nat → Tr α → Tr α :=
 Nat.rec (motive := fun _ => Nat → Tr α → Tr α)
  (fun k t => Nat.rec (motive := fun _ => Tr α) (top x t) (fun _ _ => t) k)
  (fun _ ih k t => Nat.rec (motive := fun _ => Tr α) (top x t) (fun k _ =>
   Tr.rec (motive := fun _ => Tr α)
    (sel (k % 8) (.n none (ih (k / 8) .e) .e .e .e .e .e .e .e) (.n none .e (ih (k / 8) .e) .e .e .e .e .e .e) (.n none .e .e (ih (k / 8) .e) .e .e .e .e .e) (.n none .e .e .e (ih (k / 8) .e) .e .e .e .e)
     (.n none .e .e .e .e (ih (k / 8) .e) .e .e .e) (.n none .e .e .e .e .e (ih (k / 8) .e) .e .e) (.n none .e .e .e .e .e .e (ih (k / 8) .e) .e) (.n none .e .e .e .e .e .e .e (ih (k / 8) .e)))
    (fun v a b c d p q r s _ _ _ _ _ _ _ _ =>
     sel (k % 8) (.n v (ih (k / 8) a) b c d p q r s) (.n v a (ih (k / 8) b) c d p q r s) (.n v a b (ih (k / 8) c) d p q r s) (.n v a b c (ih (k / 8) d) p q r s)
      (.n v a b c d (ih (k / 8) p) q r s) (.n v a b c d p (ih (k / 8) q) r s) (.n v a b c d p q (ih (k / 8) r) s) (.n v a b c d p q r (ih (k / 8) s))) t) k) f
noncomputable def set (t : Tr α) (k : Nat) (x : Option α) : Tr α := setF x k k t
theorem get_e (k : Nat) : (Tr.e : Tr α).get k = none := rfl
theorem sel_cases {β : Type} (j : Nat) (hj : j < 8) (a b c d p q r s : β) :
  sel j a b c d p q r s = if j = 0 then a else if j = 1 then b else if j = 2 then c else if j = 3 then d else if j = 4 then p else if j = 5 then q else if j = 6 then r else s := by
 have : j = 0 ∨ j = 1 ∨ j = 2 ∨ j = 3 ∨ j = 4 ∨ j = 5 ∨ j = 6 ∨ j = 7 := by omega
 rcases this with h | h | h | h | h | h | h | h <;> subst h <;> rfl
theorem get_succ (v : Option α) (a b c d p q r s : Tr α) (k : Nat) : (Tr.n v a b c d p q r s).get (k + 1) = sel (k % 8) a.get b.get c.get d.get p.get q.get r.get s.get (k / 8) := rfl
theorem set_zero (x : Option α) (f : Nat) (t : Tr α) : setF x f 0 t = top x t := by cases f <;> rfl
theorem get_top (x : Option α) (t : Tr α) (j : Nat) : (top x t).get j = if j = 0 then x else t.get j := by
 cases t with
 | e =>
  cases j with
  | zero => rfl
  | succ j =>
   rw [if_neg (by omega), get_e]
   show (Tr.n x .e .e .e .e .e .e .e .e).get (j + 1) = none
   rw [get_succ]
   have : j % 8 < 8 := Nat.mod_lt _ (by omega)
   rw [sel_cases _ this]
   repeat' split
   all_goals rfl
 | n v a b c d p q r s => cases j <;> rfl
noncomputable def kid (t : Tr α) (j : Nat) : Tr α := Tr.rec (motive := fun _ => Tr α) .e (fun _ a b c d p q r s _ _ _ _ _ _ _ _ => sel j a b c d p q r s) t
theorem get_kid (t : Tr α) (k : Nat) : t.get (k + 1) = (t.kid (k % 8)).get (k / 8) := by
 have hlt : k % 8 < 8 := Nat.mod_lt _ (by omega)
 cases t with
 | e => rfl
 | n v a b c d p q r s =>
  rw [get_succ]
  show _ = (sel (k % 8) a b c d p q r s).get (k / 8)
  rw [sel_cases _ hlt, sel_cases _ hlt]
  repeat' split
  all_goals rfl
theorem kid_set (x : Option α) (f k : Nat) (t : Tr α) (j : Nat) (hj : j < 8) : (setF x (f + 1) (k + 1) t).kid j = if j = k % 8 then setF x f (k / 8) (t.kid j) else t.kid j := by
 have hk : k % 8 < 8 := Nat.mod_lt _ (by omega)
 have hj' : j = 0 ∨ j = 1 ∨ j = 2 ∨ j = 3 ∨ j = 4 ∨ j = 5 ∨ j = 6 ∨ j = 7 := by omega
 have key : ∀ m, m < 8 → k % 8 = m → (setF x (f + 1) (k + 1) t).kid j = if j = m then setF x f (k / 8) (t.kid j) else t.kid j := by
  intro m hm he
  have hm' : m = 0 ∨ m = 1 ∨ m = 2 ∨ m = 3 ∨ m = 4 ∨ m = 5 ∨ m = 6 ∨ m = 7 := by omega
  cases t with
  | e =>
   show (kid (sel (k % 8) _ _ _ _ _ _ _ _) j) = _
   rw [he]
   rcases hm' with h | h | h | h | h | h | h | h <;> subst h <;> rcases hj' with h | h | h | h | h | h | h | h <;> subst h <;> rfl
  | n v a b c d p q r s =>
   show (kid (sel (k % 8) _ _ _ _ _ _ _ _) j) = _
   rw [he]
   rcases hm' with h | h | h | h | h | h | h | h <;> subst h <;> rcases hj' with h | h | h | h | h | h | h | h <;> subst h <;> rfl
 exact key _ hk rfl
theorem get_setF (x : Option α) : ∀ (f k : Nat) (t : Tr α) (j : Nat), k ≤ f → (setF x f k t).get j = if j = k then x else t.get j := by
 intro f
 induction f with
 | zero =>
  intro k t j hk
  have : k = 0 := by omega
  subst this
  rw [set_zero, get_top]
 | succ f ih =>
  intro k t j hk
  cases k with
  | zero => rw [set_zero, get_top]
  | succ k =>
   cases j with
   | zero =>
    rw [if_neg (by omega)]
    have hk8 : k % 8 < 8 := Nat.mod_lt _ (by omega)
    cases t with
    | e =>
     show (Tr.get (sel (k % 8) _ _ _ _ _ _ _ _) 0) = _
     rw [sel_cases _ hk8]
     repeat' split
     all_goals rfl
    | n v a b c d p q r s =>
     show (Tr.get (sel (k % 8) _ _ _ _ _ _ _ _) 0) = _
     rw [sel_cases _ hk8]
     repeat' split
     all_goals rfl
   | succ j =>
    have hj8 : j % 8 < 8 := Nat.mod_lt _ (by omega)
    rw [get_kid, get_kid, kid_set _ _ _ _ _ hj8]
    by_cases h : j % 8 = k % 8
    ·rw [if_pos h, ih _ _ _ (by omega)]
     by_cases h2 : j = k
     ·subst h2; simp
     ·rw [if_neg (by omega), if_neg (by omega)]
    ·rw [if_neg h, if_neg (fun e => h (by simp at e; rw [e]))]
end Tr
noncomputable section
inductive AV where
 | bool (b : Bool)
 | int (k : IntKind) (n : Int)
 | str (s : List Nat)
 | ptr (id gen off lim : Nat)
 | iptr (cells : List AV)
 | nilptr
 | slc (id gen off len cap sz : Nat)
 | isl (cells : List AV) (len sz : Nat)
 | eslc
 | nilslc
 | map (id : Nat)
 | nilmap
 | fn (f : FuncId) (first captured : List AV)
 | nilfn
 | ifc (t : TypeId) (v : AV)
 | nilifc
 | agg (cells : List AV)
 | tup (vs : List AV)
 | it (id : Nat)
inductive AObj where
 | cells (vs : List AV) (gen wgen : Nat) (grown : Bool)
 | map (es : List (AV × AV × Nat)) (ck : Nat)
 | sit (s : List Nat) (pos : Nat)
 | mit (m : Option Nat) (since : Nat) (seen : List Nat) (last : Nat)
structure St where
 objs : Tr AObj
 next : Nat
def cellsOf : AV → List AV
 | .agg cs => cs
 | v => [v]
def plainV : AV → Bool
 | .tup _ => false
 | _ => true
inductive AO where
 | t (n : Nat)
 | c (v : AV)
abbrev Fr := Tr AV
def AO.ev (fr : Fr) : AO → Option AV
 | .t n => fr.get n
 | .c v => some v
def lim : Nat := 1099511627776      -- 2^40
inductive CK where
 | b | i | s
inductive EK where
 | flat (ag : Bool) (ks : List CK)
 | ptrnil | slcnil | mapnil | fnnil | ifcnil
inductive POp where
 | mov (x : AO)
 | pick (c a b : AO)
 | build (zs : List AV) (parts : List (Nat × Nat × AO))
 | nilchk (x : AO)
 | bin (op : BinOp) (x y : AO)
 | eq (neg : Bool) (k : EK) (x y : AO)
 | un (op : UnOp) (x : AO)
 | toInt (k : IntKind) (x : AO)
 | same (x : AO)
 | mkifc (t : TypeId) (x : AO)
 | mkfn (f : FuncId) (first captured : List AO)
 | sstr (x : AO) (lo hi : Option AO)
 | sslc (sz : Nat) (x : AO) (lo hi mx : Option AO)
 | sarr (n sz : Nat) (x : AO) (lo hi mx : Option AO)
 | fadr (off size : Nat) (x : AO)
 | field (agg : Bool) (off size : Nat) (x : AO)
 | iadr (sz : Nat) (x i : AO)
 | aadr (n sz : Nat) (x i : AO)
 | idxs (x i : AO)
 | idxa (agg : Bool) (n sz : Nat) (x i : AO)
 | len (str : Bool) (x : AO)
 | const (v : AV)
 | mmax (xs : List AO)
 | mmin (xs : List AO)
 | tas (t : TypeId) (zero : AV) (ok : Bool) (x : AO)
 | ext (x : AO) (i : Nat)
def setSeg (cs : List AV) (off : Nat) (vs : List AV) : List AV := cs.take off ++ vs ++ cs.drop (off + vs.length)
def fillA (fr : Fr) : List AV → List (Nat × Nat × AO) → Option (List AV)
 | cs, [] => some cs
 | cs, (off, size, x) :: rest =>
  match x.ev fr with
  | none => none
  | some v => bif plainV v && Nat.beq (cellsOf v).length size && Nat.ble (off + size) cs.length then fillA fr (setSeg cs off (cellsOf v)) rest else none
def evs (fr : Fr) : List AO → Option (List AV)
 | [] => some []
 | x :: xs => match x.ev fr with
  | none => none
  | some v => match evs fr xs with
   | none => none
   | some vs => some (v :: vs)
def nless : List Nat → List Nat → Bool
 | _, [] => false
 | [], _ :: _ => true
 | a :: x, b :: y => Nat.blt a b || (Nat.beq a b && nless x y)
def neq : List Nat → List Nat → Bool
 | [], [] => true
 | a :: x, b :: y => Nat.beq a b && neq x y
 | _, _ => false
def ieq : Int → Int → Bool
 | .ofNat a, .ofNat b => Nat.beq a b
 | .negSucc a, .negSucc b => Nat.beq a b
 | _, _ => false
def ilt : Int → Int → Bool
 | .ofNat a, .ofNat b => Nat.blt a b
 | .negSucc a, .negSucc b => Nat.blt b a
 | .negSucc _, .ofNat _ => true
 | .ofNat _, .negSucc _ => false
def keq : IntKind → IntKind → Bool
 | .i8, .i8 | .i16, .i16 | .i32, .i32 | .i64, .i64 | .u8, .u8 | .u16, .u16 | .u32, .u32 | .u64, .u64 => true
 | _, _ => false
def acmp (op : BinOp) (lt eq : Bool) : Option AV :=
 match op with
 | .eql => some (.bool eq)
 | .neq => some (.bool (!eq))
 | .lss => some (.bool lt)
 | .leq => some (.bool (lt || eq))
 | .gtr => some (.bool !(lt || eq))
 | .geq => some (.bool !lt)
 | _ => none
def abits (k : IntKind) (op : BinOp) (x y : Int) : Option Int :=
 let a := BitVec.ofInt k.bits x
 let b := BitVec.ofInt k.bits y
 match op with
 | .and => some (k.wrap (a &&& b).toNat)
 | .or => some (k.wrap (a ||| b).toNat)
 | .xor => some (k.wrap (a ^^^ b).toNat)
 | .andNot => some (k.wrap (a &&& ~~~b).toNat)
 | _ => none
def top : IntKind → Nat
 | .i8 => 127 | .i16 => 32767 | .i32 => 2147483647 | .i64 => 9223372036854775807
 | .u8 => 255 | .u16 => 65535 | .u32 => 4294967295 | .u64 => 18446744073709551615
def awrap (k : IntKind) : Int → Int
 | .ofNat a => bif Nat.ble a (top k) then .ofNat a else match k with
  | .u8 => .ofNat (a % 256) | .u16 => .ofNat (a % 65536) | .u32 => .ofNat (a % 4294967296) | .u64 => .ofNat (a % 18446744073709551616)
  | k => k.wrap (.ofNat a)
 | .negSucc a => match k with
  | .i8 => bif Nat.ble a 127 then .negSucc a else k.wrap (.negSucc a)
  | .i16 => bif Nat.ble a 32767 then .negSucc a else k.wrap (.negSucc a)
  | .i32 => bif Nat.ble a 2147483647 then .negSucc a else k.wrap (.negSucc a)
  | .i64 => bif Nat.ble a 9223372036854775807 then .negSucc a else k.wrap (.negSucc a)
  | .u32 => .ofNat (4294967295 - a % 4294967296)
  | k => k.wrap (.negSucc a)
def abitw (op : BinOp) (k : IntKind) (f : Nat → Nat → Nat) (a b : Int) : Option AV :=
 match a, b with
 | .ofNat x, .ofNat y => bif Nat.ble x (top k) && Nat.ble y (top k) then some (.int k (.ofNat (f x y))) else (abits k op a b).map (.int k ·)
 | _, _ => (abits k op a b).map (.int k ·)
def aint (op : BinOp) (k : IntKind) (a b : Int) : Option AV :=
 match op with
 | .add => some (.int k (awrap k (a + b)))
 | .sub => some (.int k (awrap k (a - b)))
 | .mul => some (.int k (awrap k (a * b)))
 | .quo => bif ieq b 0 then none else some (.int k (awrap k (a.tdiv b)))
 | .rem => bif ieq b 0 then none else some (.int k (a.tmod b))
 | .and => abitw op k Nat.land a b
 | .or => abitw op k Nat.lor a b
 | .xor => abitw op k Nat.xor a b
 | .andNot => (abits k op a b).map (.int k ·)
 | _ => acmp op (ilt a b) (ieq a b)
def nbits : IntKind → Nat
 | .i8 | .u8 => 8
 | .i16 | .u16 => 16
 | .i32 | .u32 => 32
 | .i64 | .u64 => 64
def ashift (left : Bool) (k : IntKind) (x y : Int) : Option AV :=
 match y with
 | .negSucc _ => none
 | .ofNat m =>
  let n := bif Nat.ble m (nbits k) then m else nbits k
  match left, x with
  | true, .ofNat a => some (.int k (awrap k (.ofNat (a * 2 ^ n))))
  | true, x => some (.int k (awrap k (x * (2 ^ n : Nat))))
  | false, .ofNat a => some (.int k (.ofNat (a / 2 ^ n)))
  | false, x => some (.int k (x.fdiv (2 ^ n : Nat)))
def abin (op : BinOp) (x y : AV) : Option AV :=
 match x, y with
 | .int k a, .int k' b =>
  match op with
  | .shl => ashift true k a b
  | .shr => ashift false k a b
  | op => bif keq k k' then aint op k a b else none
 | .str a, .str b =>
  match op with
  | .add => bif Nat.ble (a.length + b.length) lim then some (.str (a ++ b)) else none
  | op => acmp op (nless a b) (neq a b)
 | _, _ => none
def ceq : CK → AV → AV → Option Bool
 | .b, .bool a, .bool b => some (a == b)
 | .i, .int j a, .int k b => bif keq j k then some (ieq a b) else none
 | .s, .str a, .str b => some (neq a b)
 | _, _, _ => none
def ceqs : List CK → List AV → List AV → Option Bool
 | [], [], [] => some true
 | k :: ks, x :: xs, y :: ys => match ceq k x y with
  | some true => ceqs ks xs ys
  | some false => some false
  | none => none
 | _, _, _ => none
def isAg : AV → Bool
 | .agg _ => true
 | _ => false
def flatEq (ag : Bool) (ks : List CK) (x y : AV) : Option Bool :=
 bif isAg x == ag && isAg y == ag then ceqs ks (cellsOf x) (cellsOf y) else none
def kindsOk : List CK → List AV → Bool
 | [], [] => true
 | .b :: ks, .bool _ :: xs => kindsOk ks xs
 | .i :: ks, .int _ _ :: xs => kindsOk ks xs
 | .s :: ks, .str _ :: xs => kindsOk ks xs
 | _, _ => false
def keyOk (ag : Bool) (ks : List CK) (k : AV) : Bool := isAg k == ag && kindsOk ks (cellsOf k)
def aeq (k : EK) (x y : AV) : Option Bool :=
 match k with
 | .flat ag ks => flatEq ag ks x y
 | .ptrnil => match x, y with
  | .nilptr, .nilptr => some true
  | .nilptr, .ptr .. | .ptr .., .nilptr | .nilptr, .iptr .. | .iptr .., .nilptr => some false
  | _, _ => none
 | .slcnil => match x, y with
  | .nilslc, .nilslc => some true
  | .nilslc, .slc .. | .slc .., .nilslc | .nilslc, .isl .. | .isl .., .nilslc | .nilslc, .eslc | .eslc, .nilslc => some false
  | _, _ => none
 | .mapnil => match x, y with
  | .nilmap, .nilmap => some true
  | .nilmap, .map .. | .map .., .nilmap => some false
  | _, _ => none
 | .fnnil => match x, y with
  | .nilfn, .nilfn => some true
  | .nilfn, .fn .. | .fn .., .nilfn => some false
  | _, _ => none
 | .ifcnil => match x, y with
  | .nilifc, .nilifc => some true
  | .nilifc, .ifc .. | .ifc .., .nilifc => some false
  | _, _ => none
def bnd (d : Nat) (y : Nat) (x : Option AV) : Option Nat :=
 match x with
 | none => some d
 | some (.int _ (.ofNat i)) => bif Nat.ble i y then some i else none
 | _ => none
def evo (fr : Fr) : Option AO → Option (Option AV)
 | none => some none
 | some x => match x.ev fr with
  | none => none
  | some v => some (some v)
def aslice (sz : Nat) (x : AV) (lo hi mx : Option AV) : Option AV :=
 match x with
 | .slc id g off len cap sz' =>
  bif Nat.beq sz sz' then
   match bnd cap cap mx with
   | none => none
   | some m => match bnd len m hi with
    | none => none
    | some h => match bnd 0 h lo with
     | none => none
     | some l => bif Nat.blt l m then some (.slc id g (off + l * sz) (h - l) (m - l) sz) else some .eslc
  else none
 | .isl cells len sz' =>
  bif Nat.beq sz sz' && mx.isNone then
   match bnd len len hi with
   | none => none
   | some h => match bnd 0 h lo with
    | none => none
    | some l => bif Nat.blt l len then some (.isl ((cells.drop (l * sz)).take ((h - l) * sz)) (h - l) sz) else some .eslc
  else none
 | .nilslc => match bnd 0 0 mx, bnd 0 0 hi, bnd 0 0 lo with
  | some _, some _, some _ => some .nilslc
  | _, _, _ => none
 | .eslc => match bnd 0 0 mx, bnd 0 0 hi, bnd 0 0 lo with
  | some _, some _, some _ => some .eslc
  | _, _, _ => none
 | _ => none
def sarr (n sz : Nat) (x : AV) (lo hi mx : Option AV) : Option AV :=
 match x with
 | .ptr id g off lm =>
  bif Nat.ble (n * sz) lm then
   match bnd n n mx with
   | none => none
   | some m => match bnd n m hi with
    | none => none
    | some h => match bnd 0 h lo with
     | none => none
     | some l => bif Nat.blt l m then some (.slc id g (off + l * sz) (h - l) (m - l) sz) else some .eslc
  else none
 | _ => none
def sstr (s : List Nat) (lo hi : Option AV) : Option AV :=
 match bnd s.length s.length hi with
 | none => none
 | some h => match bnd 0 h lo with
  | none => none
  | some l => some (.str ((s.drop l).take (h - l)))
def partA (agg : Bool) (off size : Nat) (cs : List AV) : Option AV :=
 match agg with
 | true => bif Nat.ble (off + size) cs.length then some (.agg ((cs.drop off).take size)) else none
 | false => cs[off]?
def ilen : AV → Option Nat
 | .str s => some s.length
 | .slc _ _ _ len _ _ => some len
 | .isl _ len _ => some len
 | .eslc | .nilslc => some 0
 | _ => none
def slen : AV → Option Nat
 | .slc _ _ _ len _ _ => some len
 | .isl _ len _ => some len
 | .eslc | .nilslc => some 0
 | _ => none
def amax (k : IntKind) : Int → List AV → Option AV
 | a, [] => some (.int k a)
 | a, .int _ b :: r => amax k (bif ilt a b then b else a) r
 | _, _ => none
def amin (k : IntKind) : Int → List AV → Option AV
 | a, [] => some (.int k a)
 | a, .int _ b :: r => amin k (bif ilt b a then b else a) r
 | _, _ => none
def apure (fr : Fr) : POp → Option AV
 | .mov x => x.ev fr
 | .const v => some v
 | .pick c a b => match c.ev fr with
  | some (.bool true) => a.ev fr
  | some (.bool false) => b.ev fr
  | _ => none
 | .build zs parts => match fillA fr zs parts with
  | some cs => some (.agg cs)
  | none => none
 | .nilchk x => match x.ev fr with
  | some (.ptr a b c d) => some (.ptr a b c d)
  | some (.iptr cs) => some (.iptr cs)
  | some (.fn f a b) => some (.fn f a b)
  | some (.ifc t v) => some (.ifc t v)
  | _ => none
 | .bin op x y => match x.ev fr, y.ev fr with
  | some a, some b => abin op a b
  | _, _ => none
 | .eq neg k x y => match x.ev fr, y.ev fr with
  | some a, some b => match aeq k a b with
   | some r => some (.bool (bif neg then !r else r))
   | none => none
  | _, _ => none
 | .un op x => match op, x.ev fr with
  | .neg, some (.int k n) => some (.int k (awrap k (0 - n)))
  | .not, some (.bool b) => some (.bool !b)
  | _, _ => none
 | .toInt k x => match x.ev fr with
  | some (.int _ n) => some (.int k (awrap k n))
  | _ => none
 | .same x => match x.ev fr with
  | some (.str s) => some (.str s)
  | _ => none
 | .mkifc t x => match x.ev fr with
  | some v => some (.ifc t v)
  | none => none
 | .mkfn f first captured => match evs fr first, evs fr captured with
  | some a, some b => some (.fn f a b)
  | _, _ => none
 | .sstr x lo hi => match x.ev fr, evo fr lo, evo fr hi with
  | some (.str s), some l, some h => sstr s l h
  | _, _, _ => none
 | .sslc sz x lo hi mx => match x.ev fr, evo fr lo, evo fr hi, evo fr mx with
  | some v, some l, some h, some m => aslice sz v l h m
  | _, _, _, _ => none
 | .sarr n sz x lo hi mx => match x.ev fr, evo fr lo, evo fr hi, evo fr mx with
  | some v, some l, some h, some m => sarr n sz v l h m
  | _, _, _, _ => none
 | .fadr off size x => match x.ev fr with
  | some (.ptr id g o lm) => bif Nat.ble (off + size) lm then some (.ptr id g (o + off) size) else none
  | some (.iptr cs) => bif Nat.ble (off + size) cs.length then some (.iptr ((cs.drop off).take size)) else none
  | _ => none
 | .field agg off size x => match x.ev fr with
  | some (.agg cs) => partA agg off size cs
  | _ => none
 | .iadr sz x i => match x.ev fr, i.ev fr with
  | some (.slc id g off len _ sz'), some (.int _ (.ofNat k)) =>
   bif Nat.beq sz sz' && Nat.blt k len then some (.ptr id g (off + k * sz) sz) else none
  | some (.isl cells len sz'), some (.int _ (.ofNat k)) =>
   bif Nat.beq sz sz' && Nat.blt k len then some (.iptr ((cells.drop (k * sz)).take sz)) else none
  | _, _ => none
 | .aadr n sz x i => match x.ev fr, i.ev fr with
  | some (.ptr id g off lm), some (.int _ (.ofNat k)) =>
   bif Nat.ble (n * sz) lm && Nat.blt k n then some (.ptr id g (off + k * sz) sz) else none
  | some (.iptr cs), some (.int _ (.ofNat k)) =>
   bif Nat.ble (n * sz) cs.length && Nat.blt k n then some (.iptr ((cs.drop (k * sz)).take sz)) else none
  | _, _ => none
 | .idxs x i => match x.ev fr, i.ev fr with
  | some (.str s), some (.int _ (.ofNat k)) => match s[k]? with
   | some b => some (.int .u8 (.ofNat b))
   | none => none
  | _, _ => none
 | .idxa agg n sz x i => match x.ev fr, i.ev fr with
  | some (.agg cs), some (.int _ (.ofNat k)) => bif Nat.blt k n then partA agg (k * sz) sz cs else none
  | _, _ => none
 | .len str x => match str, x.ev fr with
  | true, some (.str s) => some (.int .i64 (.ofNat s.length))
  | false, some (.slc _ _ _ len _ _) => some (.int .i64 (.ofNat len))
  | false, some (.isl _ len _) => some (.int .i64 (.ofNat len))
  | false, some .eslc => some (.int .i64 0)
  | false, some .nilslc => some (.int .i64 0)
  | _, _ => none
 | .mmax xs => match evs fr xs with
  | some (.int k a :: r) => amax k a r
  | _ => none
 | .mmin xs => match evs fr xs with
  | some (.int k a :: r) => amin k a r
  | _ => none
 | .tas t zero ok x => match x.ev fr with
  | some .nilifc => bif ok then some (.tup [zero, .bool false]) else none
  | some (.ifc u v) => bif Nat.beq t u then (bif ok then some (.tup [v, .bool true]) else some v)
   else bif ok then some (.tup [zero, .bool false]) else none
  | _ => none
 | .ext x i => match x.ev fr with
  | some (.tup vs) => vs[i]?
  | _ => none
inductive RK where
 | load1
 | loadn (n : Nat)
 | lookup (ag : Bool) (ks : List CK) (zero : AV) (ok : Bool)
 | mlen
 | ment
 | b2s
def find (ag : Bool) (ks : List CK) (k : AV) : List (AV × AV × Nat) → Option (Option (AV × Nat))
 | [] => some none
 | (a, v, n) :: r => match flatEq ag ks k a with
  | some true => some (some (v, n))
  | some false => find ag ks k r
  | none => none
def byStamp (n : Nat) : List (AV × AV × Nat) → Option (AV × AV)
 | [] => none
 | (a, v, m) :: r => bif Nat.beq m n then some (a, v) else byStamp n r
def bytesOf : List AV → Option (List Nat)
 | [] => some []
 | .int .u8 (.ofNat n) :: r => match bytesOf r with
  | some s => bif Nat.blt n 256 then some (n :: s) else none
  | none => none
 | _ => none
def St.cells (s : St) (id g : Nat) : Option (List AV) :=
 match s.objs.get id with
 | some (.cells vs gen wgen _) => bif Nat.ble wgen g && Nat.ble g gen then some vs else none
 | _ => none
def seg (cs : List AV) (off n : Nat) : Option (List AV) := bif Nat.ble (off + n) cs.length then some ((cs.drop off).take n) else none
def St.row (s : St) (sz n : Nat) : AV → Option (List AV)
 | .slc id g off len _ sz' => bif Nat.beq sz sz' && Nat.ble n len then
   match s.cells id g with
   | some vs => seg vs off (n * sz)
   | none => none
  else none
 | .isl cells len sz' => bif Nat.beq sz sz' && Nat.ble n len then some (cells.take (n * sz)) else none
 | .nilslc | .eslc => bif Nat.beq n 0 then some [] else none
 | .str b => bif Nat.beq sz 1 && Nat.ble n b.length then some ((b.take n).map fun c => .int .u8 (.ofNat c)) else none
 | _ => none
def aread (k : RK) (x y : AV) (s : St) : Option AV :=
 match k with
 | .load1 => match x with
  | .ptr id g off lm => bif Nat.ble 1 lm then match s.cells id g with
   | some vs => vs[off]?
   | none => none
   else none
  | .iptr (v :: _) => some v
  | _ => none
 | .loadn n => match x with
  | .ptr id g off lm => bif Nat.ble n lm then match s.cells id g with
   | some vs => match seg vs off n with
    | some cs => some (.agg cs)
    | none => none
   | none => none
   else none
  | .iptr cs => bif Nat.ble n cs.length then some (.agg (cs.take n)) else none
  | _ => none
 | .lookup ag ks zero ok =>
  bif keyOk ag ks y then
   match x with
   | .nilmap => some (bif ok then .tup [zero, .bool false] else zero)
   | .map id => match s.objs.get id with
    | some (.map es _) => match find ag ks y es with
     | some (some (v, _)) => some (bif ok then .tup [v, .bool true] else v)
     | some none => some (bif ok then .tup [zero, .bool false] else zero)
     | none => none
    | _ => none
   | _ => none
  else none
 | .mlen => match x with
  | .nilmap => some (.int .i64 0)
  | .map id => match s.objs.get id with
   | some (.map es _) => some (.int .i64 (.ofNat es.length))
   | _ => none
  | _ => none
 | .ment => match x with
  | .it id => match s.objs.get id with
   | some (.mit (some m) _ seen last) => match s.objs.get m with
    | some (.map es ck) => bif Nat.beq ck last then match seen.getLast? with
     | some n => match byStamp n es with
      | some (k, v) => some (.tup [k, v])
      | none => none
     | none => none
     else none
    | _ => none
   | _ => none
  | _ => none
 | .b2s => match slen x with
  | some n => match s.row 1 n x with
   | some cs => match bytesOf cs with
    | some b => some (.str b)
    | none => none
   | none => none
  | none => none
inductive LOp where
 | alloc (zs : List AV)
 | box (x : AO)
 | lits (len sz : Nat) (zs : List AV) (parts : List (Nat × Nat × AO))
 | mkmap
 | mkslc (sz bytes : Nat) (zs : List AV) (len cap : AO)
 | s2b (x : AO)
def rep (zs : List AV) : Nat → List AV
 | 0 => []
 | n + 1 => zs ++ rep zs n
def natOf : Option AV → Option Nat
 | some (.int _ (.ofNat n)) => some n
 | _ => none
def amake (fr : Fr) (id : Nat) : LOp → Option (AObj × AV)
 | .alloc zs => some (.cells zs 0 0 false, .ptr id 0 0 zs.length)
 | .box x => match x.ev fr with
  | some v => bif plainV v then some (.cells (cellsOf v) 0 0 false, .ptr id 0 0 (cellsOf v).length) else none
  | none => none
 | .lits len sz zs parts => match fillA fr (rep zs len) parts with
  | some cs => some (.cells cs 0 0 false, .slc id 0 0 len len sz)
  | none => none
 | .mkmap => some (.map [] 0, .map id)
 | .mkslc sz bytes zs len cap => match natOf (len.ev fr), natOf (cap.ev fr) with
  | some l, some c => bif Nat.ble l c && Nat.ble (c * (bytes + 1)) lim then some (.cells (rep zs c) 0 0 false, .slc id 0 0 l c sz) else none
  | _, _ => none
 | .s2b x => match x.ev fr with
  | some (.str s) => bif Nat.ble s.length lim then some (.cells (s.map fun c => .int .u8 (.ofNat c)) 0 0 true, .slc id 0 0 s.length s.length 1) else none
  | _ => none
inductive EOp where
 | store (n : Nat) (a x : AO)
 | append (sz bytes : Nat) (a b : AO)
 | copy (sz : Nat) (a b : AO)
 | mupd (ag : Bool) (ks : List CK) (m k v : AO)
 | mdel (ag : Bool) (ks : List CK) (m k : AO)
 | ment (ag : Bool) (ks : List CK) (zero : AV) (m k : AO)
 | mput (m n v : AO)
 | rng (str : Bool) (x : AO)
 | next (str : Bool) (x : AO)
 | call (f : FuncId) (args : List AO)
 | callv (f : AO) (args : List AO)
def St.put (s : St) (id : Nat) (o : AObj) : St := { s with objs := s.objs.set id (some o) }
def St.new (s : St) (o : AObj) : St := { objs := s.objs.set s.next (some o), next := s.next + 1 }
def wr (s : St) (id g off : Nat) (vs : List AV) : Option St :=
 match s.objs.get id with
 | some (.cells cs gen _ grown) => bif Nat.beq g gen && Nat.ble (off + vs.length) cs.length then some (s.put id (.cells (setSeg cs off vs) gen gen grown)) else none
 | _ => none
def aappend (s : St) (sz bytes : Nat) (a b : AV) : Option (AV × St) :=
 match ilen b with
 | none => none
 | some n => match s.row sz n b with
  | none => none
  | some new => bif Nat.beq n 0 then
    match a with
    | .nilslc => some (.nilslc, s)
    | .slc id g off len cap sz' => some (.slc id g off len cap sz', s)
    | .isl cs len sz' => some (.isl cs len sz', s)
    | .eslc => some (.eslc, s)
    | _ => none
   else match a with
   | .nilslc => bif Nat.ble (n * (bytes + 1)) lim then some (.slc s.next 0 0 n n sz, s.new (.cells new 0 0 true)) else none
   | .slc id g off len cap sz' =>
    bif Nat.beq sz sz' && Nat.ble ((len + n) * (bytes + 1)) lim then
     match s.objs.get id with
     | some (.cells vs gen _ true) =>
      bif Nat.beq g gen then
       match seg vs off (len * sz) with
       | some old =>
        some (.slc id (gen + 1) 0 (len + n) (len + n) sz, s.put id (.cells (old ++ new) (gen + 1) (gen + 1) true))
       | none => none
      else none
     | some (.cells vs gen _ false) =>
      bif Nat.beq g gen then
       bif Nat.ble (len + n) cap then
        match wr s id g (off + len * sz) new with
        | some s' => some (.slc id g off (len + n) cap sz, s')
        | none => none
       else match seg vs off (len * sz) with
        | some old => some (.slc s.next 0 0 (len + n) (len + n) sz, s.new (.cells (old ++ new) 0 0 true))
        | none => none
      else none
     | _ => none
    else none
   | _ => none
def acopy (s : St) (sz : Nat) (a b : AV) : Option (AV × St) :=
 match slen a, ilen b with
 | some m, some k =>
  let n := bif Nat.ble k m then k else m
  match s.row sz n b with
  | none => none
  | some cs => bif Nat.beq n 0 then some (.int .i64 (.ofNat n), s) else
   match a with
   | .slc id g off _ _ sz' => bif Nat.beq sz sz' then match wr s id g off cs with
    | some s' => some (.int .i64 (.ofNat n), s')
    | none => none
    else none
   | _ => none
 | _, _ => none
def mset (ag : Bool) (ks : List CK) (k : AV) (v : AV) (ck : Nat) : List (AV × AV × Nat) → Option (List (AV × AV × Nat) × Nat)
 | [] => some ([(k, v, ck)], ck + 1)
 | (a, x, n) :: r => match flatEq ag ks k a with
  | some true => some ((k, v, n) :: r, ck)
  | some false => match mset ag ks k v ck r with
   | some (l, c) => some ((a, x, n) :: l, c)
   | none => none
  | none => none
def mdel (ag : Bool) (ks : List CK) (k : AV) : List (AV × AV × Nat) → Option (List (AV × AV × Nat))
 | [] => some []
 | (a, x, n) :: r => match flatEq ag ks k a with
  | some true => some r
  | some false => match mdel ag ks k r with
   | some l => some ((a, x, n) :: l)
   | none => none
  | none => none
def mputS (n : Nat) (v : AV) : List (AV × AV × Nat) → Option (List (AV × AV × Nat))
 | [] => none
 | (a, x, m) :: r => bif Nat.beq m n then some ((a, v, m) :: r) else match mputS n v r with
  | some l => some ((a, x, m) :: l)
  | none => none
def cands (es : List (AV × AV × Nat)) (since : Nat) (seen : List Nat) (last : Nat) : Option (List (Option (AV × AV × Nat))) :=
 bif !seen.isEmpty && !es.isEmpty && es.all (fun e => Nat.ble last e.2.2) then none else
 let left := es.filter fun e => !seen.contains e.2.2
 let old := left.filter fun e => Nat.blt e.2.2 since
 let new := left.filter fun e => !Nat.blt e.2.2 since
 some ((bif old.isEmpty then [none] else []) ++ (old ++ new).map some)
def toBA (s : List Nat) : ByteArray := ⟨(s.map UInt8.ofNat).toArray⟩
def dec (s : List Nat) (pos : Nat) : Nat × Nat :=
 match s[pos]? with
 | some b => bif Nat.blt b 128 then (b, 1) else Utf8.decode (toBA s) pos
 | none => (0, 1)
abbrev CallF := FuncId → List AV → St → Option (AV × St)
def aeff (call : CallF) (fr : Fr) (s : St) : EOp → Option (AV × St)
 | .store n a x => match a.ev fr, x.ev fr with
  | some (.ptr id g off lm), some v => bif plainV v && Nat.beq (cellsOf v).length n && Nat.ble n lm then match wr s id g off (cellsOf v) with
   | some s' => some (.tup [], s')
   | none => none
   else none
  | _, _ => none
 | .append sz bytes a b => match a.ev fr, b.ev fr with
  | some a, some b => match aappend s sz bytes a b with
   | some (v, s') => some (v, s')
   | none => none
  | _, _ => none
 | .copy sz a b => match a.ev fr, b.ev fr with
  | some a, some b => match acopy s sz a b with
   | some (v, s') => some (v, s')
   | none => none
  | _, _ => none
 | .mupd ag ks m k v => match m.ev fr, k.ev fr, v.ev fr with
  | some (.map id), some k, some v => bif keyOk ag ks k then match s.objs.get id with
   | some (.map es ck) => match mset ag ks k v ck es with
    | some (l, c) => some (.tup [], s.put id (.map l c))
    | none => none
   | _ => none
   else none
  | _, _, _ => none
 | .mdel ag ks m k => match m.ev fr, k.ev fr with
  | some (.map id), some k => bif keyOk ag ks k then match s.objs.get id with
   | some (.map es ck) => match mdel ag ks k es with
    | some l => some (.tup [], s.put id (.map l ck))
    | none => none
   | _ => none
   else none
  | some .nilmap, some k => bif keyOk ag ks k then some (.tup [], s) else none
  | _, _ => none
 | .ment ag ks zero m k => match m.ev fr, k.ev fr with
  | some (.map id), some k => bif keyOk ag ks k then match s.objs.get id with
   | some (.map es ck) => match find ag ks k es with
    | some (some (v, n)) => match mset ag ks k v ck es with
     | some (l, c) => some (.tup [v, .int .i64 (.ofNat n)], s.put id (.map l c))
     | none => none
    | some none => match mset ag ks k zero ck es with
     | some (l, c) => some (.tup [zero, .int .i64 (.ofNat ck)], s.put id (.map l c))
     | none => none
    | none => none
   | _ => none
   else none
  | _, _ => none
 | .mput m n v => match m.ev fr, n.ev fr, v.ev fr with
  | some (.map id), some (.int _ (.ofNat n)), some v => match s.objs.get id with
   | some (.map es ck) => match mputS n v es with
    | some l => some (.tup [], s.put id (.map l ck))
    | none => none
   | _ => none
  | _, _, _ => none
 | .rng str x => match str, x.ev fr with
  | true, some (.str b) => some (.it s.next, s.new (.sit b 0))
  | false, some .nilmap => some (.it s.next, s.new (.mit none 0 [] 0))
  | false, some (.map m) => match s.objs.get m with
   | some (.map _ ck) => some (.it s.next, s.new (.mit (some m) ck [] ck))
   | _ => none
  | _, _ => none
 | .next str x => match x.ev fr with
  | some (.it id) => match str, s.objs.get id with
   | true, some (.sit b pos) => bif Nat.blt pos b.length then
     match dec b pos with
     | (c, w) => some (.tup [.bool true, .int .i64 (.ofNat pos), .int .i32 (.ofNat c)], s.put id (.sit b (pos + w)))
    else some (.tup [.bool false], s)
   | false, some (.mit none _ _ _) => some (.tup [.bool false], s)
   | false, some (.mit (some m) since seen last) => match s.objs.get m with
    | some (.map es ck) => match cands es since seen last with
     | some [some (k, v, n)] => some (.tup [.bool true, k, v], s.put id (.mit (some m) since (seen ++ [n]) ck))
     | some [none] => some (.tup [.bool false], s)
     | _ => none
    | _ => none
   | _, _ => none
  | _ => none
 | .call f args => match evs fr args with
  | some vs => match call f vs s with
   | some (v, s') => some (v, s')
   | none => none
  | none => none
 | .callv f args => match f.ev fr, evs fr args with
  | some (.fn g first captured), some vs => match call g (first ++ vs ++ captured) s with
   | some (v, s') => some (v, s')
   | none => none
  | _, _ => none
inductive AOp where
 | p (o : POp)
 | r (k : RK) (x y : AO)
 | a (o : LOp)
 | e (o : EOp)
structure AOper where
 dst : Option Nat
 op : AOp
 guard : Option (Nat × Bool)
 pre : Nat
inductive ACode where
 | skip
 | reg (ops : List AOper)
 | draw (ops : List AOper)
 | seq (a b : ACode)
 | cond (c : AO) (a b : ACode)
 | blk (id : Nat) (b : ACode)
 | loop (b : ACode)
 | ext (id : Nat)
 | scp (b : ACode)
 | scpj (l : Nat) (b rest : ACode)
 | goto (l : Nat)
 | ret
inductive RV where
 | t (n : Nat)
 | c1 (n : Nat)
 | cn (n k : Nat)
structure AFunc where
 ntmps : Nat
 results : List RV
 body : ACode
inductive AX where
 | nrm
 | ext (id : Nat)
 | goto (l : Nat)
 | ret
def putO (fr : Fr) (d : Option Nat) (v : AV) : Fr :=
 match d with
 | none => fr
 | some d => fr.set d (some v)
def wants (fr : Fr) (g : Option (Nat × Bool)) : Option Bool :=
 match g with
 | none => some true
 | some (t, w) => match fr.get t with
  | none => none
  | some (.bool b) => some (b == w)
  | some _ => some false
def aop (call : CallF) (id : Nat) (fr : Fr) (s : St) : AOp → Option (AV × St)
 | .p o => match apure fr o with
  | some v => some (v, s)
  | none => none
 | .r k x y => match x.ev fr, y.ev fr with
  | some a, some b => match aread k a b s with
   | some v => some (v, s)
   | none => none
  | _, _ => none
 | .a o => match amake fr id o with
  | some (ob, v) => some (v, s.put id ob)
  | none => none
 | .e o => aeff call fr s o
def aregs (call : CallF) : Nat → List AOper → Fr → St → Option (Fr × St)
 | _, [], fr, s => some (fr, s)
 | id, o :: os, fr, s =>
  match wants fr o.guard with
  | none => none
  | some false => aregs call (id + 1) os (putO fr o.dst (.tup [])) s
  | some true => match aop call id fr s o.op with
   | none => none
   | some (v, s') => aregs call (id + 1) os (putO fr o.dst v) s'
def areg (call : CallF) (ops : List AOper) (fr : Fr) (s : St) : Option (Fr × St) :=
 aregs call s.next ops fr { s with next := s.next + ops.length }
mutual
def AV.same : AV → AV → Bool
 | .bool a, .bool b => a == b
 | .int j a, .int k b => keq j k && ieq a b
 | .str a, .str b => neq a b
 | .ptr a b c d, .ptr e f g h => Nat.beq a e && Nat.beq b f && Nat.beq c g && Nat.beq d h
 | .iptr a, .iptr b => AV.sames a b
 | .nilptr, .nilptr => true
 | .slc a b c d e f, .slc g h i j k l => Nat.beq a g && Nat.beq b h && Nat.beq c i && Nat.beq d j && Nat.beq e k && Nat.beq f l
 | .isl a m n, .isl b o p => AV.sames a b && Nat.beq m o && Nat.beq n p
 | .eslc, .eslc => true
 | .nilslc, .nilslc => true
 | .map a, .map b => Nat.beq a b
 | .nilmap, .nilmap => true
 | .fn f a b, .fn g c d => Nat.beq f g && AV.sames a c && AV.sames b d
 | .nilfn, .nilfn => true
 | .ifc t a, .ifc u b => Nat.beq t u && AV.same a b
 | .nilifc, .nilifc => true
 | .agg a, .agg b => AV.sames a b
 | .tup a, .tup b => AV.sames a b
 | .it a, .it b => Nat.beq a b
 | _, _ => false
def AV.sames : List AV → List AV → Bool
 | [], [] => true
 | a :: x, b :: y => AV.same a b && AV.sames x y
 | _, _ => false
end
def osame : Option AV → AV → Bool
 | some a, b => AV.same a b
 | none, _ => false
structure Rd where
 i : Nat
 k : RK
 x : AV
 y : AV
 v : AV
structure DS where
 fr : Fr
 s : St
 pend : List (Nat × AObj)
 effs : List (Nat × St)
 rds : List Rd
def flush (s : St) : List (Nat × AObj) → St
 | [] => s
 | (id, o) :: r => (flush s r).put id o
def readsOk (pre : Nat) (s : St) : List Rd → Bool
 | [] => true
 | r :: rs => (Nat.testBit pre r.i || osame (aread r.k r.x r.y s) r.v) && readsOk pre s rs
def effsOk (pre : Nat) (k : RK) (x y v : AV) : List (Nat × St) → Bool
 | [] => true
 | (j, s) :: rs => (Nat.testBit pre j || osame (aread k x y s) v) && effsOk pre k x y v rs
def adop (call : CallF) (id i : Nat) (o : AOper) (d : DS) : Option DS :=
 match o.op with
 | .p p => match apure d.fr p with
  | some v => some { d with fr := putO d.fr o.dst v }
  | none => none
 | .r k x y => match x.ev d.fr, y.ev d.fr with
  | some a, some b => match aread k a b d.s with
   | some v => bif effsOk o.pre k a b v d.effs then some { d with fr := putO d.fr o.dst v, rds := ⟨i, k, a, b, v⟩ :: d.rds } else none
   | none => none
  | _, _ => none
 | .a p => match amake d.fr id p with
  | some (ob, v) => some { d with fr := putO d.fr o.dst v, pend := (id, ob) :: d.pend }
  | none => none
 | .e e => match aeff call d.fr (flush d.s d.pend) e with
  | some (v, s') => bif readsOk o.pre s' d.rds then some { fr := putO d.fr o.dst v, s := s', pend := [], effs := (i, d.s) :: d.effs, rds := d.rds } else none
  | none => none
def adraws (call : CallF) : Nat → Nat → List AOper → DS → Option DS
 | _, _, [], d => some d
 | id, i, o :: os, d =>
  match wants d.fr o.guard with
  | none => none
  | some false => adraws call (id + 1) (i + 1) os { d with fr := putO d.fr o.dst (.tup []) }
  | some true => match adop call id i o d with
   | none => none
   | some d' => adraws call (id + 1) (i + 1) os d'
def adraw (call : CallF) (ops : List AOper) (fr : Fr) (s : St) : Option (Fr × St) :=
 match adraws call s.next 0 ops ⟨fr, { s with next := s.next + ops.length }, [], [], []⟩ with
 | some d => some (d.fr, flush d.s d.pend)
 | none => none
abbrev AR := Option (AX × Fr × St)
def loopN (body : Fr → St → AR) : Nat → Fr → St → AR
 | 0, _, _ => none
 | n + 1, fr, s => match body fr s with
  | none => none
  | some (.nrm, fr', s') => loopN body n fr' s'
  | some r => some r
def acode (call : CallF) (fuel : Nat) : ACode → Fr → St → AR
 | .skip, fr, s => some (.nrm, fr, s)
 | .reg ops, fr, s => match areg call ops fr s with
  | some (fr', s') => some (.nrm, fr', s')
  | none => none
 | .draw ops, fr, s => match adraw call ops fr s with
  | some (fr', s') => some (.nrm, fr', s')
  | none => none
 | .seq a b, fr, s => match acode call fuel a fr s with
  | none => none
  | some (.nrm, fr', s') => acode call fuel b fr' s'
  | some r => some r
 | .cond c a b, fr, s => match c.ev fr with
  | some (.bool true) => acode call fuel a fr s
  | some (.bool false) => acode call fuel b fr s
  | _ => none
 | .blk id b, fr, s => match acode call fuel b fr s with
  | some (.ext j, fr', s') => bif Nat.beq j id then some (.nrm, fr', s') else some (.ext j, fr', s')
  | r => r
 | .loop b, fr, s => loopN (acode call fuel b) fuel fr s
 | .ext id, fr, s => some (.ext id, fr, s)
 | .scp b, fr, s => match acode call fuel b fr s with
  | some (.goto _, _, _) => none
  | r => r
 | .scpj l b rest, fr, s => match acode call fuel b fr s with
  | some (.goto j, fr', s') => bif Nat.beq j l then
    match acode call fuel rest fr' s' with
    | some (.goto _, _, _) => none
    | r => r
   else none
  | r => r
 | .goto l, fr, s => some (.goto l, fr, s)
 | .ret, fr, s => some (.ret, fr, s)
def ares (fr : Fr) (s : St) : RV → Option AV
 | .t n => fr.get n
 | .c1 n => match fr.get n with
  | some a => aread .load1 a a s
  | none => none
 | .cn n k => match fr.get n with
  | some a => aread (.loadn k) a a s
  | none => none
def aress (fr : Fr) (s : St) : List RV → Option (List AV)
 | [] => some []
 | r :: rs => match ares fr s r with
  | none => none
  | some v => match aress fr s rs with
   | some vs => some (v :: vs)
   | none => none
def frOf : Nat → List AV → Fr
 | _, [] => .e
 | n, v :: vs => (frOf (n + 1) vs).set n (some v)
def afun (call : CallF) (fuel : Nat) (f : AFunc) (args : List AV) (s : St) : Option (AV × St) :=
 bif Nat.ble args.length f.ntmps then
  match acode call fuel f.body (frOf 0 args) s with
  | some (.nrm, fr, s') | some (.ret, fr, s') => match aress fr s' f.results with
   | some [v] => some (v, s')
   | some vs => some (.tup vs, s')
   | none => none
  | _ => none
 else none
def acall (F : FuncId → Option AFunc) (E : FuncId → Option (List AV → St → Option (AV × St))) : Nat → CallF
 | 0 => fun _ _ _ => none
 | n + 1 => fun f args s => match E f with
  | some g => g args s
  | none => match F f with
   | some fn => afun (acall F E n) n fn args s
   | none => none
end
end Go.Abs
