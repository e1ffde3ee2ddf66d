/- Maps whose keys are told by a plain type. -/
import Derived.Test.YtlimjjilakldgaaGreatAbsW
import Derived.Test.YtlimjjilakldgaaGreatAbsU
set_option autoImplicit false
set_option linter.unusedVariables false
set_option linter.unusedSimpArgs false
namespace Go.Abs
open Go
structure KE (α : Type) [DecidableEq α] (ag : Bool) (ks : List CK) where
 v : α → AV
 ok : ∀ a, keyOk ag ks (v a) = true
 eq : ∀ a b, flatEq ag ks (v a) (v b) = some (decide (a = b))
abbrev EntG (α : Type) := α × AV × Nat
section
variable {α : Type} [DecidableEq α] {ag : Bool} {ks : List CK} (E : KE α ag ks)
def entsG (es : List (EntG α)) : List (AV × AV × Nat) := es.map fun e => (E.v e.1, e.2.1, e.2.2)
def underG (k : α) : List (EntG α) → Option (AV × Nat)
 | [] => none
 | (a, v, n) :: r => if k = a then some (v, n) else underG k r
def putG (k : α) (v : AV) (ck : Nat) : List (EntG α) → List (EntG α)
 | [] => [(k, v, ck)]
 | (a, x, n) :: r => if k = a then (k, v, n) :: r else (a, x, n) :: putG k v ck r
def putNG (k : α) (ck : Nat) : List (EntG α) → Nat
 | [] => ck + 1
 | (a, x, n) :: r => if k = a then ck else putNG k ck r
def delG (k : α) : List (EntG α) → List (EntG α)
 | [] => []
 | (a, x, n) :: r => if k = a then r else (a, x, n) :: delG k r
theorem find_G (k : α) : ∀ es : List (EntG α), find ag ks (E.v k) (entsG E es) = some (underG k es)
 | [] => rfl
 | (a, v, n) :: r => by
  simp only [entsG, List.map_cons, find, E.eq, underG]
  by_cases h : k = a
  ·simp [h]
  ·simp only [h, decide_false, if_false]
   exact find_G k r
theorem mset_G (k : α) (v : AV) (ck : Nat) : ∀ es : List (EntG α), mset ag ks (E.v k) v ck (entsG E es) = some (entsG E (putG k v ck es), putNG k ck es)
 | [] => rfl
 | (a, x, n) :: r => by
  have ih := mset_G k v ck r
  simp only [entsG] at ih
  simp only [entsG, List.map_cons, mset, E.eq, putG, putNG]
  by_cases h : k = a
  ·simp [h]
  ·simp only [h, decide_false, if_false, ih]
   rfl
theorem mdel_G (k : α) : ∀ es : List (EntG α), mdel ag ks (E.v k) (entsG E es) = some (entsG E (delG k es))
 | [] => rfl
 | (a, x, n) :: r => by
  have ih := mdel_G k r
  simp only [entsG] at ih
  simp only [entsG, List.map_cons, mdel, E.eq, delG]
  by_cases h : k = a
  ·simp [h]
  ·simp only [h, decide_false, if_false, ih]
   rfl
def getG (k : α) (z : AV) (es : List (EntG α)) : AV := match underG k es with
 | some p => p.1
 | none => z
variable {P : Program} {nd : Bool} {l : SL} {K : Mem}
theorem Rdk.lookG {m ck : Nat} {es : List (EntG α)} {k : α} {z : AV} (h : InK K m (.map (entsG E es) ck)) : Rdk K (.lookup ag ks z false) (.map m) (E.v k) (getG k z es) := by
 intro s hs
 simp only [aread, E.ok, cond_true, (hs.got _ _ h).1, find_G, getG]
 cases underG k es <;> rfl
theorem Rdk.lookkG {m ck : Nat} {es : List (EntG α)} {k : α} {z : AV} (h : InK K m (.map (entsG E es) ck)) : Rdk K (.lookup ag ks z true) (.map m) (E.v k) (.tup [getG k z es, .bool (underG k es).isSome]) := by
 intro s hs
 simp only [aread, E.ok, cond_true, (hs.got _ _ h).1, find_G, getG]
 cases underG k es <;> rfl
theorem Ef.mupdG {x y z : AO} {m ck : Nat} {es : List (EntG α)} {k : α} {v : AV} {K' : Mem} (hx : x.evL l = some (.map m)) (hy : y.evL l = some (E.v k)) (hz : z.evL l = some v) (hK : Upd K m (.map (entsG E es) ck) (.map (entsG E (putG k v ck es)) (putNG k ck es)) K') :
  Ef P l K (.mupd ag ks x y z) fun w K2 => w = .tup [] ∧ K2 = K' := by
 refine Ef.put hK fun s hs => ?_
 simp only [aeff, ev_frL, hx, hy, hz, E.ok, cond_true, hs, mset_G]
theorem Ef.mdelG {x y : AO} {m ck : Nat} {es : List (EntG α)} {k : α} {K' : Mem} (hx : x.evL l = some (.map m)) (hy : y.evL l = some (E.v k)) (hK : Upd K m (.map (entsG E es) ck) (.map (entsG E (delG k es)) ck) K') :
  Ef P l K (.mdel ag ks x y) fun w K2 => w = .tup [] ∧ K2 = K' := by
 refine Ef.put hK fun s hs => ?_
 simp only [aeff, ev_frL, hx, hy, E.ok, cond_true, hs, mdel_G]
end
def keS : KE (List Nat) false [.s] where
 v := fun s => .str s
 ok := fun _ => rfl
 eq := fun a b => by
  show ceqs [.s] [.str a] [.str b] = _
  simp only [ceqs, ceq, neq_dec]
  by_cases h : a = b <;> simp [h]
def keN : KE Nat false [.i] where
 v := fun n => .int .i64 (.ofNat n)
 ok := fun _ => rfl
 eq := fun a b => by
  show ceqs [.i] [.int .i64 (.ofNat a)] [.int .i64 (.ofNat b)] = _
  simp only [ceqs, ceq, keq_self, cond_true, ieq_nat]
  by_cases h : a = b <;> simp [h]
end Go.Abs
namespace Go.Abs
open Go
theorem chunk_perm (Ls : List Chk) (is js : List Nat) (h : is.Perm js) : ((is.map fun i => (Ls[i]?).getD []).flatten).Perm ((js.map fun i => (Ls[i]?).getD []).flatten) := (h.map _).flatten
theorem Sel.left (m r : Mem) : Sel (m ++ r) m r := by
 induction m with
 | nil => exact .nil
 | cons c m ih => exact .cons .here ih
section
variable {P : Program} {nd : Bool} {f : FuncId} {args : List AV} {K : Mem}
theorem Frm.permL {B : Nat} {s s' : St} {K K2 K' : Mem} (hp : K.flatten.Perm K2.flatten) (h : Frm B s K2 s' K') : Frm B s K s' K' :=
 ⟨h.next, fun id hi hn => h.old id hi fun hm => hn ((ids_perm hp).mem_iff.2 hm), fun id hi => (h.new id hi).imp_left fun h => (ids_perm hp).mem_iff.2 h⟩
theorem Frm.permR {B : Nat} {s s' : St} {K K' K2 : Mem} (hp : K'.flatten.Perm K2.flatten) (h : Frm B s K s' K') : Frm B s K s' K2 :=
 ⟨h.next, h.old, fun id hi => h.new id ((ids_perm hp).mem_iff.2 hi)⟩
theorem CT.perm {K2 : Mem} {Q : AV → Mem → Prop} (hp : K.flatten.Perm K2.flatten) (h : CT P nd f args K2 Q) : CT P nd f args K Q := fun s hs =>
 (h s (hs.perm hp)).mono fun v s' _ ⟨K', h1, h2, h3⟩ => ⟨K', h1, h2.permL hp, h3⟩
theorem CT.re {Q R : AV → Mem → Prop} (h : CT P nd f args K Q) (k : ∀ v K', Q v K' → ∃ K2, K'.flatten.Perm K2.flatten ∧ R v K2) : CT P nd f args K R := fun s hs =>
 (h s hs).mono fun v s' _ ⟨K', h1, h2, h3⟩ => by
  obtain ⟨K2, hp, h4⟩ := k v K' h3
  exact ⟨K2, h1.perm hp, h2.permR hp, h4⟩
theorem CT.over {m r : Mem} {Q R : AV → Mem → Prop} (hp : K.flatten.Perm (m ++ r).flatten) (h : CT P nd f args m Q) (k : ∀ v m', Q v m' → ∃ K2, (m' ++ r).flatten.Perm K2.flatten ∧ R v K2) : CT P nd f args K R :=
 CT.perm hp (CT.re (h.sel (Sel.left m r)) fun v K' ⟨m', e, hq⟩ => by subst e; exact k v m' hq)
theorem Lp.fr {l : SL} {b : ACode} {k : Nat} {m r : Mem} {Q : AX → SL → Mem → Prop} (hs : Sel K m r) (h : Lp P nd b k l m fun x l m' => Q x l (m' ++ r)) : Lp P nd b k l K Q := (Lp.frame hs h).mono (by rintro _ _ _ ⟨m', rfl, h⟩; exact h)
theorem Take.app {K K1 m2 : Mem} {c : Chk} (h : Take K c K1) : Take (K ++ m2) c (K1 ++ m2) := by
 induction h with
 | here => exact .here
 | there _ ih => exact .there ih
theorem Take.skip {r : Mem} {c : Chk} : ∀ K : Mem, Take (K ++ c :: r) c (K ++ r)
 | [] => .here
 | d :: K => .there (Take.skip K)
theorem Sel.right (K : Mem) : ∀ m2 : Mem, Sel (K ++ m2) m2 K
 | [] => by rw [List.append_nil]; exact .nil
 | c :: m2 => .cons (Take.skip K) (Sel.right K m2)
end
end Go.Abs
namespace Go.Abs
open Go
structure YA {r : Bool → Prop} (p : Bool → Prop) : Prop where
 g : ∀ c, r c → p c
structure YB (p X Y : Prop) : Prop where
 l : p → X
 r : ¬ p → Y
structure YD (t : Bool) (X Y : Prop) : Prop where
 l : t = true → X
 r : t = false → Y
theorem nbT {b : Bool} : ((!b) = true) = (b = false) := Bool.not_eq_true' b
theorem nbF {b : Bool} : ((!b) = false) = (b = true) := Bool.not_eq_false' b
theorem Wlk.a2 {r : Bool → Prop} {p : Bool → Prop} {G : Prop} (h : Wlk (∀ c, r c → p c) G) : Wlk (@YA r p) G := ⟨fun k => h.go k.g⟩
theorem Wlk.br {p X Y G : Prop} (h : Wlk ((p → X) ∧ (¬ p → Y)) G) : Wlk (YB p X Y) G := ⟨fun k => h.go ⟨k.l, k.r⟩⟩
theorem Wlk.bd {t : Bool} {X Y G : Prop} (h : Wlk ((t = true → X) ∧ (t = false → Y)) G) : Wlk (YD t X Y) G := ⟨fun k => h.go ⟨k.l, k.r⟩⟩
section
variable {P : Program} {nd : Bool} {l : SL} {K : Mem} {os : List AOper} {d : Option Nat} {pre : Nat} {Q : SL → Mem → Prop} {i : Nat} {Kp : Mem} {efs : List (Nat × Mem)} {rds : List Rd}
theorem yR {kk : RK} {x y : AO} {id : Nat} {o : AObj} {a b v : AV} (hp : ∀ K, InK K id o → Rdk K kk a b v) (k : Rg P nd os (putL l d v) K Q) (hx : x.evL l = some a := by exact rfl) (hy : y.evL l = some b := by exact rfl) (hi : InK K id o := by repeat (first | exact InK.here | refine InK.there ?_)) : Rg P nd (⟨d, .r kk x y, none, pre⟩ :: os) l K Q := Rg.r hx hy (hp _ hi) k
def efsI (pre : Nat) (id : Nat) (o : AObj) : List (Nat × Mem) → Prop
 | [] => True
 | (j, K) :: rs => (Nat.testBit pre j = true ∨ InK K id o) ∧ efsI pre id o rs
theorem efsI.ok {id : Nat} {o : AObj} {kk : RK} {a b v : AV} (hp : ∀ K, InK K id o → Rdk K kk a b v) : ∀ {efs : List (Nat × Mem)}, efsI pre id o efs → efsOkK pre kk a b v efs
 | [], _ => trivial
 | (j, K) :: rs, h => ⟨h.1.imp (fun h => h) (hp K), efsI.ok hp h.2⟩
theorem yD {kk : RK} {x y : AO} {id : Nat} {o : AObj} {a b v : AV} (hp : ∀ K, InK K id o → Rdk K kk a b v) (k : Dw P (i + 1) os (putL l d v) K Kp efs (⟨i, kk, a, b, v⟩ :: rds) Q) (hx : x.evL l = some a := by exact rfl) (hy : y.evL l = some b := by exact rfl) (hi : InK K id o := by repeat (first | exact InK.here | refine InK.there ?_))
  (ho : efsI pre id o efs := by repeat (first | exact trivial | refine And.intro (Or.inl rfl) ?_ | (refine And.intro (Or.inr ?_) ?_; focus (repeat (first | exact InK.here | refine InK.there ?_))))) : Dw P i (⟨d, .r kk x y, none, pre⟩ :: os) l K Kp efs rds Q := Dw.r hx hy (hp _ hi) (efsI.ok hp ho) k
theorem yO {A B : Prop} (k : B) (h : A := by repeat (first | exact trivial | refine rdsB rfl ?_ | (refine rdsR ?_ ?_; (focus (first | assumption | (refine Rdk.b1 (cs := ?_) ?_ ?_; rotate_left; (repeat (first | exact InK.here | refine InK.there ?_)); exact rfl) | (refine Rdk.bw ?_ ?_; (repeat (first | exact InK.here | refine InK.there ?_)); first | assumption | exact rfl) | (refine Rdk.bn ?_ ?_; (repeat (first | exact InK.here | refine InK.there ?_)); exact rfl) | (refine Rdk.in ?_; first | assumption | exact rfl) | exact Rdk.i1))))) : A ∧ B := ⟨h, k⟩
theorem iCn {R : AV → Mem → Prop} {n k : Nat} {a v : AV} (h1 : lkS l n = some a) (h2 : Rdk K (.loadn k) a a v) : Wlk (R (packL [v]) K) (DoneK [.cn n k] R .ret l K) := ⟨fun h => ⟨.inr rfl, _, .cn h1 h2 .nil, h⟩⟩
theorem iCt {R : AV → Mem → Prop} {n k m : Nat} {a v w : AV} (h1 : lkS l n = some a) (h2 : Rdk K (.loadn k) a a v) (h3 : lkS l m = some w) : Wlk (R (packL [v, w]) K) (DoneK [.cn n k, .t m] R .ret l K) := ⟨fun h => ⟨.inr rfl, _, .cn h1 h2 (.t h3 .nil), h⟩⟩
theorem yX {G H : Prop} (k : H) (h : Wlk H G := by first | exact ⟨fun k => ⟨.inr rfl,_,.t rfl .nil,k⟩⟩ | exact ⟨fun k => ⟨.inr rfl,_,.t rfl (.t rfl .nil),k⟩⟩ | exact ⟨fun k => ⟨.inr rfl,_,.t rfl (.t rfl (.t rfl .nil)),k⟩⟩ | exact ⟨fun k => ⟨.inr rfl,_,.nil,k⟩⟩ | exact ⟨fun k => ⟨.inl rfl,_,.t rfl .nil,k⟩⟩ | exact ⟨fun k => ⟨.inl rfl,_,.nil,k⟩⟩ | ((try dsimp only [thenW, outW]); refine iCn (a:=?_) (v:=?_) ?_ ?_; rotate_left 2; exact rfl; exact zN) | ((try dsimp only [thenW, outW]); refine iCt (a:=?_) (v:=?_) (w:=?_) ?_ ?_ ?_; rotate_left 3; exact rfl; exact zN; exact rfl)) : G := h.go k
theorem zc' {G H : Prop} (h : Wlk H G := by first
 | (refine iS (vs:=?_) (v:=?_) ?_ ?_; rotate_left 2; exact rfl; assumption)
 | (refine iV (g:=?_) (first:=?_) (cap:=?_) (vs:=?_) (v:=?_) ?_ ?_ ?_; rotate_left 5; exact rfl; exact rfl; assumption)
 | (refine iW (vs:=?_) (v:=?_) ?_ ?_ ?_; rotate_left 2; exact rfl; assumption; (repeat (first | exact trivial | refine And.intro (Or.inl rfl) ?_ | (refine And.intro (Or.inr ?_) ?_; (focus (first | exact Rdk.i1 | assumption | (refine Rdk.in ?_; first | assumption | exact rfl) | (refine Rdk.b1 (cs := ?_) ?_ ?_; rotate_left; (repeat (first | exact InK.here | refine InK.there ?_)); exact rfl) | (refine Rdk.bw ?_ ?_; (repeat (first | exact InK.here | refine InK.there ?_)); first | assumption | exact rfl) | (refine Rdk.bw (cs := ?_) ?_ ?_; rotate_left; (repeat (first | exact InK.here | refine InK.there ?_)); first | assumption | exact rfl) | (refine Rdk.bn ?_ ?_; (repeat (first | exact InK.here | refine InK.there ?_)); exact rfl) | (refine Rdk.bn (cs := ?_) ?_ ?_; rotate_left; (repeat (first | exact InK.here | refine InK.there ?_)); exact rfl)))))))) : Wlk H G := h
theorem za' {G H : Prop} (h : Wlk H G := by first
 | (refine iB (a:=?_) ?_ ?_; rotate_left 1; exact rfl; exact rfl) | exact ⟨Rg.alloc⟩ | (refine iL (cs:=?_) ?_; rotate_left; exact rfl) | exact iDA Mk.alloc | (refine iDL (cs:=?_) ?_; rotate_left; exact rfl)) : Wlk H G := h
theorem zv' {G H : Prop} (h : Wlk H G := by first
 | (refine .a2 (iC (a:=?_) (b:=?_) (p:=?_) ?_ ?_ ?_); rotate_left 3; exact rfl; exact rfl; exact zC)
 | (refine .a2 (iQ (vs:=?_) (g:=?_) ?_ ?_); rotate_left 2; exact rfl; assumption)
 | (refine .a2 (iT (g:=?_) (first:=?_) (cap:=?_) (vs:=?_) (w:=?_) ?_ ?_ ?_); rotate_left 5; exact rfl; exact rfl; assumption)
 | (refine .a2 (iE (a:=?_) (b:=?_) (p:=?_) ?_ ?_ ?_); rotate_left 3; exact rfl; exact rfl; exact zC)
 | (refine .a2 (iY (vs:=?_) (g:=?_) ?_ ?_ ?_); rotate_left 2; exact rfl; assumption; (repeat (first | exact trivial | refine And.intro (Or.inl rfl) ?_ | (refine And.intro (Or.inr ?_) ?_; (focus (first | exact Rdk.i1 | assumption | (refine Rdk.in ?_; first | assumption | exact rfl) | (refine Rdk.b1 (cs := ?_) ?_ ?_; rotate_left; (repeat (first | exact InK.here | refine InK.there ?_)); exact rfl) | (refine Rdk.bw ?_ ?_; (repeat (first | exact InK.here | refine InK.there ?_)); first | assumption | exact rfl) | (refine Rdk.bw (cs := ?_) ?_ ?_; rotate_left; (repeat (first | exact InK.here | refine InK.there ?_)); first | assumption | exact rfl) | (refine Rdk.bn ?_ ?_; (repeat (first | exact InK.here | refine InK.there ?_)); exact rfl) | (refine Rdk.bn (cs := ?_) ?_ ?_; rotate_left; (repeat (first | exact InK.here | refine InK.there ?_)); exact rfl)))))))) : Wlk H G := h
theorem iXs {o : BinOp} {x y : AO} {a b : AV} {p : Prop} (hx : x.evL l = some a) (hy : y.evL l = some b) (h : Cmp o a b p) : Wlk (YB p (Rg P nd os (putL l d (.bool true)) K Q) (Rg P nd os (putL l d (.bool false)) K Q)) (Rg P nd (⟨d, .p (.bin o x y), none, pre⟩ :: os) l K Q) := (iX hx hy h Dec3.S).br
theorem iXt {o : BinOp} {x y : AO} {a b : AV} {p : Prop} (hx : x.evL l = some a) (hy : y.evL l = some b) (h : Cmp o a b p) : Wlk (YB p (Dw P (i + 1) os (putL l d (.bool true)) K Kp efs rds Q) (Dw P (i + 1) os (putL l d (.bool false)) K Kp efs rds Q)) (Dw P i (⟨d, .p (.bin o x y), none, pre⟩ :: os) l K Kp efs rds Q) := (iXD hx hy h Dec3.S).br
theorem zw' {G H : Prop} (h : Wlk H G := by first
 | (refine iXs (a:=?_) (b:=?_) (p:=?_) ?_ ?_ ?_; rotate_left 3; exact rfl; exact rfl; exact zC)
 | (refine iXt (a:=?_) (b:=?_) (p:=?_) ?_ ?_ ?_; rotate_left 3; exact rfl; exact rfl; exact zC)) : Wlk H G := h
theorem zd' {G H : Prop} (h : Wlk H G := by first | (refine .bd (iK (t:=?_) ?_); rotate_left 1; exact rfl) | (refine .bd (iG (c:=?_) ?_); rotate_left 1; exact rfl) | (refine .bd (iH (c:=?_) ?_); rotate_left 1; exact rfl)) : Wlk H G := h
theorem zz' {G H : Prop} (h : Wlk H G := by first
 | exact ⟨Cd.seq⟩ | exact ⟨Cd.reg⟩ | exact ⟨Rg.nil⟩ | (refine iGY ?_; exact rfl) | (refine iGN ?_; exact rfl) | (refine iGT ?_; exact rfl)
 | (refine iP (v:=?_) ?_; rotate_left 1; exact zEn)
 | (refine iPk (b:=?_) (u:=?_) (v:=?_) ?_ ?_ ?_; rotate_left 3; exact rfl; exact rfl; exact rfl)
 | (refine iX (a:=?_) (b:=?_) (p:=?_) (H:=?_) ?_ ?_ ?_ ?_; rotate_left 4; exact rfl; exact rfl; exact zC; first | exact zT3 | exact zT4)
 | (refine iPb (a:=?_) (b:=?_) (v:=?_) ?_ ?_ ?_; rotate_left 3; exact rfl; exact rfl; exact zB)
 | (refine iR (a:=?_) (b:=?_) (v:=?_) ?_ ?_ ?_; rotate_left 3; exact rfl; exact rfl; exact zN)
 | (refine iO (b:=?_) (lm:=?_) (cs:=?_) (r:=?_) (K':=?_) ?_ ?_ ?_ ?_ ?_ ?_; rotate_left 5; exact rfl; exact rfl; (repeat (first | exact Upd.here | (refine Upd.there (K' := ?_) ?_; rotate_left))); (first | assumption | exact rfl); exact Nat.le_of_ble_eq_true rfl; exact rfl)
 | (refine iO2 (b:=?_) (off:=?_) (lm:=?_) (cs:=?_) (v:=?_) (K':=?_) ?_ ?_ ?_ ?_ ?_ ?_ ?_; rotate_left 6; exact rfl; exact rfl; (repeat (first | exact Upd.here | (refine Upd.there (K' := ?_) ?_; rotate_left))); exact rfl; exact rfl; exact Nat.le_of_ble_eq_true rfl; exact Nat.le_of_ble_eq_true rfl)
 | exact ⟨Lp.round⟩ | exact ⟨Cd.draw⟩ | exact ⟨Dw.nil⟩ | (refine iHY ?_; exact rfl) | (refine iHN ?_; exact rfl) | (refine iHT ?_; exact rfl)
 | (refine iD (v:=?_) ?_; rotate_left 1; exact zEn)
 | (refine iDk (b:=?_) (u:=?_) (v:=?_) ?_ ?_ ?_; rotate_left 3; exact rfl; exact rfl; exact rfl)
 | (refine iXD (a:=?_) (b:=?_) (p:=?_) (H:=?_) ?_ ?_ ?_ ?_; rotate_left 4; exact rfl; exact rfl; exact zC; first | exact zT3 | exact zT4)
 | (refine iDb (a:=?_) (b:=?_) (v:=?_) ?_ ?_ ?_; rotate_left 3; exact rfl; exact rfl; exact zB)
 | (refine iF (a:=?_) (b:=?_) (v:=?_) ?_ ?_ ?_ ?_; rotate_left 3; exact rfl; exact rfl; exact zN; exact zM)
 | (refine iKT ?_; exact rfl) | (refine iKF ?_; exact rfl) | exact ⟨Cd.skip⟩ | exact ⟨Cd.blk⟩ | exact ⟨Cd.ext⟩ | exact ⟨Cd.ret⟩) : Wlk H G := h
theorem yS {G H : Prop} (k : H) (h : Wlk H G := by first | exact zz' | exact zw' | exact zv' | exact za' | exact zc') : G := h.go k
theorem yU {G H : Prop} (k : H) (h : Wlk H G := by first | exact zz' | exact zv' | exact za' | exact zc') : G := h.go k
theorem yT {G X Y : Prop} {t : Bool} (k1 : t = true → X) (k2 : t = false → Y) (h : Wlk (YD t X Y) G := by exact zd') : G := h.go ⟨k1, k2⟩
end
namespace C
abbrev O := List AOper
abbrev m (d t p : Nat) : AOper := ⟨some d, .p (.mov (.t t)), none, p⟩
abbrev c (d : Nat) (v : AV) (p : Nat) : AOper := ⟨some d, .p (.mov (.c v)), none, p⟩
abbrev z (d n p : Nat) : AOper := ⟨some d, .p (.mov (.c (.int .i64 (.ofNat n)))), none, p⟩
abbrev e (d t i p : Nat) : AOper := ⟨some d, .p (.ext (.t t) i), none, p⟩
abbrev n (d t p : Nat) : AOper := ⟨some d, .p (.nilchk (.t t)), none, p⟩
abbrev f (d i w t p : Nat) : AOper := ⟨some d, .p (.fadr i w (.t t)), none, p⟩
abbrev i (d s a b p : Nat) : AOper := ⟨some d, .p (.iadr s (.t a) (.t b)), none, p⟩
abbrev l (d t p : Nat) : AOper := ⟨some d, .p (.len false (.t t)), none, p⟩
abbrev L (d t p : Nat) : AOper := ⟨some d, .p (.len true (.t t)), none, p⟩
abbrev b (d : Nat) (o : BinOp) (x y p : Nat) : AOper := ⟨some d, .p (.bin o (.t x) (.t y)), none, p⟩
abbrev B (d : Nat) (o : BinOp) (x k p : Nat) : AOper := ⟨some d, .p (.bin o (.t x) (.c (.int .i64 (.ofNat k)))), none, p⟩
abbrev a (d x y p : Nat) : AOper := ⟨some d, .p (.pick (.t x) (.t y) (.c (.bool false))), none, p⟩
abbrev o (d x y p : Nat) : AOper := ⟨some d, .p (.pick (.t x) (.c (.bool true)) (.t y)), none, p⟩
abbrev u (d t p : Nat) : AOper := ⟨some d, .p (.un .not (.t t)), none, p⟩
abbrev q (d : Nat) (o : POp) (p : Nat) : AOper := ⟨some d, .p o, none, p⟩
abbrev k (d f : Nat) (xs : List AO) (p : Nat) : AOper := ⟨some d, .e (.call f xs), none, p⟩
abbrev r (d t p : Nat) : AOper := ⟨some d, .r .load1 (.t t) (.t t), none, p⟩
abbrev R (d w t p : Nat) : AOper := ⟨some d, .r (.loadn w) (.t t) (.t t), none, p⟩
abbrev s (w x y p : Nat) : AOper := ⟨none, .e (.store w (.t x) (.t y)), none, p⟩
abbrev gm (d t g : Nat) (w : Bool) (p : Nat) : AOper := ⟨some d, .p (.mov (.t t)), some (g, w), p⟩
abbrev gn (d t g : Nat) (w : Bool) (p : Nat) : AOper := ⟨some d, .p (.nilchk (.t t)), some (g, w), p⟩
abbrev gf (d i x t g : Nat) (w : Bool) (p : Nat) : AOper := ⟨some d, .p (.fadr i x (.t t)), some (g, w), p⟩
abbrev gi (d s a b g : Nat) (w : Bool) (p : Nat) : AOper := ⟨some d, .p (.iadr s (.t a) (.t b)), some (g, w), p⟩
abbrev gl (d t g : Nat) (w : Bool) (p : Nat) : AOper := ⟨some d, .p (.len false (.t t)), some (g, w), p⟩
abbrev gL (d t g : Nat) (w : Bool) (p : Nat) : AOper := ⟨some d, .p (.len true (.t t)), some (g, w), p⟩
abbrev gb (d : Nat) (o : BinOp) (x y g : Nat) (w : Bool) (p : Nat) : AOper := ⟨some d, .p (.bin o (.t x) (.t y)), some (g, w), p⟩
abbrev gB (d : Nat) (o : BinOp) (x k g : Nat) (w : Bool) (p : Nat) : AOper := ⟨some d, .p (.bin o (.t x) (.c (.int .i64 (.ofNat k)))), some (g, w), p⟩
abbrev gu (d t g : Nat) (w : Bool) (p : Nat) : AOper := ⟨some d, .p (.un .not (.t t)), some (g, w), p⟩
abbrev gr (d t g : Nat) (w : Bool) (p : Nat) : AOper := ⟨some d, .r .load1 (.t t) (.t t), some (g, w), p⟩
abbrev gk (d f : Nat) (xs : List AO) (g : Nat) (w : Bool) (p : Nat) : AOper := ⟨some d, .e (.call f xs), some (g, w), p⟩
abbrev gq (d : Nat) (o : POp) (g : Nat) (w : Bool) (p : Nat) : AOper := ⟨some d, .p o, some (g, w), p⟩
abbrev S (x y : ACode) : ACode := .seq x y
abbrev G (x : List AOper) : ACode := .reg x
abbrev D (x : List AOper) : ACode := .draw x
abbrev I (t : Nat) (x y : ACode) : ACode := .cond (.t t) x y
abbrev X (t : Nat) (j : Nat) : ACode := .cond (.t t) .skip (.ext j)
abbrev E (x : List AOper) : ACode := .seq (.reg x) .ret
abbrev W (t : Nat) (x : List AOper) : ACode := .cond (.t t) (.seq (.reg x) .ret) .skip
abbrev Y (j : Nat) (x : ACode) : ACode := .blk j (.loop x)
end C
end Go.Abs
