/- Maps whose keys are told by a plain type. -/
import Derived.Test.YtiiajdfjnamfcaaGreatAbsW
import Derived.Test.YtiiajdfjnamfcaaGreatAbsU
set_option autoImplicit false
set_option linter.unusedVariables false
set_option linter.unusedSimpArgs false
namespace Go.Abs
open Go
structure KE (α : Type) [DecidableEq α] (ag : Bool) (ks : List CK) where
 v : α → AV
 ok : ∀ a, keyOk ag ks (v a) = true
 eq : ∀ a b, flatEq ag ks (v a) (v b) = some (decide (a = b))
section
variable {α : Type} [DecidableEq α] {ag : Bool} {ks : List CK} (E : KE α ag ks)
variable {P : Program} {nd : Bool} {l : SL} {K : Mem}
end
end Go.Abs
namespace Go.Abs
open Go
theorem Sel.left (m r : Mem) : Sel (m ++ r) m r := by
 induction m with
 | nil => exact .nil
 | cons c m ih => exact .cons .here ih
section
variable {P : Program} {nd : Bool} {f : FuncId} {args : List AV} {K : Mem}
theorem Frm.permL {B : Nat} {s s' : St} {K K2 K' : Mem} (hp : K.flatten.Perm K2.flatten) (h : Frm B s K2 s' K') : Frm B s K s' K' :=
 ⟨h.next, fun id hi hn => h.old id hi fun hm => hn ((ids_perm hp).mem_iff.2 hm), fun id hi => (h.new id hi).imp_left fun h => (ids_perm hp).mem_iff.2 h⟩
theorem Frm.permR {B : Nat} {s s' : St} {K K' K2 : Mem} (hp : K'.flatten.Perm K2.flatten) (h : Frm B s K s' K') : Frm B s K s' K2 :=
 ⟨h.next, h.old, fun id hi => h.new id ((ids_perm hp).mem_iff.2 hi)⟩
theorem CT.perm {K2 : Mem} {Q : AV → Mem → Prop} (hp : K.flatten.Perm K2.flatten) (h : CT P nd f args K2 Q) : CT P nd f args K Q := fun s hs =>
 (h s (hs.perm hp)).mono fun v s' _ ⟨K', h1, h2, h3⟩ => ⟨K', h1, h2.permL hp, h3⟩
theorem CT.re {Q R : AV → Mem → Prop} (h : CT P nd f args K Q) (k : ∀ v K', Q v K' → ∃ K2, K'.flatten.Perm K2.flatten ∧ R v K2) : CT P nd f args K R := fun s hs =>
 (h s hs).mono fun v s' _ ⟨K', h1, h2, h3⟩ => by
  obtain ⟨K2, hp, h4⟩ := k v K' h3
  exact ⟨K2, h1.perm hp, h2.permR hp, h4⟩
theorem CT.over {m r : Mem} {Q R : AV → Mem → Prop} (hp : K.flatten.Perm (m ++ r).flatten) (h : CT P nd f args m Q) (k : ∀ v m', Q v m' → ∃ K2, (m' ++ r).flatten.Perm K2.flatten ∧ R v K2) : CT P nd f args K R :=
 CT.perm hp (CT.re (h.sel (Sel.left m r)) fun v K' ⟨m', e, hq⟩ => by subst e; exact k v m' hq)
theorem Lp.fr {l : SL} {b : ACode} {k : Nat} {m r : Mem} {Q : AX → SL → Mem → Prop} (hs : Sel K m r) (h : Lp P nd b k l m fun x l m' => Q x l (m' ++ r)) : Lp P nd b k l K Q := (Lp.frame hs h).mono (by rintro _ _ _ ⟨m', rfl, h⟩; exact h)
theorem Take.app {K K1 m2 : Mem} {c : Chk} (h : Take K c K1) : Take (K ++ m2) c (K1 ++ m2) := by
 induction h with
 | here => exact .here
 | there _ ih => exact .there ih
theorem Take.skip {r : Mem} {c : Chk} : ∀ K : Mem, Take (K ++ c :: r) c (K ++ r)
 | [] => .here
 | d :: K => .there (Take.skip K)
theorem Sel.right (K : Mem) : ∀ m2 : Mem, Sel (K ++ m2) m2 K
 | [] => by rw [List.append_nil]; exact .nil
 | c :: m2 => .cons (Take.skip K) (Sel.right K m2)
end
end Go.Abs
namespace Go.Abs
open Go
structure YA {r : Bool → Prop} (p : Bool → Prop) : Prop where
 g : ∀ c, r c → p c
structure YB (p X Y : Prop) : Prop where
 l : p → X
 r : ¬ p → Y
structure YD (t : Bool) (X Y : Prop) : Prop where
 l : t = true → X
 r : t = false → Y
theorem nbT {b : Bool} : ((!b) = true) = (b = false) := Bool.not_eq_true' b
theorem nbF {b : Bool} : ((!b) = false) = (b = true) := Bool.not_eq_false' b
theorem Wlk.a2 {r : Bool → Prop} {p : Bool → Prop} {G : Prop} (h : Wlk (∀ c, r c → p c) G) : Wlk (@YA r p) G := ⟨fun k => h.go k.g⟩
theorem Wlk.br {p X Y G : Prop} (h : Wlk ((p → X) ∧ (¬ p → Y)) G) : Wlk (YB p X Y) G := ⟨fun k => h.go ⟨k.l, k.r⟩⟩
theorem Wlk.bd {t : Bool} {X Y G : Prop} (h : Wlk ((t = true → X) ∧ (t = false → Y)) G) : Wlk (YD t X Y) G := ⟨fun k => h.go ⟨k.l, k.r⟩⟩
section
variable {P : Program} {nd : Bool} {l : SL} {K : Mem} {os : List AOper} {d : Option Nat} {pre : Nat} {Q : SL → Mem → Prop} {i : Nat} {Kp : Mem} {efs : List (Nat × Mem)} {rds : List Rd}
theorem iCn {R : AV → Mem → Prop} {n k : Nat} {a v : AV} (h1 : lkS l n = some a) (h2 : Rdk K (.loadn k) a a v) : Wlk (R (packL [v]) K) (DoneK [.cn n k] R .ret l K) := ⟨fun h => ⟨.inr rfl, _, .cn h1 h2 .nil, h⟩⟩
theorem iCt {R : AV → Mem → Prop} {n k m : Nat} {a v w : AV} (h1 : lkS l n = some a) (h2 : Rdk K (.loadn k) a a v) (h3 : lkS l m = some w) : Wlk (R (packL [v, w]) K) (DoneK [.cn n k, .t m] R .ret l K) := ⟨fun h => ⟨.inr rfl, _, .cn h1 h2 (.t h3 .nil), h⟩⟩
theorem yX {G H : Prop} (k : H) (h : Wlk H G := by first | exact ⟨fun k => ⟨.inr rfl,_,.t rfl .nil,k⟩⟩ | exact ⟨fun k => ⟨.inr rfl,_,.t rfl (.t rfl .nil),k⟩⟩ | exact ⟨fun k => ⟨.inr rfl,_,.t rfl (.t rfl (.t rfl .nil)),k⟩⟩ | exact ⟨fun k => ⟨.inr rfl,_,.nil,k⟩⟩ | exact ⟨fun k => ⟨.inl rfl,_,.t rfl .nil,k⟩⟩ | exact ⟨fun k => ⟨.inl rfl,_,.nil,k⟩⟩ | ((try dsimp only [thenW, outW]); refine iCn (a:=?_) (v:=?_) ?_ ?_; rotate_left 2; exact rfl; exact zN) | ((try dsimp only [thenW, outW]); refine iCt (a:=?_) (v:=?_) (w:=?_) ?_ ?_ ?_; rotate_left 3; exact rfl; exact zN; exact rfl)) : G := h.go k
theorem zc' {G H : Prop} (h : Wlk H G := by first
 | (refine iS (vs:=?_) (v:=?_) ?_ ?_; rotate_left 2; exact rfl; assumption)
 | (refine iV (g:=?_) (first:=?_) (cap:=?_) (vs:=?_) (v:=?_) ?_ ?_ ?_; rotate_left 5; exact rfl; exact rfl; assumption)
 | (refine iW (vs:=?_) (v:=?_) ?_ ?_ ?_; rotate_left 2; exact rfl; assumption; (repeat (first | exact trivial | refine And.intro (Or.inl rfl) ?_ | (refine And.intro (Or.inr ?_) ?_; (focus (first | exact Rdk.i1 | assumption | (refine Rdk.in ?_; first | assumption | exact rfl) | (refine Rdk.b1 (cs := ?_) ?_ ?_; rotate_left; (repeat (first | exact InK.here | refine InK.there ?_)); exact rfl) | (refine Rdk.bw ?_ ?_; (repeat (first | exact InK.here | refine InK.there ?_)); first | assumption | exact rfl) | (refine Rdk.bw (cs := ?_) ?_ ?_; rotate_left; (repeat (first | exact InK.here | refine InK.there ?_)); first | assumption | exact rfl) | (refine Rdk.bn ?_ ?_; (repeat (first | exact InK.here | refine InK.there ?_)); exact rfl) | (refine Rdk.bn (cs := ?_) ?_ ?_; rotate_left; (repeat (first | exact InK.here | refine InK.there ?_)); exact rfl)))))))) : Wlk H G := h
theorem za' {G H : Prop} (h : Wlk H G := by first
 | (refine iB (a:=?_) ?_ ?_; rotate_left 1; exact rfl; exact rfl) | exact ⟨Rg.alloc⟩ | (refine iL (cs:=?_) ?_; rotate_left; exact rfl) | exact iDA Mk.alloc | (refine iDL (cs:=?_) ?_; rotate_left; exact rfl)) : Wlk H G := h
theorem zv' {G H : Prop} (h : Wlk H G := by first
 | (refine .a2 (iC (a:=?_) (b:=?_) (p:=?_) ?_ ?_ ?_); rotate_left 3; exact rfl; exact rfl; exact zC)
 | (refine .a2 (iQ (vs:=?_) (g:=?_) ?_ ?_); rotate_left 2; exact rfl; assumption)
 | (refine .a2 (iT (g:=?_) (first:=?_) (cap:=?_) (vs:=?_) (w:=?_) ?_ ?_ ?_); rotate_left 5; exact rfl; exact rfl; assumption)
 | (refine .a2 (iE (a:=?_) (b:=?_) (p:=?_) ?_ ?_ ?_); rotate_left 3; exact rfl; exact rfl; exact zC)
 | (refine .a2 (iY (vs:=?_) (g:=?_) ?_ ?_ ?_); rotate_left 2; exact rfl; assumption; (repeat (first | exact trivial | refine And.intro (Or.inl rfl) ?_ | (refine And.intro (Or.inr ?_) ?_; (focus (first | exact Rdk.i1 | assumption | (refine Rdk.in ?_; first | assumption | exact rfl) | (refine Rdk.b1 (cs := ?_) ?_ ?_; rotate_left; (repeat (first | exact InK.here | refine InK.there ?_)); exact rfl) | (refine Rdk.bw ?_ ?_; (repeat (first | exact InK.here | refine InK.there ?_)); first | assumption | exact rfl) | (refine Rdk.bw (cs := ?_) ?_ ?_; rotate_left; (repeat (first | exact InK.here | refine InK.there ?_)); first | assumption | exact rfl) | (refine Rdk.bn ?_ ?_; (repeat (first | exact InK.here | refine InK.there ?_)); exact rfl) | (refine Rdk.bn (cs := ?_) ?_ ?_; rotate_left; (repeat (first | exact InK.here | refine InK.there ?_)); exact rfl)))))))) : Wlk H G := h
theorem iXs {o : BinOp} {x y : AO} {a b : AV} {p : Prop} (hx : x.evL l = some a) (hy : y.evL l = some b) (h : Cmp o a b p) : Wlk (YB p (Rg P nd os (putL l d (.bool true)) K Q) (Rg P nd os (putL l d (.bool false)) K Q)) (Rg P nd (⟨d, .p (.bin o x y), none, pre⟩ :: os) l K Q) := (iX hx hy h Dec3.S).br
theorem iXt {o : BinOp} {x y : AO} {a b : AV} {p : Prop} (hx : x.evL l = some a) (hy : y.evL l = some b) (h : Cmp o a b p) : Wlk (YB p (Dw P (i + 1) os (putL l d (.bool true)) K Kp efs rds Q) (Dw P (i + 1) os (putL l d (.bool false)) K Kp efs rds Q)) (Dw P i (⟨d, .p (.bin o x y), none, pre⟩ :: os) l K Kp efs rds Q) := (iXD hx hy h Dec3.S).br
theorem zw' {G H : Prop} (h : Wlk H G := by first
 | (refine iXs (a:=?_) (b:=?_) (p:=?_) ?_ ?_ ?_; rotate_left 3; exact rfl; exact rfl; exact zC)
 | (refine iXt (a:=?_) (b:=?_) (p:=?_) ?_ ?_ ?_; rotate_left 3; exact rfl; exact rfl; exact zC)) : Wlk H G := h
theorem zd' {G H : Prop} (h : Wlk H G := by first | (refine .bd (iK (t:=?_) ?_); rotate_left 1; exact rfl) | (refine .bd (iG (c:=?_) ?_); rotate_left 1; exact rfl) | (refine .bd (iH (c:=?_) ?_); rotate_left 1; exact rfl)) : Wlk H G := h
theorem zz' {G H : Prop} (h : Wlk H G := by first
 | exact ⟨Cd.seq⟩ | exact ⟨Cd.reg⟩ | exact ⟨Rg.nil⟩ | (refine iGY ?_; exact rfl) | (refine iGN ?_; exact rfl) | (refine iGT ?_; exact rfl)
 | (refine iP (v:=?_) ?_; rotate_left 1; exact zEn)
 | (refine iPk (b:=?_) (u:=?_) (v:=?_) ?_ ?_ ?_; rotate_left 3; exact rfl; exact rfl; exact rfl)
 | (refine iX (a:=?_) (b:=?_) (p:=?_) (H:=?_) ?_ ?_ ?_ ?_; rotate_left 4; exact rfl; exact rfl; exact zC; first | exact zT3 | exact zT4)
 | (refine iPb (a:=?_) (b:=?_) (v:=?_) ?_ ?_ ?_; rotate_left 3; exact rfl; exact rfl; exact zB)
 | (refine iR (a:=?_) (b:=?_) (v:=?_) ?_ ?_ ?_; rotate_left 3; exact rfl; exact rfl; exact zN)
 | (refine iO (b:=?_) (lm:=?_) (cs:=?_) (r:=?_) (K':=?_) ?_ ?_ ?_ ?_ ?_ ?_; rotate_left 5; exact rfl; exact rfl; (repeat (first | exact Upd.here | (refine Upd.there (K' := ?_) ?_; rotate_left))); (first | assumption | exact rfl); exact Nat.le_of_ble_eq_true rfl; exact rfl)
 | (refine iO2 (b:=?_) (off:=?_) (lm:=?_) (cs:=?_) (v:=?_) (K':=?_) ?_ ?_ ?_ ?_ ?_ ?_ ?_; rotate_left 6; exact rfl; exact rfl; (repeat (first | exact Upd.here | (refine Upd.there (K' := ?_) ?_; rotate_left))); exact rfl; exact rfl; exact Nat.le_of_ble_eq_true rfl; exact Nat.le_of_ble_eq_true rfl)
 | exact ⟨Lp.round⟩ | exact ⟨Cd.draw⟩ | exact ⟨Dw.nil⟩ | (refine iHY ?_; exact rfl) | (refine iHN ?_; exact rfl) | (refine iHT ?_; exact rfl)
 | (refine iD (v:=?_) ?_; rotate_left 1; exact zEn)
 | (refine iDk (b:=?_) (u:=?_) (v:=?_) ?_ ?_ ?_; rotate_left 3; exact rfl; exact rfl; exact rfl)
 | (refine iXD (a:=?_) (b:=?_) (p:=?_) (H:=?_) ?_ ?_ ?_ ?_; rotate_left 4; exact rfl; exact rfl; exact zC; first | exact zT3 | exact zT4)
 | (refine iDb (a:=?_) (b:=?_) (v:=?_) ?_ ?_ ?_; rotate_left 3; exact rfl; exact rfl; exact zB)
 | (refine iF (a:=?_) (b:=?_) (v:=?_) ?_ ?_ ?_ ?_; rotate_left 3; exact rfl; exact rfl; exact zN; exact zM)
 | (refine iKT ?_; exact rfl) | (refine iKF ?_; exact rfl) | exact ⟨Cd.skip⟩ | exact ⟨Cd.blk⟩ | exact ⟨Cd.ext⟩ | exact ⟨Cd.ret⟩) : Wlk H G := h
theorem yS {G H : Prop} (k : H) (h : Wlk H G := by first | exact zz' | exact zw' | exact zv' | exact za' | exact zc') : G := h.go k
theorem yT {G X Y : Prop} {t : Bool} (k1 : t = true → X) (k2 : t = false → Y) (h : Wlk (YD t X Y) G := by exact zd') : G := h.go ⟨k1, k2⟩
end
namespace C
abbrev O := List AOper
abbrev m (d t p : Nat) : AOper := ⟨some d, .p (.mov (.t t)), none, p⟩
abbrev c (d : Nat) (v : AV) (p : Nat) : AOper := ⟨some d, .p (.mov (.c v)), none, p⟩
abbrev z (d n p : Nat) : AOper := ⟨some d, .p (.mov (.c (.int .i64 (.ofNat n)))), none, p⟩
abbrev e (d t i p : Nat) : AOper := ⟨some d, .p (.ext (.t t) i), none, p⟩
abbrev n (d t p : Nat) : AOper := ⟨some d, .p (.nilchk (.t t)), none, p⟩
abbrev f (d i w t p : Nat) : AOper := ⟨some d, .p (.fadr i w (.t t)), none, p⟩
abbrev i (d s a b p : Nat) : AOper := ⟨some d, .p (.iadr s (.t a) (.t b)), none, p⟩
abbrev l (d t p : Nat) : AOper := ⟨some d, .p (.len false (.t t)), none, p⟩
abbrev L (d t p : Nat) : AOper := ⟨some d, .p (.len true (.t t)), none, p⟩
abbrev b (d : Nat) (o : BinOp) (x y p : Nat) : AOper := ⟨some d, .p (.bin o (.t x) (.t y)), none, p⟩
abbrev B (d : Nat) (o : BinOp) (x k p : Nat) : AOper := ⟨some d, .p (.bin o (.t x) (.c (.int .i64 (.ofNat k)))), none, p⟩
abbrev a (d x y p : Nat) : AOper := ⟨some d, .p (.pick (.t x) (.t y) (.c (.bool false))), none, p⟩
abbrev o (d x y p : Nat) : AOper := ⟨some d, .p (.pick (.t x) (.c (.bool true)) (.t y)), none, p⟩
abbrev u (d t p : Nat) : AOper := ⟨some d, .p (.un .not (.t t)), none, p⟩
abbrev q (d : Nat) (o : POp) (p : Nat) : AOper := ⟨some d, .p o, none, p⟩
abbrev k (d f : Nat) (xs : List AO) (p : Nat) : AOper := ⟨some d, .e (.call f xs), none, p⟩
abbrev r (d t p : Nat) : AOper := ⟨some d, .r .load1 (.t t) (.t t), none, p⟩
abbrev R (d w t p : Nat) : AOper := ⟨some d, .r (.loadn w) (.t t) (.t t), none, p⟩
abbrev s (w x y p : Nat) : AOper := ⟨none, .e (.store w (.t x) (.t y)), none, p⟩
abbrev gm (d t g : Nat) (w : Bool) (p : Nat) : AOper := ⟨some d, .p (.mov (.t t)), some (g, w), p⟩
abbrev gn (d t g : Nat) (w : Bool) (p : Nat) : AOper := ⟨some d, .p (.nilchk (.t t)), some (g, w), p⟩
abbrev gf (d i x t g : Nat) (w : Bool) (p : Nat) : AOper := ⟨some d, .p (.fadr i x (.t t)), some (g, w), p⟩
abbrev gi (d s a b g : Nat) (w : Bool) (p : Nat) : AOper := ⟨some d, .p (.iadr s (.t a) (.t b)), some (g, w), p⟩
abbrev gl (d t g : Nat) (w : Bool) (p : Nat) : AOper := ⟨some d, .p (.len false (.t t)), some (g, w), p⟩
abbrev gb (d : Nat) (o : BinOp) (x y g : Nat) (w : Bool) (p : Nat) : AOper := ⟨some d, .p (.bin o (.t x) (.t y)), some (g, w), p⟩
abbrev gB (d : Nat) (o : BinOp) (x k g : Nat) (w : Bool) (p : Nat) : AOper := ⟨some d, .p (.bin o (.t x) (.c (.int .i64 (.ofNat k)))), some (g, w), p⟩
abbrev gr (d t g : Nat) (w : Bool) (p : Nat) : AOper := ⟨some d, .r .load1 (.t t) (.t t), some (g, w), p⟩
abbrev gk (d f : Nat) (xs : List AO) (g : Nat) (w : Bool) (p : Nat) : AOper := ⟨some d, .e (.call f xs), some (g, w), p⟩
abbrev gq (d : Nat) (o : POp) (g : Nat) (w : Bool) (p : Nat) : AOper := ⟨some d, .p o, some (g, w), p⟩
abbrev S (x y : ACode) : ACode := .seq x y
abbrev G (x : List AOper) : ACode := .reg x
abbrev D (x : List AOper) : ACode := .draw x
abbrev I (t : Nat) (x y : ACode) : ACode := .cond (.t t) x y
abbrev X (t : Nat) (j : Nat) : ACode := .cond (.t t) .skip (.ext j)
abbrev E (x : List AOper) : ACode := .seq (.reg x) .ret
abbrev W (t : Nat) (x : List AOper) : ACode := .cond (.t t) (.seq (.reg x) .ret) .skip
abbrev Y (j : Nat) (x : ACode) : ACode := .blk j (.loop x)
end C
end Go.Abs
