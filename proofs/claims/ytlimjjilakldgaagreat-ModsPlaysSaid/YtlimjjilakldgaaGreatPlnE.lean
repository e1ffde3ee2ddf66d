/- The program's table of modules in memory. Contracts: what is told. -/
import Derived.Test.YtlimjjilakldgaaGreatPlnD
set_option autoImplicit false
set_option maxRecDepth 100000
set_option maxHeartbeats 4000000
set_option linter.unusedVariables false
set_option linter.unusedSimpArgs false
namespace Go.Proofs.YtlimjjilakldgaaGreat
open Go Go.Abs
attribute [local irreducible] Cmp Rg Dw Cd Lp Ev Rdk CT Upd InK
abbrev mP (b : Nat) : AV := .ptr b 0 0 4
abbrev mB (b : Nat) (nv : AV) (mt mu next : Nat) : Chk := [(b, .cells [nv, .map mt, .map mu, .int .i64 (.ofNat next)] 0 0 false)]
abbrev tC (mt ck : Nat) (tes : List (EntG (List Nat))) : Chk := [(mt, .map (entsG keS tes) ck)]
abbrev uC (mu ck : Nat) (ues : List (EntG Nat)) : Chk := [(mu, .map (entsG keN ues) ck)]
def moV (x : MO) : Val := ⟨(x.cur : Int), (match x.old with | some o => (o : Int) | none => -1), x.st⟩
abbrev z0 : Val := ⟨0, 0, []⟩
section
variable {b mt mu next ck : Nat} {nv : AV} {tes : List (EntG (List Nat))} {n : List Nat}
theorem there12 : CT Try.prog false 12 [mP b] [mB b nv mt mu next] fun w K' => w = .bool true ∧ K' = [mB b nv mt mu next] := by
 refine CT.enterS mixed comp12 (Nat.le_of_ble_eq_true rfl) ?_
 repeat' (first|intro _|refine yS ?_|(apply YB.mk<;>intro hc)|(apply YA.mk;intro cv hv)|(refine yT ?_ ?_<;>(intro e;(try simp only [nbT,nbF] at e);subst e;try contradiction)))
 all_goals refine yX ?_
 all_goals (exact ⟨_, _, (.cons (.here) (.nil)), rfl, rfl⟩)
def findA (o : Option MO) : AV := match o with
 | some x => .tup [valA (moV x), .bool true]
 | none => .tup [valA z0, .bool false]
theorem find11 {o : Option MO} (ht : lkG n tes = o.map fun x => valA (moV x)) : CT Try.prog false 11 [mP b, .str n] [mB b nv mt mu next, tC mt ck tes] fun w K' => w = findA o ∧ K' = [mB b nv mt mu next, tC mt ck tes] := by
 have hlk : ∀ K, InK K mt (.map (entsG keS tes) ck) → Rdk K (.lookup false [.s] (valA z0) true) (.map mt) (.str n) (.tup [getG n (valA z0) tes, .bool (underG n tes).isSome]) := fun K h => Rdk.lookkG keS h
 refine CT.enterS mixed comp11 (Nat.le_of_ble_eq_true rfl) ?_
 unfold lkG at ht
 cases hu : underG n tes with
 | none =>
  rw [hu] at ht
  cases o with
  | some x => cases ht
  | none =>
   rw [hu] at hlk
   rw [show getG n (valA z0) tes = valA z0 by unfold getG; rw [hu]] at hlk
   repeat' (first|(refine Rg.callM rfl there12 (.cons (.there (.here)) (.nil)) ?_; rintro _ _ ⟨rfl, rfl⟩)|refine yR hlk ?_|intro _|refine yS ?_|(apply YB.mk<;>intro hc)|(apply YA.mk;intro cv hv)|(refine yT ?_ ?_<;>(intro e;(try simp only [nbT,nbF] at e);subst e;try contradiction)))
   refine Dw.e (Ef.storeW rfl rfl (.there (.there Upd.here)) rfl (Nat.le_of_ble_eq_true rfl) rfl) ?_
   rintro _ _ ⟨rfl, rfl⟩
   refine yO ?_
   repeat' (first|intro _|refine yS ?_|(apply YB.mk<;>intro hc)|(apply YA.mk;intro cv hv)|(refine yT ?_ ?_<;>(intro e;(try simp only [nbT,nbF] at e);subst e;try contradiction)))
   refine yX ?_
   exact ⟨_, _, (.cons (.there (.here)) (.cons (.there (.there (.here))) (.nil))), rfl, rfl⟩
 | some p =>
  obtain ⟨v, k⟩ := p
  rw [hu] at ht
  cases o with
  | none => cases ht
  | some x =>
   simp only [Option.map_some, Option.some.injEq] at ht
   subst ht
   rw [hu] at hlk
   rw [show getG n (valA z0) tes = valA (moV x) by unfold getG; rw [hu]] at hlk
   have q : aeq (.flat true [.i, .i, .s]) (.agg (valR (moV x))) (.agg [.int .i64 (.negSucc 0), .int .i64 (.negSucc 0), .str []]) = some false := by
    rw [show (AV.agg (valR (moV x))) = valA (moV x) from rfl, show (AV.agg [.int .i64 (.negSucc 0), .int .i64 (.negSucc 0), .str []]) = valA ⟨-1, -1, []⟩ from rfl]
    simp only [aeq, flatVal]
    rw [decide_eq_false]
    intro e
    have := congrArg Val.k e
    simp only [moV] at this
    omega
   repeat' (first|(refine Rg.callM rfl there12 (.cons (.there (.here)) (.nil)) ?_; rintro _ _ ⟨rfl, rfl⟩)|refine yR hlk ?_|intro _|refine yS ?_|(apply YB.mk<;>intro hc)|(apply YA.mk;intro cv hv)|(refine yT ?_ ?_<;>(intro e;(try simp only [nbT,nbF] at e);subst e;try contradiction)))
   refine Dw.e (Ef.storeW rfl rfl (.there (.there Upd.here)) rfl (Nat.le_of_ble_eq_true rfl) rfl) ?_
   rintro _ _ ⟨rfl, rfl⟩
   refine yO ?_
   repeat' (first|intro _|refine yS ?_|(apply YB.mk<;>intro hc)|(apply YA.mk;intro cv hv)|(refine yT ?_ ?_<;>(intro e;(try simp only [nbT,nbF] at e);subst e;try contradiction)))
   refine yX ?_
   exact ⟨_, _, (.cons (.there (.here)) (.cons (.there (.there (.here))) (.nil))), rfl, rfl⟩
def toldA (o : Option Nat) : AV := match o with
 | some i => .tup [.int .i64 (.ofNat i), .bool true]
 | none => .tup [.int .i64 (.ofNat 0), .bool false]
theorem told45N {i : Int} : PT Try.prog false 45 [.int .i64 i, .bool false] (toldA none) := by
 refine PT.of (CT.enter mixed comp45 (Nat.le_of_ble_eq_true rfl) ?_)
 repeat' (first|intro _|refine yS ?_|(apply YB.mk<;>intro hc)|(apply YA.mk;intro cv hv)|(refine yT ?_ ?_<;>(intro e;(try simp only [nbT,nbF] at e);subst e;try contradiction)))
 refine yX ?_
 rfl
theorem told45M : PT Try.prog false 45 [.int .i64 (.negSucc 0), .bool true] (toldA none) := by
 refine PT.of (CT.enter mixed comp45 (Nat.le_of_ble_eq_true rfl) ?_)
 repeat' (first|intro _|refine yS ?_|(apply YB.mk<;>intro hc)|(apply YA.mk;intro cv hv)|(refine yT ?_ ?_<;>(intro e;(try simp only [nbT,nbF] at e);subst e;try contradiction)))
 all_goals refine yX ?_
 all_goals rfl
theorem told45S {i : Nat} : PT Try.prog false 45 [.int .i64 (.ofNat i), .bool true] (toldA (some i)) := by
 refine PT.of (CT.enter mixed comp45 (Nat.le_of_ble_eq_true rfl) ?_)
 repeat' (first|intro _|refine yS ?_|(apply YB.mk<;>intro hc)|(apply YA.mk;intro cv hv)|(refine yT ?_ ?_<;>(intro e;(try simp only [nbT,nbF] at e);subst e;try contradiction)))
 all_goals refine yX ?_
 all_goals first | rfl | cases hc
theorem cur31 {o : Option MO} (ht : lkG n tes = o.map fun x => valA (moV x)) : CT Try.prog false 31 [mP b, .str n] [mB b nv mt mu next, tC mt ck tes] fun w K' => w = toldA (o.map fun x => x.cur) ∧ K' = [mB b nv mt mu next, tC mt ck tes] := by
 have kf := find11 (b := b) (mt := mt) (mu := mu) (next := next) (ck := ck) (nv := nv) ht
 refine CT.enterS mixed comp31 (Nat.le_of_ble_eq_true rfl) ?_
 cases o with
 | none =>
  have kt := told45N (i := 0)
  simp only [findA] at kf
  repeat' (first|(refine Rg.callM rfl kf (.cons (.here) (.cons (.here) (.nil))) ?_; rintro _ _ ⟨rfl, rfl⟩)|intro _|refine yS ?_|(apply YB.mk<;>intro hc)|(apply YA.mk;intro cv hv)|(refine yT ?_ ?_<;>(intro e;(try simp only [nbT,nbF] at e);subst e;try contradiction)))
  refine yX ?_
  exact ⟨_, _, (.cons (.there (.here)) (.cons (.there (.here)) (.nil))), rfl, rfl⟩
 | some x =>
  have kt := told45S (i := x.cur)
  simp only [findA] at kf
  repeat' (first|(refine Rg.callM rfl kf (.cons (.here) (.cons (.here) (.nil))) ?_; rintro _ _ ⟨rfl, rfl⟩)|intro _|refine yS ?_|(apply YB.mk<;>intro hc)|(apply YA.mk;intro cv hv)|(refine yT ?_ ?_<;>(intro e;(try simp only [nbT,nbF] at e);subst e;try contradiction)))
  refine yX ?_
  exact ⟨_, _, (.cons (.there (.here)) (.cons (.there (.here)) (.nil))), rfl, rfl⟩
theorem old33 {o : Option MO} (ht : lkG n tes = o.map fun x => valA (moV x)) : CT Try.prog false 33 [mP b, .str n] [mB b nv mt mu next, tC mt ck tes] fun w K' => w = toldA (o.bind fun x => x.old) ∧ K' = [mB b nv mt mu next, tC mt ck tes] := by
 have kf := find11 (b := b) (mt := mt) (mu := mu) (next := next) (ck := ck) (nv := nv) ht
 refine CT.enterS mixed comp33 (Nat.le_of_ble_eq_true rfl) ?_
 cases o with
 | none =>
  have kt := told45N (i := 0)
  simp only [findA] at kf
  repeat' (first|(refine Rg.callM rfl kf (.cons (.here) (.cons (.here) (.nil))) ?_; rintro _ _ ⟨rfl, rfl⟩)|intro _|refine yS ?_|(apply YB.mk<;>intro hc)|(apply YA.mk;intro cv hv)|(refine yT ?_ ?_<;>(intro e;(try simp only [nbT,nbF] at e);subst e;try contradiction)))
  refine yX ?_
  exact ⟨_, _, (.cons (.there (.here)) (.cons (.there (.here)) (.nil))), rfl, rfl⟩
 | some x =>
  obtain ⟨nm, cur, old, st⟩ := x
  simp only [findA] at kf
  cases old with
  | none =>
   have kt := told45M
   repeat' (first|(refine Rg.callM rfl kf (.cons (.here) (.cons (.here) (.nil))) ?_; rintro _ _ ⟨rfl, rfl⟩)|intro _|refine yS ?_|(apply YB.mk<;>intro hc)|(apply YA.mk;intro cv hv)|(refine yT ?_ ?_<;>(intro e;(try simp only [nbT,nbF] at e);subst e;try contradiction)))
   refine yX ?_
   exact ⟨_, _, (.cons (.there (.here)) (.cons (.there (.here)) (.nil))), rfl, rfl⟩
  | some i =>
   have kt := told45S (i := i)
   repeat' (first|(refine Rg.callM rfl kf (.cons (.here) (.cons (.here) (.nil))) ?_; rintro _ _ ⟨rfl, rfl⟩)|intro _|refine yS ?_|(apply YB.mk<;>intro hc)|(apply YA.mk;intro cv hv)|(refine yT ?_ ?_<;>(intro e;(try simp only [nbT,nbF] at e);subst e;try contradiction)))
   refine yX ?_
   exact ⟨_, _, (.cons (.there (.here)) (.cons (.there (.here)) (.nil))), rfl, rfl⟩
def stA (o : Option (List Nat)) : AV := match o with
 | some s => .tup [.str s, .bool true]
 | none => .tup [.str [], .bool false]
theorem state35 {o : Option MO} (ht : lkG n tes = o.map fun x => valA (moV x)) : CT Try.prog false 35 [mP b, .str n] [mB b nv mt mu next, tC mt ck tes] fun w K' => w = stA (o.map fun x => x.st) ∧ K' = [mB b nv mt mu next, tC mt ck tes] := by
 have kf := find11 (b := b) (mt := mt) (mu := mu) (next := next) (ck := ck) (nv := nv) ht
 refine CT.enterS mixed comp35 (Nat.le_of_ble_eq_true rfl) ?_
 cases o with
 | none =>
  simp only [findA] at kf
  repeat' (first|(refine Rg.callM rfl kf (.cons (.here) (.cons (.here) (.nil))) ?_; rintro _ _ ⟨rfl, rfl⟩)|intro _|refine yS ?_|(apply YB.mk<;>intro hc)|(apply YA.mk;intro cv hv)|(refine yT ?_ ?_<;>(intro e;(try simp only [nbT,nbF] at e);subst e;try contradiction)))
  refine yX ?_
  exact ⟨_, _, (.cons (.there (.here)) (.cons (.there (.here)) (.nil))), rfl, rfl⟩
 | some x =>
  simp only [findA] at kf
  repeat' (first|(refine Rg.callM rfl kf (.cons (.here) (.cons (.here) (.nil))) ?_; rintro _ _ ⟨rfl, rfl⟩)|intro _|refine yS ?_|(apply YB.mk<;>intro hc)|(apply YA.mk;intro cv hv)|(refine yT ?_ ?_<;>(intro e;(try simp only [nbT,nbF] at e);subst e;try contradiction)))
  refine yX ?_
  exact ⟨_, _, (.cons (.there (.here)) (.cons (.there (.here)) (.nil))), rfl, rfl⟩
def mayN (o : Option MO) (len : Nat) (vr ver : Int) : Nat := match o with
 | none => if 16 ≤ len then 3 else 0
 | some x => match x.old with
  | some _ => 20
  | none => if ver ≤ vr then 15 else 0
abbrev u0 : AV := .agg [.str [], .int .i64 0, .nilslc, .int .i64 0, .nilslc]
theorem may6 {o : Option MO} {mu2 ck2 len : Nat} {ues : List (EntG Nat)} {vr ver : Int} (ht : lkG n tes = o.map fun x => valA (moV x)) (hlen : apure .e (.len false (.c nv)) = some (.int .i64 (.ofNat len)))
  (hu : ∀ x, o = some x → x.old = none → ∃ u' : Unt, lkG x.cur ues = some (.agg (unitR u')) ∧ u'.version = vr) :
  CT Try.prog false 6 [mP b, .str n, .int .i64 ver] [mB b nv mt mu2 next, tC mt ck tes, uC mu2 ck2 ues] fun w K' => w = .int .i64 (.ofNat (mayN o len vr ver)) ∧ K' = [mB b nv mt mu2 next, tC mt ck tes, uC mu2 ck2 ues] := by
 have kf := find11 (b := b) (mt := mt) (mu := mu2) (next := next) (ck := ck) (nv := nv) ht
 refine CT.enterS mixed comp6 (Nat.le_of_ble_eq_true rfl) ?_
 cases o with
 | none =>
  simp only [findA] at kf
  by_cases h : 16 ≤ len
  ·rw [show mayN none len vr ver = 3 by simp [mayN, h]]
   repeat' (first|(refine Rg.callM rfl kf (.cons (.here) (.cons (.here) (.nil))) ?_; rintro _ _ ⟨rfl, rfl⟩)|(refine Rg.callM rfl there12 (.cons (.there (.here)) (.nil)) ?_; rintro _ _ ⟨rfl, rfl⟩)|intro _|refine yS ?_|(apply YB.mk<;>intro hc)|(apply YA.mk;intro cv hv)|(refine yT ?_ ?_<;>(intro e;(try simp only [nbT,nbF] at e);subst e;try contradiction)))
   refine yX ?_
   exact ⟨_, _, (.cons (.here) (.cons (.there (.here)) (.cons (.there (.here)) (.nil)))), rfl, rfl⟩
  ·rw [show mayN none len vr ver = 0 by simp [mayN, h]]
   repeat' (first|(refine Rg.callM rfl kf (.cons (.here) (.cons (.here) (.nil))) ?_; rintro _ _ ⟨rfl, rfl⟩)|(refine Rg.callM rfl there12 (.cons (.there (.here)) (.nil)) ?_; rintro _ _ ⟨rfl, rfl⟩)|intro _|refine yS ?_|(apply YB.mk<;>intro hc)|(apply YA.mk;intro cv hv)|(refine yT ?_ ?_<;>(intro e;(try simp only [nbT,nbF] at e);subst e;try contradiction)))
   refine yX ?_
   exact ⟨_, _, (.cons (.here) (.cons (.there (.here)) (.cons (.there (.here)) (.nil)))), rfl, rfl⟩
 | some x =>
  obtain ⟨nm, cur, old, st⟩ := x
  simp only [findA] at kf
  cases old with
  | some i =>
   rw [show mayN (some ⟨nm, cur, some i, st⟩) len vr ver = 20 from rfl]
   have q20 : abin .neq (.int .i64 (.ofNat i)) (.int .i64 (.negSucc 0)) = some (.bool true) := rfl
   repeat' (first|(refine zz ?_ (by refine iPb (o := .neq) (a:=?_) (b:=?_) (v:=?_) ?_ ?_ ?_; rotate_left 3; exact rfl; exact rfl; exact q20))|(refine Rg.callM rfl kf (.cons (.here) (.cons (.here) (.nil))) ?_; rintro _ _ ⟨rfl, rfl⟩)|(refine Rg.callM rfl there12 (.cons (.there (.here)) (.nil)) ?_; rintro _ _ ⟨rfl, rfl⟩)|intro _|refine yS ?_|(apply YB.mk<;>intro hc)|(apply YA.mk;intro cv hv)|(refine yT ?_ ?_<;>(intro e;(try simp only [nbT,nbF] at e);subst e;try contradiction)))
   refine yX ?_
   exact ⟨_, _, (.cons (.here) (.cons (.there (.here)) (.cons (.there (.here)) (.nil)))), rfl, rfl⟩
  | none =>
   obtain ⟨u', h1, h2⟩ := hu _ rfl rfl
   have hlk : ∀ K, InK K mu2 (.map (entsG keN ues) ck2) → Rdk K (.lookup false [.i] u0 false) (.map mu2) (.int .i64 (.ofNat cur)) (.agg (unitR u')) := fun K h => by
    have := Rdk.lookG (K := K) (k := cur) (z := u0) keN h
    unfold lkG at h1
    unfold getG at this
    cases hx : underG cur ues with
    | none => rw [hx] at h1; cases h1
    | some p =>
     rw [hx] at h1 this
     simp only [Option.map_some, Option.some.injEq] at h1
     rw [← h1]
     exact this
   have q21 : abin .neq (.int .i64 (.negSucc 0)) (.int .i64 (.negSucc 0)) = some (.bool false) := rfl
   by_cases hv : ver ≤ vr
   ·rw [show mayN (some ⟨nm, cur, none, st⟩) len vr ver = 15 by simp [mayN, hv]]
    have hv2 : ver ≤ u'.version := by rw [h2]; exact hv
    repeat' (first|(refine zz ?_ (by refine iPb (o := .neq) (a:=?_) (b:=?_) (v:=?_) ?_ ?_ ?_; rotate_left 3; exact rfl; exact rfl; exact q21))|(refine Rg.callM rfl kf (.cons (.here) (.cons (.here) (.nil))) ?_; rintro _ _ ⟨rfl, rfl⟩)|(refine Rg.callM rfl there12 (.cons (.there (.here)) (.nil)) ?_; rintro _ _ ⟨rfl, rfl⟩)|refine yD hlk ?_|intro _|refine yS ?_|(apply YB.mk<;>intro hc)|(apply YA.mk;intro cv hv)|(refine yT ?_ ?_<;>(intro e;(try simp only [nbT,nbF] at e);subst e;try contradiction)))
    refine yX ?_
    exact ⟨_, _, (.cons (.here) (.cons (.there (.here)) (.cons (.there (.here)) (.nil)))), rfl, rfl⟩
   ·rw [show mayN (some ⟨nm, cur, none, st⟩) len vr ver = 0 by simp [mayN, hv]]
    have hv2 : ¬ ver ≤ u'.version := by rw [h2]; exact hv
    repeat' (first|(refine zz ?_ (by refine iPb (o := .neq) (a:=?_) (b:=?_) (v:=?_) ?_ ?_ ?_; rotate_left 3; exact rfl; exact rfl; exact q21))|(refine Rg.callM rfl kf (.cons (.here) (.cons (.here) (.nil))) ?_; rintro _ _ ⟨rfl, rfl⟩)|(refine Rg.callM rfl there12 (.cons (.there (.here)) (.nil)) ?_; rintro _ _ ⟨rfl, rfl⟩)|refine yD hlk ?_|intro _|refine yS ?_|(apply YB.mk<;>intro hc)|(apply YA.mk;intro cv hv)|(refine yT ?_ ?_<;>(intro e;(try simp only [nbT,nbF] at e);subst e;try contradiction)))
    refine yX ?_
    exact ⟨_, _, (.cons (.here) (.cons (.there (.here)) (.cons (.there (.here)) (.nil)))), rfl, rfl⟩
end
end Go.Proofs.YtlimjjilakldgaaGreat
namespace Go.Proofs.YtlimjjilakldgaaGreat
open Go Go.Abs
structure PM where
 N : OS
 mt : Nat
 ck : Nat
 tes : List (EntG (List Nat))
 mu : Nat
 ck2 : Nat
 ues : List (EntG Nat)
abbrev PM.mem (X : PM) (b : Nat) (s : MS) : Mem := [mB b (X.N.v 1) X.mt X.mu s.U.length, tC X.mt X.ck X.tes, uC X.mu X.ck2 X.ues, X.N.c]
def nmR (x : MO) : List AV := [.str x.nm]
structure PM.ok (X : PM) (P : Chk) (s : MS) : Prop where
 N1 : X.N.ok 1
 N2 : X.N.rows = s.L.map nmR
 g1 : GoodG X.tes X.ck
 t : ∀ n, lkG n X.tes = (fM s n).map fun x => valA (moV x)
 g2 : GoodG X.ues X.ck2
 u1 : ∀ i v, lkG i X.ues = some v → hasU s i = true ∧ ∃ u u', s.U[i]? = some u ∧ v = .agg (unitR u') ∧ MemU P u' ∧ SameU u u'
 u2 : ∀ i, hasU s i = true → (lkG i X.ues).isSome = true
def HM (b : Nat) (P : Chk) (s : MS) (c : Chk) : Prop := ∃ X : PM, X.ok P s ∧ c = (X.mem b s).flatten
theorem HM.mono {b : Nat} {P Q : Chk} {s : MS} {c : Chk} (h : HM b P s c) (hs : ∀ id o, (id, o) ∈ P → (id, o) ∈ Q) : HM b Q s c := by
 obtain ⟨X, hX, rfl⟩ := h
 refine ⟨X, ⟨hX.N1, hX.N2, hX.g1, hX.t, hX.g2, fun i v hv => ?_, hX.u2⟩, rfl⟩
 obtain ⟨h1, u, u', h2, h3, h4, h5⟩ := hX.u1 i v hv
 exact ⟨h1, u, u', h2, h3, h4.mono hs, h5⟩
section
variable {b : Nat} {P c : Chk} {s : MS} {n : List Nat}
theorem curM (h : HM b P s c) : CT Try.prog false 31 [mP b, .str n] [c] fun w K' => w = toldA (mCur s n) ∧ K' = [c] := by
 obtain ⟨X, hX, rfl⟩ := h
 refine CT.over (m := [mB b (X.N.v 1) X.mt X.mu s.U.length, tC X.mt X.ck X.tes]) (r := [uC X.mu X.ck2 X.ues, X.N.c]) (by simp) (cur31 (hX.t n)) ?_
 rintro v m' ⟨rfl, rfl⟩
 exact ⟨_, by simp, rfl, rfl⟩
theorem oldM (h : HM b P s c) : CT Try.prog false 33 [mP b, .str n] [c] fun w K' => w = toldA (mOld s n) ∧ K' = [c] := by
 obtain ⟨X, hX, rfl⟩ := h
 refine CT.over (m := [mB b (X.N.v 1) X.mt X.mu s.U.length, tC X.mt X.ck X.tes]) (r := [uC X.mu X.ck2 X.ues, X.N.c]) (by simp) (old33 (hX.t n)) ?_
 rintro v m' ⟨rfl, rfl⟩
 exact ⟨_, by simp, rfl, rfl⟩
theorem stateM (h : HM b P s c) : CT Try.prog false 35 [mP b, .str n] [c] fun w K' => w = stA (mState s n) ∧ K' = [c] := by
 obtain ⟨X, hX, rfl⟩ := h
 refine CT.over (m := [mB b (X.N.v 1) X.mt X.mu s.U.length, tC X.mt X.ck X.tes]) (r := [uC X.mu X.ck2 X.ues, X.N.c]) (by simp) (state35 (hX.t n)) ?_
 rintro v m' ⟨rfl, rfl⟩
 exact ⟨_, by simp, rfl, rfl⟩
theorem hasU_cur {x : MO} (hx : x ∈ s.L) : hasU s x.cur = true := by
 unfold hasU
 rw [List.any_eq_true]
 exact ⟨x, hx, by simp⟩
theorem PM.ok.unit {X : PM} (hX : X.ok P s) {i : Nat} (h : hasU s i = true) : ∃ u u', s.U[i]? = some u ∧ lkG i X.ues = some (.agg (unitR u')) ∧ MemU P u' ∧ SameU u u' := by
 have := hX.u2 i h
 cases hl : lkG i X.ues with
 | none => rw [hl] at this; cases this
 | some v =>
  obtain ⟨_, u, u', h1, rfl, h3, h4⟩ := hX.u1 i v hl
  exact ⟨u, u', h1, rfl, h3, h4⟩
theorem mayM (h : HM b P s c) {ver : Int} : CT Try.prog false 6 [mP b, .str n, .int .i64 ver] [c] fun w K' => w = .int .i64 (.ofNat (mMay s n ver)) ∧ K' = [c] := by
 obtain ⟨X, hX, rfl⟩ := h
 have hlen := hX.N1.len
 rw [hX.N2, List.length_map] at hlen
 have key : ∃ vr, (∀ x, fM s n = some x → x.old = none → ∃ u' : Unt, lkG x.cur X.ues = some (.agg (unitR u')) ∧ u'.version = vr) ∧ mayN (fM s n) s.L.length vr ver = mMay s n ver := by
  unfold mMay
  cases hf : fM s n with
  | none => exact ⟨0, fun x hx => (by cases hx), rfl⟩
  | some x =>
   cases ho : x.old with
   | some o => exact ⟨0, fun y hy hn => (by cases hy; rw [ho] at hn; cases hn), by simp [mayN, ho]⟩
   | none =>
    obtain ⟨u, u', h1, h2, h3, h4⟩ := hX.unit (hasU_cur (fM_mem hf).1)
    refine ⟨u.version, fun y hy _ => ?_, ?_⟩
    ·cases hy
     exact ⟨u', h2, h4.version.symm⟩
    ·simp [mayN, ho, h1]
 obtain ⟨vr, k1, k2⟩ := key
 refine CT.over (m := [mB b (X.N.v 1) X.mt X.mu s.U.length, tC X.mt X.ck X.tes, uC X.mu X.ck2 X.ues]) (r := [X.N.c]) (by simp) (may6 (hX.t n) hlen k1) ?_
 rintro v m' ⟨rfl, rfl⟩
 exact ⟨_, by simp, by rw [k2], rfl⟩
end
end Go.Proofs.YtlimjjilakldgaaGreat
namespace Go.Proofs.YtlimjjilakldgaaGreat
open Go Go.Abs
attribute [local irreducible] Cmp Rg Dw Cd Lp Ev Rdk CT Upd InK
section
variable {b mt mu next ck ck2 : Nat} {nv : AV} {tes : List (EntG (List Nat))} {ues : List (EntG Nat)} {n st : List Nat}
theorem set16N (ht : lkG n tes = none) : CT Try.prog false 16 [mP b, .str n, .str st] [mB b nv mt mu next, tC mt ck tes] fun w K' => w = .int .i64 (.ofNat 8) ∧ K' = [mB b nv mt mu next, tC mt ck tes] := by
 have kf := find11 (b := b) (mt := mt) (mu := mu) (next := next) (ck := ck) (nv := nv) (n := n) (o := none) ht
 simp only [findA] at kf
 refine CT.enterS mixed comp16 (Nat.le_of_ble_eq_true rfl) ?_
 repeat' (first|(refine Rg.callM rfl kf (.cons (.here) (.cons (.here) (.nil))) ?_; rintro _ _ ⟨rfl, rfl⟩)|(refine Rg.callM rfl there12 (.cons (.there (.here)) (.nil)) ?_; rintro _ _ ⟨rfl, rfl⟩)|intro _|refine yS ?_|(apply YB.mk<;>intro hc)|(apply YA.mk;intro cv hv)|(refine yT ?_ ?_<;>(intro e;(try simp only [nbT,nbF] at e);subst e;try contradiction)))
 refine yX ?_
 exact ⟨_, _, (.cons (.here) (.cons (.there (.here)) (.nil))), rfl, rfl⟩
theorem set16F {x : MO} (ht : lkG n tes = some (valA (moV x))) (hst : ∀ x, x ∈ st → x < 256) (hl : st.length ≤ 900000) (hr : Q.rightB st = false) : CT Try.prog false 16 [mP b, .str n, .str st] [mB b nv mt mu next, tC mt ck tes] fun w K' => w = .int .i64 (.ofNat 23) ∧ K' = [mB b nv mt mu next, tC mt ck tes] := by
 have kf := find11 (b := b) (mt := mt) (mu := mu) (next := next) (ck := ck) (nv := nv) (n := n) (o := some x) ht
 simp only [findA] at kf
 have kr := Q.right14 hst hl
 rw [hr] at kr
 refine CT.enterS mixed comp16 (Nat.le_of_ble_eq_true rfl) ?_
 repeat' (first|(refine Rg.callM rfl kf (.cons (.here) (.cons (.here) (.nil))) ?_; rintro _ _ ⟨rfl, rfl⟩)|(refine Rg.callM rfl there12 (.cons (.there (.here)) (.nil)) ?_; rintro _ _ ⟨rfl, rfl⟩)|intro _|refine yS ?_|(apply YB.mk<;>intro hc)|(apply YA.mk;intro cv hv)|(refine yT ?_ ?_<;>(intro e;(try simp only [nbT,nbF] at e);subst e;try contradiction)))
 refine yX ?_
 exact ⟨_, _, (.cons (.here) (.cons (.there (.here)) (.nil))), rfl, rfl⟩
theorem set16S {x : MO} (ht : lkG n tes = some (valA (moV x))) (hst : ∀ x, x ∈ st → x < 256) (hl : st.length ≤ 900000) (hr : Q.rightB st = true) : CT Try.prog false 16 [mP b, .str n, .str st] [mB b nv mt mu next, tC mt ck tes] fun w K' => w = .int .i64 (.ofNat 0) ∧ K' = [mB b nv mt mu next, tC mt (putNG n ck tes) (putG n (valA (moV ⟨x.nm, x.cur, x.old, st⟩)) ck tes)] := by
 have kf := find11 (b := b) (mt := mt) (mu := mu) (next := next) (ck := ck) (nv := nv) (n := n) (o := some x) ht
 simp only [findA] at kf
 have kr := Q.right14 hst hl
 rw [hr] at kr
 refine CT.enterS mixed comp16 (Nat.le_of_ble_eq_true rfl) ?_
 repeat' (first|(refine Rg.callM rfl kf (.cons (.here) (.cons (.here) (.nil))) ?_; rintro _ _ ⟨rfl, rfl⟩)|(refine Rg.callM rfl there12 (.cons (.there (.here)) (.nil)) ?_; rintro _ _ ⟨rfl, rfl⟩)|intro _|refine yS ?_|(apply YB.mk<;>intro hc)|(apply YA.mk;intro cv hv)|(refine yT ?_ ?_<;>(intro e;(try simp only [nbT,nbF] at e);subst e;try contradiction)))
 refine Dw.e (Ef.mupdG keS (k := n) (es := tes) (v := valA (moV ⟨x.nm, x.cur, x.old, st⟩)) rfl rfl rfl (.there (.there Upd.here))) ?_
 rintro _ _ ⟨rfl, rfl⟩
 refine yO ?_
 repeat' (first|intro _|refine yS ?_|(apply YB.mk<;>intro hc)|(apply YA.mk;intro cv hv)|(refine yT ?_ ?_<;>(intro e;(try simp only [nbT,nbF] at e);subst e;try contradiction)))
 refine yX ?_
 exact ⟨_, _, (.cons (.here) (.cons (.there (.here)) (.nil))), rfl, rfl⟩
theorem purge18N (ht : lkG n tes = none) : CT Try.prog false 18 [mP b, .str n] [mB b nv mt mu next, tC mt ck tes, uC mu ck2 ues] fun w K' => w = .int .i64 (.ofNat 8) ∧ K' = [mB b nv mt mu next, tC mt ck tes, uC mu ck2 ues] := by
 have kf := find11 (b := b) (mt := mt) (mu := mu) (next := next) (ck := ck) (nv := nv) (n := n) (o := none) ht
 simp only [findA] at kf
 refine CT.enterS mixed comp18 (Nat.le_of_ble_eq_true rfl) ?_
 repeat' (first|(refine Rg.callM rfl kf (.cons (.here) (.cons (.here) (.nil))) ?_; rintro _ _ ⟨rfl, rfl⟩)|(refine Rg.callM rfl there12 (.cons (.there (.here)) (.nil)) ?_; rintro _ _ ⟨rfl, rfl⟩)|intro _|refine yS ?_|(apply YB.mk<;>intro hc)|(apply YA.mk;intro cv hv)|(refine yT ?_ ?_<;>(intro e;(try simp only [nbT,nbF] at e);subst e;try contradiction)))
 refine yX ?_
 exact ⟨_, _, (.cons (.here) (.cons (.there (.here)) (.cons (.there (.here)) (.nil)))), rfl, rfl⟩
theorem purge18B {nm st : List Nat} {cur : Nat} (ht : lkG n tes = some (valA (moV ⟨nm, cur, none, st⟩))) : CT Try.prog false 18 [mP b, .str n] [mB b nv mt mu next, tC mt ck tes, uC mu ck2 ues] fun w K' => w = .int .i64 (.ofNat 8) ∧ K' = [mB b nv mt mu next, tC mt ck tes, uC mu ck2 ues] := by
 have kf := find11 (b := b) (mt := mt) (mu := mu) (next := next) (ck := ck) (nv := nv) (n := n) (o := some ⟨nm, cur, none, st⟩) ht
 simp only [findA] at kf
 have q21 : abin .eql (.int .i64 (.negSucc 0)) (.int .i64 (.negSucc 0)) = some (.bool true) := rfl
 refine CT.enterS mixed comp18 (Nat.le_of_ble_eq_true rfl) ?_
 repeat' (first|(refine zz ?_ (by refine iPb (o := .eql) (a:=?_) (b:=?_) (v:=?_) ?_ ?_ ?_; rotate_left 3; exact rfl; exact rfl; exact q21))|(refine Rg.callM rfl kf (.cons (.here) (.cons (.here) (.nil))) ?_; rintro _ _ ⟨rfl, rfl⟩)|(refine Rg.callM rfl there12 (.cons (.there (.here)) (.nil)) ?_; rintro _ _ ⟨rfl, rfl⟩)|intro _|refine yS ?_|(apply YB.mk<;>intro hc)|(apply YA.mk;intro cv hv)|(refine yT ?_ ?_<;>(intro e;(try simp only [nbT,nbF] at e);subst e;try contradiction)))
 refine yX ?_
 exact ⟨_, _, (.cons (.here) (.cons (.there (.here)) (.cons (.there (.here)) (.nil)))), rfl, rfl⟩
theorem purge18S {nm st : List Nat} {cur o : Nat} (ht : lkG n tes = some (valA (moV ⟨nm, cur, some o, st⟩))) : CT Try.prog false 18 [mP b, .str n] [mB b nv mt mu next, tC mt ck tes, uC mu ck2 ues] fun w K' => w = .int .i64 (.ofNat 0) ∧ K' = [mB b nv mt mu next, tC mt (putNG n ck tes) (putG n (valA (moV ⟨nm, cur, none, st⟩)) ck tes), uC mu ck2 (delG o ues)] := by
 have kf := find11 (b := b) (mt := mt) (mu := mu) (next := next) (ck := ck) (nv := nv) (n := n) (o := some ⟨nm, cur, some o, st⟩) ht
 simp only [findA] at kf
 have q21 : abin .eql (.int .i64 (.ofNat o)) (.int .i64 (.negSucc 0)) = some (.bool false) := rfl
 refine CT.enterS mixed comp18 (Nat.le_of_ble_eq_true rfl) ?_
 repeat' (first|(refine zz ?_ (by refine iPb (o := .eql) (a:=?_) (b:=?_) (v:=?_) ?_ ?_ ?_; rotate_left 3; exact rfl; exact rfl; exact q21))|(refine Rg.callM rfl kf (.cons (.here) (.cons (.here) (.nil))) ?_; rintro _ _ ⟨rfl, rfl⟩)|(refine Rg.callM rfl there12 (.cons (.there (.here)) (.nil)) ?_; rintro _ _ ⟨rfl, rfl⟩)|intro _|refine yS ?_|(apply YB.mk<;>intro hc)|(apply YA.mk;intro cv hv)|(refine yT ?_ ?_<;>(intro e;(try simp only [nbT,nbF] at e);subst e;try contradiction)))
 refine Dw.e (Ef.mdelG keN (k := o) (es := ues) rfl rfl (.there (.there (.there Upd.here)))) ?_
 rintro _ _ ⟨rfl, rfl⟩
 refine yO ?_
 repeat' (first|intro _|refine yS ?_|(apply YB.mk<;>intro hc)|(apply YA.mk;intro cv hv)|(refine yT ?_ ?_<;>(intro e;(try simp only [nbT,nbF] at e);subst e;try contradiction)))
 refine Dw.e (Ef.mupdG keS (k := n) (es := tes) (v := valA (moV ⟨nm, cur, none, st⟩)) rfl rfl rfl (.there (.there Upd.here))) ?_
 rintro _ _ ⟨rfl, rfl⟩
 refine yO ?_
 repeat' (first|intro _|refine yS ?_|(apply YB.mk<;>intro hc)|(apply YA.mk;intro cv hv)|(refine yT ?_ ?_<;>(intro e;(try simp only [nbT,nbF] at e);subst e;try contradiction)))
 refine yX ?_
 exact ⟨_, _, (.cons (.here) (.cons (.there (.here)) (.cons (.there (.here)) (.nil)))), rfl, rfl⟩
theorem names28 {N : OS} (hN : N.ok 1) (hl : N.rows.length ≤ 1000) : CT Try.prog false 28 [mP b] [mB b (N.v 1) mt mu next, N.c] fun w K' => ∃ O : OS, O.ok 1 ∧ O.rows = N.rows ∧ w = O.v 1 ∧ K' = [mB b (N.v 1) mt mu next, N.c, O.c] := by
 refine CT.enterS mixed comp28 (Nat.le_of_ble_eq_true rfl) ?_
 repeat' (first|(refine Rg.callM rfl there12 (.cons (.here) (.nil)) ?_; rintro _ _ ⟨rfl, rfl⟩)|intro _|refine yS ?_|(apply YB.mk<;>intro hc)|(apply YA.mk;intro cv hv)|(refine yT ?_ ?_<;>(intro e;(try simp only [nbT,nbF] at e);subst e;try contradiction)))
 refine Rg.e (Ef.appI (rs := N.rows) (n := N.rows.length) rfl rfl hN.row rfl (Rw.os hN fun id o h => .there (.mem h)) (by simp only [lim]; omega)) ?_
 rintro _ _ ⟨O, hO, hOr, rfl, rfl⟩
 repeat' (first|intro _|refine yS ?_|(apply YB.mk<;>intro hc)|(apply YA.mk;intro cv hv)|(refine yT ?_ ?_<;>(intro e;(try simp only [nbT,nbF] at e);subst e;try contradiction)))
 refine yX ?_
 exact ⟨_, _, (.cons (.there (.here)) (.cons (.there (.here)) (.cons (.here) (.nil)))), O, hO, hOr, rfl, rfl⟩
end
end Go.Proofs.YtlimjjilakldgaaGreat
namespace Go.Proofs.YtlimjjilakldgaaGreat
open Go Go.Abs
theorem fM_upd {U V : List Unt} {n m : List Nat} {f : MO → MO} (hf : ∀ x, (f x).nm = x.nm) : ∀ {L : List MO}, fM ⟨updM n f L, V⟩ m = (fM ⟨L, U⟩ m).map fun x => if m = n then f x else x
 | [] => rfl
 | x :: L => by
  have ih := fM_upd (U := U) (V := V) (n := n) (m := m) hf (L := L)
  simp only [fM, updM] at ih
  simp only [fM, updM, List.map_cons, List.find?_cons]
  by_cases h : x.nm = m
  ·have h1 : (if x.nm = n then f x else x).nm = m := by split <;> simp [hf, h]
   rw [decide_eq_true h1, decide_eq_true h]
   simp only [h, Option.map_some]
  ·have h1 : ¬ (if x.nm = n then f x else x).nm = m := by split <;> simp [hf, h]
   rw [decide_eq_false h1, decide_eq_false h]
   exact ih
theorem hasU_upd {U V : List Unt} {n : List Nat} {f : MO → MO} (hf : ∀ x, (f x).cur = x.cur ∧ (f x).old = x.old) {L : List MO} {i : Nat} : hasU ⟨updM n f L, V⟩ i = hasU ⟨L, U⟩ i := by
 simp only [hasU, updM, List.any_map]
 congr 1
 funext x
 simp only [Function.comp]
 split
 ·rw [(hf x).1, (hf x).2]
 ·rfl
section
variable {b : Nat} {P c : Chk} {s : MS} {n st : List Nat}
theorem setM (h : HM b P s c) (hst : ∀ x, x ∈ st → x < 256) (hl : st.length ≤ 900000) : CT Try.prog false 16 [mP b, .str n, .str st] [c] fun w K' => w = .int .i64 (.ofNat (mSetS s n st (Q.rightB st)).2) ∧ ∃ c', HM b P (mSetS s n st (Q.rightB st)).1 c' ∧ K' = [c'] := by
 obtain ⟨X, hX, rfl⟩ := h
 have ht := hX.t n
 cases hf : fM s n with
 | none =>
  rw [hf] at ht
  rw [show mSetS s n st (Q.rightB st) = (s, 8) by unfold mSetS; rw [hf]]
  refine CT.over (m := [mB b (X.N.v 1) X.mt X.mu s.U.length, tC X.mt X.ck X.tes]) (r := [uC X.mu X.ck2 X.ues, X.N.c]) (by simp) (set16N ht) ?_
  rintro v m' ⟨rfl, rfl⟩
  exact ⟨[(X.mem b s).flatten], by simp, rfl, _, ⟨X, hX, rfl⟩, rfl⟩
 | some x =>
  rw [hf] at ht
  cases hr : Q.rightB st with
  | false =>
   rw [show mSetS s n st false = (s, 23) by unfold mSetS; rw [hf]; rfl]
   refine CT.over (m := [mB b (X.N.v 1) X.mt X.mu s.U.length, tC X.mt X.ck X.tes]) (r := [uC X.mu X.ck2 X.ues, X.N.c]) (by simp) (set16F ht hst hl hr) ?_
   rintro v m' ⟨rfl, rfl⟩
   exact ⟨[(X.mem b s).flatten], by simp, rfl, _, ⟨X, hX, rfl⟩, rfl⟩
  | true =>
   rw [show mSetS s n st true = (⟨updM n (fun x => ⟨x.nm, x.cur, x.old, st⟩) s.L, s.U⟩, 0) by unfold mSetS; rw [hf]; rfl]
   refine CT.over (m := [mB b (X.N.v 1) X.mt X.mu s.U.length, tC X.mt X.ck X.tes]) (r := [uC X.mu X.ck2 X.ues, X.N.c]) (by simp) (set16S ht hst hl hr) ?_
   rintro v m' ⟨rfl, rfl⟩
   have hnm := (fM_mem hf).2
   refine ⟨[_], ?_, rfl, _, ⟨{ X with tes := putG n (valA (moV ⟨x.nm, x.cur, x.old, st⟩)) X.ck X.tes, ck := putNG n X.ck X.tes }, ⟨hX.N1, ?_, hX.g1.put, ?_, hX.g2, ?_, ?_⟩, rfl⟩, rfl⟩
   ·simp
   ·rw [hX.N2]
    show _ = (updM n _ s.L).map nmR
    have := updM_names (n := n) (f := fun x => ⟨x.nm, x.cur, x.old, st⟩) (fun _ => rfl) (L := s.L)
    have e : ∀ L : List MO, L.map nmR = (L.map fun x => x.nm).map fun a => [AV.str a] := fun L => by simp [nmR]
    rw [e, e, this]
   ·intro m
    refine Eq.trans ?_ (congrArg (Option.map fun x => valA (moV x)) (fM_upd (U := s.U) (V := s.U) (n := n) (m := m) (f := fun x => ⟨x.nm, x.cur, x.old, st⟩) (fun _ => rfl) (L := s.L))).symm
    rw [lk_put, hX.t m]
    show _ = Option.map _ (Option.map _ (fM s m))
    by_cases hm : m = n
    ·subst hm
     rw [if_pos rfl, hf]
     simp
    ·rw [if_neg hm]
     cases fM s m with
     | none => rfl
     | some y => simp [hm]
   ·intro i v hv
    obtain ⟨h1, h2⟩ := hX.u1 i v hv
    exact ⟨(hasU_upd (U := s.U) (V := s.U) (n := n) (f := fun x => ⟨x.nm, x.cur, x.old, st⟩) (fun _ => ⟨rfl, rfl⟩) (L := s.L) (i := i)).trans h1, h2⟩
   ·intro i hi
    exact hX.u2 i ((hasU_upd (U := s.U) (V := s.U) (n := n) (f := fun x => ⟨x.nm, x.cur, x.old, st⟩) (fun _ => ⟨rfl, rfl⟩) (L := s.L) (i := i)).symm.trans hi)
theorem namesM (h : HM b P s c) (hl : s.L.length ≤ 1000) : CT Try.prog false 28 [mP b] [c] fun w K' => ∃ O : OS, O.ok 1 ∧ O.rows = s.L.map nmR ∧ w = O.v 1 ∧ K' = [c, O.c] := by
 obtain ⟨X, hX, rfl⟩ := h
 refine CT.over (m := [mB b (X.N.v 1) X.mt X.mu s.U.length, X.N.c]) (r := [tC X.mt X.ck X.tes, uC X.mu X.ck2 X.ues]) ?_ (names28 hX.N1 (by rw [hX.N2, List.length_map]; exact hl)) ?_
 ·have := chunk_perm [mB b (X.N.v 1) X.mt X.mu s.U.length, tC X.mt X.ck X.tes, uC X.mu X.ck2 X.ues, X.N.c] [0, 1, 2, 3] [0, 3, 1, 2] (by decide)
  simpa using this
 ·rintro v m' ⟨O, hO, hOr, rfl, rfl⟩
  refine ⟨[(X.mem b s).flatten, O.c], ?_, O, hO, hOr.trans hX.N2, rfl, rfl⟩
  have := chunk_perm [mB b (X.N.v 1) X.mt X.mu s.U.length, X.N.c, O.c, tC X.mt X.ck X.tes, uC X.mu X.ck2 X.ues] [0, 1, 2, 3, 4] [0, 3, 4, 1, 2] (by decide)
  simpa using this
end
end Go.Proofs.YtlimjjilakldgaaGreat
namespace Go.Proofs.YtlimjjilakldgaaGreat
open Go Go.Abs
theorem hasU_iff {s : MS} {i : Nat} : hasU s i = true ↔ ∃ x, x ∈ s.L ∧ (x.cur = i ∨ x.old = some i) := by
 unfold hasU
 rw [List.any_eq_true]
 constructor
 ·rintro ⟨x, hx, h⟩
  exact ⟨x, hx, by simpa using h⟩
 ·rintro ⟨x, hx, h⟩
  exact ⟨x, hx, by simpa using h⟩
def purM (s : MS) (n : List Nat) : MS := ⟨updM n (fun x => ⟨x.nm, x.cur, none, x.st⟩) s.L, s.U⟩
theorem hasU_pur {s : MS} (hs : s.ok) {n : List Nat} {x : MO} {o : Nat} (hf : fM s n = some x) (ho : x.old = some o) {i : Nat} : hasU (purM s n) i = true ↔ hasU s i = true ∧ i ≠ o := by
 obtain ⟨hx, hxn⟩ := fM_mem hf
 rw [hasU_iff, hasU_iff]
 constructor
 ·rintro ⟨y', hy', h⟩
  obtain ⟨y, hy, rfl⟩ := List.mem_map.1 hy'
  have hyi : (y.cur = i ∨ y.old = some i) ∧ (y.nm = n → y.cur = i) := by
   split at h
   ·rename_i hn
    rcases h with h | h
    ·exact ⟨.inl h, fun _ => h⟩
    ·cases h
   ·rename_i hn
    exact ⟨h, fun e => absurd e hn⟩
  refine ⟨⟨y, hy, hyi.1⟩, ?_⟩
  rintro rfl
  have := hs.inj x y i hx hy (.inr ho) hyi.1
  subst this
  exact hs.ne x hx (by rw [ho, hyi.2 hxn])
 ·rintro ⟨⟨y, hy, h⟩, hi⟩
  refine ⟨_, List.mem_map.2 ⟨y, hy, rfl⟩, ?_⟩
  split
  ·rename_i hn
   have : y = x := hs.uniq hy hx (by rw [hn, hxn])
   subst this
   rcases h with h | h
   ·exact .inl h
   ·rw [ho] at h
    exact absurd (Option.some.inj h).symm hi
  ·exact h
section
variable {b : Nat} {P c : Chk} {s : MS} {n : List Nat}
theorem purgeM (h : HM b P s c) (hs : s.ok) : CT Try.prog false 18 [mP b, .str n] [c] fun w K' => w = .int .i64 (.ofNat (mPurge s n).2) ∧ ∃ c', HM b P (mPurge s n).1 c' ∧ K' = [c'] := by
 obtain ⟨X, hX, rfl⟩ := h
 have ht := hX.t n
 cases hf : fM s n with
 | none =>
  rw [hf] at ht
  rw [show mPurge s n = (s, 8) by unfold mPurge; rw [hf]]
  refine CT.over (m := [mB b (X.N.v 1) X.mt X.mu s.U.length, tC X.mt X.ck X.tes, uC X.mu X.ck2 X.ues]) (r := [X.N.c]) (by simp) (purge18N ht) ?_
  rintro v m' ⟨rfl, rfl⟩
  exact ⟨[(X.mem b s).flatten], by simp, rfl, _, ⟨X, hX, rfl⟩, rfl⟩
 | some x =>
  rw [hf] at ht
  have hf' := hf
  obtain ⟨nm, cur, old, st⟩ := x
  cases old with
  | none =>
   rw [show mPurge s n = (s, 8) by unfold mPurge; rw [hf]]
   refine CT.over (m := [mB b (X.N.v 1) X.mt X.mu s.U.length, tC X.mt X.ck X.tes, uC X.mu X.ck2 X.ues]) (r := [X.N.c]) (by simp) (purge18B ht) ?_
   rintro v m' ⟨rfl, rfl⟩
   exact ⟨[(X.mem b s).flatten], by simp, rfl, _, ⟨X, hX, rfl⟩, rfl⟩
  | some o =>
   rw [show mPurge s n = (purM s n, 0) by unfold mPurge; rw [hf]; rfl]
   refine CT.over (m := [mB b (X.N.v 1) X.mt X.mu s.U.length, tC X.mt X.ck X.tes, uC X.mu X.ck2 X.ues]) (r := [X.N.c]) (by simp) (purge18S ht) ?_
   rintro v m' ⟨rfl, rfl⟩
   refine ⟨[_], ?_, rfl, _, ⟨{ X with tes := putG n (valA (moV ⟨nm, cur, none, st⟩)) X.ck X.tes, ck := putNG n X.ck X.tes, ues := delG o X.ues }, ⟨hX.N1, ?_, hX.g1.put, ?_, hX.g2.del, ?_, ?_⟩, rfl⟩, rfl⟩
   ·simp [purM]
   ·rw [hX.N2]
    show _ = (updM n _ s.L).map nmR
    have := updM_names (n := n) (f := fun x => ⟨x.nm, x.cur, none, x.st⟩) (fun _ => rfl) (L := s.L)
    have e : ∀ L : List MO, L.map nmR = (L.map fun x => x.nm).map fun a => [AV.str a] := fun L => by simp [nmR]
    rw [e, e, this]
   ·intro m
    refine Eq.trans ?_ (congrArg (Option.map fun x => valA (moV x)) (fM_upd (U := s.U) (V := s.U) (n := n) (m := m) (f := fun x => ⟨x.nm, x.cur, none, x.st⟩) (fun _ => rfl) (L := s.L))).symm
    rw [lk_put, hX.t m]
    show _ = Option.map _ (Option.map _ (fM s m))
    by_cases hm : m = n
    ·subst hm
     rw [if_pos rfl, hf]
     simp
    ·rw [if_neg hm]
     cases fM s m with
     | none => rfl
     | some y => simp [hm]
   ·intro i v hv
    rw [lk_del hX.g2.keys] at hv
    split at hv
    ·cases hv
    ·rename_i hio
     obtain ⟨h1, h2⟩ := hX.u1 i v hv
     exact ⟨(hasU_pur hs hf' rfl).2 ⟨h1, hio⟩, h2⟩
   ·intro i hi
    obtain ⟨h1, h2⟩ := (hasU_pur hs hf' rfl).1 hi
    show (lkG i (delG o X.ues)).isSome = true
    rw [lk_del hX.g2.keys, if_neg h2]
    exact hX.u2 i h1
end
end Go.Proofs.YtlimjjilakldgaaGreat
namespace Go.Proofs.YtlimjjilakldgaaGreat
open Go Go.Abs
attribute [local irreducible] Cmp Rg Dw Cd Lp Ev Rdk CT Upd InK
theorem nless_irr : ∀ x : List Nat, nless x x = false
 | [] => rfl
 | a :: x => by
  simp only [nless, nless_irr x, Bool.and_false, Bool.or_false]
  cases e : Nat.blt a a with
  | false => rfl
  | true => have := Nat.le_of_ble_eq_true e; omega
theorem nless_cons {a b : Nat} {x y : List Nat} : nless (a :: x) (b :: y) = true ↔ a < b ∨ (a = b ∧ nless x y = true) := by
 simp only [nless, Bool.or_eq_true, Bool.and_eq_true, Nat.beq_eq, ]
 constructor
 ·rintro (h | h)
  ·exact .inl (Nat.le_of_ble_eq_true h)
  ·exact .inr h
 ·rintro (h | h)
  ·exact .inl (Nat.ble_eq_true_of_le h)
  ·exact .inr h
theorem nless_trans : ∀ {x y z : List Nat}, nless x y = true → nless y z = true → nless x z = true
 | x, [], _, h, _ => by cases x <;> simp [nless] at h
 | _, _ :: _, [], _, h => by simp [nless] at h
 | [], _ :: _, _ :: _, _, _ => rfl
 | a :: x, b :: y, c :: z, h, k => by
  rw [nless_cons] at h k ⊢
  rcases h with h | ⟨rfl, h⟩
  ·rcases k with k | ⟨rfl, k⟩
   ·exact .inl (by omega)
   ·exact .inl h
  ·rcases k with k | ⟨rfl, k⟩
   ·exact .inl k
   ·exact .inr ⟨rfl, nless_trans h k⟩
theorem nless_tri : ∀ {x y : List Nat}, nless x y = false → x ≠ y → nless y x = true
 | [], [], _, h => absurd rfl h
 | [], _ :: _, h, _ => by cases h
 | _ :: _, [], _, _ => rfl
 | a :: x, b :: y, h, hn => by
  rw [nless_cons]
  have h' : ¬ (a < b ∨ (a = b ∧ nless x y = true)) := fun e => by rw [← nless_cons, h] at e; cases e
  by_cases e : a = b
  ·subst e
   refine .inr ⟨rfl, nless_tri ?_ fun e => hn (by rw [e])⟩
   cases e2 : nless x y with
   | false => rfl
   | true => exact absurd (.inr ⟨rfl, e2⟩) h'
  ·exact .inl (by omega)
def insAt (k : List Nat) (l : List (List Nat)) : Nat := (l.takeWhile fun a => nless a k).length
def insK (k : List Nat) (l : List (List Nat)) : List (List Nat) := l.take (insAt k l) ++ k :: l.drop (insAt k l)
theorem insAt_le (k : List Nat) (l : List (List Nat)) : insAt k l ≤ l.length := (List.takeWhile_sublist _).length_le
theorem insK_perm (k : List Nat) (l : List (List Nat)) : (insK k l).Perm (k :: l) := by
 refine List.perm_middle.trans ?_
 rw [List.take_append_drop]
theorem insK_sorted {k : List Nat} : ∀ {l : List (List Nat)}, l.Pairwise (fun a b => nless a b = true) → k ∉ l → (insK k l).Pairwise (fun a b => nless a b = true)
 | [], _, _ => by simp [insK, insAt]
 | a :: l, hs, hc => by
  rw [List.pairwise_cons] at hs
  rw [List.mem_cons, not_or] at hc
  cases e : nless a k with
  | true =>
   have e1 : insK k (a :: l) = a :: insK k l := by simp [insK, insAt, List.takeWhile_cons, e]
   rw [e1, List.pairwise_cons]
   refine ⟨?_, insK_sorted hs.2 hc.2⟩
   intro b hb
   rcases List.mem_cons.1 ((insK_perm k l).mem_iff.1 hb) with rfl | hb
   ·exact e
   ·exact hs.1 b hb
  | false =>
   have e1 : insK k (a :: l) = k :: a :: l := by simp [insK, insAt, List.takeWhile_cons, e]
   rw [e1, List.pairwise_cons, List.pairwise_cons]
   have h1 := nless_tri e fun h => hc.1 h.symm
   refine ⟨?_, hs⟩
   intro b hb
   rcases List.mem_cons.1 hb with rfl | hb
   ·exact h1
   ·exact nless_trans h1 (hs.1 b hb)
theorem insAt_true {k : List Nat} : ∀ {l : List (List Nat)} {i : Nat} {a : List Nat}, i ≤ insAt k l → l[i]? = some a → nless a k = true → i + 1 ≤ insAt k l
 | [], i, a, _, h, _ => by simp at h
 | x :: l, 0, a, _, h, ha => by
  simp at h; subst h
  simp [insAt, List.takeWhile_cons, ha]
 | x :: l, i + 1, a, hi, h, ha => by
  cases e : nless x k with
  | true =>
   have e1 : insAt k (x :: l) = insAt k l + 1 := by simp [insAt, List.takeWhile_cons, e]
   rw [e1] at hi ⊢
   have := insAt_true (l := l) (i := i) (by omega) (by simpa using h) ha
   omega
  | false =>
   have e1 : insAt k (x :: l) = 0 := by simp [insAt, List.takeWhile_cons, e]
   omega
theorem insAt_false {k : List Nat} : ∀ {l : List (List Nat)} {i : Nat} {a : List Nat}, i ≤ insAt k l → l[i]? = some a → nless a k = false → insAt k l = i
 | [], i, a, _, h, _ => by simp at h
 | x :: l, 0, a, _, h, ha => by
  simp at h; subst h
  simp [insAt, List.takeWhile_cons, ha]
 | x :: l, i + 1, a, hi, h, ha => by
  cases e : nless x k with
  | true =>
   have e1 : insAt k (x :: l) = insAt k l + 1 := by simp [insAt, List.takeWhile_cons, e]
   rw [e1] at hi ⊢
   have := insAt_false (l := l) (i := i) (by omega) (by simpa using h) ha
   omega
  | false =>
   have e1 : insAt k (x :: l) = 0 := by simp [insAt, List.takeWhile_cons, e]
   omega
theorem ins_set {os : List (List Nat)} {n : Nat} {k z : List Nat} (h : n < os.length) : ((os ++ [z]).take (n + 1) ++ ((os ++ [z]).drop n).take (os.length + 1 - (n + 1)) ++ (os ++ [z]).drop (n + 1 + (os.length + 1 - (n + 1)))).set n k = os.take n ++ k :: os.drop n := by
 have e1 : (os ++ [z]).take (n + 1) = os.take (n + 1) := List.take_append_of_le_length (by omega)
 have e2 : (os ++ [z]).drop n = os.drop n ++ [z] := List.drop_append_of_le_length (by omega)
 have e3 : (os.drop n ++ [z]).take (os.length + 1 - (n + 1)) = os.drop n := List.take_left' (by rw [List.length_drop]; omega)
 have e4 : (os ++ [z]).drop (n + 1 + (os.length + 1 - (n + 1))) = [] := List.drop_of_length_le (by simp; omega)
 have e5 : os.take (n + 1) = os.take n ++ [os[n]] := by rw [List.take_add_one, List.getElem?_eq_getElem h]; rfl
 rw [e1, e2, e3, e4, List.append_nil, e5, List.append_assoc, List.set_append_right _ _ (by simp; omega), List.length_take, Nat.min_eq_left (Nat.le_of_lt h), Nat.sub_self]
 rfl
def txR (s : List Nat) : List AV := [.str s]
theorem txRows (os : List (List Nat)) : ∀ r, r ∈ os.map txR → r.length = 1 := by
 intro r hr
 obtain ⟨v, _, rfl⟩ := List.mem_map.1 hr
 rfl
section
variable {b mt mu next : Nat} {N : OS} {os : List (List Nat)} {s : List Nat}
theorem name_in {Q : AX → SL → Mem → Prop} (hN : N.ok 1) (hr : N.rows = os.map txR) (hol : os.length ≤ 1000)
  (hend : ∀ l', Sub2 [(0, mP b), (1, .str s), (4, .int .i64 (.ofNat (insAt s os)))] l' → Q (.ext 0) l' [mB b (N.v 1) mt mu next, N.c]) :
  ∀ (f i : Nat), os.length < i + f → i ≤ insAt s os → Lp Try.prog false b38_0 f [(0, mP b), (1, .str s), (4, .int .i64 (.ofNat i))] [mB b (N.v 1) mt mu next, N.c] Q := by
 have hl := hN.len
 rw [hr, List.length_map] at hl
 have hle := insAt_le s os
 intro f
 induction f with
 | zero => intro i h1 h2; omega
 | succ f ih =>
  intro i h1 h2
  refine Lp.round ?_
  by_cases hi : i < os.length
  ·obtain ⟨a, ha⟩ : ∃ a, os[i]? = some a := ⟨_, List.getElem?_eq_getElem hi⟩
   have hri : (os.map txR)[i]? = some (txR a) := by rw [List.getElem?_map, ha]; rfl
   obtain ⟨id, g, e⟩ := hN.at (i := i) (r := txR a) (by rw [hr]; exact hri)
   rw [hr] at e
   subst e
   have q1 := iadr_slc (sz := 1) (b := id) (g := g) (off := 0) (len := (os.map txR).length) (cap := (os.map txR).length) (i := i) (k := .i64) (by rw [List.length_map]; exact hi)
   have r1 : Rdk [mB b (OS.v ⟨some (id, g), os.map txR⟩ 1) mt mu next, OS.c ⟨some (id, g), os.map txR⟩] .load1 (.ptr id g (0 + i * 1) 1) (.ptr id g (0 + i * 1) 1) (.str a) := Rdk.cel0 (lm := 0) (.there .here) (txRows os) hri rfl
   cases e : nless a s with
   | true =>
    have e2 : abin .lss (.str a) (.str s) = some (.bool true) := Cmp.T Cmp.ltS e
    repeat' (first|intro _|refine yU ?_|(apply YA.mk;intro cv hv)|(refine yT ?_ ?_<;>(intro e;(try simp only [nbT,nbF] at e);subst e;try contradiction)))
    refine Lp.weak ?hw (ih (i + 1) (by omega) (insAt_true h2 ha e))
    case hw => exact ⟨rfl, rfl, rfl, trivial⟩
   | false =>
    have e2 : abin .lss (.str a) (.str s) = some (.bool false) := Cmp.F Cmp.ltS (by rw [e]; simp)
    rw [insAt_false h2 ha e] at hend
    repeat' (first|intro _|refine yU ?_|(apply YA.mk;intro cv hv)|(refine yT ?_ ?_<;>(intro e;(try simp only [nbT,nbF] at e);subst e;try contradiction)))
    exact hend _ ⟨rfl, rfl, rfl, trivial⟩
  ·obtain rfl : i = insAt s os := by omega
   repeat' (first|intro _|refine yU ?_|(apply YA.mk;intro cv hv)|(refine yT ?_ ?_<;>(intro e;(try simp only [nbT,nbF] at e);subst e;try contradiction)))
   exact hend _ ⟨rfl, rfl, rfl, trivial⟩
end
end Go.Proofs.YtlimjjilakldgaaGreat
namespace Go.Proofs.YtlimjjilakldgaaGreat
open Go Go.Abs
attribute [local irreducible] Cmp Rg Dw Cd Lp Ev Rdk CT Upd InK
theorem _root_.Go.Abs.Ef.storeC {P : Program} {l : SL} {K : Mem} {x y : AO} {b g w i : Nat} {rows : List (List AV)} {r0 : List AV} {v : AV} {K' : Mem} (hx : x.evL l = some (.ptr b g (0 + i * 1) 1)) (hy : y.evL l = some v) (hr : ∀ r, r ∈ rows → r.length = 1) (hi : rows[i]? = some r0) (hv : OneC v)
  (hK : Upd K b (.cells rows.flatten g w true) (.cells (rows.set i [v]).flatten g g true) K') : Ef P l K (.store 1 x y) fun v1 K2 => v1 = .tup [] ∧ K2 = K' := by
 have hil := (List.getElem?_eq_some_iff.1 hi).1
 refine Ef.store1 (w := w) (gr := true) (lm := 0) hx hy hv ?_ (by rw [rows_len hr]; omega)
 rw [show setSeg rows.flatten (0 + i * 1) [v] = (rows.set i [v]).flatten from setSeg_rows hr hil rfl]
 exact hK
section
variable {b mt mu next : Nat} {N : OS} {os : List (List Nat)} {s : List Nat}
theorem name_fin {n : Nat} (hO : N.ok 1) (hr : N.rows = os.map txR) (hol : os.length ≤ 1000) (hn : n ≤ os.length) : Cd Try.prog false (.seq (.reg r38_3) (.seq (.draw r38_4) (.reg r38_5))) [(0, mP b), (1, .str s), (4, .int .i64 (.ofNat n))] [mB b (N.v 1) mt mu next, N.c]
  fun e l K => e = .nrm ∧ ∃ O' : OS, O'.ok 1 ∧ O'.rows = (os.take n ++ s :: os.drop n).map txR ∧ ∃ r, Sel K [mB b (O'.v 1) mt mu next, O'.c] r := by
 repeat' (first|intro _|refine yU ?_|(apply YA.mk;intro cv hv)|(refine yT ?_ ?_<;>(intro e;(try simp only [nbT,nbF] at e);subst e;try contradiction)))
 refine Rg.e (Ef.appO (rs := [[.str []]]) (n := 1) rfl rfl hO (by intro r hr; simp at hr; subst hr; rfl) (.there (.there .here)) rfl (by decide) (Rw.slc (InK.there InK.here) (Nat.le_refl _) (Nat.le_refl _) rfl) (by rw [hr, List.length_map]; simp only [lim]; omega)) ?_
 rintro _ _ ⟨O', hO', hr2, rfl, rfl⟩
 rw [hr, show [[AV.str []]] = [[]].map txR from rfl, ← List.map_append] at hr2
 have hrow := txRows (os ++ [[]])
 have hlen : ((os ++ [[]]).map txR).length = os.length + 1 := by simp
 obtain ⟨r0, hr0⟩ : ∃ r, O'.rows[0]? = some r := ⟨_, List.getElem?_eq_getElem (by rw [hr2, hlen]; omega)⟩
 obtain ⟨id, g, e⟩ := hO'.at hr0
 rw [hr2] at e
 subst e
 have q3 := aslice_from (sz := 1) (id := id) (g := g) (n := ((os ++ [[]]).map txR).length) (i := n) (k := .i64) (by rw [hlen]; omega)
 have a1 : abin .add (.int .i64 (.ofNat n)) (.int .i64 (.ofNat 1)) = some (.int .i64 (.ofNat (n + 1))) := add_nat (by omega)
 have q1 : ∀ N, n < N → apure .e (.iadr 1 (.c (.slc id g 0 N N 1)) (.c (.int .i64 (.ofNat n)))) = some (.ptr id g (0 + n * 1) 1) := fun N h => iadr_slc h
 have q2 := q1 ((os ++ [[]]).map txR).length (by rw [hlen]; omega)
 clear q1
 by_cases hnn : n = os.length
 ·have q4 : aslice 1 (.slc id g 0 ((os ++ [[]]).map txR).length ((os ++ [[]]).map txR).length 1) (some (.int .i64 (.ofNat (n + 1)))) none none = some .eslc := by
   rw [show n + 1 = ((os ++ [[]]).map txR).length by rw [hlen, hnn]]
   exact aslice_end
  repeat' (first|intro _|refine yU ?_|(apply YA.mk;intro cv hv)|(refine yT ?_ ?_<;>(intro e;(try simp only [nbT,nbF] at e);subst e;try contradiction)))
  refine Dw.e (Ef.copy0 rfl rfl hrow (by rw [hlen]; omega) InK.here) ?_
  rintro _ _ ⟨rfl, rfl⟩
  refine yO ?_
  repeat' (first|intro _|refine yU ?_|(apply YA.mk;intro cv hv)|(refine yT ?_ ?_<;>(intro e;(try simp only [nbT,nbF] at e);subst e;try contradiction)))
  refine Rg.e (Ef.storeC (i := n) (r0 := txR []) rfl rfl hrow (by rw [hnn]; simp) ⟨rfl, rfl⟩ Upd.here) ?_
  rintro _ _ ⟨rfl, rfl⟩
  repeat' (first|intro _|refine yU ?_|(apply YA.mk;intro cv hv)|(refine yT ?_ ?_<;>(intro e;(try simp only [nbT,nbF] at e);subst e;try contradiction)))
  refine ⟨rfl, ⟨some (id, g), ((os ++ [[]]).map txR).set n (txR s)⟩, ⟨fun h => (nomatch h), ?_⟩, ?_, ?_⟩
  ·intro r hr
   rcases List.mem_or_eq_of_mem_set hr with h | rfl
   ·exact hrow r h
   ·rfl
  ·show ((os ++ [[]]).map txR).set n (txR s) = _
   rw [← List.map_set, hnn, List.set_append_right _ _ (Nat.le_refl _), Nat.sub_self, List.take_of_length_le (Nat.le_refl _), List.drop_of_length_le (Nat.le_refl _)]
   rfl
  ·simp only [OS.v, OS.c, List.length_set]
   exact ⟨_, .cons (.there (.there .here)) (.cons .here .nil)⟩
 ·have q4 := aslice_from (sz := 1) (id := id) (g := g) (n := ((os ++ [[]]).map txR).length) (i := n + 1) (k := .i64) (by rw [hlen]; omega)
  repeat' (first|intro _|refine yU ?_|(apply YA.mk;intro cv hv)|(refine yT ?_ ?_<;>(intro e;(try simp only [nbT,nbF] at e);subst e;try contradiction)))
  refine Dw.e (Ef.copyS rfl rfl hrow (by omega) (by rw [hlen]; omega) (by rw [hlen]; omega) (by rw [hlen]; omega) Upd.here) ?_
  rintro _ _ ⟨rfl, rfl⟩
  refine yO ?_
  have hR : ((os ++ [[]]).map txR).take (n + 1) ++ (((os ++ [[]]).map txR).drop n).take (((os ++ [[]]).map txR).length - (n + 1)) ++ ((os ++ [[]]).map txR).drop (n + 1 + (((os ++ [[]]).map txR).length - (n + 1))) = ((os ++ [[]]).take (n + 1) ++ ((os ++ [[]]).drop n).take (os.length + 1 - (n + 1)) ++ (os ++ [[]]).drop (n + 1 + (os.length + 1 - (n + 1)))).map txR := by
   rw [hlen]
   simp only [List.map_append, List.map_take, List.map_drop]
  have hL : ((os ++ [[]]).take (n + 1) ++ ((os ++ [[]]).drop n).take (os.length + 1 - (n + 1)) ++ (os ++ [[]]).drop (n + 1 + (os.length + 1 - (n + 1)))).length = os.length + 1 := by simp; omega
  have hS := ins_set (os := os) (n := n) (k := s) (z := []) (by omega)
  rw [hR]
  generalize (os ++ [[]]).take (n + 1) ++ ((os ++ [[]]).drop n).take (os.length + 1 - (n + 1)) ++ (os ++ [[]]).drop (n + 1 + (os.length + 1 - (n + 1))) = L at hL hS
  obtain ⟨z, hz⟩ : ∃ z, L[n]? = some z := ⟨_, List.getElem?_eq_getElem (by omega)⟩
  repeat' (first|intro _|refine yU ?_|(apply YA.mk;intro cv hv)|(refine yT ?_ ?_<;>(intro e;(try simp only [nbT,nbF] at e);subst e;try contradiction)))
  refine Rg.e (Ef.storeC (i := n) (r0 := txR z) rfl rfl (txRows L) (by rw [List.getElem?_map, hz]; rfl) ⟨rfl, rfl⟩ Upd.here) ?_
  rintro _ _ ⟨rfl, rfl⟩
  repeat' (first|intro _|refine yU ?_|(apply YA.mk;intro cv hv)|(refine yT ?_ ?_<;>(intro e;(try simp only [nbT,nbF] at e);subst e;try contradiction)))
  refine ⟨rfl, ⟨some (id, g), (L.map txR).set n (txR s)⟩, ⟨fun h => (nomatch h), ?_⟩, ?_, ?_⟩
  ·intro r hr
   rcases List.mem_or_eq_of_mem_set hr with h | rfl
   ·exact txRows L r h
   ·rfl
  ·show (L.map txR).set n (txR s) = _
   rw [← List.map_set, hS]
  ·have : ((L.map txR).set n (txR s)).length = ((os ++ [[]]).map txR).length := by rw [List.length_set, List.length_map, hL, hlen]
   simp only [OS.v, OS.c, this]
   exact ⟨_, .cons (.there (.there .here)) (.cons .here .nil)⟩
theorem name38g (hN : N.ok 1) (hr : N.rows = os.map txR) (hol : os.length ≤ 1000) : CT Try.prog false 38 [mP b, .str s] [mB b (N.v 1) mt mu next, N.c] fun w K' => ∃ N' : OS, N'.ok 1 ∧ N'.rows = (insK s os).map txR ∧ K' = [mB b (N'.v 1) mt mu next, N'.c] := by
 refine CT.enterS mixed comp38 (Nat.le_of_ble_eq_true rfl) ?_
 repeat' (first|intro _|refine yU ?_|(apply YA.mk;intro cv hv)|(refine yT ?_ ?_<;>(intro e;(try simp only [nbT,nbF] at e);subst e;try contradiction)))
 refine Cd.weak (l2 := [(0, mP b), (1, .str s), (4, .int .i64 (.ofNat 0))]) ⟨rfl, rfl, rfl, trivial⟩ ?_
 refine Cd.loop (k := os.length + 1) (name_in hN hr hol ?_ (os.length + 1) 0 (by omega) (Nat.zero_le _))
 intro l' hs
 show Cd _ _ _ _ _ _
 refine Cd.weak hs ?_
 refine Cd.mono (name_fin hN hr hol (insAt_le s os)) ?_
 rintro _ l K ⟨rfl, N', hN', hr', r, hs⟩
 refine yX ?_
 exact ⟨_, _, hs, N', hN', hr', rfl⟩
end
end Go.Proofs.YtlimjjilakldgaaGreat
namespace Go.Proofs.YtlimjjilakldgaaGreat
open Go Go.Abs
attribute [local irreducible] Cmp Rg Dw Cd Lp Ev Rdk CT Upd InK
theorem find_neg (n : Nat) : ∀ es : List (EntG Nat), find false [.i] (.int .i64 (.negSucc n)) (entsG keN es) = some none
 | [] => rfl
 | (a, v, m) :: r => by
  have : flatEq false [.i] (.int .i64 (.negSucc n)) (keN.v a) = some false := by
   show ceqs [.i] [.int .i64 (.negSucc n)] [.int .i64 (.ofNat a)] = _
   simp only [ceqs, ceq, keq_self, cond_true]
   have : ieq (.negSucc n) (.ofNat a) = false := rfl
   rw [this]
  simp only [entsG, List.map_cons, find, this]
  exact find_neg n r
theorem Rdk.lookNeg {K : Mem} {m ck n : Nat} {es : List (EntG Nat)} {z : AV} (h : InK K m (.map (entsG keN es) ck)) : Rdk K (.lookup false [.i] z true) (.map m) (.int .i64 (.negSucc n)) (.tup [z, .bool false]) := by
 unfold Rdk
 unfold InK at h
 intro s hs
 simp only [aread, (hs.got _ _ h).1, find_neg]
 rfl
def lkZ (i : Int) (es : List (EntG Nat)) : Option AV := match i with
 | .ofNat n => lkG n es
 | .negSucc _ => none
theorem Rdk.lookZ {K : Mem} {m ck : Nat} {i : Int} {es : List (EntG Nat)} {z : AV} (h : InK K m (.map (entsG keN es) ck)) : Rdk K (.lookup false [.i] z true) (.map m) (.int .i64 i) (.tup [(lkZ i es).getD z, .bool (lkZ i es).isSome]) := by
 cases i with
 | negSucc n => exact Rdk.lookNeg h
 | ofNat n =>
  have := Rdk.lookkG (k := n) (z := z) keN h
  unfold getG at this
  simp only [lkZ, lkG]
  cases hu : underG n es with
  | none => rw [hu] at this; exact this
  | some p => rw [hu] at this; exact this
def mUnitZ (s : MS) (i : Int) : Option Unt := match i with
 | .ofNat n => mUnit s n
 | .negSucc _ => none
theorem protosB_mem {funs : Int} : ∀ {l : List Proto} {i : Nat}, protosB funs i l = true → ∀ p, p ∈ l → shapedB p = true ∧ p.caps.length ≤ 255
 | [], _, _, p, hp => by cases hp
 | q :: l, i, h, p, hp => by
  simp only [protosB, Bool.and_eq_true] at h
  rcases List.mem_cons.1 hp with rfl | hp
  ·have h1 := h.1
   simp only [protoB, Bool.and_eq_true] at h1
   refine ⟨h1.2, ?_⟩
   have h2 := h1.1
   unfold headB at h2
   split at h2
   ·simp at h2; rw [h2.2]; simp
   ·simp only [Bool.and_eq_true, decide_eq_true_eq] at h2
    exact h2.2.1
  ·exact protosB_mem h.2 p hp
theorem unit_sml {u : Unt} (h : unitB u = true) : Sml u := by
 simp only [unitB, Bool.and_eq_true, decide_eq_true_eq] at h
 obtain ⟨⟨⟨_, h3⟩, h4, _⟩, h5, h6⟩ := h
 refine ⟨by omega, by omega, fun p hp => ?_⟩
 obtain ⟨k1, k2⟩ := protosB_mem h6 p hp
 simp only [shapedB, Bool.and_eq_true, decide_eq_true_eq] at k1
 obtain ⟨⟨_, k3, _⟩, k4, _⟩ := k1
 exact ⟨by omega, by omega, by omega⟩
theorem check_unit {u : Unt} (h : (check u).1 = 0) : unitB u = true := by
 unfold check at h
 split at h
 ·assumption
 ·cases h
theorem SameU.sml {u v : Unt} (h : SameU u v) (k : Sml u) : Sml v := by
 refine ⟨h.uses ▸ k.uses, h.ps.len ▸ k.protos, fun p hp => ?_⟩
 have aux : ∀ {l m : List Proto}, SamePs l m → ∀ p, p ∈ m → ∃ q, q ∈ l ∧ SameP q p := by
  intro l m h
  induction h with
  | nil => intro p hp; cases hp
  | cons h1 _ ih =>
   intro p hp
   rcases List.mem_cons.1 hp with rfl | hp
   ·exact ⟨_, List.mem_cons_self, h1⟩
   ·obtain ⟨q, hq, hs⟩ := ih p hp
    exact ⟨q, List.mem_cons_of_mem _ hq, hs⟩
 obtain ⟨q, hq, _, _, _, e1, e2, e3⟩ := aux h.ps p hp
 rw [← e1, ← e2, ← e3]
 exact k.ps q hq
section
variable {b mt mu next ck ck2 : Nat} {nv : AV} {tes : List (EntG (List Nat))} {ues : List (EntG Nat)} {i : Int} {P : Chk}
theorem unit20N (hu : lkZ i ues = none) : CT Try.prog false 20 [mP b, .int .i64 i] [mB b nv mt mu next, uC mu ck ues] fun w K' => w = .tup [u0, .bool false] ∧ K' = [mB b nv mt mu next, uC mu ck ues] := by
 have hlk : ∀ K, InK K mu (.map (entsG keN ues) ck) → Rdk K (.lookup false [.i] u0 true) (.map mu) (.int .i64 i) (.tup [u0, .bool false]) := fun K h => by
  have := Rdk.lookZ (i := i) (z := u0) h
  rw [hu] at this
  exact this
 refine CT.enterS mixed comp20 (Nat.le_of_ble_eq_true rfl) ?_
 repeat' (first|(refine Rg.callM rfl there12 (.cons (.there (.here)) (.nil)) ?_; rintro _ _ ⟨rfl, rfl⟩)|refine yR hlk ?_|intro _|refine yS ?_|(apply YB.mk<;>intro hc)|(apply YA.mk;intro cv hv)|(refine yT ?_ ?_<;>(intro e;(try simp only [nbT,nbF] at e);subst e;try contradiction)))
 refine yX ?_
 exact ⟨_, _, (.cons (.there (.here)) (.cons (.there (.there (.here))) (.nil))), rfl, rfl⟩
theorem unit20S {u' : Unt} (hu : lkZ i ues = some (.agg (unitR u'))) (hm : RdU P u') (hs : Sml u') : CT Try.prog false 20 [mP b, .int .i64 i] [mB b nv mt mu next, uC mu ck ues, P] fun w K' => ∃ u2 Q, w = .tup [.agg (unitR u2), .bool true] ∧ MemU Q u2 ∧ SameU u' u2 ∧ K' = [mB b nv mt mu next, uC mu ck ues, P, Q] := by
 have hlk : ∀ K, InK K mu (.map (entsG keN ues) ck) → Rdk K (.lookup false [.i] u0 true) (.map mu) (.int .i64 i) (.tup [.agg (unitR u'), .bool true]) := fun K h => by
  have := Rdk.lookZ (i := i) (z := u0) h
  rw [hu] at this
  exact this
 refine CT.enterS mixed comp20 (Nat.le_of_ble_eq_true rfl) ?_
 repeat' (first|(refine Rg.callM rfl there12 (.cons (.there (.here)) (.nil)) ?_; rintro _ _ ⟨rfl, rfl⟩)|refine yR hlk ?_|(refine Rg.callM rfl (own39 hm hs) (.cons (.there (.there (.there (.there (.here))))) (.nil)) ?_; rintro _ _ ⟨u2, Q, rfl, h2, h3, rfl⟩)|intro _|refine yS ?_|(apply YB.mk<;>intro hc)|(apply YA.mk;intro cv hv)|(refine yT ?_ ?_<;>(intro e;(try simp only [nbT,nbF] at e);subst e;try contradiction)))
 refine yX ?_
 exact ⟨_, _, (.cons (.there (.there (.there (.here)))) (.cons (.there (.there (.there (.there (.here))))) (.cons (.here) (.cons (.here) (.nil))))), u2, Q, rfl, h2, h3, rfl⟩
theorem new4 : CT Try.prog false 4 [] [] fun w K' => ∃ b mt mu, w = mP b ∧ K' = [mB b .nilslc mt mu 0, tC mt 0 [], uC mu 0 []] := by
 refine CT.enterS mixed comp4 (Nat.le_of_ble_eq_true rfl) ?_
 repeat' (first|refine Rg.a Mk.mkmap fun m => ?_|intro _|refine yS ?_|(apply YB.mk<;>intro hc)|(apply YA.mk;intro cv hv)|(refine yT ?_ ?_<;>(intro e;(try simp only [nbT,nbF] at e);subst e;try contradiction)))
 refine yX ?_
 exact ⟨_, _, (.cons (.here) (.cons (.there (.here)) (.cons (.here) (.nil)))), _, _, _, rfl, rfl⟩
end
section
variable {b : Nat} {P c : Chk} {s : MS}
theorem PM.ok.sml {X : PM} (hX : X.ok P s) (hs : s.ok) {i : Nat} {v : AV} (h : lkG i X.ues = some v) : ∃ u u', s.U[i]? = some u ∧ v = .agg (unitR u') ∧ MemU P u' ∧ SameU u u' ∧ Sml u' ∧ hasU s i = true := by
 obtain ⟨h1, u, u', h2, h3, h4, h5⟩ := hX.u1 i v h
 exact ⟨u, u', h2, h3, h4, h5, h5.sml (unit_sml (check_unit (hs.chk u (List.mem_iff_getElem?.2 ⟨i, h2⟩)).2)), h1⟩
theorem unitM (h : HM b P s c) (hs : s.ok) {i : Int} : CT Try.prog false 20 [mP b, .int .i64 i] [c, P] fun w K' => match mUnitZ s i with
  | none => w = .tup [u0, .bool false] ∧ K' = [c, P]
  | some u => ∃ u' Q, w = .tup [.agg (unitR u'), .bool true] ∧ MemU Q u' ∧ SameU u u' ∧ K' = [c, P, Q] := by
 obtain ⟨X, hX, rfl⟩ := h
 cases hl : lkZ i X.ues with
 | none =>
  have e : mUnitZ s i = none := by
   cases i with
   | negSucc n => rfl
   | ofNat n =>
    simp only [mUnitZ, mUnit]
    split
    ·rename_i hh
     have := hX.u2 n hh
     rw [show lkG n X.ues = none from hl] at this
     cases this
    ·rfl
  rw [e]
  refine CT.over (m := [mB b (X.N.v 1) X.mt X.mu s.U.length, uC X.mu X.ck2 X.ues]) (r := [tC X.mt X.ck X.tes, X.N.c, P]) ?_ (unit20N hl) ?_
  ·have := chunk_perm [mB b (X.N.v 1) X.mt X.mu s.U.length, tC X.mt X.ck X.tes, uC X.mu X.ck2 X.ues, X.N.c, P] [0, 1, 2, 3, 4] [0, 2, 1, 3, 4] (by decide)
   simpa using this
  ·rintro v m' ⟨rfl, rfl⟩
   refine ⟨[(X.mem b s).flatten, P], ?_, rfl, rfl⟩
   have := chunk_perm [mB b (X.N.v 1) X.mt X.mu s.U.length, tC X.mt X.ck X.tes, uC X.mu X.ck2 X.ues, X.N.c, P] [0, 2, 1, 3, 4] [0, 1, 2, 3, 4] (by decide)
   simpa using this
 | some v =>
  cases i with
  | negSucc n => cases hl
  | ofNat n =>
   obtain ⟨u, u', h1, rfl, h2, h3, h4, h5⟩ := hX.sml hs hl
   have e : mUnitZ s (.ofNat n) = some u := by simp only [mUnitZ, mUnit, h5, if_true, h1]
   rw [e]
   refine CT.over (m := [mB b (X.N.v 1) X.mt X.mu s.U.length, uC X.mu X.ck2 X.ues, P]) (r := [tC X.mt X.ck X.tes, X.N.c]) ?_ (unit20S hl h2.rd h4) ?_
   ·have := chunk_perm [mB b (X.N.v 1) X.mt X.mu s.U.length, tC X.mt X.ck X.tes, uC X.mu X.ck2 X.ues, X.N.c, P] [0, 1, 2, 3, 4] [0, 2, 4, 1, 3] (by decide)
    simpa using this
   ·rintro v m' ⟨u2, Q, rfl, k1, k2, rfl⟩
    refine ⟨[(X.mem b s).flatten, P, Q], ?_, u2, Q, rfl, k1, h3.trans k2, rfl⟩
    have := chunk_perm [mB b (X.N.v 1) X.mt X.mu s.U.length, tC X.mt X.ck X.tes, uC X.mu X.ck2 X.ues, X.N.c, P, Q] [0, 2, 4, 5, 1, 3] [0, 1, 2, 3, 4, 5] (by decide)
    simpa using this
abbrev s0 : MS := ⟨[], []⟩
theorem s0_ok : s0.ok := ⟨.nil, Nat.zero_le _, fun _ h => (by cases h), fun _ _ h => (by cases h), fun _ _ _ h => (by cases h), fun _ h => (by cases h), fun _ h => (by cases h)⟩
theorem newM : CT Try.prog false 4 [] [] fun w K' => ∃ b c, w = mP b ∧ HM b P s0 c ∧ K' = [c] := by
 refine CT.re new4 ?_
 rintro w K' ⟨b, mt, mu, rfl, rfl⟩
 refine ⟨[_], ?_, b, _, rfl, ⟨⟨⟨none, []⟩, mt, 0, [], mu, 0, []⟩, ⟨OS.ok.nil, rfl, .nil, fun _ => rfl, .nil, fun _ _ h => (by cases h), fun _ h => (by cases h)⟩, rfl⟩, rfl⟩
 simp [OS.c, OS.v]
end
end Go.Proofs.YtlimjjilakldgaaGreat
namespace Go.Proofs.YtlimjjilakldgaaGreat
open Go Go.Abs
attribute [local irreducible] Cmp Rg Dw Cd Lp Ev Rdk CT Upd InK
def findR (o : Option (Nat × Nat)) : AV := match o with
 | some (a, i) => .tup [.int .i64 (.ofNat a), .int .i64 (.ofNat i), .bool true]
 | none => .tup [.int .i64 (.ofNat 0), .int .i64 (.ofNat 0), .bool false]
theorem fpM_drop {fn : List Nat} {pr : Int} {l : List Proto} {i : Nat} {p : Proto} (h : l[i]? = some p) : fpM fn pr (l.drop i) i = if p.name = fn ∧ p.params = pr then some i else fpM fn pr (l.drop (i + 1)) (i + 1) := by
 obtain ⟨h1, h2⟩ := List.getElem?_eq_some_iff.1 h
 rw [List.drop_eq_getElem_cons h1, h2]; rfl
theorem aslice_to {sz id g n F : Nat} {k : IntKind} (h0 : 0 < n) (h : F ≤ n) : aslice sz (.slc id g 0 n n sz) none (some (.int k (.ofNat F))) none = some (.slc id g 0 F n sz) := by
 simp only [aslice, bnd]
 rw [show Nat.beq sz sz = true by simp, cond_true, Nat.ble_eq_true_of_le h]
 simp only [cond_true]
 rw [show Nat.blt 0 n = true from Nat.ble_eq_true_of_le h0, cond_true]
 simp
section
variable {A B C P : Chk} {fn : List Nat} {pr : Int} {cur F id g n : Nat} {l : List Proto}
theorem find23_in {Q : AX → SL → Mem → Prop} (hin : InK [A, B, C, P] id (.cells (l.map protoR).flatten g g true)) (hF : F ≤ l.length) (hl : l.length ≤ 100000)
  (hret : ∀ l' X i, fpM fn pr (l.take F) 0 = some i → lkS l' 8 = some (.int .i64 (.ofNat cur)) → lkS l' 9 = some (.int .i64 (.ofNat i)) → lkS l' 10 = some (.bool true) → Q .ret l' [X, A, B, C, P])
  (hend : ∀ l', fpM fn pr (l.take F) 0 = none → Q (.ext 0) l' [A, B, C, P]) :
  ∀ (k i : Nat), F < i + k → i ≤ F → fpM fn pr ((l.take F).drop i) i = fpM fn pr (l.take F) 0 → Lp Try.prog false b23_0 k [(2, .str fn), (3, .int .i64 pr), (11, .int .i64 (.ofNat cur)), (34, .slc id g 0 F n 6), (35, .int .i64 (.ofNat F)), (36, .int .i64 (.ofNat i))] [A, B, C, P] Q := by
 intro k
 induction k with
 | zero => intro i h1 h2; omega
 | succ k ih =>
  intro i h1 h2 h3
  refine Lp.round ?_
  by_cases hi : i < F
  ·obtain ⟨p, hp⟩ : ∃ p, l[i]? = some p := ⟨_, List.getElem?_eq_getElem (by omega)⟩
   have hp2 : (l.take F)[i]? = some p := by rw [List.getElem?_take_of_lt hi]; exact hp
   rw [fpM_drop hp2] at h3
   have hri : (l.map protoR)[i]? = some (protoR p) := by rw [List.getElem?_map, hp]; rfl
   have q1 := iadr_slc (sz := 6) (b := id) (g := g) (off := 0) (len := F) (cap := n) (i := i) (k := .i64) hi
   have r1 : Rdk [A, B, C, P] (.loadn 6) (.ptr id g (0 + i * 6) 6) (.ptr id g (0 + i * 6) 6) (.agg (protoR p)) := Rdk.row hin protoR_len hri
   by_cases e1 : p.name = fn
   ·by_cases e2 : p.params = pr
    ·rw [if_pos ⟨e1, e2⟩] at h3
     repeat' (first|intro _|refine yS ?_|(apply YB.mk<;>intro hc)|(apply YA.mk;intro cv hv)|(refine yT ?_ ?_<;>(intro e;(try simp only [nbT,nbF] at e);subst e;try contradiction)))
     exact hret _ _ i h3.symm rfl rfl rfl
    ·rw [if_neg (fun h => e2 h.2)] at h3
     repeat' (first|intro _|refine yS ?_|(apply YB.mk<;>intro hc)|(apply YA.mk;intro cv hv)|(refine yT ?_ ?_<;>(intro e;(try simp only [nbT,nbF] at e);subst e;try contradiction)))
     exact Lp.drop (m := [A, B, C, P]) (.cons (.there (.here)) (.cons (.there (.here)) (.cons (.there (.here)) (.cons (.there (.here)) (.nil))))) (Lp.weak (by exact ⟨rfl, rfl, rfl, rfl, rfl, rfl, trivial⟩) (ih (i + 1) (by omega) (by omega) h3))
   ·rw [if_neg (fun h => e1 h.1)] at h3
    repeat' (first|intro _|refine yS ?_|(apply YB.mk<;>intro hc)|(apply YA.mk;intro cv hv)|(refine yT ?_ ?_<;>(intro e;(try simp only [nbT,nbF] at e);subst e;try contradiction)))
    exact Lp.drop (m := [A, B, C, P]) (.cons (.there (.here)) (.cons (.there (.here)) (.cons (.there (.here)) (.cons (.there (.here)) (.nil))))) (Lp.weak (by exact ⟨rfl, rfl, rfl, rfl, rfl, rfl, trivial⟩) (ih (i + 1) (by omega) (by omega) h3))
  ·obtain rfl : i = F := by omega
   rw [List.drop_of_length_le (by rw [List.length_take]; omega)] at h3
   repeat' (first|intro _|refine yS ?_|(apply YB.mk<;>intro hc)|(apply YA.mk;intro cv hv)|(refine yT ?_ ?_<;>(intro e;(try simp only [nbT,nbF] at e);subst e;try contradiction)))
   exact hend _ h3.symm
end
section
variable {b mt mu next ck ck2 : Nat} {nv : AV} {tes : List (EntG (List Nat))} {ues : List (EntG Nat)} {P : Chk} {n fn : List Nat} {pr : Int}
theorem find23N (ht : lkG n tes = none) : CT Try.prog false 23 [mP b, .str n, .str fn, .int .i64 pr] [mB b nv mt mu next, tC mt ck tes] fun w K' => w = findR none ∧ K' = [mB b nv mt mu next, tC mt ck tes] := by
 have kc := cur31 (b := b) (mt := mt) (mu := mu) (next := next) (ck := ck) (nv := nv) (n := n) (o := none) ht
 simp only [Option.map_none, toldA] at kc
 refine CT.enterS mixed comp23 (Nat.le_of_ble_eq_true rfl) ?_
 repeat' (first|(refine Rg.callM rfl kc (.cons (.here) (.cons (.here) (.nil))) ?_; rintro _ _ ⟨rfl, rfl⟩)|intro _|refine yS ?_|(apply YB.mk<;>intro hc)|(apply YA.mk;intro cv hv)|(refine yT ?_ ?_<;>(intro e;(try simp only [nbT,nbF] at e);subst e;try contradiction)))
 refine yX ?_
 exact ⟨_, _, (.cons (.here) (.cons (.here) (.nil))), rfl, rfl⟩
theorem find23S {x : MO} {u' : Unt} (ht : lkG n tes = some (valA (moV x))) (hu : lkG x.cur ues = some (.agg (unitR u'))) (hm : MemU P u') (hs : Sml u') (hf : 0 ≤ u'.funs ∧ u'.funs ≤ u'.protos.length) : CT Try.prog false 23 [mP b, .str n, .str fn, .int .i64 pr] [mB b nv mt mu next, tC mt ck tes, uC mu ck2 ues, P] fun w K' => w = findR ((fpM fn pr (u'.protos.take u'.funs.toNat) 0).map fun i => (x.cur, i)) ∧ K' = [mB b nv mt mu next, tC mt ck tes, uC mu ck2 ues, P] := by
 have kc := cur31 (b := b) (mt := mt) (mu := mu) (next := next) (ck := ck) (nv := nv) (n := n) (o := some x) ht
 simp only [Option.map_some, toldA] at kc
 have hlk : ∀ K, InK K mu (.map (entsG keN ues) ck2) → Rdk K (.lookup false [.i] u0 false) (.map mu) (.int .i64 (.ofNat x.cur)) (.agg (unitR u')) := fun K h => by
  have := Rdk.lookG (K := K) (k := x.cur) (z := u0) keN h
  unfold lkG at hu
  unfold getG at this
  cases hx : underG x.cur ues with
  | none => rw [hx] at hu; cases hu
  | some p =>
   rw [hx] at hu this
   simp only [Option.map_some, Option.some.injEq] at hu
   rw [← hu]
   exact this
 obtain ⟨nm, ver, usesV, uses, funs, protosV, protos⟩ := u'
 obtain ⟨O, hO, hOr, hOv, hOc⟩ := hm.protos
 simp only at hO hOr hOv hOc hf hs
 have hsl := hs.protos
 simp only at hsl
 obtain ⟨F, rfl⟩ : ∃ F : Nat, funs = (F : Int) := ⟨funs.toNat, by omega⟩
 simp only [Int.toNat_natCast]
 have hFl : F ≤ protos.length := by omega
 clear hs hf hm
 subst hOv
 obtain ⟨o, rows⟩ := O
 simp only at hOr
 subst hOr
 refine CT.enterS mixed comp23 (Nat.le_of_ble_eq_true rfl) ?_
 cases o with
 | none =>
  have h0 := hO.no rfl
  simp only [List.map_eq_nil_iff] at h0
  subst h0
  obtain rfl : F = 0 := by simpa using hFl
  have q1 : aslice 6 .nilslc none (some (.int .i64 (.ofNat 0))) none = some .nilslc := rfl
  repeat' (first|(refine Rg.callM rfl kc (.cons (.here) (.cons (.here) (.nil))) ?_; rintro _ _ ⟨rfl, rfl⟩)|refine yR hlk ?_|intro _|refine yS ?_|(apply YB.mk<;>intro hc)|(apply YA.mk;intro cv hv)|(refine yT ?_ ?_<;>(intro e;(try simp only [nbT,nbF] at e);subst e;try contradiction)))
  refine Cd.loop (k := 1) (Lp.round ?_)
  repeat' (first|intro _|refine yS ?_|(apply YB.mk<;>intro hc)|(apply YA.mk;intro cv hv)|(refine yT ?_ ?_<;>(intro e;(try simp only [nbT,nbF] at e);subst e;try contradiction)))
  refine yX ?_
  exact ⟨_, _, (.cons (.there (.here)) (.cons (.there (.here)) (.cons (.there (.here)) (.cons (.there (.here)) (.nil))))), rfl, rfl⟩
 | some pr' =>
  obtain ⟨id, g⟩ := pr'
  have hin : ∀ X Y Z, InK [X, Y, Z, P] id (.cells (protos.map protoR).flatten g g true) := fun X Y Z => .there (.there (.there (.mem (hOc _ _ (by simp [OS.c])))))
  by_cases hn : protos.length = 0
  ·obtain rfl : F = 0 := by omega
   have q1 : aslice 6 (.slc id g 0 (protos.map protoR).length (protos.map protoR).length 6) none (some (.int .i64 (.ofNat 0))) none = some .eslc := by
    rw [List.length_map, hn]; rfl
   repeat' (first|(refine Rg.callM rfl kc (.cons (.here) (.cons (.here) (.nil))) ?_; rintro _ _ ⟨rfl, rfl⟩)|refine yR hlk ?_|intro _|refine yS ?_|(apply YB.mk<;>intro hc)|(apply YA.mk;intro cv hv)|(refine yT ?_ ?_<;>(intro e;(try simp only [nbT,nbF] at e);subst e;try contradiction)))
   refine Cd.loop (k := 1) (Lp.round ?_)
   repeat' (first|intro _|refine yS ?_|(apply YB.mk<;>intro hc)|(apply YA.mk;intro cv hv)|(refine yT ?_ ?_<;>(intro e;(try simp only [nbT,nbF] at e);subst e;try contradiction)))
   refine yX ?_
   exact ⟨_, _, (.cons (.there (.here)) (.cons (.there (.here)) (.cons (.there (.here)) (.cons (.there (.here)) (.nil))))), rfl, rfl⟩
  ·have q1 : aslice 6 (.slc id g 0 (protos.map protoR).length (protos.map protoR).length 6) none (some (.int .i64 (.ofNat F))) none = some (.slc id g 0 F (protos.map protoR).length 6) := aslice_to (by rw [List.length_map]; omega) (by rw [List.length_map]; omega)
   repeat' (first|(refine Rg.callM rfl kc (.cons (.here) (.cons (.here) (.nil))) ?_; rintro _ _ ⟨rfl, rfl⟩)|refine yR hlk ?_|intro _|refine yS ?_|(apply YB.mk<;>intro hc)|(apply YA.mk;intro cv hv)|(refine yT ?_ ?_<;>(intro e;(try simp only [nbT,nbF] at e);subst e;try contradiction)))
   refine Cd.drop (m := [mB b nv mt mu next, tC mt ck tes, uC mu ck2 ues, P]) (.cons (.there (.here)) (.cons (.there (.here)) (.cons (.there (.here)) (.cons (.there (.here)) (.nil))))) ?_
   refine Cd.weak (l2 := [(2, .str fn), (3, .int .i64 pr), (11, .int .i64 (.ofNat x.cur)), (34, .slc id g 0 F (protos.map protoR).length 6), (35, .int .i64 (.ofNat F)), (36, .int .i64 (.ofNat 0))]) ⟨rfl, rfl, rfl, rfl, rfl, rfl, trivial⟩ ?_
   refine Cd.loop (k := F + 1) (find23_in (hin _ _ _) hFl hsl ?_ ?_ (F + 1) 0 (by omega) (Nat.zero_le _) (by rw [List.drop_zero]))
   ·intro l' X i hi e8 e9 e10
    rw [hi]
    exact ⟨.inr rfl, _, .t e8 (.t e9 (.t e10 .nil)), _, _, (.cons (.there (.here)) (.cons (.there (.here)) (.cons (.there (.here)) (.cons (.there (.here)) (.nil))))), rfl, rfl⟩
   ·intro l' hi
    rw [hi]
    show Cd _ _ _ _ _ _
    repeat' (first|intro _|refine yS ?_|(apply YB.mk<;>intro hc)|(apply YA.mk;intro cv hv)|(refine yT ?_ ?_<;>(intro e;(try simp only [nbT,nbF] at e);subst e;try contradiction)))
    refine yX ?_
    exact ⟨_, _, (.cons (.here) (.cons (.here) (.cons (.here) (.cons (.here) (.nil))))), rfl, rfl⟩
end
end Go.Proofs.YtlimjjilakldgaaGreat
namespace Go.Proofs.YtlimjjilakldgaaGreat
open Go Go.Abs
attribute [local irreducible] Cmp Rg Dw Cd Lp Ev Rdk CT Upd InK
section
variable {b mt mu next ck ck2 : Nat} {N : OS} {tes : List (EntG (List Nat))} {ues : List (EntG Nat)} {R : Chk} {u : Unt}
abbrev adM (b : Nat) (nv : AV) (mt mu next ck : Nat) (tes : List (EntG (List Nat))) (ck2 : Nat) (ues : List (EntG Nat)) (Nc R : Chk) : Mem := [mB b nv mt mu next, tC mt ck tes, uC mu ck2 ues, Nc, R]
theorem add14B {e f g : Nat} (hc : CT Try.prog false 37 [.agg (unitR u)] [R] fun w K' => w = tup3 (e, f, g) ∧ K' = [R]) (he : e ≠ 0) : CT Try.prog false 14 [mP b, .agg (unitR u)] (adM b (N.v 1) mt mu next ck tes ck2 ues N.c R) fun w K' => w = .tup [.int .i64 (.ofNat 0), .int .i64 (.ofNat e)] ∧ K' = adM b (N.v 1) mt mu next ck tes ck2 ues N.c R := by
 simp only [tup3] at hc
 refine CT.enterS mixed comp14 (Nat.le_of_ble_eq_true rfl) ?_
 repeat' (first|(refine Rg.callM rfl there12 (.cons (.there (.here)) (.nil)) ?_; rintro _ _ ⟨rfl, rfl⟩)|(refine Rg.callM rfl hc (.cons (.there (.there (.there (.there (.there (.here)))))) (.nil)) ?_; rintro _ _ ⟨rfl, rfl⟩)|intro _|refine yS ?_|(apply YB.mk<;>intro hc)|(apply YA.mk;intro cv hv)|(refine yT ?_ ?_<;>(intro e;(try simp only [nbT,nbF] at e);subst e;try contradiction)))
 refine yX ?_
 exact ⟨_, _, (.cons (.there (.here)) (.cons (.there (.there (.here))) (.cons (.there (.there (.here))) (.cons (.there (.there (.here))) (.cons (.here) (.nil)))))), rfl, rfl⟩
theorem add14E {e f g : Nat} (hc : CT Try.prog false 37 [.agg (unitR u)] [R] fun w K' => w = tup3 (0, f, g) ∧ K' = [R]) (he : e ≠ 0) (km : CT Try.prog false 6 [mP b, .str u.name, .int .i64 u.version] [mB b (N.v 1) mt mu next, tC mt ck tes, uC mu ck2 ues] fun w K' => w = .int .i64 (.ofNat e) ∧ K' = [mB b (N.v 1) mt mu next, tC mt ck tes, uC mu ck2 ues]) : CT Try.prog false 14 [mP b, .agg (unitR u)] (adM b (N.v 1) mt mu next ck tes ck2 ues N.c R) fun w K' => w = .tup [.int .i64 (.ofNat 0), .int .i64 (.ofNat e)] ∧ K' = adM b (N.v 1) mt mu next ck tes ck2 ues N.c R := by
 simp only [tup3] at hc
 refine CT.enterS mixed comp14 (Nat.le_of_ble_eq_true rfl) ?_
 repeat' (first|(refine Rg.callM rfl there12 (.cons (.there (.here)) (.nil)) ?_; rintro _ _ ⟨rfl, rfl⟩)|(refine Rg.callM rfl hc (.cons (.there (.there (.there (.there (.there (.here)))))) (.nil)) ?_; rintro _ _ ⟨rfl, rfl⟩)|(refine Rg.callM rfl km (.cons (.there (.here)) (.cons (.there (.there (.here))) (.cons (.there (.there (.here))) (.nil)))) ?_; rintro _ _ ⟨rfl, rfl⟩)|intro _|refine yS ?_|(apply YB.mk<;>intro hc)|(apply YA.mk;intro cv hv)|(refine yT ?_ ?_<;>(intro e;(try simp only [nbT,nbF] at e);subst e;try contradiction)))
 refine yX ?_
 exact ⟨_, _, (.cons (.here) (.cons (.here) (.cons (.here) (.cons (.there (.there (.here))) (.cons (.here) (.nil)))))), rfl, rfl⟩
theorem add14S {f g : Nat} {x : MO} (hu : RdU R u) (hm : Sml u) (hnx : next < 1000000) (hc : CT Try.prog false 37 [.agg (unitR u)] [R] fun w K' => w = tup3 (0, f, g) ∧ K' = [R]) (km : CT Try.prog false 6 [mP b, .str u.name, .int .i64 u.version] [mB b (N.v 1) mt mu next, tC mt ck tes, uC mu ck2 ues] fun w K' => w = .int .i64 (.ofNat 0) ∧ K' = [mB b (N.v 1) mt mu next, tC mt ck tes, uC mu ck2 ues])
  (ht : lkG u.name tes = some (valA (moV x))) :
  CT Try.prog false 14 [mP b, .agg (unitR u)] (adM b (N.v 1) mt mu next ck tes ck2 ues N.c R) fun w K' => w = .tup [.int .i64 (.ofNat next), .int .i64 (.ofNat 0)] ∧ ∃ u' Q, MemU Q u' ∧ SameU u u' ∧ K' = adM b (N.v 1) mt mu (next + 1) (putNG u.name ck tes) (putG u.name (valA (moV ⟨x.nm, next, some x.cur, x.st⟩)) ck tes) (putNG next ck2 ues) (putG next (.agg (unitR u')) ck2 ues) N.c R ++ [Q] := by
 simp only [tup3] at hc
 have kf := find11 (b := b) (mt := mt) (mu := mu) (next := next) (ck := ck) (nv := N.v 1) (n := u.name) (o := some x) ht
 simp only [findA] at kf
 have ko := own39 hu hm
 refine CT.enterS mixed comp14 (Nat.le_of_ble_eq_true rfl) ?_
 repeat' (first|(refine Rg.callM rfl there12 (.cons (.there (.here)) (.nil)) ?_; rintro _ _ ⟨rfl, rfl⟩)|(refine Rg.callM rfl hc (.cons (.there (.there (.there (.there (.there (.here)))))) (.nil)) ?_; rintro _ _ ⟨rfl, rfl⟩)|(refine Rg.callM rfl km (.cons (.there (.here)) (.cons (.there (.there (.here))) (.cons (.there (.there (.here))) (.nil)))) ?_; rintro _ _ ⟨rfl, rfl⟩)|(refine Rg.callM rfl kf (.cons (.here) (.cons (.here) (.nil))) ?_; rintro _ _ ⟨rfl, rfl⟩)|intro _|refine yS ?_|(apply YB.mk<;>intro hc)|(apply YA.mk;intro cv hv)|(refine yT ?_ ?_<;>(intro e;(try simp only [nbT,nbF] at e);subst e;try contradiction)))
 refine Dw.callM rfl ko (.cons (.there (.there (.there (.there (.here))))) (.nil)) ?_
 rintro _ _ ⟨u', Q, rfl, k1, k2, rfl⟩
 refine yO ?_
 refine Dw.e (Ef.mupdG keN (k := next) (es := ues) (v := .agg (unitR u')) rfl rfl rfl (.there (.there (.there (.there (.there Upd.here)))))) ?_
 rintro _ _ ⟨rfl, rfl⟩
 refine yO ?_
 repeat' (first|intro _|refine yS ?_|(apply YB.mk<;>intro hc)|(apply YA.mk;intro cv hv)|(refine yT ?_ ?_<;>(intro e;(try simp only [nbT,nbF] at e);subst e;try contradiction)))
 refine Dw.e (Ef.mupdG keS (k := u.name) (es := tes) (v := valA (moV ⟨x.nm, next, some x.cur, x.st⟩)) rfl rfl rfl (.there (.there (.there (.there Upd.here))))) ?_
 rintro _ _ ⟨rfl, rfl⟩
 refine yO ?_
 repeat' (first|intro _|refine yS ?_|(apply YB.mk<;>intro hc)|(apply YA.mk;intro cv hv)|(refine yT ?_ ?_<;>(intro e;(try simp only [nbT,nbF] at e);subst e;try contradiction)))
 refine yX ?_
 exact ⟨_, _, (.cons (.there (.there (.there (.here)))) (.cons (.there (.there (.there (.here)))) (.cons (.there (.there (.there (.here)))) (.cons (.there (.there (.there (.there (.here))))) (.cons (.here) (.cons (.here) (.nil))))))), rfl, u', Q, k1, k2, rfl⟩
theorem add14N {f g : Nat} {os : List (List Nat)} (hu : RdU R u) (hm : Sml u) (hnx : next < 1000000) (hN : N.ok 1) (hr : N.rows = os.map txR) (hol : os.length ≤ 1000) (hc : CT Try.prog false 37 [.agg (unitR u)] [R] fun w K' => w = tup3 (0, f, g) ∧ K' = [R]) (km : CT Try.prog false 6 [mP b, .str u.name, .int .i64 u.version] [mB b (N.v 1) mt mu next, tC mt ck tes, uC mu ck2 ues] fun w K' => w = .int .i64 (.ofNat 0) ∧ K' = [mB b (N.v 1) mt mu next, tC mt ck tes, uC mu ck2 ues])
  (ht : lkG u.name tes = none) :
  CT Try.prog false 14 [mP b, .agg (unitR u)] (adM b (N.v 1) mt mu next ck tes ck2 ues N.c R) fun w K' => w = .tup [.int .i64 (.ofNat next), .int .i64 (.ofNat 0)] ∧ ∃ (N' : OS) (u' : Unt) (Q : Chk), N'.ok 1 ∧ N'.rows = (insK u.name os).map txR ∧ MemU Q u' ∧ SameU u u' ∧ K' = adM b (N'.v 1) mt mu (next + 1) (putNG u.name ck tes) (putG u.name (valA (moV ⟨u.name, next, none, [0]⟩)) ck tes) (putNG next ck2 ues) (putG next (.agg (unitR u')) ck2 ues) N'.c R ++ [Q] := by
 simp only [tup3] at hc
 have kf := find11 (b := b) (mt := mt) (mu := mu) (next := next) (ck := ck) (nv := N.v 1) (n := u.name) (o := none) ht
 simp only [findA] at kf
 have ko := own39 hu hm
 have kn := name38g (b := b) (mt := mt) (mu := mu) (next := next) (s := u.name) hN hr hol
 refine CT.enterS mixed comp14 (Nat.le_of_ble_eq_true rfl) ?_
 repeat' (first|(refine Rg.callM rfl there12 (.cons (.there (.here)) (.nil)) ?_; rintro _ _ ⟨rfl, rfl⟩)|(refine Rg.callM rfl hc (.cons (.there (.there (.there (.there (.there (.here)))))) (.nil)) ?_; rintro _ _ ⟨rfl, rfl⟩)|(refine Rg.callM rfl km (.cons (.there (.here)) (.cons (.there (.there (.here))) (.cons (.there (.there (.here))) (.nil)))) ?_; rintro _ _ ⟨rfl, rfl⟩)|(refine Rg.callM rfl kf (.cons (.here) (.cons (.here) (.nil))) ?_; rintro _ _ ⟨rfl, rfl⟩)|(refine Rg.callM rfl kn (.cons (.there (.here)) (.cons (.there (.there (.there (.there (.there (.here)))))) (.nil))) ?_; rintro _ _ ⟨N', hN', hr', rfl⟩)|intro _|refine yS ?_|(apply YB.mk<;>intro hc)|(apply YA.mk;intro cv hv)|(refine yT ?_ ?_<;>(intro e;(try simp only [nbT,nbF] at e);subst e;try contradiction)))
 refine Dw.callM rfl ko (.cons (.there (.there (.there (.there (.there (.here)))))) (.nil)) ?_
 rintro _ _ ⟨u', Q, rfl, k1, k2, rfl⟩
 refine yO ?_
 refine Dw.e (Ef.mupdG keN (k := next) (es := ues) (v := .agg (unitR u')) rfl rfl rfl (.there (.there (.there (.there (.there (.there Upd.here))))))) ?_
 rintro _ _ ⟨rfl, rfl⟩
 refine yO ?_
 repeat' (first|intro _|refine yS ?_|(apply YB.mk<;>intro hc)|(apply YA.mk;intro cv hv)|(refine yT ?_ ?_<;>(intro e;(try simp only [nbT,nbF] at e);subst e;try contradiction)))
 refine Dw.e (Ef.mupdG keS (k := u.name) (es := tes) (v := valA (moV ⟨u.name, next, none, [0]⟩)) rfl rfl rfl (.there (.there (.there (.there (.there Upd.here)))))) ?_
 rintro _ _ ⟨rfl, rfl⟩
 refine yO ?_
 repeat' (first|intro _|refine yS ?_|(apply YB.mk<;>intro hc)|(apply YA.mk;intro cv hv)|(refine yT ?_ ?_<;>(intro e;(try simp only [nbT,nbF] at e);subst e;try contradiction)))
 refine yX ?_
 exact ⟨_, _, (.cons (.there (.there (.here))) (.cons (.there (.there (.there (.there (.here))))) (.cons (.there (.there (.there (.there (.here))))) (.cons (.there (.there (.here))) (.cons (.here) (.cons (.here) (.nil))))))), rfl, N', u', Q, hN', hr', k1, k2, rfl⟩
end
end Go.Proofs.YtlimjjilakldgaaGreat
