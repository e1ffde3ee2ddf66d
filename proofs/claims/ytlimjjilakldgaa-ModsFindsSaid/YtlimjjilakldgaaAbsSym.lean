/- Rules by which a piece of code is gone through with values that are partly unknown: frames as lists of slots. -/
import Derived.Test.YtlimjjilakldgaaAbsMono
set_option autoImplicit false
set_option linter.unusedSimpArgs false
set_option linter.unusedVariables false
namespace Go.Abs
open Go

abbrev SL := List (Nat × AV)
def lkS : SL → Nat → Option AV
  | [], _ => none
  | (u, v) :: r, t => bif Nat.beq u t then some v else lkS r t
/-- What a frame holds, in part. -/
def Has (fr : Fr) (l : SL) : Prop := ∀ t v, lkS l t = some v → fr.get t = some v
def putL (l : SL) (d : Option Nat) (v : AV) : SL := match d with
  | none => l
  | some d => (d, v) :: l
/-- All of one list stands in another one. -/
def Sub2 : SL → SL → Prop
  | [], _ => True
  | (t, v) :: r, l => lkS l t = some v ∧ Sub2 r l

theorem Has.put {fr : Fr} {l : SL} (h : Has fr l) (d : Option Nat) (v : AV) : Has (putO fr d v) (putL l d v) := by
  cases d with
  | none => exact h
  | some d =>
    intro t u hu
    simp only [putL, lkS, putO, Tr.get_set] at hu ⊢
    by_cases e : t = d
    · subst e
      have : Nat.beq t t = true := by simp
      rw [this] at hu
      simp at hu
      simp [hu]
    · have : Nat.beq d t = false := by
        cases hb : Nat.beq d t with
        | false => rfl
        | true => exact absurd (Nat.eq_of_beq_eq_true hb).symm e
      rw [this] at hu
      rw [if_neg e]
      exact h t u hu
theorem lkS_sub2 : ∀ {l2 l1 : SL}, Sub2 l2 l1 → ∀ t v, lkS l2 t = some v → lkS l1 t = some v
  | [], _, _, t, v, h => by simp [lkS] at h
  | (u, w) :: r, l1, hs, t, v, h => by
    obtain ⟨h1, h2⟩ := hs
    simp only [lkS] at h
    cases hb : Nat.beq u t with
    | true =>
      rw [hb] at h
      simp at h
      have := Nat.eq_of_beq_eq_true hb
      subst this h
      exact h1
    | false => rw [hb] at h; exact lkS_sub2 h2 t v h
theorem Has.weak {fr : Fr} {l1 l2 : SL} (h : Has fr l1) (hs : Sub2 l2 l1) : Has fr l2 := fun t v hv => h t v (lkS_sub2 hs t v hv)
theorem has_frOf : ∀ (n : Nat) (vs : List AV), Has (frOf n vs) (vs.zipIdx n |>.map fun p => (p.2, p.1))
  | n, [] => by intro t v h; simp [lkS] at h
  | n, v :: vs => by
    have := (has_frOf (n + 1) vs).put (some n) v
    exact this

/-! Operands told. -/
def AO.cl (l : SL) : AO → AO
  | .t n => match lkS l n with
    | some v => .c v
    | none => .t n
  | .c v => .c v
def AO.evL (l : SL) : AO → Option AV
  | .t n => lkS l n
  | .c v => some v
theorem evL_ev {fr : Fr} {l : SL} (h : Has fr l) {x : AO} {v : AV} (hx : x.evL l = some v) : x.ev fr = some v := by
  cases x with
  | t n => exact h n v hx
  | c w => exact hx
theorem cl_ev {fr : Fr} {l : SL} (h : Has fr l) {x : AO} {v : AV} (hx : (x.cl l).ev .e = some v) : x.ev fr = some v := by
  cases x with
  | c w => exact hx
  | t n =>
    simp only [AO.cl] at hx
    cases hl : lkS l n with
    | none => rw [hl] at hx; simp [AO.ev, Tr.get_e] at hx
    | some w => rw [hl] at hx; simp only [AO.ev, Option.some.injEq] at hx; subst hx; exact h n w hl
def evsL (l : SL) : List AO → Option (List AV)
  | [] => some []
  | x :: xs => match x.evL l with
    | none => none
    | some v => match evsL l xs with
      | none => none
      | some vs => some (v :: vs)
theorem evsL_evs {fr : Fr} {l : SL} (h : Has fr l) : ∀ {xs : List AO} {vs : List AV}, evsL l xs = some vs → evs fr xs = some vs
  | [], vs, hx => hx
  | x :: xs, vs, hx => by
    simp only [evsL] at hx
    cases h1 : x.evL l with
    | none => rw [h1] at hx; simp at hx
    | some a =>
      rw [h1] at hx
      cases h2 : evsL l xs with
      | none => rw [h2] at hx; simp at hx
      | some as =>
        rw [h2] at hx
        simp only [evs, evL_ev h h1, evsL_evs h h2]
        exact hx
/-- A list as a frame. -/
noncomputable def frL : SL → Fr
  | [] => .e
  | (t, v) :: r => (frL r).set t (some v)
theorem frL_get : ∀ (l : SL) (t : Nat), (frL l).get t = lkS l t
  | [], t => rfl
  | (u, v) :: r, t => by
    simp only [frL, lkS, Tr.get_set, frL_get r t]
    by_cases e : t = u
    · subst e; simp
    · have : Nat.beq u t = false := by
        cases hb : Nat.beq u t with
        | false => rfl
        | true => exact absurd (Nat.eq_of_beq_eq_true hb).symm e
      rw [if_neg e, this]; rfl
theorem Has.sub {fr : Fr} {l : SL} (h : Has fr l) : Sub (frL l) fr := fun t v hv => h t v (by rw [← frL_get]; exact hv)
theorem ev_c (fr : Fr) (v : AV) : (AO.c v).ev fr = some v := rfl
theorem ev_frL (l : SL) (x : AO) : x.ev (frL l) = x.evL l := by cases x with
  | t n => exact frL_get l n
  | c v => rfl

section
variable {call : CallF}
/-- A row of operations. -/
def WR (call : CallF) (id : Nat) (ops : List AOper) (l : SL) (s : St) (Q : SL → St → Prop) : Prop :=
  ∀ fr, Has fr l → ∃ fr' s', aregs call id ops fr s = some (fr', s') ∧ ∃ l', Has fr' l' ∧ Q l' s'
/-- A piece of code. -/
def WC (call : CallF) (n : Nat) (c : ACode) (l : SL) (s : St) (Q : AX → SL → St → Prop) : Prop :=
  ∀ fr, Has fr l → ∃ x fr' s', acode call n c fr s = some (x, fr', s') ∧ ∃ l', Has fr' l' ∧ Q x l' s'
/-- Rounds. -/
def WL (call : CallF) (n : Nat) (b : ACode) (k : Nat) (l : SL) (s : St) (Q : AX → SL → St → Prop) : Prop :=
  ∀ fr, Has fr l → ∃ x fr' s', loopN (acode call n b) k fr s = some (x, fr', s') ∧ ∃ l', Has fr' l' ∧ Q x l' s'

variable {id n : Nat} {l : SL} {s : St}
theorem WR.nil {Q : SL → St → Prop} (h : Q l s) : WR call id [] l s Q := fun fr hf => ⟨fr, s, rfl, l, hf, h⟩
/-- Any operation that is told of the list as a frame. -/
theorem WR.op {op : AOp} {os : List AOper} {d : Option Nat} {pre : Nat} {v : AV} {s' : St} {Q : SL → St → Prop} (h : aop call id (frL l) s op = some (v, s')) (k : WR call (id + 1) os (putL l d v) s' Q) :
    WR call id (⟨d, op, none, pre⟩ :: os) l s Q := by
  intro fr hf
  have h1 := aop_mono hf.sub h
  obtain ⟨fr', s1, e, k1⟩ := k _ (hf.put d v)
  refine ⟨fr', s1, ?_, k1⟩
  simp only [aregs, wants, h1]
  exact e
theorem WR.p {p : POp} {os : List AOper} {d : Option Nat} {pre : Nat} {v : AV} {Q : SL → St → Prop} (h : apure (frL l) p = some v) (k : WR call (id + 1) os (putL l d v) s Q) :
    WR call id (⟨d, .p p, none, pre⟩ :: os) l s Q := WR.op (op := .p p) (by simp only [aop, h]) k
theorem WR.mov {x : AO} {os : List AOper} {d : Option Nat} {pre : Nat} {v : AV} {Q : SL → St → Prop} (h : x.evL l = some v) (k : WR call (id + 1) os (putL l d v) s Q) :
    WR call id (⟨d, .p (.mov x), none, pre⟩ :: os) l s Q := WR.p (by simp only [apure, ev_frL, h]) k
theorem WR.bin {o : BinOp} {x y : AO} {os : List AOper} {d : Option Nat} {pre : Nat} {a b v : AV} {Q : SL → St → Prop} (hx : x.evL l = some a) (hy : y.evL l = some b) (h : abin o a b = some v) (k : WR call (id + 1) os (putL l d v) s Q) :
    WR call id (⟨d, .p (.bin o x y), none, pre⟩ :: os) l s Q := WR.p (by simp only [apure, ev_frL, hx, hy, h]) k
theorem WR.p1 {f : AO → POp} {x : AO} {os : List AOper} {d : Option Nat} {pre : Nat} {a v : AV} {Q : SL → St → Prop} (hf : apure (frL l) (f x) = apure .e (f (.c a))) (h : apure .e (f (.c a)) = some v) (k : WR call (id + 1) os (putL l d v) s Q) :
    WR call id (⟨d, .p (f x), none, pre⟩ :: os) l s Q := WR.p (by rw [hf, h]) k
theorem WR.len {str : Bool} {x : AO} {os : List AOper} {d : Option Nat} {pre : Nat} {a v : AV} {Q : SL → St → Prop} (hx : x.evL l = some a) (h : apure .e (.len str (.c a)) = some v) (k : WR call (id + 1) os (putL l d v) s Q) :
    WR call id (⟨d, .p (.len str x), none, pre⟩ :: os) l s Q := WR.p (by rw [← h]; simp only [apure, ev_frL, hx, ev_c]) k
theorem WR.ext {i : Nat} {x : AO} {os : List AOper} {d : Option Nat} {pre : Nat} {a v : AV} {Q : SL → St → Prop} (hx : x.evL l = some a) (h : apure .e (.ext (.c a) i) = some v) (k : WR call (id + 1) os (putL l d v) s Q) :
    WR call id (⟨d, .p (.ext x i), none, pre⟩ :: os) l s Q := WR.p (by rw [← h]; simp only [apure, ev_frL, hx, ev_c]) k
theorem WR.un {o : UnOp} {x : AO} {os : List AOper} {d : Option Nat} {pre : Nat} {a v : AV} {Q : SL → St → Prop} (hx : x.evL l = some a) (h : apure .e (.un o (.c a)) = some v) (k : WR call (id + 1) os (putL l d v) s Q) :
    WR call id (⟨d, .p (.un o x), none, pre⟩ :: os) l s Q := WR.p (by rw [← h]; simp only [apure, ev_frL, hx, ev_c]) k
theorem WR.toInt {kk : IntKind} {x : AO} {os : List AOper} {d : Option Nat} {pre : Nat} {a v : AV} {Q : SL → St → Prop} (hx : x.evL l = some a) (h : apure .e (.toInt kk (.c a)) = some v) (k : WR call (id + 1) os (putL l d v) s Q) :
    WR call id (⟨d, .p (.toInt kk x), none, pre⟩ :: os) l s Q := WR.p (by rw [← h]; simp only [apure, ev_frL, hx, ev_c]) k
theorem WR.fadr {o sz : Nat} {x : AO} {os : List AOper} {d : Option Nat} {pre : Nat} {a v : AV} {Q : SL → St → Prop} (hx : x.evL l = some a) (h : apure .e (.fadr o sz (.c a)) = some v) (k : WR call (id + 1) os (putL l d v) s Q) :
    WR call id (⟨d, .p (.fadr o sz x), none, pre⟩ :: os) l s Q := WR.p (by rw [← h]; simp only [apure, ev_frL, hx, ev_c]) k
theorem WR.field {ag : Bool} {o sz : Nat} {x : AO} {os : List AOper} {d : Option Nat} {pre : Nat} {a v : AV} {Q : SL → St → Prop} (hx : x.evL l = some a) (h : apure .e (.field ag o sz (.c a)) = some v) (k : WR call (id + 1) os (putL l d v) s Q) :
    WR call id (⟨d, .p (.field ag o sz x), none, pre⟩ :: os) l s Q := WR.p (by rw [← h]; simp only [apure, ev_frL, hx, ev_c]) k
theorem WR.iadr {sz : Nat} {x y : AO} {os : List AOper} {d : Option Nat} {pre : Nat} {a b v : AV} {Q : SL → St → Prop} (hx : x.evL l = some a) (hy : y.evL l = some b) (h : apure .e (.iadr sz (.c a) (.c b)) = some v) (k : WR call (id + 1) os (putL l d v) s Q) :
    WR call id (⟨d, .p (.iadr sz x y), none, pre⟩ :: os) l s Q := WR.p (by rw [← h]; simp only [apure, ev_frL, hx, hy, ev_c]) k
theorem WR.idxs {x y : AO} {os : List AOper} {d : Option Nat} {pre : Nat} {a b v : AV} {Q : SL → St → Prop} (hx : x.evL l = some a) (hy : y.evL l = some b) (h : apure .e (.idxs (.c a) (.c b)) = some v) (k : WR call (id + 1) os (putL l d v) s Q) :
    WR call id (⟨d, .p (.idxs x y), none, pre⟩ :: os) l s Q := WR.p (by rw [← h]; simp only [apure, ev_frL, hx, hy, ev_c]) k
theorem WR.eq {neg : Bool} {ek : EK} {x y : AO} {os : List AOper} {d : Option Nat} {pre : Nat} {a b : AV} {r : Bool} {Q : SL → St → Prop} (hx : x.evL l = some a) (hy : y.evL l = some b) (h : aeq ek a b = some r) (k : WR call (id + 1) os (putL l d (.bool (bif neg then !r else r))) s Q) :
    WR call id (⟨d, .p (.eq neg ek x y), none, pre⟩ :: os) l s Q := WR.p (by simp only [apure, ev_frL, hx, hy, h]) k
theorem WR.pick {c x y : AO} {os : List AOper} {d : Option Nat} {pre : Nat} {b : Bool} {u v : AV} {Q : SL → St → Prop} (hc : c.evL l = some (.bool b)) (hx : x.evL l = some u) (hy : y.evL l = some v) (k : WR call (id + 1) os (putL l d (bif b then u else v)) s Q) :
    WR call id (⟨d, .p (.pick c x y), none, pre⟩ :: os) l s Q := WR.p (by cases b <;> simp only [apure, ev_frL, hc, hx, hy, cond_true, cond_false]) k
theorem WR.r {kk : RK} {x y : AO} {os : List AOper} {d : Option Nat} {pre : Nat} {a b v : AV} {Q : SL → St → Prop} (hx : x.evL l = some a) (hy : y.evL l = some b) (h : aread kk a b s = some v) (k : WR call (id + 1) os (putL l d v) s Q) :
    WR call id (⟨d, .r kk x y, none, pre⟩ :: os) l s Q := WR.op (op := .r kk x y) (by simp only [aop, ev_frL, hx, hy, h]) k
theorem WR.a {o : LOp} {os : List AOper} {d : Option Nat} {pre : Nat} {ob : AObj} {v : AV} {Q : SL → St → Prop} (h : amake (frL l) id o = some (ob, v)) (k : WR call (id + 1) os (putL l d v) (s.put id ob) Q) :
    WR call id (⟨d, .a o, none, pre⟩ :: os) l s Q := WR.op (op := .a o) (by simp only [aop, h]) k
theorem WR.alloc {zs : List AV} {os : List AOper} {d : Option Nat} {pre : Nat} {Q : SL → St → Prop} (k : WR call (id + 1) os (putL l d (.ptr id 0 0 zs.length)) (s.put id (.cells zs 0 0 false)) Q) :
    WR call id (⟨d, .a (.alloc zs), none, pre⟩ :: os) l s Q := WR.a rfl k
theorem WR.box {x : AO} {os : List AOper} {d : Option Nat} {pre : Nat} {a : AV} {Q : SL → St → Prop} (hx : x.evL l = some a) (hp : plainV a = true) (k : WR call (id + 1) os (putL l d (.ptr id 0 0 (cellsOf a).length)) (s.put id (.cells (cellsOf a) 0 0 false)) Q) :
    WR call id (⟨d, .a (.box x), none, pre⟩ :: os) l s Q := WR.a (by simp only [amake, ev_frL, hx, hp, cond_true]) k
theorem WR.fn {f : FuncId} {xs : List AO} {os : List AOper} {d : Option Nat} {pre : Nat} {vs : List AV} {v : AV} {s' : St} {Q : SL → St → Prop} (hx : evsL l xs = some vs) (h : call f vs s = some (v, s')) (k : WR call (id + 1) os (putL l d v) s' Q) :
    WR call id (⟨d, .e (.call f xs), none, pre⟩ :: os) l s Q := by
  refine WR.op (op := .e (.call f xs)) (v := v) (s' := s') ?_ k
  have := evsL_evs (fr := frL l) (fun t v hv => by rw [frL_get]; exact hv) hx
  simp only [aop, aeff, this, h]
theorem WR.store {m : Nat} {x y : AO} {os : List AOper} {d : Option Nat} {pre : Nat} {id1 g o lm : Nat} {v : AV} {s' : St} {Q : SL → St → Prop} (hx : x.evL l = some (.ptr id1 g o lm)) (hy : y.evL l = some v)
    (h1 : plainV v = true) (h2 : (cellsOf v).length = m) (h3 : m ≤ lm) (h : wr s id1 g o (cellsOf v) = some s') (k : WR call (id + 1) os (putL l d (.tup [])) s' Q) :
    WR call id (⟨d, .e (.store m x y), none, pre⟩ :: os) l s Q := by
  refine WR.op (op := .e (.store m x y)) (v := .tup []) (s' := s') ?_ k
  have e2 : Nat.beq (cellsOf v).length m = true := by rw [h2]; simp
  have e3 : Nat.ble m lm = true := Nat.ble_eq_true_of_le h3
  simp only [aop, aeff, ev_frL, hx, hy, h1, e2, e3, Bool.and_self, cond_true, h]
theorem WR.append {sz bytes : Nat} {x y : AO} {os : List AOper} {d : Option Nat} {pre : Nat} {a b v : AV} {s' : St} {Q : SL → St → Prop} (hx : x.evL l = some a) (hy : y.evL l = some b) (h : aappend s sz bytes a b = some (v, s')) (k : WR call (id + 1) os (putL l d v) s' Q) :
    WR call id (⟨d, .e (.append sz bytes x y), none, pre⟩ :: os) l s Q := WR.op (op := .e (.append sz bytes x y)) (by simp only [aop, aeff, ev_frL, hx, hy, h]) k
/-- An operation that hangs on a condition. -/
theorem WR.guard {op : AOp} {os : List AOper} {d : Option Nat} {pre t : Nat} {w b : Bool} {Q : SL → St → Prop} (ht : lkS l t = some (.bool b))
    (h1 : b = w → WR call id (⟨d, op, none, pre⟩ :: os) l s Q) (h2 : b = !w → WR call (id + 1) os (putL l d (.tup [])) s Q) :
    WR call id (⟨d, op, some (t, w), pre⟩ :: os) l s Q := by
  intro fr hf
  have hg := hf t _ ht
  by_cases hb : b = w
  · obtain ⟨fr', s', e, k⟩ := h1 hb fr hf
    refine ⟨fr', s', ?_, k⟩
    simp only [aregs, wants] at e ⊢
    simp only [hg, hb, beq_self_eq_true]
    exact e
  · obtain ⟨fr', s', e, k⟩ := h2 (by cases b <;> cases w <;> simp_all) _ (hf.put d (.tup []))
    refine ⟨fr', s', ?_, k⟩
    simp only [aregs, wants, hg]
    have : (b == w) = false := by cases b <;> cases w <;> simp_all
    simp only [this]
    exact e
theorem WR.mono {ops : List AOper} {Q R : SL → St → Prop} (h : WR call id ops l s Q) (k : ∀ l s, Q l s → R l s) : WR call id ops l s R := by
  intro fr hf
  obtain ⟨fr', s', e, l', h1, h2⟩ := h fr hf
  exact ⟨fr', s', e, l', h1, k _ _ h2⟩

/-! Code. -/
theorem WC.weak {c : ACode} {l2 : SL} {Q : AX → SL → St → Prop} (hs : Sub2 l2 l) (h : WC call n c l2 s Q) : WC call n c l s Q := fun fr hf => h fr (hf.weak hs)
theorem WC.mono {c : ACode} {Q R : AX → SL → St → Prop} (h : WC call n c l s Q) (k : ∀ x l s, Q x l s → R x l s) : WC call n c l s R := by
  intro fr hf
  obtain ⟨x, fr', s', e, l', h1, h2⟩ := h fr hf
  exact ⟨x, fr', s', e, l', h1, k _ _ _ h2⟩
theorem WC.skip {Q : AX → SL → St → Prop} (h : Q .nrm l s) : WC call n .skip l s Q := fun fr hf => ⟨.nrm, fr, s, rfl, l, hf, h⟩
theorem WC.ret {Q : AX → SL → St → Prop} (h : Q .ret l s) : WC call n .ret l s Q := fun fr hf => ⟨.ret, fr, s, rfl, l, hf, h⟩
theorem WC.ext {j : Nat} {Q : AX → SL → St → Prop} (h : Q (.ext j) l s) : WC call n (.ext j) l s Q := fun fr hf => ⟨.ext j, fr, s, rfl, l, hf, h⟩
theorem WC.goto {j : Nat} {Q : AX → SL → St → Prop} (h : Q (.goto j) l s) : WC call n (.goto j) l s Q := fun fr hf => ⟨.goto j, fr, s, rfl, l, hf, h⟩
theorem WC.reg {ops : List AOper} {Q : AX → SL → St → Prop} (h : WR call s.next ops l { s with next := s.next + ops.length } (fun l s => Q .nrm l s)) : WC call n (.reg ops) l s Q := by
  intro fr hf
  obtain ⟨fr', s', e, k⟩ := h fr hf
  exact ⟨.nrm, fr', s', by simp only [acode, areg, e], k⟩
/-- How a piece ends: on to the next one, or out. -/
def thenW (x : AX) (a b : Prop) : Prop := match x with
  | .nrm => a
  | _ => b
theorem WC.seq {a b : ACode} {Q : AX → SL → St → Prop} (h : WC call n a l s (fun x l s => thenW x (WC call n b l s Q) (Q x l s))) : WC call n (.seq a b) l s Q := by
  intro fr hf
  obtain ⟨x, fr', s', e, l', h1, h2⟩ := h fr hf
  cases x with
  | nrm =>
    obtain ⟨x, fr2, s2, e2, k⟩ := h2 fr' h1
    exact ⟨x, fr2, s2, by simp only [acode, e, e2], k⟩
  | ext j => exact ⟨_, fr', s', by simp only [acode, e], l', h1, h2⟩
  | goto j => exact ⟨_, fr', s', by simp only [acode, e], l', h1, h2⟩
  | ret => exact ⟨_, fr', s', by simp only [acode, e], l', h1, h2⟩
theorem WC.cond {c : AO} {a b : ACode} {t : Bool} {Q : AX → SL → St → Prop} (hc : c.evL l = some (.bool t)) (h1 : t = true → WC call n a l s Q) (h2 : t = false → WC call n b l s Q) : WC call n (.cond c a b) l s Q := by
  intro fr hf
  have := evL_ev hf hc
  cases t with
  | true => obtain ⟨x, fr', s', e, k⟩ := h1 rfl fr hf; exact ⟨x, fr', s', by simp only [acode, this, e], k⟩
  | false => obtain ⟨x, fr', s', e, k⟩ := h2 rfl fr hf; exact ⟨x, fr', s', by simp only [acode, this, e], k⟩
/-- Where a way out of a block leads. -/
def outW (id : Nat) (x : AX) (Q : AX → Prop) : Prop := match x with
  | .ext j => bif Nat.beq j id then Q .nrm else Q (.ext j)
  | x => Q x
theorem WC.blk {i : Nat} {b : ACode} {Q : AX → SL → St → Prop} (h : WC call n b l s (fun x l s => outW i x (fun x => Q x l s))) : WC call n (.blk i b) l s Q := by
  intro fr hf
  obtain ⟨x, fr', s', e, l', h1, h2⟩ := h fr hf
  cases x with
  | ext j =>
    simp only [outW] at h2
    cases hb : Nat.beq j i with
    | true => rw [hb] at h2; exact ⟨.nrm, fr', s', by simp only [acode, e, hb, cond_true], l', h1, h2⟩
    | false => rw [hb] at h2; exact ⟨.ext j, fr', s', by simp only [acode, e, hb, cond_false], l', h1, h2⟩
  | nrm => exact ⟨_, fr', s', by simp only [acode, e], l', h1, h2⟩
  | goto j => exact ⟨_, fr', s', by simp only [acode, e], l', h1, h2⟩
  | ret => exact ⟨_, fr', s', by simp only [acode, e], l', h1, h2⟩
def noGoto (x : AX) (Q : AX → Prop) : Prop := match x with
  | .goto _ => False
  | x => Q x
theorem WC.scp {b : ACode} {Q : AX → SL → St → Prop} (h : WC call n b l s (fun x l s => noGoto x (fun x => Q x l s))) : WC call n (.scp b) l s Q := by
  intro fr hf
  obtain ⟨x, fr', s', e, l', h1, h2⟩ := h fr hf
  cases x with
  | goto j => exact h2.elim
  | ext j => exact ⟨_, fr', s', by simp only [acode, e], l', h1, h2⟩
  | nrm => exact ⟨_, fr', s', by simp only [acode, e], l', h1, h2⟩
  | ret => exact ⟨_, fr', s', by simp only [acode, e], l', h1, h2⟩
def jumpW (lb : Nat) (x : AX) (J : Prop) (Q : AX → Prop) : Prop := match x with
  | .goto j => j = lb ∧ J
  | x => Q x
theorem WC.scpj {lb : Nat} {b c : ACode} {Q : AX → SL → St → Prop} (h : WC call n b l s (fun x l s => jumpW lb x (WC call n c l s (fun x l s => noGoto x (fun x => Q x l s))) (fun x => Q x l s))) : WC call n (.scpj lb b c) l s Q := by
  intro fr hf
  obtain ⟨x, fr', s', e, l', h1, h2⟩ := h fr hf
  cases x with
  | goto j =>
    obtain ⟨rfl, h2⟩ := h2
    obtain ⟨x, fr2, s2, e2, l2, h3, h4⟩ := h2 fr' h1
    have hb : Nat.beq j j = true := by simp
    cases x with
    | goto j => exact h4.elim
    | ext j => exact ⟨_, fr2, s2, by simp only [acode, e, hb, cond_true, e2], l2, h3, h4⟩
    | nrm => exact ⟨_, fr2, s2, by simp only [acode, e, hb, cond_true, e2], l2, h3, h4⟩
    | ret => exact ⟨_, fr2, s2, by simp only [acode, e, hb, cond_true, e2], l2, h3, h4⟩
  | ext j => exact ⟨_, fr', s', by simp only [acode, e], l', h1, h2⟩
  | nrm => exact ⟨_, fr', s', by simp only [acode, e], l', h1, h2⟩
  | ret => exact ⟨_, fr', s', by simp only [acode, e], l', h1, h2⟩
theorem WC.loop {b : ACode} {Q : AX → SL → St → Prop} (h : WL call n b n l s Q) : WC call n (.loop b) l s Q := by
  intro fr hf
  obtain ⟨x, fr', s', e, k⟩ := h fr hf
  exact ⟨x, fr', s', by simp only [acode, e], k⟩
theorem WL.weak {b : ACode} {k : Nat} {l2 : SL} {Q : AX → SL → St → Prop} (hs : Sub2 l2 l) (h : WL call n b k l2 s Q) : WL call n b k l s Q := fun fr hf => h fr (hf.weak hs)
theorem WL.mono {b : ACode} {k : Nat} {Q R : AX → SL → St → Prop} (h : WL call n b k l s Q) (j : ∀ x l s, Q x l s → R x l s) : WL call n b k l s R := by
  intro fr hf
  obtain ⟨x, fr', s', e, l', h1, h2⟩ := h fr hf
  exact ⟨x, fr', s', e, l', h1, j _ _ _ h2⟩
theorem WL.round {b : ACode} {k : Nat} {Q : AX → SL → St → Prop} (h : WC call n b l s (fun x l s => thenW x (WL call n b k l s Q) (Q x l s))) : WL call n b (k + 1) l s Q := by
  intro fr hf
  obtain ⟨x, fr', s', e, l', h1, h2⟩ := h fr hf
  cases x with
  | nrm =>
    obtain ⟨x, fr2, s2, e2, k⟩ := h2 fr' h1
    exact ⟨x, fr2, s2, by simp only [loopN, e, e2], k⟩
  | ext j => exact ⟨_, fr', s', by simp only [loopN, e], l', h1, h2⟩
  | goto j => exact ⟨_, fr', s', by simp only [loopN, e], l', h1, h2⟩
  | ret => exact ⟨_, fr', s', by simp only [loopN, e], l', h1, h2⟩
/-- The last operation of a region is a value that is not looked at: shorter lists. -/
theorem WR.weak {ops : List AOper} {l2 : SL} {Q : SL → St → Prop} (hs : Sub2 l2 l) (h : WR call id ops l2 s Q) : WR call id ops l s Q := fun fr hf => h fr (hf.weak hs)

/-! Functions. -/
noncomputable def resL (l : SL) (s : St) : RV → Option AV
  | .t n => lkS l n
  | .c1 n => match lkS l n with
    | some a => aread .load1 a a s
    | none => none
  | .cn n k => match lkS l n with
    | some a => aread (.loadn k) a a s
    | none => none
noncomputable def ressL (l : SL) (s : St) : List RV → Option (List AV)
  | [] => some []
  | r :: rs => match resL l s r with
    | none => none
    | some v => match ressL l s rs with
      | none => none
      | some vs => some (v :: vs)
def packL : List AV → AV
  | [v] => v
  | vs => .tup vs
theorem resL_res {fr : Fr} (hf : Has fr l) {r : RV} {v : AV} (h : resL l s r = some v) : ares fr s r = some v := by
  cases r with
  | t m => exact hf m v h
  | c1 m =>
    simp only [resL] at h
    cases hl : lkS l m with
    | none => rw [hl] at h; simp at h
    | some a => rw [hl] at h; simp only [ares, hf m a hl]; exact h
  | cn m k =>
    simp only [resL] at h
    cases hl : lkS l m with
    | none => rw [hl] at h; simp at h
    | some a => rw [hl] at h; simp only [ares, hf m a hl]; exact h
theorem ressL_ress {fr : Fr} (hf : Has fr l) : ∀ {rs : List RV} {vs : List AV}, ressL l s rs = some vs → aress fr s rs = some vs
  | [], vs, h => h
  | r :: rs, vs, h => by
    simp only [ressL] at h
    cases h1 : resL l s r with
    | none => rw [h1] at h; simp at h
    | some a =>
      rw [h1] at h
      cases h2 : ressL l s rs with
      | none => rw [h2] at h; simp at h
      | some as =>
        rw [h2] at h
        simp only [aress, resL_res hf h1, ressL_ress hf h2]
        exact h
/-- Behind a function's body. -/
noncomputable def doneW (rs : List RV) (P : AV → St → Prop) (x : AX) (l : SL) (s : St) : Prop := (x = .nrm ∨ x = .ret) ∧ ∃ vs, ressL l s rs = some vs ∧ P (packL vs) s
theorem afun_of {fn : AFunc} {args : List AV} {P : AV → St → Prop} (hn : args.length ≤ fn.ntmps) (h : WC call n fn.body (args.zipIdx 0 |>.map fun p => (p.2, p.1)) s (doneW fn.results P)) :
    ∃ v s', afun call n fn args s = some (v, s') ∧ P v s' := by
  obtain ⟨x, fr', s', e, l', h1, hx, vs, h2, h3⟩ := h _ (has_frOf 0 args)
  have hb : Nat.ble args.length fn.ntmps = true := Nat.ble_eq_true_of_le hn
  have h4 := ressL_ress h1 h2
  refine ⟨packL vs, s', ?_, h3⟩
  simp only [afun, hb, cond_true]
  rcases hx with rfl | rfl <;> (simp only [e, h4]; rcases vs with _ | ⟨v, _ | ⟨w, vs⟩⟩ <;> rfl)
theorem acall_of {F : FuncId → Option AFunc} {E : FuncId → Option (List AV → St → Option (AV × St))} {f : FuncId} {fn : AFunc} {args : List AV} {P : AV → St → Prop} (hE : E f = none) (hF : F f = some fn) (hn : args.length ≤ fn.ntmps)
    (h : WC (acall F E n) n fn.body (args.zipIdx 0 |>.map fun p => (p.2, p.1)) s (doneW fn.results P)) :
    ∃ v s', acall F E (n + 1) f args s = some (v, s') ∧ P v s' := by
  obtain ⟨v, s', e, k⟩ := afun_of hn h
  exact ⟨v, s', by simp only [acall, hE, hF]; exact e, k⟩
end
end Go.Abs
