/- Rules by which a piece of code is gone through with values that are partly unknown: frames as lists of slots. -/
import Derived.Test.YtiiajdfjnamfcaaGreatAbsMono
set_option autoImplicit false
set_option linter.unusedSimpArgs false
set_option linter.unusedVariables false
namespace Go.Abs
open Go
abbrev SL := List (Nat × AV)
def lkS : SL → Nat → Option AV
 | [], _ => none
 | (u, v) :: r, t => bif Nat.beq u t then some v else lkS r t
def Has (fr : Fr) (l : SL) : Prop := ∀ t v, lkS l t = some v → fr.get t = some v
def putL (l : SL) (d : Option Nat) (v : AV) : SL := match d with
 | none => l
 | some d => (d, v) :: l
theorem Has.put {fr : Fr} {l : SL} (h : Has fr l) (d : Option Nat) (v : AV) : Has (putO fr d v) (putL l d v) := by
 cases d with
 | none => exact h
 | some d =>
  intro t u hu
  simp only [putL, lkS, putO, Tr.get_set] at hu ⊢
  by_cases e : t = d
  ·subst e
   have : Nat.beq t t = true := by simp
   rw [this] at hu
   simp at hu
   simp [hu]
  ·have : Nat.beq d t = false := by
    cases hb : Nat.beq d t with
    | false => rfl
    | true => exact absurd (Nat.eq_of_beq_eq_true hb).symm e
   rw [this] at hu
   rw [if_neg e]
   exact h t u hu
theorem has_frOf : ∀ (n : Nat) (vs : List AV), Has (frOf n vs) (vs.zipIdx n |>.map fun p => (p.2, p.1))
 | n, [] => by intro t v h; simp [lkS] at h
 | n, v :: vs => by
  have := (has_frOf (n + 1) vs).put (some n) v
  exact this
def AO.cl (l : SL) : AO → AO
 | .t n => match lkS l n with
  | some v => .c v
  | none => .t n
 | .c v => .c v
def AO.evL (l : SL) : AO → Option AV
 | .t n => lkS l n
 | .c v => some v
theorem evL_ev {fr : Fr} {l : SL} (h : Has fr l) {x : AO} {v : AV} (hx : x.evL l = some v) : x.ev fr = some v := by
 cases x with
 | t n => exact h n v hx
 | c w => exact hx
def evsL (l : SL) : List AO → Option (List AV)
 | [] => some []
 | x :: xs => match x.evL l with
  | none => none
  | some v => match evsL l xs with
   | none => none
   | some vs => some (v :: vs)
theorem evsL_evs {fr : Fr} {l : SL} (h : Has fr l) : ∀ {xs : List AO} {vs : List AV}, evsL l xs = some vs → evs fr xs = some vs
 | [], vs, hx => hx
 | x :: xs, vs, hx => by
  simp only [evsL] at hx
  cases h1 : x.evL l with
  | none => rw [h1] at hx; simp at hx
  | some a =>
   rw [h1] at hx
   cases h2 : evsL l xs with
   | none => rw [h2] at hx; simp at hx
   | some as =>
    rw [h2] at hx
    simp only [evs, evL_ev h h1, evsL_evs h h2]
    exact hx
noncomputable def frL : SL → Fr
 | [] => .e
 | (t, v) :: r => (frL r).set t (some v)
theorem frL_get : ∀ (l : SL) (t : Nat), (frL l).get t = lkS l t
 | [], t => rfl
 | (u, v) :: r, t => by
  simp only [frL, lkS, Tr.get_set, frL_get r t]
  by_cases e : t = u
  ·subst e; simp
  ·have : Nat.beq u t = false := by
    cases hb : Nat.beq u t with
    | false => rfl
    | true => exact absurd (Nat.eq_of_beq_eq_true hb).symm e
   rw [if_neg e, this]; rfl
theorem Has.sub {fr : Fr} {l : SL} (h : Has fr l) : Sub (frL l) fr := fun t v hv => h t v (by rw [← frL_get]; exact hv)
theorem ev_c (fr : Fr) (v : AV) : (AO.c v).ev fr = some v := rfl
theorem ev_frL (l : SL) (x : AO) : x.ev (frL l) = x.evL l := by cases x with
 | t n => exact frL_get l n
 | c v => rfl
section
variable {call : CallF}
variable {id n : Nat} {l : SL} {s : St}
def thenW (x : AX) (a b : Prop) : Prop := match x with
 | .nrm => a
 | _ => b
def outW (id : Nat) (x : AX) (Q : AX → Prop) : Prop := match x with
 | .ext j => bif Nat.beq j id then Q .nrm else Q (.ext j)
 | x => Q x
def noGoto (x : AX) (Q : AX → Prop) : Prop := match x with
 | .goto _ => False
 | x => Q x
def jumpW (lb : Nat) (x : AX) (J : Prop) (Q : AX → Prop) : Prop := match x with
 | .goto j => j = lb ∧ J
 | x => Q x
def packL : List AV → AV
 | [v] => v
 | vs => .tup vs
end
end Go.Abs
