/- More slots make no other answer. -/
import Derived.Test.YtiiajdfjnamfcaaGreatAbsCut
set_option autoImplicit false
set_option linter.unusedSimpArgs false
set_option linter.unusedVariables false
namespace Go.Abs
open Go Go.RowKit
def Sub (fr fr1 : Fr) : Prop := ∀ t v, fr.get t = some v → fr1.get t = some v
theorem Sub.refl (fr : Fr) : Sub fr fr := fun _ _ h => h
theorem Sub.put {fr fr1 : Fr} (h : Sub fr fr1) (d : Option Nat) (v : AV) : Sub (putO fr d v) (putO fr1 d v) := by
 intro t u hg
 rw [putO_get] at hg ⊢
 by_cases e : d = some t
 ·rw [if_pos e] at hg ⊢; exact hg
 ·rw [if_neg e] at hg ⊢; exact h t u hg
section
variable {fr fr1 : Fr}
theorem ev_mono (h : Sub fr fr1) {x : AO} {v : AV} (hx : x.ev fr = some v) : x.ev fr1 = some v := by
 cases x with
 | t n => exact h n v hx
 | c w => exact hx
theorem evs_mono (h : Sub fr fr1) : ∀ {l : List AO} {vs : List AV}, evs fr l = some vs → evs fr1 l = some vs
 | [], vs, hx => hx
 | x :: l, vs, hx => by
  simp only [evs] at hx ⊢
  cases h1 : x.ev fr with
  | none => simp [h1] at hx
  | some v =>
   cases h2 : evs fr l with
   | none => simp [h1, h2] at hx
   | some ws =>
    simp only [h1, h2] at hx
    simp only [ev_mono h h1, evs_mono h h2]
    exact hx
theorem evo_mono (h : Sub fr fr1) {x : Option AO} {v : Option AV} (hx : evo fr x = some v) : evo fr1 x = some v := by
 cases x with
 | none => exact hx
 | some x =>
  simp only [evo] at hx ⊢
  cases h1 : x.ev fr with
  | none => simp [h1] at hx
  | some v => simp only [h1] at hx; simp only [ev_mono h h1]; exact hx
theorem fillA_mono (h : Sub fr fr1) : ∀ {l : List (Nat × Nat × AO)} {zs cs : List AV}, fillA fr zs l = some cs → fillA fr1 zs l = some cs
 | [], zs, cs, hx => hx
 | (off, size, x) :: l, zs, cs, hx => by
  simp only [fillA] at hx ⊢
  cases h1 : x.ev fr with
  | none => simp [h1] at hx
  | some v =>
   simp only [h1] at hx
   simp only [ev_mono h h1]
   obtain ⟨h2, h3⟩ := bif_some hx
   rw [h2]
   exact fillA_mono h h3
theorem apure_mono (h : Sub fr fr1) {p : POp} {v : AV} (hx : apure fr p = some v) : apure fr1 p = some v := by
 cases p <;> simp only [apure] at hx ⊢
 case mov x => exact ev_mono h hx
 case pick c a b =>
  cases h1 : c.ev fr with
  | none => simp [h1] at hx
  | some w =>
   simp only [h1] at hx
   simp only [ev_mono h h1]
   split at hx
   ·rename_i e; cases e; exact ev_mono h hx
   ·rename_i e; cases e; exact ev_mono h hx
   ·simp at hx
 case build zs l =>
  cases h1 : fillA fr zs l with
  | none => simp [h1] at hx
  | some w => simp only [h1] at hx; simp only [fillA_mono h h1]; exact hx
 case const => exact hx
 case nilchk x =>
  cases h1 : x.ev fr with
  | none => simp [h1] at hx
  | some a => simp only [h1] at hx; simp only [ev_mono h h1]; exact hx
 case bin op x y =>
  cases h1 : x.ev fr with
  | none => simp [h1] at hx
  | some a =>
   cases h2 : y.ev fr with
   | none => simp [h1, h2] at hx
   | some b => simp only [h1, h2] at hx; simp only [ev_mono h h1, ev_mono h h2]; exact hx
 case eq ng k x y =>
  cases h1 : x.ev fr with
  | none => simp [h1] at hx
  | some a =>
   cases h2 : y.ev fr with
   | none => simp [h1, h2] at hx
   | some b => simp only [h1, h2] at hx; simp only [ev_mono h h1, ev_mono h h2]; exact hx
 case toInt k x =>
  cases h1 : x.ev fr with
  | none => simp [h1] at hx
  | some a => simp only [h1] at hx; simp only [ev_mono h h1]; exact hx
 case same x =>
  cases h1 : x.ev fr with
  | none => simp [h1] at hx
  | some a => simp only [h1] at hx; simp only [ev_mono h h1]; exact hx
 case mkifc t x =>
  cases h1 : x.ev fr with
  | none => simp [h1] at hx
  | some a => simp only [h1] at hx; simp only [ev_mono h h1]; exact hx
 case fadr off size x =>
  cases h1 : x.ev fr with
  | none => simp [h1] at hx
  | some a => simp only [h1] at hx; simp only [ev_mono h h1]; exact hx
 case field ag off size x =>
  cases h1 : x.ev fr with
  | none => simp [h1] at hx
  | some a => simp only [h1] at hx; simp only [ev_mono h h1]; exact hx
 case iadr sz x y =>
  cases h1 : x.ev fr with
  | none => simp [h1] at hx
  | some a =>
   cases h2 : y.ev fr with
   | none => simp [h1, h2] at hx
   | some b => simp only [h1, h2] at hx; simp only [ev_mono h h1, ev_mono h h2]; exact hx
 case aadr n sz x y =>
  cases h1 : x.ev fr with
  | none => simp [h1] at hx
  | some a =>
   cases h2 : y.ev fr with
   | none => simp [h1, h2] at hx
   | some b => simp only [h1, h2] at hx; simp only [ev_mono h h1, ev_mono h h2]; exact hx
 case idxs x y =>
  cases h1 : x.ev fr with
  | none => simp [h1] at hx
  | some a =>
   cases h2 : y.ev fr with
   | none => simp [h1, h2] at hx
   | some b => simp only [h1, h2] at hx; simp only [ev_mono h h1, ev_mono h h2]; exact hx
 case idxa ag n sz x y =>
  cases h1 : x.ev fr with
  | none => simp [h1] at hx
  | some a =>
   cases h2 : y.ev fr with
   | none => simp [h1, h2] at hx
   | some b => simp only [h1, h2] at hx; simp only [ev_mono h h1, ev_mono h h2]; exact hx
 case tas t z ok x =>
  cases h1 : x.ev fr with
  | none => simp [h1] at hx
  | some a => simp only [h1] at hx; simp only [ev_mono h h1]; exact hx
 case ext x i =>
  cases h1 : x.ev fr with
  | none => simp [h1] at hx
  | some a => simp only [h1] at hx; simp only [ev_mono h h1]; exact hx
 case un op x =>
  cases h1 : x.ev fr with
  | none => cases op <;> simp [h1] at hx
  | some a => simp only [h1] at hx; simp only [ev_mono h h1]; exact hx
 case len st x =>
  cases h1 : x.ev fr with
  | none => cases st <;> simp [h1] at hx
  | some a => simp only [h1] at hx; simp only [ev_mono h h1]; exact hx
 case mkfn f a b =>
  cases h1 : evs fr a with
  | none => simp [h1] at hx
  | some as =>
   cases h2 : evs fr b with
   | none => simp [h1, h2] at hx
   | some bs => simp only [h1, h2] at hx; simp only [evs_mono h h1, evs_mono h h2]; exact hx
 case sstr x lo hi =>
  cases h1 : x.ev fr with
  | none => simp [h1] at hx
  | some a =>
   cases h2 : evo fr lo with
   | none => cases a <;> simp [h1, h2] at hx
   | some b =>
    cases h3 : evo fr hi with
    | none => cases a <;> simp [h1, h2, h3] at hx
    | some c => simp only [h1, h2, h3] at hx; simp only [ev_mono h h1, evo_mono h h2, evo_mono h h3]; exact hx
 case sslc sz x lo hi mx =>
  cases h1 : x.ev fr with
  | none => simp [h1] at hx
  | some a =>
   cases h2 : evo fr lo with
   | none => simp [h1, h2] at hx
   | some b =>
    cases h3 : evo fr hi with
    | none => simp [h1, h2, h3] at hx
    | some c =>
     cases h4 : evo fr mx with
     | none => simp [h1, h2, h3, h4] at hx
     | some e => simp only [h1, h2, h3, h4] at hx; simp only [ev_mono h h1, evo_mono h h2, evo_mono h h3, evo_mono h h4]; exact hx
 case sarr n sz x lo hi mx =>
  cases h1 : x.ev fr with
  | none => simp [h1] at hx
  | some a =>
   cases h2 : evo fr lo with
   | none => simp [h1, h2] at hx
   | some b =>
    cases h3 : evo fr hi with
    | none => simp [h1, h2, h3] at hx
    | some c =>
     cases h4 : evo fr mx with
     | none => simp [h1, h2, h3, h4] at hx
     | some e => simp only [h1, h2, h3, h4] at hx; simp only [ev_mono h h1, evo_mono h h2, evo_mono h h3, evo_mono h h4]; exact hx
 case mmax l =>
  cases h1 : evs fr l with
  | none => simp [h1] at hx
  | some as => simp only [h1] at hx; simp only [evs_mono h h1]; exact hx
 case mmin l =>
  cases h1 : evs fr l with
  | none => simp [h1] at hx
  | some as => simp only [h1] at hx; simp only [evs_mono h h1]; exact hx
theorem amake_mono (h : Sub fr fr1) {id : Nat} {p : LOp} {v : AObj × AV} (hx : amake fr id p = some v) : amake fr1 id p = some v := by
 cases p <;> simp only [amake] at hx ⊢
 case alloc => exact hx
 case mkmap => exact hx
 case box x =>
  cases h1 : x.ev fr with
  | none => simp [h1] at hx
  | some w1 =>
   simp only [h1] at hx; simp only [ev_mono h h1]; exact hx
 case lits len sz zs l =>
  cases h1 : fillA fr (rep zs len) l with
  | none => simp [h1] at hx
  | some w => simp only [h1] at hx; simp only [fillA_mono h h1]; exact hx
 case mkslc sz by' zs x y =>
  cases h1 : x.ev fr with
  | none => simp [h1, natOf] at hx
  | some a =>
   cases h2 : y.ev fr with
   | none => cases h3 : natOf (some a) <;> simp [h1, h2, h3] at hx <;> simp [natOf] at hx
   | some b => simp only [h1, h2] at hx; simp only [ev_mono h h1, ev_mono h h2]; exact hx
 case s2b x =>
  cases h1 : x.ev fr with
  | none => simp [h1] at hx
  | some w1 =>
   simp only [h1] at hx; simp only [ev_mono h h1]; exact hx
theorem aeff_mono (h : Sub fr fr1) {call : CallF} {s : St} {p : EOp} {v : AV × St} (hx : aeff call fr s p = some v) : aeff call fr1 s p = some v := by
 cases p <;> simp only [aeff] at hx ⊢
 case store n x y =>
  cases h1 : x.ev fr with
  | none => simp [h1] at hx
  | some w1 =>
   cases h2 : y.ev fr with
   | none => simp [h1, h2] at hx
   | some w2 =>
    simp only [h1, h2] at hx; simp only [ev_mono h h1, ev_mono h h2]; exact hx
 case append n b x y =>
  cases h1 : x.ev fr with
  | none => simp [h1] at hx
  | some w1 =>
   cases h2 : y.ev fr with
   | none => simp [h1, h2] at hx
   | some w2 =>
    simp only [h1, h2] at hx; simp only [ev_mono h h1, ev_mono h h2]; exact hx
 case copy n x y =>
  cases h1 : x.ev fr with
  | none => simp [h1] at hx
  | some w1 =>
   cases h2 : y.ev fr with
   | none => simp [h1, h2] at hx
   | some w2 =>
    simp only [h1, h2] at hx; simp only [ev_mono h h1, ev_mono h h2]; exact hx
 case mupd ag ks x y z =>
  cases h1 : x.ev fr with
  | none => simp [h1] at hx
  | some w1 =>
   cases h2 : y.ev fr with
   | none => simp [h1, h2] at hx
   | some w2 =>
    cases h3 : z.ev fr with
    | none => simp [h1, h2, h3] at hx
    | some w3 =>
     simp only [h1, h2, h3] at hx; simp only [ev_mono h h1, ev_mono h h2, ev_mono h h3]; exact hx
 case mdel ag ks x y =>
  cases h1 : x.ev fr with
  | none => simp [h1] at hx
  | some w1 =>
   cases h2 : y.ev fr with
   | none => simp [h1, h2] at hx
   | some w2 =>
    simp only [h1, h2] at hx; simp only [ev_mono h h1, ev_mono h h2]; exact hx
 case ment ag ks z0 x y =>
  cases h1 : x.ev fr with
  | none => simp [h1] at hx
  | some w1 =>
   cases h2 : y.ev fr with
   | none => simp [h1, h2] at hx
   | some w2 =>
    simp only [h1, h2] at hx; simp only [ev_mono h h1, ev_mono h h2]; exact hx
 case mput x y z =>
  cases h1 : x.ev fr with
  | none => simp [h1] at hx
  | some w1 =>
   cases h2 : y.ev fr with
   | none => simp [h1, h2] at hx
   | some w2 =>
    cases h3 : z.ev fr with
    | none => simp [h1, h2, h3] at hx
    | some w3 =>
     simp only [h1, h2, h3] at hx; simp only [ev_mono h h1, ev_mono h h2, ev_mono h h3]; exact hx
 case rng st x =>
  cases h1 : x.ev fr with
  | none => cases st <;> simp [h1] at hx
  | some a => simp only [h1] at hx; simp only [ev_mono h h1]; exact hx
 case next st x =>
  cases h1 : x.ev fr with
  | none => simp [h1] at hx
  | some w1 =>
   simp only [h1] at hx; simp only [ev_mono h h1]; exact hx
 case call f l =>
  cases h1 : evs fr l with
  | none => simp [h1] at hx
  | some w1 =>
   simp only [h1] at hx; simp only [evs_mono h h1]; exact hx
 case callv x l =>
  cases h1 : x.ev fr with
  | none => simp [h1] at hx
  | some w1 =>
   cases h2 : evs fr l with
   | none => simp [h1, h2] at hx
   | some w2 =>
    simp only [h1, h2] at hx; simp only [ev_mono h h1, evs_mono h h2]; exact hx
end
end Go.Abs
