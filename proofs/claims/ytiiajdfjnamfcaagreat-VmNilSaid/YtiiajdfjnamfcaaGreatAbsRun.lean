/- What the abstract evaluator keeps; operations and regions in the order of the text. -/
import Derived.Test.YtiiajdfjnamfcaaGreatAbsEff7
import Derived.Control
import Derived.Calls
import Derived.ScopeJumps
set_option autoImplicit false
set_option linter.unusedSimpArgs false
set_option linter.unusedVariables false
namespace Go.Abs
open Go Go.RowKit
def Keeps (B : Nat) (s s' : St) : Prop := s.next ≤ s'.next ∧ ∀ j, (j < B → s.objs.get j = none → s'.objs.get j = none) ∧ (s'.objs.get j = none → s.objs.get j = none)
theorem Keeps.refl (B : Nat) (s : St) : Keeps B s s := ⟨Nat.le_refl _, fun _ => ⟨fun _ h => h, fun h => h⟩⟩
theorem Keeps.trans {B : Nat} {s t u : St} (h : Keeps B s t) (k : Keeps B t u) : Keeps B s u := ⟨Nat.le_trans h.1 k.1, fun j => ⟨fun hj hn => (k.2 j).1 hj ((h.2 j).1 hj hn), fun hn => (h.2 j).2 ((k.2 j).2 hn)⟩⟩
theorem Keeps.mono {B C : Nat} {s t : St} (h : Keeps B s t) (hc : C ≤ B) : Keeps C s t := ⟨h.1, fun j => ⟨fun hj hn => (h.2 j).1 (Nat.lt_of_lt_of_le hj hc) hn, (h.2 j).2⟩⟩
theorem Keeps.put {s : St} {id B : Nat} {o o' : AObj} (h : s.objs.get id = some o) : Keeps B s (s.put id o') := by
 refine ⟨Nat.le_refl _, fun j => ⟨fun hj hn => ?_, fun hn => ?_⟩⟩
 ·simp only [St.put, Tr.get_set]
  by_cases e : j = id
  ·subst e; rw [h] at hn; simp at hn
  ·rw [if_neg e]; exact hn
 ·simp only [St.put, Tr.get_set] at hn
  by_cases e : j = id
  ·rw [if_pos e] at hn; simp at hn
  ·rw [if_neg e] at hn; exact hn
theorem Keeps.new {s : St} {o : AObj} : Keeps s.next s (s.new o) := by
 refine ⟨Nat.le_succ _, fun j => ⟨fun hj hn => ?_, fun hn => ?_⟩⟩
 ·simp only [St.new, Tr.get_set]
  rw [if_neg (by omega)]
  exact hn
 ·simp only [St.new, Tr.get_set] at hn
  by_cases e : j = s.next
  ·rw [if_pos e] at hn; simp at hn
  ·rw [if_neg e] at hn; exact hn
theorem wr_keeps {s s' : St} {id g off B : Nat} {vs : List AV} (h : wr s id g off vs = some s') : Keeps B s s' := by
 unfold wr at h
 split at h
 ·rename_i cs gen wgen grown hob
  cases hb : (Nat.beq g gen && Nat.ble (off + vs.length) cs.length) with
  | false => simp [hb] at h
  | true => simp [hb] at h; subst h; exact Keeps.put hob
 ·simp at h
theorem bif_some {α : Type} {b : Bool} {x : Option α} {y : α} (h : (bif b then x else none) = some y) : b = true ∧ x = some y := by
 cases b <;> simp at h ⊢; exact h
theorem aappend_keeps {s s' : St} {sz by' : Nat} {a b v : AV} (h : aappend s sz by' a b = some (v, s')) : Keeps s.next s s' := by
 unfold aappend at h
 cases hl : ilen b with
 | none => simp [hl] at h
 | some n =>
  simp only [hl] at h
  cases hr : s.row sz n b with
  | none => simp [hr] at h
  | some new =>
   simp only [hr] at h
   cases hn : Nat.beq n 0 with
   | true =>
    simp only [hn, cond_true] at h
    split at h <;> simp at h <;> (obtain ⟨_, rfl⟩ := h; exact Keeps.refl _ _)
   | false =>
    simp only [hn, cond_false] at h
    split at h
    ·obtain ⟨_, h⟩ := bif_some h
     simp at h
     obtain ⟨_, rfl⟩ := h
     exact Keeps.new
    ·rename_i id g off len cap sz'
     obtain ⟨_, h⟩ := bif_some h
     split at h
     ·rename_i hob
      obtain ⟨_, h⟩ := bif_some h
      split at h
      ·simp at h
       obtain ⟨_, rfl⟩ := h
       exact Keeps.put hob
      ·simp at h
     ·rename_i hob
      obtain ⟨_, h⟩ := bif_some h
      cases hc : Nat.ble (len + n) cap with
      | true =>
       rw [hc] at h
       simp only [cond_true] at h
       split at h
       ·rename_i hw
        simp at h
        obtain ⟨_, rfl⟩ := h
        exact wr_keeps hw
       ·simp at h
      | false =>
       rw [hc] at h
       simp only [cond_false] at h
       split at h
       ·simp at h
        obtain ⟨_, rfl⟩ := h
        exact Keeps.new
       ·simp at h
     ·simp at h
    ·simp at h
theorem acopy_keeps {s s' : St} {sz : Nat} {a b v : AV} (h : acopy s sz a b = some (v, s')) : Keeps s.next s s' := by
 unfold acopy at h
 cases hm : slen a with
 | none => simp [hm] at h
 | some m =>
  cases hk : ilen b with
  | none => simp [hm, hk] at h
  | some k =>
   simp only [hm, hk] at h
   generalize (bif Nat.ble k m then k else m) = q at h
   cases hr : s.row sz q b with
   | none => simp [hr] at h
   | some cs =>
    simp only [hr] at h
    cases hq : Nat.beq q 0 with
    | true => simp [hq] at h; obtain ⟨_, rfl⟩ := h; exact Keeps.refl _ _
    | false =>
     simp only [hq, cond_false] at h
     split at h
     ·obtain ⟨_, h⟩ := bif_some h
      split at h
      ·rename_i hw
       simp at h
       obtain ⟨_, rfl⟩ := h
       exact wr_keeps hw
      ·simp at h
     ·simp at h
def KeepsF (g : CallF) : Prop := ∀ f args s v s', g f args s = some (v, s') → Keeps s.next s s'
theorem aeff_keeps {call : CallF} (hg : KeepsF call) {fr : Fr} {s s' : St} {v : AV} {e : EOp} (h : aeff call fr s e = some (v, s')) : Keeps s.next s s' := by
 cases e <;> simp only [aeff] at h
 case store =>
  split at h
  ·obtain ⟨_, h⟩ := bif_some h
   split at h
   ·rename_i hw
    simp at h
    obtain ⟨_, rfl⟩ := h
    exact wr_keeps hw
   ·simp at h
  ·simp at h
 case append =>
  split at h
  ·split at h
   ·rename_i hw
    simp at h
    obtain ⟨_, rfl⟩ := h
    exact aappend_keeps hw
   ·simp at h
  ·simp at h
 case copy =>
  split at h
  ·split at h
   ·rename_i hw
    simp at h
    obtain ⟨_, rfl⟩ := h
    exact acopy_keeps hw
   ·simp at h
  ·simp at h
 case mupd =>
  split at h
  ·obtain ⟨_, h⟩ := bif_some h
   split at h
   ·rename_i hob
    split at h
    ·simp at h; obtain ⟨_, rfl⟩ := h; exact Keeps.put hob
    ·simp at h
   ·simp at h
  ·simp at h
 case mdel =>
  split at h
  ·obtain ⟨_, h⟩ := bif_some h
   split at h
   ·rename_i hob
    split at h
    ·simp at h; obtain ⟨_, rfl⟩ := h; exact Keeps.put hob
    ·simp at h
   ·simp at h
  ·obtain ⟨_, h⟩ := bif_some h
   simp at h
   obtain ⟨_, rfl⟩ := h
   exact Keeps.refl _ _
  ·simp at h
 case ment =>
  split at h
  ·obtain ⟨_, h⟩ := bif_some h
   split at h
   ·rename_i hob
    split at h
    ·split at h
     ·simp at h; obtain ⟨_, rfl⟩ := h; exact Keeps.put hob
     ·simp at h
    ·split at h
     ·simp at h; obtain ⟨_, rfl⟩ := h; exact Keeps.put hob
     ·simp at h
    ·simp at h
   ·simp at h
  ·simp at h
 case mput =>
  split at h
  ·split at h
   ·rename_i hob
    split at h
    ·simp at h; obtain ⟨_, rfl⟩ := h; exact Keeps.put hob
    ·simp at h
   ·simp at h
  ·simp at h
 case rng =>
  split at h
  ·simp at h; obtain ⟨_, rfl⟩ := h; exact Keeps.new
  ·simp at h; obtain ⟨_, rfl⟩ := h; exact Keeps.new
  ·split at h
   ·simp at h; obtain ⟨_, rfl⟩ := h; exact Keeps.new
   ·simp at h
  ·simp at h
 case next =>
  split at h
  ·split at h
   ·rename_i hob
    cases hb : Nat.blt _ _ with
    | true =>
     rw [hb] at h
     simp only [cond_true] at h
     simp at h
     obtain ⟨_, rfl⟩ := h
     exact Keeps.put hob
    | false =>
     rw [hb] at h
     simp at h
     obtain ⟨_, rfl⟩ := h
     exact Keeps.refl _ _
   ·simp at h; obtain ⟨_, rfl⟩ := h; exact Keeps.refl _ _
   ·rename_i hob
    split at h
    ·split at h
     ·simp at h; obtain ⟨_, rfl⟩ := h; exact Keeps.put hob
     ·simp at h; obtain ⟨_, rfl⟩ := h; exact Keeps.refl _ _
     ·simp at h
    ·simp at h
   ·simp at h
  ·simp at h
 case call =>
  split at h
  ·split at h
   ·rename_i hw
    simp at h
    obtain ⟨_, rfl⟩ := h
    exact hg _ _ _ _ _ hw
   ·simp at h
  ·simp at h
 case callv =>
  split at h
  ·split at h
   ·rename_i hw
    simp at h
    obtain ⟨_, rfl⟩ := h
    exact hg _ _ _ _ _ hw
   ·simp at h
  ·simp at h
theorem aop_keeps {call : CallF} (hg : KeepsF call) {id : Nat} {fr : Fr} {s s' : St} {v : AV} {o : AOp} (hid : id ≤ s.next) (h : aop call id fr s o = some (v, s')) : Keeps id s s' := by
 cases o <;> simp only [aop] at h
 case p => split at h <;> simp at h; obtain ⟨_, rfl⟩ := h; exact Keeps.refl _ _
 case r =>
  split at h
  ·split at h <;> simp at h; obtain ⟨_, rfl⟩ := h; exact Keeps.refl _ _
  ·simp at h
 case a =>
  split at h <;> simp at h
  obtain ⟨_, rfl⟩ := h
  refine ⟨Nat.le_refl _, fun j => ⟨fun hj hn => ?_, fun hn => ?_⟩⟩
  ·simp only [St.put, Tr.get_set]
   rw [if_neg (by omega)]
   exact hn
  ·simp only [St.put, Tr.get_set] at hn
   by_cases e : j = id
   ·rw [if_pos e] at hn; simp at hn
   ·rw [if_neg e] at hn; exact hn
 case e => exact (aeff_keeps hg h).mono hid
theorem aregs_keeps {call : CallF} (hg : KeepsF call) : ∀ {l : List AOper} {id : Nat} {fr fr' : Fr} {s s' : St}, id + l.length ≤ s.next → aregs call id l fr s = some (fr', s') → Keeps id s s'
 | [], id, fr, fr', s, s', hid, h => by simp [aregs] at h; obtain ⟨_, rfl⟩ := h; exact Keeps.refl _ _
 | o :: l, id, fr, fr', s, s', hid, h => by
  simp only [List.length_cons] at hid
  simp only [aregs] at h
  split at h
  ·simp at h
  ·exact (aregs_keeps hg (by omega) h).mono (Nat.le_succ _)
  ·split at h
   ·simp at h
   ·rename_i v s1 h1
    have k1 := aop_keeps hg (by omega) h1
    exact k1.trans ((aregs_keeps hg (by have := k1.1; omega) h).mono (Nat.le_succ _))
def Enters (P : Program) (f : FuncId) : Prop := ∃ fn, P.funcs[f]? = some fn ∧ (fn.name == "runtime.NumGoroutine") = false ∧ fn.body.isNone = false
theorem enters_run {P : Program} {f : FuncId} (h : Enters P f) (args : Array Value) (w : World) : (callFunc f args).run P w = .ok (.enter f args) w := by
 obtain ⟨fn, h1, h2, h3⟩ := h
 unfold callFunc
 have hp : ∀ w : World, program.run P w = .ok P w := fun w => by simp [program, Sem.run]
 simp only [Sem.run_bind, hp, Result.andThen_ok, h1, h2, h3, Bool.false_eq_true, if_false, Sem.run_pure]
def Back (ι : IM) (w0 : World) (X : Nat → Option AObj) (v : AV) (s' : St) : Ending → World → Prop := fun e w' => ∃ v' κ, e = .returned v' ∧ ι.le κ ∧ rel κ w0 v v' ∧ SR κ w0 (s'.view X) s'.next w'
def Sound (P : Program) (g : CallF) : Prop := ∀ f args s v s', g f args s = some (v, s') → Enters P f ∧ Keeps s.next s s' ∧
 ∀ (ι : IM) (w0 : World) (X : Nat → Option AObj) (w : World) (args' : Array Value), SR ι w0 (s.view X) s.next w → relL ι w0 args args'.toList → Calls P f args' w (Back ι w0 X v s')
theorem Sound.keeps {P : Program} {g : CallF} (h : Sound P g) : KeepsF g := fun f args s v s' e => (h f args s v s' e).2.1
section
variable {P : Program} {w : World} {ι : IM} {w0 : World} {X : Nat → Option AObj} {s : St} {nx : Nat} {fr : Fr} {a : Act}
theorem oper_value {o : Oper} {next : Act → World → Prop} {Q : Exit → Act → World → Prop} {v' : Value} {w' : World} (h : (execOp a.eval o).run P w = .ok (.value v') w') (hn : next (a.put o.dst v') w') : o.wp P a w next Q := by
 unfold Oper.wp
 rw [h]
 exact hn
theorem call_wp {o : Oper} {next : Act → World → Prop} {Q : Exit → Act → World → Prop} {f : FuncId} {args' : Array Value} {v : AV} {s' : St} (h : (execOp a.eval o).run P w = .ok (.enter f args') w) (hc : Calls P f args' w (Back ι w0 X v s'))
  (hn : ∀ v' w' κ, ι.le κ → rel κ w0 v v' → SR κ w0 (s'.view X) s'.next w' → next (a.put o.dst v') w') : o.wp P a w next Q := by
 unfold Oper.wp
 rw [h]
 show Calls P f args' w _
 refine Calls.mono hc ?_
 rintro e w' ⟨v', κ, rfl, k1, k2, k3⟩
 exact hn v' w' κ k1 k2 k3
theorem compOp_call {op : Op} {eo : EOp} (hc : compOp P op = some (.e eo)) (h : eo.isCall = true) : ∃ c, op = .call c := by
 cases op
 case call c => exact ⟨c, rfl⟩
 all_goals exfalso
 case makeMap t r => cases r <;> simp [compOp] at hc
 case makeFunc f b c =>
  cases f <;> simp only [compOp] at hc <;> try (simp at hc; done)
  repeat' split at hc
  all_goals simp at hc
 case convert sT dT x =>
  simp only [compOp, compConv] at hc
  repeat' split at hc
  all_goals simp at hc
 case binOp op t x2 y2 yt =>
  have : (∃ p, compOp P (.binOp op t x2 y2 yt) = some (.p p)) ∨ compOp P (.binOp op t x2 y2 yt) = none := by
   by_cases h1 : op = .eql
   ·subst h1
    cases hq : compEq P false t x2 y2 with
    | none => exact .inr hq
    | some ao => obtain ⟨p, rfl⟩ := compEq_np hq; exact .inl ⟨p, hq⟩
   ·by_cases h2 : op = .neq
    ·subst h2
     cases hq : compEq P true t x2 y2 with
     | none => exact .inr hq
     | some ao => obtain ⟨p, rfl⟩ := compEq_np hq; exact .inl ⟨p, hq⟩
    ·cases op <;> first
      | exact absurd rfl h1
      | exact absurd rfl h2
      | (
        simp only [compOp]
        split
        ·exact .inl ⟨_, rfl⟩
        ·exact .inr rfl)
  rcases this with ⟨p, e⟩ | e <;> rw [e] at hc <;> simp at hc
 all_goals first
  | (simp [compOp] at hc; done)
  | (
    simp only [compOp] at hc; repeat' split at hc
    all_goals first | (simp at hc; done) | (simp at hc; subst hc; simp [EOp.isCall] at h; done) | (obtain ⟨_, _, hpo⟩ := map_some hc; simp at hpo; done) | (obtain ⟨_, _, hpo⟩ := map_some hc; simp at hpo; subst hpo; simp [EOp.isCall] at h; done))
  | (
    simp only [compOp, compSlice] at hc; repeat' split at hc
    all_goals first | (simp at hc; done) | (obtain ⟨_, _, hpo⟩ := map_some hc; simp at hpo; done))
theorem aop_wp {call : CallF} (hg : Sound P call) {o : Oper} {ao : AOp} {id : Nat} {v : AV} {s' : St} {next : Act → World → Prop} {Q : Exit → Act → World → Prop} (hc : compOp P o.op = some ao) (hf : FR ι w0 fr a) (hs : SR ι w0 (s.view X) s.next w)
  (hid : id < s.next) (hfree : s.view X id = none) (h : aop call id fr s ao = some (v, s'))
  (hn : ∀ v' w' κ, ι.le κ → rel κ w0 v v' → SR κ w0 (s'.view X) s'.next w' → next (a.put o.dst v') w') : o.wp P a w next Q := by
 cases ao <;> simp only [aop] at h
 case p po =>
  split at h <;> simp at h
  rename_i v1 h1
  obtain ⟨rfl, rfl⟩ := h
  obtain ⟨v', e1, e2⟩ := apure_sim (w := w) hc hf h1
  exact oper_value e1 (hn v' w ι (IM.le_refl _) e2 hs)
 case r k x y =>
  split at h
  ·rename_i xv yv hx hy
   split at h <;> simp at h
   rename_i v1 h1
   obtain ⟨rfl, rfl⟩ := h
   obtain ⟨v', e1, e2⟩ := aread_sim hc hs (fun Z hZ => ev_sim hZ hf hx) (fun Z hZ => ev_sim hZ hf hy) h1
   exact oper_value e1 (hn v' w ι (IM.le_refl _) e2 hs)
  ·simp at h
 case a lo =>
  split at h <;> simp at h
  rename_i ob v1 h1
  obtain ⟨rfl, rfl⟩ := h
  obtain ⟨v', w', e1, κ, k1, k2, k3⟩ := amake_sim hc hf hs hfree hid h1
  refine oper_value e1 (hn v' w' κ k1 k2 ?_)
  rw [view_put]
  exact k3
 case e eo =>
  cases hic : eo.isCall with
  | false =>
   obtain ⟨v', w', e1, κ, k1, k2, k3⟩ := aeff_sim hc hic hf hs h
   rcases e1 with e1 | ⟨e1, rfl⟩
   ·exact oper_value e1 (hn v' w' κ k1 k2 k3)
   ·unfold Oper.wp
    rw [e1]
    exact hn _ w' κ k1 k2 k3
  | true =>
   obtain ⟨c, ho⟩ := compOp_call hc hic
   rw [ho] at hc
   simp only [compOp, compCall] at hc
   split at hc
   ·unfold compBuiltin at hc
    repeat' split at hc
    all_goals first
     | (simp at hc; done)
     | (simp at hc; subst hc; simp [EOp.isCall] at hic; done)
   ·simp at hc
   ·rename_i f hcf
    obtain ⟨as, h1, hpo⟩ := map_some hc
    simp at hpo
    subst hpo
    simp only [aeff] at h
    split at h
    ·rename_i vs hvs
     split at h <;> simp at h
     rename_i v1 s1 hcl
     obtain ⟨rfl, rfl⟩ := h
     obtain ⟨k1, k2, k3⟩ := hg _ _ _ _ _ hcl
     refine call_wp (f := f) (args' := c.args.map a.eval) (X := X) ?_ (k3 ι w0 X w _ hs ?_) hn
     ·unfold execOp
      rw [ho]
      unfold resolve
      simp only [hcf, Sem.run_bind, Act.eval, Deferred.ofValue, Sem.run_pure, Result.andThen_ok, invoke, Array.empty_append, Array.append_empty, enters_run k1]
     ·have := evs_sim h1 hf hvs
      simpa using this
    ·simp at h
   ·rename_i f hne hcf
    split at hc
    ·rename_i g as h1 h2
     simp at hc
     subst hc
     simp only [aeff] at h
     split at h
     ·rename_i f1 first captured vs hf1 hvs
      split at h <;> simp at h
      rename_i v1 s1 hcl
      obtain ⟨rfl, rfl⟩ := h
      obtain ⟨k1, k2, k3⟩ := hg _ _ _ _ _ hcl
      have r := ev_sim h1 hf hf1
      simp only [rel] at r
      obtain ⟨a', b', e1, e2, e3⟩ := r
      refine call_wp (f := f1) (args' := a' ++ c.args.map a.eval ++ b') (X := X) ?_ (k3 ι w0 X w _ hs ?_) hn
      ·unfold execOp
       rw [ho]
       unfold resolve
       simp only [hcf, Sem.run_bind, e1, Deferred.ofValue, Sem.run_pure, Result.andThen_ok, invoke, enters_run k1]
      ·have := evs_sim h2 hf hvs
       simp only [Array.toList_append, Array.toList_map]
       exact relL_append (relL_append e2 this) e3
     ·simp at h
    ·simp at hc
end
end Go.Abs
