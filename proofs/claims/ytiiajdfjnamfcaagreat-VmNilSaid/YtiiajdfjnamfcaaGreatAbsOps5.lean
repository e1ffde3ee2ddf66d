/- A pure operation, whichever it is. -/
import Derived.Test.YtiiajdfjnamfcaaGreatAbsOps4
set_option autoImplicit false
set_option linter.unusedSimpArgs false
set_option linter.unusedVariables false
namespace Go.Abs
open Go Go.RowKit
section
variable {P : Program} {w : World} {ι : IM} {w0 : World} {fr : Fr} {a : Act}
theorem compEq_np {neg : Bool} {t : TypeId} {x y : Operand} {ao : AOp} (h : compEq P neg t x y = some ao) : ∃ p, ao = .p p := by
 unfold compEq at h
 repeat' split at h
 all_goals first | (simp at h; done) | (simp at h; exact ⟨_, h.symm⟩)
theorem g_conv {s d : TypeId} {x : Operand} {po : POp} {v : AV} (hc : compConv P s d x = some (.p po)) (hf : FR ι w0 fr a) (h : apure fr po = some v) : Gives P w ι w0 (convert s d (a.eval x)) v := by
 unfold compConv at hc
 cases hx : compO x with
 | none => simp [hx] at hc
 | some x1 =>
  simp only [hx] at hc
  split at hc
  ·rename_i k1 k2 h1 h2
   simp at hc
   subst hc
   simp only [apure] at h
   split at h
   ·rename_i k n e
    simp at h
    subst h
    have r := ev_sim hx hf e
    simp only [rel] at r
    refine ⟨.int k2 (k2.wrap n), ?_, by simp only [rel, awrap_eq]⟩
    rw [r]
    unfold convert
    simp only [Sem.run_bind, run_underlying h1, run_underlying h2, Result.andThen_ok]
    rfl
   ·simp at h
  ·rename_i h1 h2
   simp at hc
   subst hc
   simp only [apure] at h
   split at h
   ·rename_i s' e
    simp at h
    subst h
    have r := ev_sim hx hf e
    refine ⟨a.eval x, ?_, r⟩
    simp only [rel] at r
    obtain ⟨b, r, _⟩ := r
    rw [r]
    unfold convert
    simp only [Sem.run_bind, run_underlying h1, run_underlying h2, Result.andThen_ok]
    rfl
   ·simp at h
  ·repeat' split at hc
   all_goals simp at hc
  ·repeat' split at hc
   all_goals simp at hc
  ·simp at hc
theorem g_nilchk {x : Operand} {x1 : AO} {v : AV} {o : Oper} (ho : o.op = .nilCheck x) (hx : compO x = some x1) (hf : FR ι w0 fr a) (h : apure fr (.nilchk x1) = some v) :
  ∃ v', (execOp a.eval o).run P w = .ok (.value v') w ∧ rel ι w0 v v' := by
 have hr : ∃ y, rel ι w0 v (a.eval x) ∧ ((∃ p, a.eval x = .pointer (some p)) ∨ (∃ f p q, a.eval x = .func (.func f) p q) ∨ ∃ t z, a.eval x = .iface t z) ∧ y = a.eval x := by
  simp only [apure] at h
  split at h <;> simp at h <;> subst h <;> rename_i e <;> have r := ev_sim hx hf e
  ·exact ⟨_, r, by simp only [rel] at r; obtain ⟨p, _, _, e⟩ := r; exact .inl ⟨_, e⟩, rfl⟩
  ·exact ⟨_, r, by simp only [rel] at r; obtain ⟨p, e, _⟩ := r; exact .inl ⟨_, e⟩, rfl⟩
  ·exact ⟨_, r, by simp only [rel] at r; obtain ⟨p, q, e, _⟩ := r; exact .inr (.inl ⟨_, _, _, e⟩), rfl⟩
  ·exact ⟨_, r, by simp only [rel] at r; obtain ⟨p, e, _⟩ := r; exact .inr (.inr ⟨_, _, e⟩), rfl⟩
 obtain ⟨y, r, hk, _⟩ := hr
 refine ⟨a.eval x, ?_, r⟩
 unfold execOp
 rw [ho]
 rcases hk with ⟨p, e⟩ | ⟨f, p, q, e⟩ | ⟨t, z, e⟩ <;> simp only [e] <;> rfl
theorem apure_sim {o : Oper} {po : POp} {v : AV} (hc : compOp P o.op = some (.p po)) (hf : FR ι w0 fr a) (h : apure fr po = some v) :
  ∃ v', (execOp a.eval o).run P w = .ok (.value v') w ∧ rel ι w0 v v' := by
 have ex : ∀ (op : Op), o.op = op → execOp a.eval o = execOp a.eval { o with op := op } := fun op e => by rw [← e]
 cases ho : o.op <;> rw [ho] at hc <;> rw [ex _ ho]
 case move x =>
  obtain ⟨x1, hx, hpo⟩ := map_some hc
  cases hpo
  exact ⟨a.eval x, rfl, ev_sim hx hf h⟩
 case assign x =>
  obtain ⟨x1, hx, hpo⟩ := map_some hc
  cases hpo
  exact ⟨a.eval x, rfl, ev_sim hx hf h⟩
 case pick c x y =>
  simp only [compOp] at hc
  cases h1 : compO c <;> cases h2 : compO x <;> cases h3 : compO y <;> simp [h1, h2, h3] at hc
  subst hc
  simp only [apure] at h
  split at h
  ·rename_i e
   have r := ev_sim h1 hf e
   simp only [rel] at r
   refine ⟨a.eval x, ?_, ev_sim h2 hf h⟩
   simp only [execOp, r, Sem.run_bind, asBool, Sem.run_pure, Result.andThen_ok, if_true]
  ·rename_i e
   have r := ev_sim h1 hf e
   simp only [rel] at r
   refine ⟨a.eval y, ?_, ev_sim h3 hf h⟩
   simp only [execOp, r, Sem.run_bind, asBool, Sem.run_pure, Result.andThen_ok, Bool.false_eq_true, if_false]
  ·simp at h
 case build t parts => exact gives_ok (g_build hc hf h)
 case nilCheck x =>
  obtain ⟨x1, hx, hpo⟩ := map_some hc
  cases hpo
  exact g_nilchk rfl hx hf h
 case binOp op t x y yt =>
  by_cases h1 : op = .eql
  ·subst h1
   exact gives_ok (g_eq (neg := false) hc hf h)
  ·by_cases h2 : op = .neq
   ·subst h2
    exact gives_ok (g_eq (neg := true) hc hf h)
   ·have hc2 : (match compO x, compO y with
      | some a, some b => some (AOp.p (.bin op a b))
      | _, _ => none) = some (.p po) := by
     cases op <;> first | exact absurd rfl h1 | exact absurd rfl h2 | exact hc
    cases hx : compO x <;> cases hy : compO y <;> simp [hx, hy] at hc2
    rename_i x1 y1
    subst hc2
    simp only [apure] at h
    cases e1 : x1.ev fr with
    | none => simp [e1] at h
    | some p =>
     cases e2 : y1.ev fr with
     | none => simp [e1, e2] at h
     | some q =>
      simp only [e1, e2] at h
      exact gives_ok (abin_sim h (ev_sim hx hf e1) (ev_sim hy hf e2) t x y)
 case unOp op t x =>
  obtain ⟨x1, hx, hpo⟩ := map_some hc
  cases hpo
  simp only [apure] at h
  split at h <;> simp at h <;> subst h
  ·rename_i k n e
   have r := ev_sim hx hf e
   simp only [rel] at r
   refine gives_ok (s := Op.unary .neg (a.eval x)) ⟨.int k (k.wrap (0 - n)), ?_, by simp only [rel, awrap_eq, Int.zero_sub]⟩
   rw [r]; rfl
  ·rename_i b e
   have r := ev_sim hx hf e
   simp only [rel] at r
   refine gives_ok (s := Op.unary .not (a.eval x)) ⟨.bool (!b), ?_, by simp only [rel]⟩
   rw [r]; rfl
 case convert s d x => exact gives_ok (g_conv hc hf h)
 case makeInterface t x =>
  simp only [compOp] at hc
  cases hx : compO x with
  | none => exfalso; simp only [hx] at hc; split at hc <;> simp_all
  | some x1 =>
   cases hu : P.underlying t with
   | none => simp [hx, hu] at hc
   | some ty =>
    have fin : po = .mkifc t x1 → (Instr.makeInterface t (a.eval x)).run P w = .ok (.iface t (a.eval x)) w → ∃ v', (execOp a.eval { o with op := .makeInterface t x }).run P w = .ok (.value v') w ∧ rel ι w0 v v' := by
     intro hpo hr
     subst hpo
     simp only [apure] at h
     cases e : x1.ev fr with
     | none => simp [e] at h
     | some u =>
      simp [e] at h
      subst h
      exact gives_ok (s := Instr.makeInterface t (a.eval x)) ⟨_, hr, by simp only [rel]; exact ⟨_, rfl, ev_sim hx hf e⟩⟩
    cases ty <;> simp [hx, hu] at hc <;> refine fin hc.symm ?_ <;> simp [Instr.makeInterface, run_underlying hu]
 case makeFunc f first captured =>
  cases f <;> simp only [compOp] at hc <;> try (simp at hc; done)
  rename_i f
  cases h1 : compOs first.toList <;> cases h2 : compOs captured.toList <;> simp [h1, h2] at hc
  subst hc
  simp only [apure] at h
  split at h <;> simp at h
  rename_i e1 e2
  subst h
  refine ⟨.func (.func f) (first.map a.eval) (captured.map a.eval), rfl, ?_⟩
  simp only [rel]
  exact ⟨_, _, rfl, by simpa using evs_sim h1 hf e1, by simpa using evs_sim h2 hf e2⟩
 case slice t x lo hi mx => exact gives_ok (g_slice hc hf h)
 case fieldAddr t x f => exact gives_ok (g_fadr hc hf h)
 case field t x f => exact gives_ok (g_field hc hf h)
 case indexAddr t x i => exact gives_ok (g_iadr hc hf h)
 case index t x i => exact gives_ok (g_index hc hf h)
 case typeAssert x xt t ok =>
  simp only [compOp] at hc
  cases hx : compO x with
  | none => exfalso; simp only [hx] at hc; split at hc <;> simp_all
  | some x1 =>
   cases hu : P.underlying t with
   | none => simp [hx, hu] at hc
   | some ty =>
    cases hz : zeroT P t with
    | none => cases ty <;> simp [hx, hu, hz] at hc
    | some z =>
     obtain ⟨z', hz1, hz2, _⟩ := zeroT_run (w := w) hz
     have hzr := constV_rel (ι := ι) (w0 := w0) hz2
     have main : po = .tas t z ok x1 → (∀ m, ty ≠ .interface m) → ∃ v', (execOp a.eval { o with op := .typeAssert x xt t ok }).run P w = .ok (.value v') w ∧ rel ι w0 v v' := by
      intro hpo hni
      subst hpo
      simp only [apure] at h
      split at h
      ·rename_i e
       have r := ev_sim hx hf e
       simp only [rel] at r
       cases ok with
       | false => simp at h
       | true =>
        simp at h
        subst h
        refine gives_ok (s := Instr.typeAssert (a.eval x) xt t true) ⟨.tuple #[z', .bool false], ?_, ?_⟩
        ·rw [r]
         unfold Instr.typeAssert
         simp only [Sem.run_bind, run_underlying hu, Result.andThen_ok]
         cases ty <;> first | exact absurd rfl (hni _) | simp only [if_true, Sem.run_bind, hz1, Result.andThen_ok, Sem.run_pure]
        ·simp only [rel]
         exact ⟨_, rfl, by simp only [relL]; exact ⟨_, _, rfl, hzr, _, _, rfl, rfl, rfl⟩⟩
      ·rename_i u y e
       have r := ev_sim hx hf e
       simp only [rel] at r
       obtain ⟨y', r, ry⟩ := r
       cases hb : Nat.beq t u with
       | true =>
        have hb := Nat.eq_of_beq_eq_true hb
        subst hb
        cases ok with
        | false =>
         simp at h
         subst h
         refine gives_ok (s := Instr.typeAssert (a.eval x) xt t false) ⟨y', ?_, ry⟩
         rw [r]
         unfold Instr.typeAssert
         simp only [Sem.run_bind, run_underlying hu, Result.andThen_ok]
         cases ty <;> first | exact absurd rfl (hni _) | simp only [if_true, Bool.false_eq_true, if_false, Sem.run_pure]
        | true =>
         simp at h
         subst h
         refine gives_ok (s := Instr.typeAssert (a.eval x) xt t true) ⟨.tuple #[y', .bool true], ?_, ?_⟩
         ·rw [r]
          unfold Instr.typeAssert
          simp only [Sem.run_bind, run_underlying hu, Result.andThen_ok]
          cases ty <;> first | exact absurd rfl (hni _) | simp only [if_true, Sem.run_pure]
         ·simp only [rel]
          exact ⟨_, rfl, by simp only [relL]; exact ⟨_, _, rfl, ry, _, _, rfl, rfl, rfl⟩⟩
       | false =>
        have hne : ¬ u = t := fun e => by subst e; simp at hb
        cases ok with
        | false => simp [hb] at h
        | true =>
         simp [hb] at h
         subst h
         refine gives_ok (s := Instr.typeAssert (a.eval x) xt t true) ⟨.tuple #[z', .bool false], ?_, ?_⟩
         ·rw [r]
          unfold Instr.typeAssert
          simp only [Sem.run_bind, run_underlying hu, Result.andThen_ok]
          cases ty <;> first | exact absurd rfl (hni _) | simp only [hne, if_false, if_true, Sem.run_bind, hz1, Result.andThen_ok, Sem.run_pure]
         ·simp only [rel]
          exact ⟨_, rfl, by simp only [relL]; exact ⟨_, _, rfl, hzr, _, _, rfl, rfl, rfl⟩⟩
      ·simp at h
     cases ty <;> simp [hx, hu, hz] at hc <;> exact main hc.symm (by simp)
 case extract x i =>
  obtain ⟨x1, hx, hpo⟩ := map_some hc
  cases hpo
  simp only [apure] at h
  split at h
  ·rename_i vs e
   have r := ev_sim hx hf e
   simp only [rel] at r
   obtain ⟨vs', r, rl⟩ := r
   obtain ⟨y, hy, ry⟩ := relL_get rl h
   refine gives_ok (s := Instr.extract (a.eval x) i) ⟨y, ?_, ry⟩
   rw [r]
   unfold Instr.extract
   rw [Array.getElem?_toList] at hy
   simp only [hy, Sem.run_pure]
  ·simp at h
 case call c =>
  simp only [compOp, compCall] at hc
  split at hc
  ·rename_i b hb
   exact g_builtin hb hc hf h
  ·simp at hc
  ·obtain ⟨_, _, hpo⟩ := map_some hc
   simp at hpo
  ·split at hc <;> simp at hc
 case makeMap t r => cases r <;> simp [compOp] at hc
 all_goals first
  | (simp [compOp] at hc; done)
  | (
    simp only [compOp] at hc; repeat' split at hc
    all_goals first | (simp at hc; done) | (obtain ⟨_, _, hpo⟩ := map_some hc; simp at hpo; done))
end
end Go.Abs
