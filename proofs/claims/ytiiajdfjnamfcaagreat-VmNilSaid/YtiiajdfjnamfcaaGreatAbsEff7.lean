/- Every effect but a call. -/
import Derived.Test.YtiiajdfjnamfcaaGreatAbsEff6
set_option autoImplicit false
set_option linter.unusedSimpArgs false
set_option linter.unusedVariables false
namespace Go.Abs
open Go Go.RowKit
section
variable {P : Program} {w : World} {ι : IM} {w0 : World} {X : Nat → Option AObj} {s : St} {nx : Nat} {fr : Fr} {a : Act}
def EOp.isCall : EOp → Bool
 | .call .. | .callv .. => true
 | _ => false
theorem compOs_nil {l : List Operand} (h : compOs l = some []) : l = [] := by
 cases l with
 | nil => rfl
 | cons x l => simp only [compOs] at h; cases h1 : compO x <;> cases h2 : compOs l <;> simp [h1, h2] at h
theorem compOs_cons {l : List Operand} {y : AO} {ys : List AO} (h : compOs l = some (y :: ys)) : ∃ x xs, l = x :: xs ∧ compO x = some y ∧ compOs xs = some ys := by
 cases l with
 | nil => simp [compOs] at h
 | cons x l =>
  simp only [compOs] at h
  cases h1 : compO x with
  | none => simp [h1] at h
  | some a =>
   cases h2 : compOs l with
   | none => simp [h1, h2] at h
   | some as => simp [h1, h2] at h; obtain ⟨rfl, rfl⟩ := h; exact ⟨x, l, rfl, h1, h2⟩
theorem args_two {args : Array Operand} {y z : AO} (h : compOs args.toList = some [y, z]) : ∃ p q, compO p = some y ∧ compO q = some z ∧ ∀ a : Act, args.map a.eval = #[a.eval p, a.eval q] := by
 obtain ⟨p, xs, e1, h1, h2⟩ := compOs_cons h
 obtain ⟨q, ys, rfl, h3, h4⟩ := compOs_cons h2
 have := compOs_nil h4
 subst this
 refine ⟨p, q, h1, h3, fun a => ?_⟩
 apply Array.toList_inj.1
 simp [e1]
theorem builtin_eff {o : Oper} {c : Call} {b : Builtin} {s1 : Sem Value} {v : AV} {s' : St} (hb : c.callee = .builtin b)
  (hs : ∀ k, builtin b c.argTypes o.type k (c.args.map a.eval) = (do let x ← s1; pure (Next.value x)))
  (h : ∃ v' w', s1.run P w = .ok v' w' ∧ ∃ κ, ι.le κ ∧ rel κ w0 v v' ∧ SR κ w0 (s'.view X) s'.next w') :
  Eff P w ι w0 X ((execOp a.eval { o with op := .call c }).run P w) v s' := by
 have : (execOp a.eval { o with op := .call c }).run P w = (do let x ← s1; pure (Next.value x) : Sem Next).run P w := by
  have e1 : resolve a.eval c o.type = pure { target := .builtin b c.argTypes o.type (c.args.map fun | .const _ => true | _ => false), args := c.args.map a.eval } := by
   unfold resolve
   rw [hb]
   rfl
  simp only [execOp, Sem.run_bind, e1, Sem.run_pure, Result.andThen_ok, invoke, hs]
 rw [this]
 exact eff_val h
theorem aeff_sim {o : Oper} {eo : EOp} {v : AV} {s' : St} {call : CallF} (hc : compOp P o.op = some (.e eo)) (hnc : eo.isCall = false) (hf : FR ι w0 fr a) (hs : SR ι w0 (s.view X) s.next w) (h : aeff call fr s eo = some (v, s')) :
  Eff P w ι w0 X ((execOp a.eval o).run P w) v s' := by
 have ex : ∀ (op : Op), o.op = op → execOp a.eval o = execOp a.eval { o with op := op } := fun op e => by rw [← e]
 cases ho : o.op <;> rw [ho] at hc <;> rw [ex _ ho]
 case store t x y =>
  simp only [compOp] at hc
  cases h1 : compO x <;> cases h2 : compO y <;> cases h3 : sizeT P t <;> simp [h1, h2, h3] at hc
  subst hc
  obtain ⟨rfl, hh⟩ := store_sim (P := P) hs h3 h1 h2 hf h
  exact eff_unit hh
 case call c =>
  simp only [compOp, compCall] at hc
  split at hc
  ·rename_i b hb
   unfold compBuiltin at hc
   cases ha : compOs c.args.toList with
   | none => simp [ha] at hc
   | some as =>
    simp only [ha] at hc
    split at hc
    ·repeat' split at hc
     all_goals simp at hc
    ·rename_i y z t ht
     obtain ⟨p, q, p1, q1, e1⟩ := args_two ha
     cases he : elemT P t with
     | none => simp [he] at hc
     | some e =>
      simp only [he] at hc
      cases h1 : sizeT P e with
      | none => simp [h1] at hc
      | some n =>
       cases h2 : bytesT P e with
       | none => simp [h1, h2] at hc
       | some k =>
        cases h3 : zerosT P e with
        | none => simp [h1, h2, h3] at hc
        | some zs =>
         simp only [h1, h2, h3] at hc
         split at hc
         ·simp at hc
         ·rename_i hcond
          have hni : notInt P c.argTypes ∧ eo = .append n k y z := by
           unfold notInt
           split at hc
           ·rename_i hu
            rw [hu]
            simp at hc
            exact ⟨trivial, hc.symm⟩
           ·rename_i u hu
            rw [hu]
            simp only
            cases hty : P.underlying u with
            | none => simp [hty] at hc
            | some ty => cases ty <;> simp [hty] at hc <;> (subst hc; exact ⟨⟨_, rfl, by simp⟩, rfl⟩)
          ·obtain ⟨hni, rfl⟩ := hni
           simp only [aeff] at h
           cases ea : y.ev fr with
           | none => simp [ea] at h
           | some A =>
            cases eb : z.ev fr with
            | none => simp [ea, eb] at h
            | some B =>
             simp only [ea, eb] at h
             have h' : aappend s n k A B = some (v, s') := by
              cases hh : aappend s n k A B with
              | none => simp [hh] at h
              | some r => obtain ⟨r1, r2⟩ := r; simp [hh] at h; rw [h.1, h.2]
             refine builtin_eff (s1 := Builtin.append_ c.argTypes o.type (c.args.map a.eval)) hb (fun k => rfl) ?_
             rw [e1 a]
             exact aappend_sim (P := P) hs ht (elemT_und he) h1 hni h2 h3 (by omega) (ev_sim p1 hf ea) (ev_sim q1 hf eb) h'
    ·rename_i y z t ht
     obtain ⟨p, q, p1, q1, e1⟩ := args_two ha
     cases he : elemT P t with
     | none => simp [he] at hc
     | some e =>
      simp only [he] at hc
      cases h1 : sizeT P e with
      | none => simp [h1] at hc
      | some n =>
       simp only [h1] at hc
       split at hc
       ·simp at hc
       ·simp at hc
        subst hc
        simp only [aeff] at h
        cases ea : y.ev fr with
        | none => simp [ea] at h
        | some A =>
         cases eb : z.ev fr with
         | none => simp [ea, eb] at h
         | some B =>
          simp only [ea, eb] at h
          have h' : acopy s n A B = some (v, s') := by
           cases hh : acopy s n A B with
           | none => simp [hh] at h
           | some r => obtain ⟨r1, r2⟩ := r; simp [hh] at h; rw [h.1, h.2]
          refine builtin_eff (s1 := Builtin.copy_ c.argTypes o.type (c.args.map a.eval)) hb (fun k => rfl) ?_
          rw [e1 a]
          exact acopy_sim (P := P) hs ht (elemT_und he) h1 (ev_sim p1 hf ea) (ev_sim q1 hf eb) h'
    ·rename_i y z t ht
     obtain ⟨p, q, p1, q1, e1⟩ := args_two ha
     cases hu : P.underlying t with
     | none => simp [hu] at hc
     | some ty =>
      cases ty <;> simp only [hu] at hc <;> try (simp at hc; done)
      rename_i kt et
      cases h1 : flatT P 4 kt with
      | none => simp [h1] at hc
      | some ks =>
       cases h2 : aggT P kt with
       | none => simp [h1, h2] at hc
       | some ag =>
        simp [h1, h2] at hc
        subst hc
        refine builtin_eff (s1 := Builtin.delete_ c.argTypes o.type (c.args.map a.eval)) hb (fun k => rfl) ?_
        rw [e1 a]
        simp only [aeff] at h
        split at h
        ·rename_i id k ea eb
         cases hk : keyOk ag ks k with
         | false => simp [hk] at h
         | true =>
          simp only [hk, cond_true] at h
          split at h
          ·rename_i es ck hob
           cases hd : mdel ag ks k es with
           | none => simp [hd] at h
           | some l =>
            simp [hd] at h
            obtain ⟨rfl, rfl⟩ := h
            obtain ⟨w', z1, κ, z2, z3⟩ := delete_sim (P := P) (T := o.type) hs ht hu h1 h2 hob (ev_sim p1 hf ea) (ev_sim q1 hf eb) hk hd
            exact ⟨undef, w', z1, κ, z2, rel_undef, z3⟩
          ·simp at h
        ·rename_i k ea eb
         cases hk : keyOk ag ks k with
         | false => simp [hk] at h
         | true =>
          simp [hk] at h
          obtain ⟨rfl, rfl⟩ := h
          have r := ev_sim p1 hf ea
          simp only [rel] at r
          refine ⟨undef, w, ?_, ι, IM.le_refl _, rel_undef, hs⟩
          unfold Builtin.delete_
          simp only [ht, List.getElem?_toArray, List.getElem?_cons_zero, List.getElem?_cons_succ, Sem.run_bind, run_underlying hu, Result.andThen_ok, r, keyOk_run h1 h2 hk (ev_sim q1 hf eb), Sem.run_pure, undef]
        ·simp at h
    ·simp at hc
    ·simp at hc
    ·simp at hc
  ·simp at hc
  ·obtain ⟨_, _, hpo⟩ := map_some hc
   simp at hpo
   subst hpo
   simp [EOp.isCall] at hnc
  ·split at hc <;> simp at hc
   subst hc
   simp [EOp.isCall] at hnc
 case range t x =>
  simp only [compOp] at hc
  cases h1 : compO x with
  | none => simp [h1] at hc
  | some y =>
   simp only [h1] at hc
   cases hu : P.underlying t with
   | none => simp [hu] at hc
   | some ty =>
    cases ty <;> simp [hu] at hc
    ·subst hc
     exact eff_val (rng_sim (P := P) (str := true) hs (by simpa using hu) (fun x hx => ev_sim h1 hf hx) h)
    ·subst hc
     exact eff_val (rng_sim (P := P) (str := false) hs (by simpa using ⟨_, _, hu⟩) (fun x hx => ev_sim h1 hf hx) h)
 case next it str =>
  simp only [compOp] at hc
  obtain ⟨y, h1, hpo⟩ := map_some hc
  simp at hpo
  subst hpo
  exact eff_val (next_sim (P := P) hs (fun x hx => ev_sim h1 hf hx) h)
 case mapEntry t m k =>
  simp only [compOp] at hc
  split at hc
  ·rename_i m1 k1 kt et h1 h2 hu
   cases h3 : flatT P 4 kt <;> cases h4 : aggT P kt <;> cases h5 : zeroT P et <;> simp [h3, h4, h5] at hc
   subst hc
   rename_i ks ag z
   simp only [aeff] at h
   split at h
   ·rename_i id kv ea eb
    cases hk : keyOk ag ks kv with
    | false => simp [hk] at h
    | true =>
     simp only [hk, cond_true] at h
     split at h
     ·rename_i es ck hob
      cases hfd : find ag ks kv es with
      | none => simp [hfd] at h
      | some r =>
       cases r with
       | none =>
        simp only [hfd] at h
        cases hms : mset ag ks kv z ck es with
        | none => simp [hms] at h
        | some q =>
         obtain ⟨l, c⟩ := q
         simp [hms] at h
         obtain ⟨rfl, rfl⟩ := h
         exact eff_val (ment_sim (P := P) (r := none) hs hu h3 h4 h5 hob (ev_sim h1 hf ea) (ev_sim h2 hf eb) hk hfd hms)
       | some q =>
        obtain ⟨v1, n⟩ := q
        simp only [hfd] at h
        cases hms : mset ag ks kv v1 ck es with
        | none => simp [hms] at h
        | some q =>
         obtain ⟨l, c⟩ := q
         simp [hms] at h
         obtain ⟨rfl, rfl⟩ := h
         exact eff_val (ment_sim (P := P) (r := some (v1, n)) hs hu h3 h4 h5 hob (ev_sim h1 hf ea) (ev_sim h2 hf eb) hk hfd hms)
     ·simp at h
   ·simp at h
  ·simp at hc
 case entryStore t m n x =>
  simp only [compOp] at hc
  split at hc
  ·rename_i m1 n1 v1 h1 h2 h3
   simp at hc
   subst hc
   simp only [aeff] at h
   split at h
   ·rename_i id kd n2 v2 ea eb ec
    split at h
    ·rename_i es ck hob
     cases hmp : mputS n2 v2 es with
     | none => simp [hmp] at h
     | some l =>
      simp [hmp] at h
      obtain ⟨rfl, rfl⟩ := h
      exact eff_unit (mput_sim (P := P) hs hob (ev_sim h1 hf ea) (ev_sim h2 hf eb) (ev_sim h3 hf ec) hmp)
    ·simp at h
   ·simp at h
  ·simp at hc
 case mapUpdate t m k x =>
  simp only [compOp] at hc
  split at hc
  ·rename_i m1 k1 v1 kt et h1 h2 h3 hu
   cases h4 : flatT P 4 kt <;> cases h5 : aggT P kt <;> simp [h4, h5] at hc
   subst hc
   rename_i ks ag
   simp only [aeff] at h
   split at h
   ·rename_i id kv v2 ea eb ec
    cases hk : keyOk ag ks kv with
    | false => simp [hk] at h
    | true =>
     simp only [hk, cond_true] at h
     split at h
     ·rename_i es ck hob
      cases hms : mset ag ks kv v2 ck es with
      | none => simp [hms] at h
      | some q =>
       obtain ⟨l, c⟩ := q
       simp [hms] at h
       obtain ⟨rfl, rfl⟩ := h
       exact eff_unit (mupd_sim (P := P) hs hu h4 h5 hob (ev_sim h1 hf ea) (ev_sim h2 hf eb) (ev_sim h3 hf ec) hk hms)
     ·simp at h
   ·simp at h
  ·simp at hc
 case insert t m k x =>
  simp only [compOp] at hc
  split at hc
  ·rename_i m1 k1 v1 kt et h1 h2 h3 hu
   cases h4 : flatT P 4 kt <;> cases h5 : aggT P kt <;> simp [h4, h5] at hc
   subst hc
   rename_i ks ag
   simp only [aeff] at h
   split at h
   ·rename_i id kv v2 ea eb ec
    cases hk : keyOk ag ks kv with
    | false => simp [hk] at h
    | true =>
     simp only [hk, cond_true] at h
     split at h
     ·rename_i es ck hob
      cases hms : mset ag ks kv v2 ck es with
      | none => simp [hms] at h
      | some q =>
       obtain ⟨l, c⟩ := q
       simp [hms] at h
       obtain ⟨rfl, rfl⟩ := h
       exact eff_unit (mupd_sim (P := P) hs hu h4 h5 hob (ev_sim h1 hf ea) (ev_sim h2 hf eb) (ev_sim h3 hf ec) hk hms)
     ·simp at h
   ·simp at h
  ·simp at hc
 case makeMap t r => cases r <;> simp [compOp] at hc
 case makeFunc f b c =>
  cases f <;> simp only [compOp] at hc <;> try (simp at hc; done)
  repeat' split at hc
  all_goals simp at hc
 case convert sT dT x =>
  simp only [compOp, compConv] at hc
  repeat' split at hc
  all_goals simp at hc
 case binOp op t x2 y2 yt =>
  have : (∃ p, compOp P (.binOp op t x2 y2 yt) = some (.p p)) ∨ compOp P (.binOp op t x2 y2 yt) = none := by
   by_cases h1 : op = .eql
   ·subst h1
    cases hq : compEq P false t x2 y2 with
    | none => exact .inr hq
    | some ao => obtain ⟨p, rfl⟩ := compEq_np hq; exact .inl ⟨p, hq⟩
   ·by_cases h2 : op = .neq
    ·subst h2
     cases hq : compEq P true t x2 y2 with
     | none => exact .inr hq
     | some ao => obtain ⟨p, rfl⟩ := compEq_np hq; exact .inl ⟨p, hq⟩
    ·cases op <;> first
      | exact absurd rfl h1
      | exact absurd rfl h2
      | (
        simp only [compOp]
        split
        ·exact .inl ⟨_, rfl⟩
        ·exact .inr rfl)
  rcases this with ⟨p, e⟩ | e <;> rw [e] at hc <;> simp at hc
 all_goals first
  | (simp [compOp] at hc; done)
  | (
    simp only [compOp] at hc; repeat' split at hc
    all_goals first | (simp at hc; done) | (obtain ⟨_, _, hpo⟩ := map_some hc; simp at hpo; done))
  | (
    simp only [compOp, compSlice] at hc; repeat' split at hc
    all_goals first | (simp at hc; done) | (obtain ⟨_, _, hpo⟩ := map_some hc; simp at hpo; done))
end
end Go.Abs
