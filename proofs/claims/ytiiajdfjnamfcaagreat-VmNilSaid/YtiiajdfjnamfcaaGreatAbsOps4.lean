/- All pure operations together. -/
import Derived.Test.YtiiajdfjnamfcaaGreatAbsOps3
set_option autoImplicit false
set_option linter.unusedSimpArgs false
set_option linter.unusedVariables false
namespace Go.Abs
open Go Go.RowKit
section
variable {P : Program} {w : World} {ι : IM} {w0 : World} {fr : Fr} {a : Act}
theorem g_slice {t : TypeId} {x : Operand} {lo hi mx : Option Operand} {po : POp} {v : AV} (hc : compSlice P t x lo hi mx = some (.p po)) (hf : FR ι w0 fr a) (h : apure fr po = some v) :
  Gives P w ι w0 (Instr.sliceAt t (a.eval x) (lo.map a.eval) (hi.map a.eval) (mx.map a.eval)) v := by
 unfold compSlice at hc
 cases hx : compO x with
 | none => simp [hx] at hc
 | some x1 =>
  cases hl : compOo lo with
  | none => simp [hx, hl] at hc
  | some l1 =>
   cases hh : compOo hi with
   | none => simp [hx, hl, hh] at hc
   | some h1 =>
    cases hm : compOo mx with
    | none => simp [hx, hl, hh, hm] at hc
    | some m1 =>
     simp only [hx, hl, hh, hm] at hc
     split at hc
     ·simp at hc
     ·rename_i hno
      have hmx : mx.isSome = true → hi.isSome = true := by
       intro h1
       cases hi with
       | none => simp [h1] at hno
       | some _ => rfl
      cases hu : P.underlying t with
      | none => simp [hu] at hc
      | some ty =>
       cases ty <;> simp only [hu] at hc <;> try (simp at hc; done)
       case array n e =>
        obtain ⟨sz, hs, hpo⟩ := map_some hc
        cases hpo
        simp only [apure] at h
        split at h
        ·rename_i v1 u1 u2 u3 e1 e2 e3 e4
         exact (sarr_sim (w := w) hs (ev_sim hx hf e1) (evo_sim hl hf e2) (evo_sim hh hf e3) (evo_sim hm hf e4) hmx h).1 hu
        ·simp at h
       case string =>
        split at hc
        ·simp at hc
        ·rename_i hmn
         simp at hc
         subst hc
         have hmn : mx = none := by cases mx with
          | none => rfl
          | some _ => simp at hmn
         subst hmn
         simp only [apure] at h
         split at h
         ·rename_i s u1 u2 e1 e2 e3
          have rx := ev_sim hx hf e1
          simp only [rel] at rx
          obtain ⟨b, ex, rfl⟩ := rx
          unfold sstr at h
          cases hb1 : bnd (natBytes b).length (natBytes b).length u2 with
          | none => simp [hb1] at h
          | some hh' =>
           cases hb2 : bnd 0 hh' u1 with
           | none => simp [hb1, hb2] at h
           | some l =>
            simp [hb1, hb2] at h
            subst h
            rw [natBytes_length] at hb1
            have hrun := bounds_run (P := P) (w := w) (isSlice := false) (len := b.size) (cap := b.size) (mx := none) (vm := none) (m := b.size) (by simp [bnd]) hb1 hb2 (evo_sim hl hf e2) (evo_sim hh hf e3) (.inl ⟨rfl, rfl⟩) (by simp)
            refine ⟨.string (b.extract l hh'), ?_, ?_⟩
            ·rw [ex]
             unfold Instr.sliceAt
             simp only [Sem.run_bind, run_underlying hu, Result.andThen_ok]
             unfold Instr.slice
             simp only [Option.map_none] at hrun ⊢
             simp only [Sem.run_bind, run_underlying hu, Result.andThen_ok, Option.isSome_none, Bool.false_eq_true, if_false, hrun, Sem.run_pure]
            ·simp only [rel]
             exact ⟨_, rfl, natBytes_extract _ _ _⟩
         ·simp at h
       case slice e =>
        cases hs : sizeT P e with
        | none => simp [hs] at hc
        | some sz =>
         simp only [hs] at hc
         split at hc
         ·simp at hc
         ·simp at hc
          subst hc
          simp only [apure] at h
          split at h
          ·rename_i v1 u1 u2 u3 e1 e2 e3 e4
           obtain ⟨y, ey, ry⟩ := aslice_sim (w := w) (len := 0) hu hs (ev_sim hx hf e1) (evo_sim hl hf e2) (evo_sim hh hf e3) (evo_sim hm hf e4) hmx h
           refine ⟨y, ?_, ry⟩
           unfold Instr.sliceAt
           simp only [Sem.run_bind, run_underlying hu, Result.andThen_ok]
           exact ey
          ·simp at h
       case pointer arr =>
        cases hu2 : P.underlying arr with
        | none => simp [hu2] at hc
        | some ty2 =>
         cases ty2 <;> simp only [hu2] at hc <;> try (simp at hc; done)
         case array n e =>
          obtain ⟨sz, hs, hpo⟩ := map_some hc
          cases hpo
          simp only [apure] at h
          split at h
          ·rename_i v1 u1 u2 u3 e1 e2 e3 e4
           exact (sarr_sim (w := w) hs (ev_sim hx hf e1) (evo_sim hl hf e2) (evo_sim hh hf e3) (evo_sim hm hf e4) hmx h).2 arr hu hu2
          ·simp at h
theorem builtin_ok {c : Call} {b : Builtin} {T : TypeId} {s : Sem Value} {v : AV} (hb : c.callee = .builtin b)
  (he : ∀ k, builtin b c.argTypes T k (c.args.map a.eval) = (do let x ← s; pure (Next.value x))) (h : Gives P w ι w0 s v) :
  ∃ v', (do let d ← resolve a.eval c T; invoke d.target d.args : Sem Next).run P w = .ok (.value v') w ∧ rel ι w0 v v' := by
 have e1 : resolve a.eval c T = pure { target := .builtin b c.argTypes T (c.args.map fun | .const _ => true | _ => false), args := c.args.map a.eval } := by
  unfold resolve
  rw [hb]
  rfl
 simp only [Sem.run_bind, e1, Sem.run_pure, Result.andThen_ok, invoke, he]
 obtain ⟨y, ey, ry⟩ := h
 exact ⟨y, by simp only [ey, Result.andThen_ok], ry⟩
theorem toList_one {α : Type} {xs : Array α} {x : α} (h : xs.toList = [x]) : xs = #[x] := by
 apply Array.ext'; simpa using h
theorem g_len {str : Bool} {t : TypeId} {x : Operand} {x1 : AO} {v : AV} {T : TypeId} {args : Array Value} {ts : Array TypeId} (ht : ts[0]? = some t) (ha : args = #[a.eval x]) (hx : compO x = some x1) (hf : FR ι w0 fr a)
  (hu : str = true ∧ P.underlying t = some .string ∨ str = false ∧ ∃ e, P.underlying t = some (.slice e)) (h : apure fr (.len str x1) = some v) : Gives P w ι w0 (Builtin.len_ ts T args) v := by
 have fin : ∀ (n : Nat), v = .int .i64 (.ofNat n) → (Builtin.len_ ts T args).run P w = .ok (goInt n) w → Gives P w ι w0 (Builtin.len_ ts T args) v := by
  intro n hv hr
  exact ⟨_, hr, by subst hv; simp only [rel, goInt]; rfl⟩
 have sl : ∀ (ad : Option Addr) (n c : Nat) (e : TypeId), P.underlying t = some (.slice e) → a.eval x = .slice ad n c → (Builtin.len_ ts T args).run P w = .ok (goInt n) w := by
  intro ad n c e hu ex
  subst ha
  unfold Builtin.len_
  rw [ht, ex]
  simp only [List.getElem?_toArray, List.getElem?_cons_zero, Sem.run_bind, run_underlying hu, Result.andThen_ok, Sem.run_pure]
 rcases hu with ⟨rfl, hu⟩ | ⟨rfl, e, hu⟩
 ·simp only [apure] at h
  split at h <;> simp at h
  ·rename_i s h1
   have r := ev_sim hx hf h1
   simp only [rel] at r
   obtain ⟨b, ex, rfl⟩ := r
   refine fin b.size (by rw [← h, natBytes_length]; rfl) ?_
   subst ha
   unfold Builtin.len_
   rw [ht, ex]
   simp only [List.getElem?_toArray, List.getElem?_cons_zero, Sem.run_bind, run_underlying hu, Result.andThen_ok, Sem.run_pure]
  all_goals contradiction
 ·simp only [apure] at h
  split at h <;> simp at h
  all_goals try contradiction
  ·rename_i h1
   have r := ev_sim hx hf h1
   simp only [rel] at r
   obtain ⟨_, _, _, _, _, _, _, _, ex⟩ := r
   exact fin _ h.symm (sl _ _ _ e hu ex)
  ·rename_i h1
   have r := ev_sim hx hf h1
   simp only [rel] at r
   obtain ⟨_, _, ex, _⟩ := r
   exact fin _ h.symm (sl _ _ _ e hu ex)
  ·rename_i h1
   have r := ev_sim hx hf h1
   simp only [rel] at r
   obtain ⟨_, _, ex⟩ := r
   exact fin 0 h.symm (sl _ _ _ e hu ex)
  ·rename_i h1
   have r := ev_sim hx hf h1
   simp only [rel] at r
   exact fin 0 h.symm (sl _ _ _ e hu r)
theorem amax_sim : ∀ (l : List AV) (l' : List Value) (k : IntKind) (n : Int) (v : AV), relL ι w0 l l' → amax k n l = some v → ∃ y, (l'.foldlM Builtin.max2 (.int k n)).run P w = .ok y w ∧ rel ι w0 v y
 | [], l', k, n, v, hr, h => by
  simp only [relL] at hr
  subst hr
  simp [amax] at h
  subst h
  exact ⟨_, rfl, by simp only [rel]⟩
 | x :: l, l', k, n, v, hr, h => by
  obtain ⟨y, r, rfl, hy, hr2⟩ := relL_cons hr
  cases x <;> simp [amax] at h
  rename_i j m
  simp only [rel] at hy
  subst hy
  obtain ⟨z, ez, rz⟩ := amax_sim l r k _ v hr2 h
  refine ⟨z, ?_, rz⟩
  simp only [List.foldlM_cons, Sem.run_bind, Builtin.max2, Sem.run_pure, Result.andThen_ok]
  rw [← ez]
  rw [ilt_eq]
  congr 2
  by_cases hh : n < m <;> simp [hh]
theorem amin_sim : ∀ (l : List AV) (l' : List Value) (k : IntKind) (n : Int) (v : AV), relL ι w0 l l' → amin k n l = some v → ∃ y, (l'.foldlM Builtin.min2 (.int k n)).run P w = .ok y w ∧ rel ι w0 v y
 | [], l', k, n, v, hr, h => by
  simp only [relL] at hr
  subst hr
  simp [amin] at h
  subst h
  exact ⟨_, rfl, by simp only [rel]⟩
 | x :: l, l', k, n, v, hr, h => by
  obtain ⟨y, r, rfl, hy, hr2⟩ := relL_cons hr
  cases x <;> simp [amin] at h
  rename_i j m
  simp only [rel] at hy
  subst hy
  obtain ⟨z, ez, rz⟩ := amin_sim l r k _ v hr2 h
  refine ⟨z, ?_, rz⟩
  simp only [List.foldlM_cons, Sem.run_bind, Builtin.min2, Sem.run_pure, Result.andThen_ok]
  rw [← ez]
  rw [ilt_eq]
  congr 2
  by_cases hh : m < n <;> simp [hh]
theorem g_builtin {c : Call} {b : Builtin} {T : TypeId} {po : POp} {v : AV} (hb : c.callee = .builtin b) (hc : compBuiltin P b c.args.toList c.argTypes = some (.p po)) (hf : FR ι w0 fr a) (h : apure fr po = some v) :
  ∃ v', (do let d ← resolve a.eval c T; invoke d.target d.args : Sem Next).run P w = .ok (.value v') w ∧ rel ι w0 v v' := by
 unfold compBuiltin at hc
 cases ha : compOs c.args.toList with
 | none => simp [ha] at hc
 | some as =>
  simp only [ha] at hc
  split at hc
  ·-- len
   rename_i x t ht
   obtain ⟨x0, hx0, hx⟩ : ∃ x0, c.args.toList = [x0] ∧ compO x0 = some x := by
    cases hl : c.args.toList with
    | nil => rw [hl] at ha; simp [compOs] at ha
    | cons x0 r =>
     rw [hl] at ha
     simp only [compOs] at ha
     cases h1 : compO x0 with
     | none => simp [h1] at ha
     | some y0 =>
      cases h2 : compOs r with
      | none => simp [h1, h2] at ha
      | some ys =>
       simp [h1, h2] at ha
       obtain ⟨rfl, rfl⟩ := ha
       cases r with
       | nil => exact ⟨x0, rfl, h1⟩
       | cons r0 r1 =>
        simp only [compOs] at h2
        cases h3 : compO r0 <;> cases h4 : compOs r1 <;> simp [h3, h4] at h2
   have hargs : c.args.map a.eval = #[a.eval x0] := by rw [toList_one hx0]; simp
   cases hu : P.underlying t with
   | none => simp [hu] at hc
   | some ty =>
    cases ty <;> simp only [hu] at hc <;> try (simp at hc; done)
    case string =>
     simp at hc
     subst hc
     exact builtin_ok (s := Builtin.len_ c.argTypes T (c.args.map a.eval)) hb (fun k => rfl) (g_len ht hargs hx hf (.inl ⟨rfl, hu⟩) h)
    case slice e =>
     simp at hc
     subst hc
     exact builtin_ok (s := Builtin.len_ c.argTypes T (c.args.map a.eval)) hb (fun k => rfl) (g_len ht hargs hx hf (.inr ⟨rfl, e, hu⟩) h)
    case array n e =>
     simp at hc
     subst hc
     simp [apure] at h
     subst h
     refine builtin_ok (s := Builtin.len_ c.argTypes T (c.args.map a.eval)) hb (fun k => rfl) ⟨goInt n, ?_, by simp only [rel, goInt]⟩
     rw [hargs]
     unfold Builtin.len_
     rw [ht]
     simp only [List.getElem?_toArray, List.getElem?_cons_zero, Sem.run_bind, run_underlying hu, Result.andThen_ok, Sem.run_pure]
    case pointer arr =>
     cases hu2 : P.underlying arr with
     | none => simp [hu2] at hc
     | some ty2 =>
      cases ty2 <;> simp only [hu2] at hc <;> try (simp at hc; done)
      case array n e =>
       simp at hc
       subst hc
       simp [apure] at h
       subst h
       refine builtin_ok (s := Builtin.len_ c.argTypes T (c.args.map a.eval)) hb (fun k => rfl) ⟨goInt n, ?_, by simp only [rel, goInt]⟩
       rw [hargs]
       unfold Builtin.len_
       rw [ht]
       simp only [List.getElem?_toArray, List.getElem?_cons_zero, Sem.run_bind, run_underlying hu, run_underlying hu2, Result.andThen_ok, Sem.run_pure]
  ·repeat' split at hc
   all_goals simp at hc
  ·repeat' split at hc
   all_goals simp at hc
  ·repeat' split at hc
   all_goals simp at hc
  ·-- max
   simp at hc
   subst hc
   simp only [apure] at h
   split at h
   ·rename_i k n r he
    have hr := evs_sim ha hf he
    obtain ⟨y, l', hl, hy, hr⟩ := relL_cons hr
    simp only [rel] at hy
    subst hy
    obtain ⟨z, ez, rz⟩ := amax_sim (P := P) (w := w) r l' k n v hr h
    refine builtin_ok (s := Builtin.max_ c.argTypes T (c.args.map a.eval)) hb (fun k => rfl) ⟨z, ?_, rz⟩
    unfold Builtin.max_
    have : (c.args.map a.eval).toList = .int k n :: l' := by rw [← hl]; simp
    rw [this]
    exact ez
   ·simp at h
  ·-- min
   simp at hc
   subst hc
   simp only [apure] at h
   split at h
   ·rename_i k n r he
    have hr := evs_sim ha hf he
    obtain ⟨y, l', hl, hy, hr⟩ := relL_cons hr
    simp only [rel] at hy
    subst hy
    obtain ⟨z, ez, rz⟩ := amin_sim (P := P) (w := w) r l' k n v hr h
    refine builtin_ok (s := Builtin.min_ c.argTypes T (c.args.map a.eval)) hb (fun k => rfl) ⟨z, ?_, rz⟩
    unfold Builtin.min_
    have : (c.args.map a.eval).toList = .int k n :: l' := by rw [← hl]; simp
    rw [this]
    exact ez
   ·simp at h
  ·simp at hc
end
end Go.Abs
