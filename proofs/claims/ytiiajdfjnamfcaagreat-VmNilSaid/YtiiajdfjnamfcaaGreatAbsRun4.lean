/- Functions, and calls. -/
import Derived.Test.YtiiajdfjnamfcaaGreatAbsRun3
set_option autoImplicit false
set_option linter.unusedSimpArgs false
set_option linter.unusedVariables false
namespace Go.Abs
open Go Go.RowKit
section
variable {P : Program} {w : World} {ι : IM} {w0 : World} {X : Nat → Option AObj} {s : St} {nx : Nat} {fr : Fr} {a : Act}
def oneOf : List AV → AV
 | [v] => v
 | vs => .tup vs
def resultSem (tmps : Array Value) : ResultVar → Sem Value
 | .tmp t => pure (tmps.getD t undef)
 | .cell a t => do loadVar t (← asAddr (tmps.getD a undef))
theorem load_sim (hs : SR ι w0 (s.view X) s.next w) (hf : FR ι w0 fr a) {t : TypeId} {n : Nat} {k : RK} {x v : AV} (hc : compOp P (.load t (.tmp n)) = some (.r k (.t n) (.t n))) (hx : fr.get n = some x) (h : aread k x x s = some v) :
  ∃ v', (do loadVar t (← asAddr (a.tmps.getD n undef)) : Sem Value).run P w = .ok v' w ∧ rel ι w0 v v' := by
 have r := hf n x hx
 have hev : ∀ Z, compO Z = some (.t n) → rel ι w0 x (a.eval Z) := fun Z hZ => ev_sim (y := .t n) hZ hf hx
 obtain ⟨v', e1, e2⟩ := aread_sim (o := { dst := none, op := .load t (.tmp n), type := 0, pos := "", after := #[], guard := none }) hc hs hev hev h
 have hp : ∃ ad, a.tmps.getD n undef = .pointer (some ad) := by
  unfold compOp at hc
  have hk : k = .load1 ∨ ∃ m, k = .loadn m := by
   simp only [compO] at hc
   split at hc
   ·simp at hc; exact .inr ⟨_, by first | exact hc.1.symm | exact hc.2.1.symm | exact hc.2.symm⟩
   ·simp at hc; exact .inl (by first | exact hc.1.symm | exact hc.2.1.symm | exact hc.2.symm)
   ·simp at hc
  rcases hk with rfl | ⟨m, rfl⟩
  all_goals
   cases x <;> simp only [aread] at h <;> try (simp at h; done)
  case inl.ptr => simp only [rel] at r; obtain ⟨_, _, _, e⟩ := r; exact ⟨_, e⟩
  case inl.iptr => simp only [rel] at r; obtain ⟨_, e, _⟩ := r; exact ⟨_, e⟩
  case inr.ptr => simp only [rel] at r; obtain ⟨_, _, _, e⟩ := r; exact ⟨_, e⟩
  case inr.iptr => simp only [rel] at r; obtain ⟨_, e, _⟩ := r; exact ⟨_, e⟩
 obtain ⟨ad, had⟩ := hp
 refine ⟨v', ?_, e2⟩
 have e3 : (execOp a.eval { dst := none, op := .load t (.tmp n), type := 0, pos := "", after := #[], guard := none }).run P w = ((loadVar t ad).run P w).andThen fun v w => .ok (.value v) w := by
  have hev2 : a.eval (.tmp n) = .pointer (some ad) := had
  simp only [execOp, hev2, Instr.loadAt, Instr.sureAddr, Sem.run_bind, Sem.run_pure, Result.andThen_ok]
 rw [e3] at e1
 rw [had]
 simp only [asAddr, Sem.run_bind, Sem.run_pure, Result.andThen_ok]
 cases hl : (loadVar t ad).run P w with
 | ok y w1 => rw [hl] at e1; simp at e1; rw [e1.1, e1.2]
 | halt q w1 => rw [hl] at e1; simp [Result.andThen] at e1
theorem ares_sim (hs : SR ι w0 (s.view X) s.next w) (hf : FR ι w0 fr a) {r : ResultVar} {rv : RV} {v : AV} (hc : compRV P r = some rv) (h : ares fr s rv = some v) :
  ∃ v', (resultSem a.tmps r).run P w = .ok v' w ∧ rel ι w0 v v' := by
 cases r with
 | tmp t =>
  simp [compRV] at hc
  subst hc
  simp only [ares] at h
  exact ⟨_, by simp [resultSem], hf t v h⟩
 | cell n t =>
  simp only [compRV] at hc
  split at hc
  ·rename_i m h1 h2
   simp at hc
   subst hc
   simp only [ares] at h
   split at h
   ·rename_i x hx
    exact load_sim hs hf (by simp [compOp, compO, h1, h2]) hx h
   ·simp at h
  ·rename_i h1
   simp at hc
   subst hc
   simp only [ares] at h
   split at h
   ·rename_i x hx
    refine load_sim hs hf ?_ hx h
    simp only [compOp, compO, h1]
   ·simp at h
  ·simp at hc
theorem aress_sim (hs : SR ι w0 (s.view X) s.next w) (hf : FR ι w0 fr a) : ∀ {rs : List ResultVar} {rvs : List RV} {vs : List AV}, compRVs P rs = some rvs → aress fr s rvs = some vs →
  ∃ vs', (rs.mapM (resultSem a.tmps)).run P w = .ok vs' w ∧ relL ι w0 vs vs'
 | [], rvs, vs, hc, h => by
  simp [compRVs] at hc
  subst hc
  simp [aress] at h
  subst h
  exact ⟨[], by simp, by simp [relL]⟩
 | r :: rs, rvs, vs, hc, h => by
  simp only [compRVs] at hc
  cases h1 : compRV P r with
  | none => simp [h1] at hc
  | some rv =>
   cases h2 : compRVs P rs with
   | none => simp [h1, h2] at hc
   | some rvs' =>
    simp [h1, h2] at hc
    subst hc
    simp only [aress] at h
    cases h3 : ares fr s rv with
    | none => simp [h3] at h
    | some v =>
     cases h4 : aress fr s rvs' with
     | none => simp [h3, h4] at h
     | some vs1 =>
      simp [h3, h4] at h
      subst h
      obtain ⟨v', e1, e2⟩ := ares_sim hs hf h1 h3
      obtain ⟨vs', e3, e4⟩ := aress_sim hs hf h2 h4
      refine ⟨v' :: vs', ?_, ?_⟩
      ·rw [List.mapM_cons]
       simp only [Sem.run_bind, e1, e3, Result.andThen_ok, Sem.run_pure]
      ·simp only [relL]
       exact ⟨_, _, rfl, e2, e4⟩
theorem results_sim (hs : SR ι w0 (s.view X) s.next w) (hf : FR ι w0 fr a) {fn : Func} {rvs : List RV} {vs : List AV} (hc : compRVs P fn.results.toList = some rvs) (h : aress fr s rvs = some vs) :
  ∃ v', (results fn a.tmps).run P w = .ok v' w ∧ rel ι w0 (oneOf vs) v' := by
 obtain ⟨vs', e1, e2⟩ := aress_sim hs hf hc h
 have e3 : results fn a.tmps = (do let vs ← (List.toArray <$> fn.results.toList.mapM (resultSem a.tmps)); pure (if h : vs.size = 1 then vs[0] else .tuple vs)) := by
  unfold results
  rw [Array.mapM_eq_mapM_toList]
  congr 2
 rw [e3]
 have e4 : (List.toArray <$> fn.results.toList.mapM (resultSem a.tmps) : Sem (Array Value)).run P w = .ok vs'.toArray w := by
  rw [map_eq_pure_bind]
  simp only [Sem.run_bind, e1, Result.andThen_ok, Sem.run_pure]
 simp only [Sem.run_bind, e4, Result.andThen_ok, Sem.run_pure]
 refine ⟨_, rfl, ?_⟩
 have hl := relL_length e2
 match vs, e2, hl with
 | [v], e2, hl =>
  simp only [relL] at e2
  obtain ⟨y, r, rfl, h1, rfl⟩ := e2
  simpa [oneOf] using h1
 | [], e2, hl =>
  have : ¬ vs'.toArray.size = 1 := by simp at hl ⊢; rw [← hl]; omega
  rw [dif_neg this]
  simp only [oneOf, rel]
  exact ⟨_, rfl, e2⟩
 | _ :: _ :: _, e2, hl =>
  have : ¬ vs'.toArray.size = 1 := by simp at hl ⊢; omega
  rw [dif_neg this]
  simp only [oneOf, rel]
  exact ⟨_, rfl, e2⟩
theorem frOf_get : ∀ (vs : List AV) (n t : Nat), (frOf n vs).get t = if n ≤ t then vs[t - n]? else none
 | [], n, t => by simp [frOf, Tr.get_e]
 | v :: vs, n, t => by
  simp only [frOf, Tr.get_set, frOf_get vs (n + 1) t]
  by_cases h : t = n
  ·subst h; simp
  ·rw [if_neg h]
   by_cases h2 : n ≤ t
   ·rw [if_pos (by omega), if_pos h2]
    have : t - n = (t - (n + 1)) + 1 := by omega
    rw [this]; simp
   ·rw [if_neg (by omega), if_neg h2]
end
def DrawOk (P : Program) : Prop := ∀ (call : CallF) (fuel n : Nat) (ops : Array Oper) (l : List AOper) (id : Nat), Sound P call → compReg P n ops true = some (.draw l) → CSim P call fuel n (.region id ops true) (.draw l)
def SoundF (P : Program) (f : FuncId) (g : List AV → St → Option (AV × St)) : Prop := ∀ args s v s', g args s = some (v, s') → Enters P f ∧ Keeps s.next s s' ∧
 ∀ (ι : IM) (w0 : World) (X : Nat → Option AObj) (w : World) (args' : Array Value), SR ι w0 (s.view X) s.next w → relL ι w0 args args'.toList → Calls P f args' w (Back ι w0 X v s')
section
variable {P : Program}
theorem afun_sound (hD : DrawOk P) {call : CallF} (hg : Sound P call) {fuel : Nat} {f : FuncId} {fn : Func} {af : AFunc} (hf : P.funcs[f]? = some fn) (hc : compFn P fn = some af) : SoundF P f (afun call fuel af) := by
 intro args s v s' h
 unfold compFn at hc
 split at hc
 ·simp at hc
 ·rename_i hname
  split at hc
  ·simp at hc
  ·rename_i c hb
   cases h1 : compC P fn.ntmps (compC P fn.ntmps fun _ => none) c with
   | none => simp [h1] at hc
   | some b =>
    cases h2 : compRVs P fn.results.toList with
    | none => simp [h1, h2] at hc
    | some rv =>
     simp [h1, h2] at hc
     subst hc
     unfold afun at h
     obtain ⟨hle, h⟩ := bif_some h
     have hle := Nat.le_of_ble_eq_true hle
     simp only at hle h
     have hd : ∀ ops l id, compReg P fn.ntmps ops true = some (.draw l) → CSim P call fuel fn.ntmps (.region id ops true) (.draw l) := fun ops l id hh => hD call fuel fn.ntmps ops l id hg hh
     have hsim := csim hg (fuel := fuel) hd (fun c ac hh => csim hg (fuel := fuel) hd (sub := fun _ => none) (fun _ _ hh => by simp at hh) c ac hh) c b h1
     have hen : Enters P f := ⟨fn, hf, by simpa using hname, by simp [hb]⟩
     have main : ∀ (x : AX) (fr : Fr) (s1 : St), acode call fuel b (frOf 0 args) s = some (x, fr, s1) → (x = .nrm ∨ x = .ret) → ∀ vs, aress fr s1 rv = some vs →
       Enters P f ∧ Keeps s.next s s1 ∧ ∀ (ι : IM) (w0 : World) (X : Nat → Option AObj) (w : World) (args' : Array Value), SR ι w0 (s.view X) s.next w → relL ι w0 args args'.toList → Calls P f args' w (Back ι w0 X (oneOf vs) s1) := by
      intro x fr s1 hx hx2 vs hvs
      obtain ⟨k1, k2⟩ := hsim _ _ _ _ _ hx
      refine ⟨hen, k1, fun ι w0 X w args' hs hr => ?_⟩
      have hal : args.length = args'.size := by simpa using relL_length hr
      refine calls_of_wp hf hb (wp_mono (k2 ι w0 X _ w ?_ ?_ hs) ?_)
      ·simp; omega
      ·intro t v hv
       rw [frOf_get] at hv
       simp at hv
       obtain ⟨y, hy, ry⟩ := relL_get hr hv
       have : (args' ++ Array.replicate (fn.ntmps - args'.size) undef).getD t undef = y := by
        have hlt : t < args'.size := by simpa using (List.getElem?_eq_some_iff.1 hy).1
        rw [Array.getD_eq_getD_getElem?, Array.getElem?_append_left hlt]
        rw [Array.getElem?_toList] at hy
        rw [hy]; rfl
       simp only
       rw [this]
       exact ry
      ·rintro e a' w' ⟨rfl, κ, l1, l2, l3, l4, l5⟩
       obtain ⟨v', r1, r2⟩ := results_sim l3 l2 h2 hvs
       rcases hx2 with rfl | rfl
       ·exact ⟨l5, v', r1, v', κ, rfl, l1, r2, l3⟩
       ·exact ⟨l5, v', r1, v', κ, rfl, l1, r2, l3⟩
     have fin : ∀ (x : AX) (fr : Fr) (s1 : St), acode call fuel b (frOf 0 args) s = some (x, fr, s1) → (x = .nrm ∨ x = .ret) → (match aress fr s1 rv with | some [v] => some (v, s1) | some vs => some (AV.tup vs, s1) | none => none) = some (v, s') →
       Enters P f ∧ Keeps s.next s s' ∧ ∀ (ι : IM) (w0 : World) (X : Nat → Option AObj) (w : World) (args' : Array Value), SR ι w0 (s.view X) s.next w → relL ι w0 args args'.toList → Calls P f args' w (Back ι w0 X v s') := by
      intro x fr s1 hx hx2 hh
      cases hvs : aress fr s1 rv with
      | none => simp [hvs] at hh
      | some vs =>
       have := main x fr s1 hx hx2 vs hvs
       match vs, hvs, this with
       | [v1], hvs, this => simp [hvs] at hh; obtain ⟨rfl, rfl⟩ := hh; exact this
       | [], hvs, this => simp [hvs] at hh; obtain ⟨rfl, rfl⟩ := hh; exact this
       | _ :: _ :: _, hvs, this => simp [hvs] at hh; obtain ⟨rfl, rfl⟩ := hh; exact this
     split at h
     ·rename_i fr s1 hx
      exact fin _ fr s1 hx (.inl rfl) h
     ·rename_i fr s1 hx
      exact fin _ fr s1 hx (.inr rfl) h
     ·simp at h
theorem acall_sound (hD : DrawOk P) {E : FuncId → Option (List AV → St → Option (AV × St))} (hE : ∀ f g, E f = some g → SoundF P f g) : ∀ n, Sound P (acall (comp P) E n)
 | 0 => by intro f args s v s' h; simp [acall] at h
 | n + 1 => by
  intro f args s v s' h
  simp only [acall] at h
  cases he : E f with
  | some g =>
   simp only [he] at h
   exact hE f g he args s v s' h
  | none =>
   simp only [he] at h
   cases hc : comp P f with
   | none => simp [hc] at h
   | some af =>
    simp only [hc] at h
    unfold comp at hc
    split at hc
    ·rename_i fn hf
     exact afun_sound hD (acall_sound hD hE n) hf hc args s v s' h
    ·simp at hc
end
end Go.Abs
