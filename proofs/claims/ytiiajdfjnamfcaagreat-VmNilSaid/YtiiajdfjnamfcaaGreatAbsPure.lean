/- Operations that neither read nor write memory. -/
import Derived.Test.YtiiajdfjnamfcaaGreatAbsEq
set_option autoImplicit false
set_option linter.unusedSimpArgs false
set_option linter.unusedVariables false
namespace Go.Abs
open Go Go.RowKit
inductive F2 {α β : Type} (R : α → β → Prop) : List α → List β → Prop
 | nil : F2 R [] []
 | cons {a : α} {b : β} {l : List α} {m : List β} : R a b → F2 R l m → F2 R (a :: l) (b :: m)
section
variable {P : Program} {w : World} {ι : IM} {w0 : World}
theorem scalarV_rel {c : Value} {v : AV} (h : scalarV c = some v) : rel ι w0 v c ∧ c.oneCell' = true ∧ plainV v = true ∧ isAg v = false := by
 unfold scalarV at h
 split at h <;> simp at h <;> subst h <;> simp [rel, Value.oneCell', plainV, isAg]
 exact rfl
theorem scalarVs_rel : ∀ {cs : List Value} {vs : List AV}, scalarVs cs = some vs → relL ι w0 vs cs ∧ one cs
 | [], vs, h => by simp [scalarVs] at h; subst h; exact ⟨by simp [relL], fun v hv => by simp at hv⟩
 | c :: cs, vs, h => by
  simp only [scalarVs] at h
  cases h1 : scalarV c with
  | none => simp [h1] at h
  | some x =>
   cases h2 : scalarVs cs with
   | none => simp [h1, h2] at h
   | some xs =>
    simp [h1, h2] at h
    subst h
    obtain ⟨a, b, _⟩ := scalarV_rel (ι := ι) (w0 := w0) h1
    obtain ⟨c', d⟩ := scalarVs_rel h2
    refine ⟨by simp only [relL]; exact ⟨_, _, rfl, a, c'⟩, ?_⟩
    intro v hv
    rcases List.mem_cons.1 hv with rfl | hv
    ·exact b
    ·exact d v hv
theorem constV_rel {c : Value} {v : AV} (h : constV c = some v) : rel ι w0 v c := by
 unfold constV at h
 split at h
 ·rename_i cs
  cases hs : scalarVs cs.toList with
  | none => simp [hs] at h
  | some vs =>
   simp [hs] at h
   subst h
   obtain ⟨a, b⟩ := scalarVs_rel (ι := ι) (w0 := w0) hs
   simp only [rel]
   exact ⟨cs, rfl, a, b⟩
 ·rename_i vs
  split at h
  ·rename_i hz
   simp at h
   subst h
   simp only [rel]
   exact ⟨vs, rfl, by simp only [relL]; simpa using hz⟩
  ·simp at h
 ·rename_i f a b
  split at h
  ·rename_i hz
   simp at h
   subst h
   simp only [rel]
   exact ⟨a, b, rfl, by simp only [relL]; simpa using hz.1, by simp only [relL]; simpa using hz.2⟩
  ·simp at h
 ·rename_i t x
  cases hs : scalarV x with
  | none => simp [hs] at h
  | some y =>
   simp [hs] at h
   subst h
   simp only [rel]
   exact ⟨x, rfl, (scalarV_rel hs).1⟩
 ·exact (scalarV_rel h).1
variable {fr : Fr} {a : Act}
theorem ev_sim {x : Operand} {y : AO} {v : AV} (hc : compO x = some y) (hf : FR ι w0 fr a) (h : y.ev fr = some v) : rel ι w0 v (a.eval x) := by
 cases x with
 | tmp t => simp [compO] at hc; subst hc; exact hf t v h
 | const c =>
  simp only [compO] at hc
  cases hv : constV c with
  | none => simp [hv] at hc
  | some u => simp [hv] at hc; subst hc; simp [AO.ev] at h; subst h; exact constV_rel hv
 | global g => simp [compO] at hc
 | func f =>
  simp [compO] at hc; subst hc; simp [AO.ev] at h; subst h
  simp only [rel, Act.eval]
  exact ⟨#[], #[], rfl, by simp [relL], by simp [relL]⟩
theorem evs_sim : ∀ {xs : List Operand} {ys : List AO} {vs : List AV}, compOs xs = some ys → FR ι w0 fr a → evs fr ys = some vs → relL ι w0 vs (xs.map a.eval)
 | [], ys, vs, hc, hf, h => by simp [compOs] at hc; subst hc; simp [evs] at h; subst h; simp [relL]
 | x :: xs, ys, vs, hc, hf, h => by
  simp only [compOs] at hc
  cases h1 : compO x with
  | none => simp [h1] at hc
  | some y =>
   cases h2 : compOs xs with
   | none => simp [h1, h2] at hc
   | some ys' =>
    simp [h1, h2] at hc
    subst hc
    simp only [evs] at h
    cases h3 : y.ev fr with
    | none => simp [h3] at h
    | some v =>
     cases h4 : evs fr ys' with
     | none => simp [h3, h4] at h
     | some vs' =>
      simp [h3, h4] at h
      subst h
      simp only [List.map_cons, relL]
      exact ⟨_, _, rfl, ev_sim h1 hf h3, evs_sim h2 hf h4⟩
theorem evo_sim {x : Option Operand} {y : Option AO} {v : Option AV} (hc : compOo x = some y) (hf : FR ι w0 fr a) (h : evo fr y = some v) :
  x = none ∧ v = none ∨ ∃ o u, x = some o ∧ v = some u ∧ rel ι w0 u (a.eval o) := by
 cases x with
 | none => simp [compOo] at hc; subst hc; simp [evo] at h; exact .inl ⟨rfl, h.symm⟩
 | some o =>
  simp only [compOo] at hc
  cases h1 : compO o with
  | none => simp [h1] at hc
  | some z =>
   simp [h1] at hc
   subst hc
   simp only [evo] at h
   cases h2 : z.ev fr with
   | none => simp [h2] at h
   | some u => simp [h2] at h; subst h; exact .inr ⟨o, u, rfl, rfl, ev_sim h1 hf h2⟩
def setSegV (cs : List Value) (off : Nat) (vs : List Value) : List Value := cs.take off ++ vs ++ cs.drop (off + vs.length)
theorem setSeg_length {cs : List AV} {off : Nat} {vs : List AV} (h : off + vs.length ≤ cs.length) : (setSeg cs off vs).length = cs.length := by
 simp [setSeg]; omega
theorem setSegV_cons (cs : List Value) (off : Nat) (v : Value) (vs : List Value) (h : off + (vs.length + 1) ≤ cs.length) :
  setSegV (cs.set off v) (off + 1) vs = setSegV cs off (v :: vs) := by
 unfold setSegV
 have h1 : (cs.set off v).take (off + 1) = cs.take off ++ [v] := by
  rw [List.take_succ_eq_append_getElem (by simp; omega), List.take_set_of_le (Nat.le_refl _)]
  simp
 rw [h1]
 have h2 : (cs.set off v).drop (off + 1 + vs.length) = cs.drop (off + (v :: vs).length) := by
  rw [List.drop_set_of_lt (by omega)]
  congr 1
  simp; omega
 rw [h2]
 simp
theorem fold_set : ∀ (vs : List Value) (off j : Nat) (cs : Array Value), off + j + vs.length ≤ cs.size →
  ((vs.zipIdx j).foldl (fun cs (x : Value × Nat) => cs.setIfInBounds (off + x.2) x.1) cs).toList = setSegV cs.toList (off + j) vs
 | [], off, j, cs, h => by simp [setSegV]
 | v :: vs, off, j, cs, h => by
  simp only [List.length_cons] at h
  simp only [List.zipIdx_cons, List.foldl_cons]
  rw [fold_set vs off (j + 1) _ (by simp; omega)]
  have e : off + (j + 1) = off + j + 1 := by omega
  rw [e, ← setSegV_cons cs.toList (off + j) v vs (by simp; omega)]
  simp
theorem relL_setSeg {cs vs : List AV} {cs' vs' : List Value} {off : Nat} (h : relL ι w0 cs cs') (k : relL ι w0 vs vs') : relL ι w0 (setSeg cs off vs) (setSegV cs' off vs') := by
 unfold setSeg setSegV
 rw [relL_length k]
 exact relL_append (relL_append (relL_take _ h) k) (relL_drop _ h)
theorem one_setSeg {cs vs : List Value} {off : Nat} (h : one cs) (k : one vs) : one (setSegV cs off vs) := one_append (one_append (one_take _ h) k) (one_drop _ h)
theorem fill_sim {place : Nat → Option (Nat × Nat)} : ∀ {ps : List (Nat × Operand)} {l : List (Nat × Nat × AO)} {zs cs : List AV} {zs' : Array Value},
  (F2 (fun (p : Nat × Operand) (q : Nat × Nat × AO) => place p.1 = some (q.1, q.2.1) ∧ compO p.2 = some q.2.2) ps l) → FR ι w0 fr a → relL ι w0 zs zs'.toList → one zs'.toList →
  fillA fr zs l = some cs → ∃ cs', Instr.fill place zs' (ps.map fun (i, x) => (i, a.eval x)) = some cs' ∧ relL ι w0 cs cs'.toList ∧ one cs'.toList
 | [], l, zs, cs, zs', hp, hf, hz, h1, h => by
  cases hp
  simp [fillA] at h
  subst h
  exact ⟨zs', by simp [Instr.fill], hz, h1⟩
 | (i, x) :: ps, l, zs, cs, zs', hp, hf, hz, h1, h => by
  cases hp with
  | @cons _ q _ l' hq hp =>
   obtain ⟨off, size, y⟩ := q
   obtain ⟨hq1, hq2⟩ := hq
   simp only at hq1 hq2
   simp only [fillA] at h
   cases hv : y.ev fr with
   | none => simp [hv] at h
   | some v =>
    simp only [hv] at h
    cases hb : (plainV v && Nat.beq (cellsOf v).length size && Nat.ble (off + size) zs.length) with
    | false => simp [hb] at h
    | true =>
     simp only [hb, cond_true] at h
     rw [Bool.and_eq_true, Bool.and_eq_true] at hb
     obtain ⟨⟨hb1, hb2⟩, hb3⟩ := hb
     have hb2 := Nat.eq_of_beq_eq_true hb2
     have hb3 := Nat.le_of_ble_eq_true hb3
     have hr := ev_sim hq2 hf hv
     obtain ⟨hc1, hc2⟩ := rel_cells hr hb1
     have hlen := relL_length hc1
     have hzl := relL_length hz
     have hsz : (a.eval x).cells.size = size := by rw [← hb2, hlen]; simp
     have hle : off + (a.eval x).cells.size ≤ zs'.size := by simp at hzl; omega
     have hle' : ¬ (off + (a.eval x).cells.size > zs'.size) := by omega
     have hfold : ((a.eval x).cells.zipIdx.foldl (fun cs (c, j) => cs.setIfInBounds (off + j) c) zs').toList = setSegV zs'.toList off (a.eval x).cells.toList := by
      rw [← Array.foldl_toList]
      have := fold_set (a.eval x).cells.toList off 0 zs' (by simp; exact hle)
      simp only [Nat.add_zero] at this
      rw [← this]
      simp [Array.toList_zipIdx]
     have hrec := fill_sim (place := place) (zs' := (a.eval x).cells.zipIdx.foldl (fun cs (c, j) => cs.setIfInBounds (off + j) c) zs') hp hf (by rw [hfold]; exact relL_setSeg hz hc1)
      (by rw [hfold]; exact one_setSeg h1 hc2) h
     obtain ⟨cs', e, f, g⟩ := hrec
     refine ⟨cs', ?_, f, g⟩
     simp only [List.map_cons, Instr.fill, hq1]
     rw [if_neg (by simp [hsz]; omega)]
     exact e
theorem partsS_forall : ∀ {fs : Array Field} {ps : List (Nat × Operand)} {l : List (Nat × Nat × AO)}, partsS P fs ps = some l →
  F2 (fun (p : Nat × Operand) (q : Nat × Nat × AO) => (∃ f, fs[p.1]? = some f ∧ f.offset = q.1 ∧ sizeT P f.type = some q.2.1) ∧ compO p.2 = some q.2.2) ps l
 | fs, [], l, h => by simp [partsS] at h; subst h; exact .nil
 | fs, (i, x) :: ps, l, h => by
  simp only [partsS] at h
  cases h1 : fs[i]? with
  | none => simp [h1] at h
  | some f =>
   simp only [h1] at h
   cases h2 : sizeT P f.type with
   | none => simp [h2] at h
   | some n =>
    cases h3 : compO x with
    | none => simp [h2, h3] at h
    | some y =>
     cases h4 : partsS P fs ps with
     | none => simp [h2, h3, h4] at h
     | some l' =>
      simp [h2, h3, h4] at h
      subst h
      exact .cons ⟨⟨f, h1, rfl, h2⟩, h3⟩ (partsS_forall h4)
theorem partsA_forall : ∀ {n : Nat} {ps : List (Nat × Operand)} {l : List (Nat × Nat × AO)}, partsA n ps = some l →
  F2 (fun (p : Nat × Operand) (q : Nat × Nat × AO) => (some (p.1 * n, n) : Option (Nat × Nat)) = some (q.1, q.2.1) ∧ compO p.2 = some q.2.2) ps l
 | n, [], l, h => by simp [partsA] at h; subst h; exact .nil
 | n, (i, x) :: ps, l, h => by
  simp only [partsA] at h
  cases h3 : compO x with
  | none => simp [h3] at h
  | some y =>
   cases h4 : partsA n ps with
   | none => simp [h3, h4] at h
   | some l' =>
    simp [h3, h4] at h
    subst h
    exact .cons ⟨rfl, h3⟩ (partsA_forall h4)
theorem forall_mono {α β : Type} {R S : α → β → Prop} (h : ∀ a b, R a b → S a b) : ∀ {l : List α} {m : List β}, F2 R l m → F2 S l m
 | _, _, .nil => .nil
 | _, _, .cons r k => .cons (h _ _ r) (forall_mono h k)
theorem places_run : ∀ (fs : List Field), (fs.all fun f => (sizeT P f.type).isSome) = true →
  (fs.mapM (fun f => do pure (f.offset, ← sizeOf f.type) : Field → Sem (Nat × Nat))).run P w = .ok (fs.map fun f => (f.offset, P.cellsOf f.type)) w
 | [], _ => by simp
 | f :: fs, h => by
  simp only [List.all_cons, Bool.and_eq_true] at h
  obtain ⟨n, hn⟩ := Option.isSome_iff_exists.1 h.1
  have hc : P.cellsOf f.type = n := by unfold sizeT at hn; simp [Program.cellsOf, hn]
  rw [List.mapM_cons]
  simp only [Sem.run_bind, sizeT_run hn, Result.andThen_ok, Sem.run_pure, places_run fs h.2, List.map_cons, hc]
theorem bnd_run {d y r : Nat} {o : Operand} {v : AV} {code : BoundsCode} (h : bnd d y (some v) = some r) (hr : rel ι w0 v (a.eval o)) :
  (Instr.sliceBound (a.eval o) y code).run P w = .ok r w := by
 unfold bnd at h
 split at h
 ·rename_i e; simp at e
 ·rename_i k i e
  simp at e
  subst e
  cases hb : Nat.ble i y with
  | false => simp [hb] at h
  | true =>
   simp [hb] at h
   subst h
   have := Nat.le_of_ble_eq_true hb
   simp only [rel] at hr
   simp only [hr, Instr.sliceBound, Sem.run_bind, asIntOf, Sem.run_pure, Result.andThen_ok]
   rw [if_pos ⟨by simp, by simpa using this⟩]
   rfl
 ·simp at h
theorem bounds_run {isSlice : Bool} {len cap l h m : Nat} {lo hi mx : Option Operand} {vl vh vm : Option AV} (hm : bnd cap cap vm = some m) (hh : bnd len m vh = some h) (hl : bnd 0 h vl = some l)
  (rl : lo = none ∧ vl = none ∨ ∃ o v, lo = some o ∧ vl = some v ∧ rel ι w0 v (a.eval o)) (rh : hi = none ∧ vh = none ∨ ∃ o v, hi = some o ∧ vh = some v ∧ rel ι w0 v (a.eval o))
  (rm : mx = none ∧ vm = none ∨ ∃ o v, mx = some o ∧ vm = some v ∧ rel ι w0 v (a.eval o)) (hx : mx.isSome = true → hi.isSome = true) :
  (Instr.sliceBounds isSlice len cap (lo.map a.eval) (hi.map a.eval) (mx.map a.eval)).run P w = .ok (l, h, m) w := by
 unfold Instr.sliceBounds
 rcases rm with ⟨rfl, rfl⟩ | ⟨om, um, rfl, rfl, hrm⟩
 ·have em : cap = m := by simp [bnd] at hm; exact hm
  subst em
  rcases rh with ⟨rfl, rfl⟩ | ⟨oh, uh, rfl, rfl, hrh⟩
  ·have eh : len = h := by simp [bnd] at hh; exact hh
   subst eh
   rcases rl with ⟨rfl, rfl⟩ | ⟨ol, ul, rfl, rfl, hrl⟩
   ·have el : 0 = l := by simp [bnd] at hl; exact hl
    subst el
    simp
   ·simp [fun c => bnd_run (P := P) (w := w) (code := c) hl hrl]
  ·rcases rl with ⟨rfl, rfl⟩ | ⟨ol, ul, rfl, rfl, hrl⟩
   ·have el : 0 = l := by simp [bnd] at hl; exact hl
    subst el
    simp [fun c => bnd_run (P := P) (w := w) (code := c) hh hrh]
   ·simp [fun c => bnd_run (P := P) (w := w) (code := c) hl hrl, fun c => bnd_run (P := P) (w := w) (code := c) hh hrh]
 ·have e1 := fun c => bnd_run (P := P) (w := w) (code := c) hm hrm
  rcases rh with ⟨rfl, rfl⟩ | ⟨oh, uh, rfl, rfl, hrh⟩
  ·simp at hx
  ·have e2 := fun c => bnd_run (P := P) (w := w) (code := c) hh hrh
   rcases rl with ⟨rfl, rfl⟩ | ⟨ol, ul, rfl, rfl, hrl⟩
   ·have el : 0 = l := by simp [bnd] at hl; exact hl
    subst el
    simp [e1, e2]
   ·simp [fun c => bnd_run (P := P) (w := w) (code := c) hl hrl, e1, e2]
end
end Go.Abs
