/- Values held against each other: as the abstract evaluator says. -/
import Derived.Test.YtiiajdfjnamfcaaGreatAbsBin
import Derived.Laws.StructEq
set_option autoImplicit false
set_option linter.unusedSimpArgs false
set_option linter.unusedVariables false
namespace Go.Abs
open Go Go.RowKit
section
variable {P : Program} {w : World} {ι : IM} {w0 : World}
theorem sizeT_run {t : TypeId} {n : Nat} (h : sizeT P t = some n) : (sizeOf t).run P w = .ok n w := by
 unfold sizeT at h
 cases hi : P.info? t with
 | none => rw [hi] at h; simp at h
 | some i =>
  rw [hi] at h
  simp at h
  rw [run_sizeOf w hi]
  simp [Program.cellsOf, hi, h]
theorem aggT_run {t : TypeId} {b : Bool} (h : aggT P t = some b) : (isAgg t).run P w = .ok b w := by
 unfold aggT at h
 cases hu : P.underlying t with
 | none => rw [hu] at h; simp at h
 | some d =>
  rw [hu] at h
  cases d <;> simp at h <;> subst h <;> simp [isAgg, run_underlying hu]
theorem zeroT_run {t : TypeId} {z : AV} (h : zeroT P t = some z) : ∃ v, (zeroValue t).run P w = .ok v w ∧ constV v = some z ∧ plainV z = true := by
 unfold zeroT at h
 cases hi : P.info? t with
 | none => rw [hi] at h; simp at h
 | some i =>
  simp only [hi] at h
  cases hz : i.zero with
  | none => simp [hz] at h
  | some v =>
   simp only [hz] at h
   cases hcv : constV v with
   | none => simp [hcv] at h
   | some z' =>
    simp only [hcv] at h
    split at h
    ·rename_i hp
     simp at h
     subst h
     exact ⟨v, by simp [zeroValue, run_typeInfo w hi, hz], hcv, hp⟩
    ·simp at h
def formV (ag : Bool) (cs : List Value) : Value := if ag then .agg cs.toArray else cs.headD undef
theorem part_run {t : TypeId} {ag : Bool} {n off : Nat} {cs : Array Value} (hs : sizeT P t = some n) (ha : aggT P t = some ag) (hn : ag = false → off < cs.size) :
  (part t cs off).run P w = .ok (formV ag ((cs.toList.drop off).take (if ag then n else 1))) w := by
 unfold part
 cases ag with
 | true =>
  simp only [Sem.run_bind, aggT_run ha, Result.andThen_ok, if_true, sizeT_run hs, Sem.run_pure, formV]
  congr 2
  apply Array.ext'
  simp [Array.toList_extract, List.extract_eq_take_drop]
 | false =>
  have hlt := hn rfl
  simp only [Sem.run_bind, aggT_run ha, Result.andThen_ok, Bool.false_eq_true, if_false]
  rw [Array.getElem?_eq_getElem hlt]
  simp only [Sem.run_pure, formV, Bool.false_eq_true, if_false]
  congr 1
  rw [List.drop_eq_getElem_cons (by simpa using hlt)]
  simp
theorem ceqs_split : ∀ (ks1 ks2 : List CK) (xs ys : List AV) (b : Bool), ceqs (ks1 ++ ks2) xs ys = some b →
  (ceqs ks1 (xs.take ks1.length) (ys.take ks1.length) = some false ∧ b = false) ∨
  (ceqs ks1 (xs.take ks1.length) (ys.take ks1.length) = some true ∧ ceqs ks2 (xs.drop ks1.length) (ys.drop ks1.length) = some b)
 | [], ks2, xs, ys, b, h => .inr ⟨by simp [ceqs], by simpa using h⟩
 | k :: ks1, ks2, [], ys, b, h => by simp [ceqs] at h
 | k :: ks1, ks2, x :: xs, [], b, h => by simp [ceqs] at h
 | k :: ks1, ks2, x :: xs, y :: ys, b, h => by
  simp only [List.cons_append, ceqs] at h
  simp only [List.length_cons, List.take_succ_cons, List.drop_succ_cons, ceqs]
  cases hc : ceq k x y with
  | none => rw [hc] at h; simp at h
  | some c =>
   rw [hc] at h
   cases c with
   | true => exact ceqs_split ks1 ks2 xs ys b h
   | false => simp at h; exact .inl ⟨rfl, h⟩
theorem ceqs_one {k : CK} {xs ys : List AV} {b : Bool} (h : ceqs [k] xs ys = some b) : ∃ x y xr yr, xs = x :: xr ∧ ys = y :: yr ∧ ceq k x y = some b ∧ (b = true → xr = [] ∧ yr = []) := by
 cases xs with
 | nil => simp [ceqs] at h
 | cons x xr =>
  cases ys with
  | nil => simp [ceqs] at h
  | cons y yr =>
   simp only [ceqs] at h
   cases hc : ceq k x y with
   | none => rw [hc] at h; simp at h
   | some c =>
    rw [hc] at h
    cases c with
    | false => simp at h; subst h; exact ⟨x, y, xr, yr, rfl, rfl, hc, by simp⟩
    | true =>
     simp only at h
     cases xr with
     | cons => simp [ceqs] at h
     | nil =>
      cases yr with
      | cons => simp [ceqs] at h
      | nil => simp [ceqs] at h; subst h; exact ⟨x, y, [], [], rfl, rfl, hc, by simp⟩
theorem ceq_run {t : TypeId} {k : CK} {D : Nat} {x y : AV} {x' y' : Value} {b : Bool}
  (hk : k = .b ∧ P.underlying t = some .bool ∨ k = .i ∧ (∃ q, P.underlying t = some (.int q)) ∨ k = .s ∧ P.underlying t = some .string)
  (h : ceq k x y = some b) (hx : rel ι w0 x x') (hy : rel ι w0 y y') : (Op.equalIn (D + 1) t x' y').run P w = .ok b w := by
 rcases hk with ⟨rfl, hu⟩ | ⟨rfl, q, hu⟩ | ⟨rfl, hu⟩
 ·cases x <;> cases y <;> simp [ceq] at h
  simp only [rel] at hx hy
  subst hx hy h
  exact run_equalIn_bool w D t _ _ hu
 ·cases x <;> cases y <;> simp [ceq] at h
  rename_i j a k c
  rw [keq_eq] at h
  by_cases e : j = k
  ·subst e
   simp at h
   simp only [rel] at hx hy
   subst hx hy h
   rw [ieq_beq]
   exact run_equalIn_int w D t _ _ _ _ hu
  ·simp [e] at h
 ·cases x <;> cases y <;> simp [ceq] at h
  simp only [rel] at hx hy
  obtain ⟨x', rfl, rfl⟩ := hx
  obtain ⟨y', rfl, rfl⟩ := hy
  subst h
  rw [neq_bytes]
  exact run_equalIn_string w D t _ _ hu
theorem relL_cons {x : AV} {xs : List AV} {ys : List Value} (h : relL ι w0 (x :: xs) ys) : ∃ y r, ys = y :: r ∧ rel ι w0 x y ∧ relL ι w0 xs r := by
 simpa only [relL] using h
def aggD : TypeDesc → Bool
 | .struct _ | .array _ _ => true
 | _ => false
theorem flat_run : ∀ (d : Nat) (t : TypeId) (ks : List CK) (ag : Bool), flatT P d t = some ks → aggT P t = some ag → ∀ (D : Nat) (w : World) (xs ys : List AV) (xs' ys' : List Value) (b : Bool), d ≤ D →
  relL ι w0 xs xs' → relL ι w0 ys ys' → ceqs ks xs ys = some b → (Op.equalIn D t (formV ag xs') (formV ag ys')).run P w = .ok b w
 | 0, t, ks, ag, h, _, _, _, _, _, _, _, _, _, _, _, _ => by simp [flatT] at h
 | d + 1, t, ks, ag, h, ha, D, w, xs, ys, xs', ys', b, hD, hx, hy, hc => by
  obtain ⟨D, rfl⟩ : ∃ m, D = m + 1 := ⟨D - 1, by omega⟩
  unfold flatT at h
  have scalar : ∀ (k : CK), ks = [k] → ag = false → (k = .b ∧ P.underlying t = some .bool ∨ k = .i ∧ (∃ q, P.underlying t = some (.int q)) ∨ k = .s ∧ P.underlying t = some .string) →
    (Op.equalIn (D + 1) t (formV ag xs') (formV ag ys')).run P w = .ok b w := by
   intro k hks hag hk
   subst hks hag
   obtain ⟨x, y, xr, yr, rfl, rfl, he, _⟩ := ceqs_one hc
   obtain ⟨x', xr', rfl, hx1, _⟩ := relL_cons hx
   obtain ⟨y', yr', rfl, hy1, _⟩ := relL_cons hy
   exact ceq_run hk he hx1 hy1
  cases hu : P.underlying t with
  | none => rw [hu] at h; simp at h
  | some ty =>
   rw [hu] at h
   have hag : ag = aggD ty := by
    unfold aggT at ha
    rw [hu] at ha
    cases ty <;> simp at ha <;> (subst ha; rfl)
   cases ty <;> simp only at h <;> try (simp at h; done)
   case bool => simp at h; exact scalar .b h.symm hag (.inl ⟨rfl, hu⟩)
   case int q => simp at h; exact scalar .i h.symm hag (.inr (.inl ⟨rfl, q, hu⟩))
   case string => simp at h; exact scalar .s h.symm hag (.inr (.inr ⟨rfl, hu⟩))
   case struct fs =>
    simp only [aggD] at hag
    subst hag
    cases hst : P.stoodInHeld t with
    | true => rw [hst] at h; simp at h
    | false =>
     rw [hst] at h
     simp only [Bool.false_eq_true, if_false] at h
     have hf : P.fieldsOf t = fs := by simp [Program.fieldsOf, hu]
     simp only [formV, if_true]
     rw [run_equalIn_struct w D t _ _ (by rw [hf]; exact hu) hst, hf]
     have key : ∀ (l : List Field) (off : Nat) (ks : List CK) (b : Bool) (w : World), flatFs P (flatT P d) l off = some ks → ceqs ks (xs.drop off) (ys.drop off) = some b →
       (Op.eqFields D xs'.toArray ys'.toArray l).run P w = .ok b w := by
      intro l
      induction l with
      | nil =>
       intro off ks b w hl hc
       simp [flatFs] at hl
       subst hl
       have : b = true := by
        cases hX : xs.drop off <;> cases hY : ys.drop off <;> rw [hX, hY] at hc <;> simp [ceqs] at hc
        exact hc
       subst this
       simp [Op.eqFields]
      | cons f l ih =>
       intro off ks b w hl hc
       simp only [flatFs] at hl
       by_cases hn : f.name = "_"
       ·simp [hn] at hl
       ·by_cases ho : f.offset = off
        ·simp only [hn, if_false, ho, ne_eq, not_true_eq_false] at hl
         cases hk1 : flatT P d f.type with
         | none => rw [hk1] at hl; simp at hl
         | some ks1 =>
          cases hs : sizeT P f.type with
          | none => rw [hk1, hs] at hl; simp at hl
          | some n =>
           rw [hk1, hs] at hl
           simp only at hl
           by_cases hlen : ks1.length = n
           ·simp only [hlen, ne_eq, not_true_eq_false, if_false] at hl
            cases hr : flatFs P (flatT P d) l (off + n) with
            | none => rw [hr] at hl; simp at hl
            | some ks2 =>
             rw [hr] at hl
             simp only [Option.some.injEq] at hl
             subst hl
             have hagf : ∃ g, aggT P f.type = some g ∧ (g = false → ks1.length = 1) := by
              cases d with
              | zero => simp [flatT] at hk1
              | succ d =>
               unfold flatT at hk1
               unfold aggT
               cases hu2 : P.underlying f.type with
               | none => rw [hu2] at hk1; simp at hk1
               | some ty2 =>
                rw [hu2] at hk1
                cases ty2 <;> simp at hk1 <;> first
                 | exact ⟨false, rfl, fun _ => by subst hk1; rfl⟩
                 | exact ⟨true, rfl, fun h => by simp at h⟩
             obtain ⟨g, hg, hg1⟩ := hagf
             have hlx : ks1.length ≤ (xs.drop off).length ∧ ks1.length ≤ (ys.drop off).length ∨ g = true := by
              cases g with
              | true => exact .inr rfl
              | false =>
               have h1 := hg1 rfl
               left
               cases hX : xs.drop off with
               | nil =>
                rw [hX] at hc
                cases ks1 with
                | nil => simp at h1
                | cons => simp [ceqs] at hc
               | cons =>
                cases hY : ys.drop off with
                | nil =>
                 rw [hY] at hc
                 cases ks1 with
                 | nil => simp at h1
                 | cons => rw [hX] at hc; simp [ceqs] at hc
                | cons => simp; omega
             have hlx' : xs'.length = xs.length := (relL_length hx).symm
             have hly' : ys'.length = ys.length := (relL_length hy).symm
             have px := part_run (P := P) (w := w) (cs := xs'.toArray) (off := off) hs hg (fun e => by
              rcases hlx with ⟨h1, _⟩ | h1
              ·have := hg1 e; simp at h1 ⊢; omega
              ·rw [e] at h1; simp at h1)
             have py := part_run (P := P) (w := w) (cs := ys'.toArray) (off := off) hs hg (fun e => by
              rcases hlx with ⟨_, h1⟩ | h1
              ·have := hg1 e; simp at h1 ⊢; omega
              ·rw [e] at h1; simp at h1)
             have hm : (if g then n else 1) = ks1.length := by
              cases g with
              | true => simp [hlen]
              | false => simp [hg1 rfl]
             rw [hm] at px py
             have eqr : ∀ c, ceqs ks1 ((xs.drop off).take ks1.length) ((ys.drop off).take ks1.length) = some c →
               (Op.equalIn D f.type (formV g ((xs'.drop off).take ks1.length)) (formV g ((ys'.drop off).take ks1.length))).run P w = .ok c w :=
              fun c h => flat_run d f.type ks1 g hk1 hg D w _ _ _ _ c (by omega) (relL_take _ (relL_drop _ hx)) (relL_take _ (relL_drop _ hy)) h
             simp only [Op.eqFields, hn, ne_eq, not_false_eq_true, if_true, Sem.run_bind, ho, px, py, Result.andThen_ok]
             rcases ceqs_split ks1 ks2 _ _ b hc with ⟨h1, rfl⟩ | ⟨h1, h2⟩
             ·rw [eqr false h1]
              simp
             ·rw [eqr true h1]
              simp only [Result.andThen_ok, Bool.not_true, Bool.false_eq_true, if_false]
              refine ih (off + n) ks2 b w hr ?_
              rw [List.drop_drop, List.drop_drop] at h2
              rw [hlen] at h2
              exact h2
           ·simp [hlen] at hl
        ·simp [hn, ho] at hl
     exact key fs.toList 0 ks b w h (by simpa using hc)
theorem form_cells {x : AV} {x' : Value} {ag : Bool} (h : rel ι w0 x x') (hp : plainV x = true) (ha : isAg x = ag) : x' = formV ag x'.cells.toList := by
 cases x
 case agg cs =>
  simp only [rel] at h
  obtain ⟨vs, rfl, _⟩ := h
  simp [isAg] at ha
  subst ha
  simp [formV, Value.cells]
 case tup => simp [plainV] at hp
 all_goals
  have h1 := rel_one h hp (by simp)
  simp [isAg] at ha
  subst ha
  rw [one_of_agg h1]
  simp [formV]
theorem ceqs_plain {ks : List CK} {x y : AV} {b : Bool} (h : ceqs ks (cellsOf x) (cellsOf y) = some b) : ks ≠ [] → plainV x = true ∧ plainV y = true := by
 intro hk
 cases ks with
 | nil => exact absurd rfl hk
 | cons k ks =>
  constructor
  ·cases x <;> simp [plainV]
   rename_i vs
   cases hy : cellsOf y <;> rw [hy] at h <;> simp [cellsOf, ceqs] at h
   cases k <;> simp [ceq] at h
  ·cases y <;> simp [plainV]
   rename_i vs
   cases hy : cellsOf x with
   | nil => rw [hy] at h; simp [ceqs] at h
   | cons a r => rw [hy] at h; simp [cellsOf, ceqs] at h; cases k <;> cases a <;> simp [ceq] at h
theorem flatEq_run {t : TypeId} {ks : List CK} {ag : Bool} {x y : AV} {x' y' : Value} {b : Bool} {D : Nat} (hf : flatT P 4 t = some ks) (ha : aggT P t = some ag)
  (h : flatEq ag ks x y = some b) (hx : rel ι w0 x x') (hy : rel ι w0 y y') (hD : 4 ≤ D) : (Op.equalIn D t x' y').run P w = .ok b w := by
 unfold flatEq at h
 cases hc : (isAg x == ag && isAg y == ag) with
 | false => rw [hc] at h; simp at h
 | true =>
  rw [hc] at h
  simp only [cond_true] at h
  rw [Bool.and_eq_true, beq_iff_eq, beq_iff_eq] at hc
  have hp : plainV x = true ∧ plainV y = true := by
   by_cases hk : ks = []
   ·subst hk
    cases x with
    | tup vs => simp [cellsOf, ceqs] at h
    | _ =>
     cases y with
     | tup vs => simp [cellsOf, ceqs] at h
     | _ => simp [plainV]
   ·exact ceqs_plain h hk
  rw [form_cells hx hp.1 hc.1, form_cells hy hp.2 hc.2]
  exact flat_run 4 t ks ag hf ha D w _ _ _ _ b hD (rel_cells hx hp.1).1 (rel_cells hy hp.2).1 h
end
end Go.Abs
