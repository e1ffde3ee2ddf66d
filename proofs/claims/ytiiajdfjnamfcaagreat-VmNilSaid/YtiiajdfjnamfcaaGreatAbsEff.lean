/- What changes memory: stores, appends, copies. -/
import Derived.Test.YtiiajdfjnamfcaaGreatAbsMake2
set_option autoImplicit false
set_option linter.unusedSimpArgs false
set_option linter.unusedVariables false
namespace Go.Abs
open Go Go.RowKit
theorem seg_get {α : Type} (cs vs : List α) (off j : Nat) (h : off + vs.length ≤ cs.length) :
  (cs.take off ++ vs ++ cs.drop (off + vs.length))[j]? = if off ≤ j ∧ j < off + vs.length then vs[j - off]? else cs[j]? := by
 by_cases h1 : j < off
 ·rw [if_neg (by omega), List.append_assoc, List.getElem?_append_left (by simp; omega), List.getElem?_take_of_lt h1]
 ·by_cases h2 : j < off + vs.length
  ·rw [if_pos ⟨by omega, h2⟩, List.getElem?_append_left (by simp; omega), List.getElem?_append_right (by simp; omega)]
   simp only [List.length_take]
   congr 1
   omega
  ·rw [if_neg (by omega), List.getElem?_append_right (by simp; omega), List.getElem?_drop]
   simp only [List.length_append, List.length_take]
   congr 1
   omega
section
variable {P : Program} {w : World} {ι : IM} {w0 : World} {X : Nat → Option AObj} {s : St} {nx : Nat} {fr : Fr} {a : Act}
theorem setCells_at (b : Nat) : ∀ (vs : List Value) (o : Nat) (w : World) (c : Array Value) (el : TypeId) (fr : Nat × Nat), w.heap[b]? = some (.cells c el fr) → o + vs.length ≤ c.size →
  ∃ c' : Array Value, (w.setCells b o vs).heap[b]? = some (.cells c' el fr) ∧ c'.toList = setSegV c.toList o vs ∧ c'.size = c.size ∧ (∀ k, k ≠ b → (w.setCells b o vs).heap[k]? = w.heap[k]?) ∧
   (w.setCells b o vs).heap.size = w.heap.size ∧ (w.setCells b o vs).os = w.os ∧ (w.setCells b o vs).tape = w.tape ∧ (w.setCells b o vs).output = w.output
 | [], o, w, c, el, fr, h, hl => ⟨c, h, by simp [setSegV], rfl, fun _ _ => rfl, rfl, rfl, rfl, rfl⟩
 | v :: vs, o, w, c, el, fr, h, hl => by
  simp only [List.length_cons] at hl
  have h1 : (w.setCell ⟨b, o, none⟩ v).heap[b]? = some (.cells (c.setIfInBounds o v) el fr) := by
   simp only [World.setCell, Array.getElem?_modify, if_pos rfl, h, Option.map_some]
   simp
  have h2 : ∀ k, k ≠ b → (w.setCell ⟨b, o, none⟩ v).heap[k]? = w.heap[k]? := by
   intro k hk
   simp only [World.setCell, Array.getElem?_modify]
   rw [if_neg (fun e => hk e.symm)]
  obtain ⟨c', a1, a2, a3, a4, a5, a6, a7, a8⟩ := setCells_at b vs (o + 1) (w.setCell ⟨b, o, none⟩ v) _ el fr h1 (by simp; omega)
  refine ⟨c', a1, ?_, by simpa using a3, fun k hk => (a4 k hk).trans (h2 k hk), a5.trans (by simp [World.setCell]), a6, a7, a8⟩
  rw [a2]
  have := setSegV_cons c.toList o v vs (by simp; omega)
  rw [← this]
  simp
theorem wr_sim (hs : SR ι w0 (s.view X) nx w) {id g off : Nat} {vs : List AV} {vs' : List Value} {s' : St} {p : Place} (h : wr s id g off vs = some s') (hp : ι id g = some p) (hr : relL ι w0 vs vs') (h1 : one vs') :
  ∃ w', (storeCells ⟨p.block, p.shift + off, none⟩ vs').run P w = .ok () w' ∧ SR ι w0 (s'.view X) nx w' ∧ s'.next = s.next ∧ w'.heap.size = w.heap.size := by
 unfold wr at h
 split at h
 ·rename_i cs gen wgen grown hob
  cases hb : (Nat.beq g gen && Nat.ble (off + vs.length) cs.length) with
  | false => simp [hb] at h
  | true =>
   simp [hb] at h
   subst h
   rw [Bool.and_eq_true] at hb
   have e1 := Nat.eq_of_beq_eq_true hb.1
   have e2 := Nat.le_of_ble_eq_true hb.2
   subst e1
   have hv := view_get (X := X) hob
   obtain ⟨o1, o2, o3⟩ := hs.obj id _ hv
   obtain ⟨p', c, el, fr, a1, a2, a3, a4, a5, a6, a7, a8⟩ := o3 g o2 (Nat.le_refl _)
   rw [hp] at a1
   cases a1
   obtain ⟨a5a, a5b⟩ := a5 rfl
   have hlen := relL_length hr
   have hbound : p.shift + off + vs'.length ≤ c.size := by omega
   obtain ⟨c', b1, b2, b3, b4, b5, b6, b7, b8⟩ := setCells_at p.block vs' (p.shift + off) w c el fr a2 hbound
   refine ⟨w.setCells p.block (p.shift + off) vs', ?_, ?_, rfl, b5⟩
   ·have := run_storeCells_cells (P := P) p.block (p.shift + off) vs' 0 w ?_ ?_ h1
    ·simpa using this
    ·intro j hj
     rw [cell_of a2, Nat.add_zero]
     have : p.shift + off + j < c.size := by omega
     simp [this]
    ·intro j hj
     simp only [World.frozen?, a2]
     by_cases hf : fr.1 < fr.2
     ·have := a3 hf
      simp
      omega
     ·simp
      omega
   ·have hsv : (s.put id (.cells (setSeg cs off vs) g g grown)).view X = upd (s.view X) id (.cells (setSeg cs off vs) g g grown) := by
     funext j
     simp only [St.view, St.put, upd, Tr.get_set]
     by_cases hj : j = id <;> simp [hj]
    rw [hsv]
    refine SR_change hs (IM.le_refl _) (fun _ _ _ => rfl) ?_ (by rw [b5]; exact Nat.le_refl _) b6 b7 b8 ?_ ?_ ?_ (Nat.le_refl _)
    ·intro b hb' hne
     exact b4 b (fun e => hne g p hp e.symm)
    ·refine ⟨o1, Nat.le_refl _, ?_⟩
     intro g' hg1 hg2
     have : g' = g := by omega
     subst this
     refine ⟨p, c', el, fr, hp, b1, by rw [b3]; exact a3, by rw [setSeg_length e2]; exact a4, fun _ => ⟨by rw [setSeg_length e2]; exact a5a, a5b⟩, a6, by rw [b3]; exact a7, ?_⟩
     intro j x hj hx
     unfold setSeg at hx
     rw [seg_get _ _ _ _ e2] at hx
     have hget : c'[p.shift + j]? = if p.shift + off ≤ p.shift + j ∧ p.shift + j < p.shift + off + vs'.length then vs'[p.shift + j - (p.shift + off)]? else c[p.shift + j]? := by
      rw [← Array.getElem?_toList, b2]
      unfold setSegV
      rw [seg_get _ _ _ _ (by simpa using hbound)]
      have hq : c.toList[p.shift + j]? = c[p.shift + j]? := Array.getElem?_toList
      rw [hq]
     rw [hget]
     split at hx
     ·rename_i hin
      rw [if_pos (by omega)]
      obtain ⟨y, hy, ry⟩ := relL_get hr hx
      refine ⟨y, ?_, h1 y (List.mem_of_getElem? hy), ry⟩
      rw [← hy]
      congr 1
      omega
     ·rename_i hin
      rw [if_neg (by omega)]
      exact a8 j x hj hx
    ·intro g' q hq
     exact ⟨(hs.blk _ _ _ hq).1, by rw [b5]; exact (hs.blk _ _ _ hq).2, .inl hq⟩
    ·have := hs.fresh id
     rcases Nat.lt_or_ge id nx with h | h
     ·exact h
     ·rw [hs.fresh id h] at hv; simp at hv
 ·simp at h
def Eff (P : Program) (w : World) (ι : IM) (w0 : World) (X : Nat → Option AObj) (r : Result Next) (v : AV) (s' : St) : Prop :=
 ∃ v' w', (r = .ok (.value v') w' ∨ (r = .ok .skip w' ∧ v' = undef)) ∧ ∃ κ, ι.le κ ∧ rel κ w0 v v' ∧ SR κ w0 (s'.view X) s'.next w'
theorem rel_undef : rel ι w0 (.tup []) undef := by simp only [rel, undef]; exact ⟨#[], rfl, by simp [relL]⟩
theorem eff_unit {s1 : Sem Unit} {s' : St} (h : ∃ w', s1.run P w = .ok () w' ∧ ∃ κ, ι.le κ ∧ SR κ w0 (s'.view X) s'.next w') :
  Eff P w ι w0 X ((do s1; pure Next.skip : Sem Next).run P w) (.tup []) s' := by
 obtain ⟨w', e, κ, k1, k2⟩ := h
 exact ⟨undef, w', .inr ⟨by simp only [Sem.run_bind, e, Result.andThen_ok, Sem.run_pure], rfl⟩, κ, k1, rel_undef, k2⟩
theorem eff_val {s1 : Sem Value} {v : AV} {s' : St} (h : ∃ v' w', s1.run P w = .ok v' w' ∧ ∃ κ, ι.le κ ∧ rel κ w0 v v' ∧ SR κ w0 (s'.view X) s'.next w') :
  Eff P w ι w0 X ((do let x ← s1; pure (Next.value x) : Sem Next).run P w) v s' := by
 obtain ⟨v', w', e, κ, k1, k2, k3⟩ := h
 exact ⟨v', w', .inl (by simp only [Sem.run_bind, e, Result.andThen_ok, Sem.run_pure]), κ, k1, k2, k3⟩
theorem store_sim (hs : SR ι w0 (s.view X) s.next w) {t : TypeId} {n : Nat} {xa xv : Operand} {ya yv : AO} {s' : St} {v : AV} {call : CallF} (hn : sizeT P t = some n) (h1 : compO xa = some ya) (h2 : compO xv = some yv) (hf : FR ι w0 fr a)
  (h : aeff call fr s (.store n ya yv) = some (v, s')) : v = .tup [] ∧ ∃ w', (Instr.storeAt t (a.eval xa) (a.eval xv)).run P w = .ok () w' ∧ ∃ κ, ι.le κ ∧ SR κ w0 (s'.view X) s'.next w' := by
 simp only [aeff] at h
 split at h
 ·rename_i id g off lm u e1 e2
  cases hb : (plainV u && Nat.beq (cellsOf u).length n && Nat.ble n lm) with
  | false => simp [hb] at h
  | true =>
   simp only [hb, cond_true] at h
   rw [Bool.and_eq_true, Bool.and_eq_true] at hb
   obtain ⟨⟨hb1, hb2⟩, hb3⟩ := hb
   have hb2 := Nat.eq_of_beq_eq_true hb2
   cases hw : wr s id g off (cellsOf u) with
   | none => simp [hw] at h
   | some s1 =>
    simp [hw] at h
    obtain ⟨rfl, rfl⟩ := h
    refine ⟨rfl, ?_⟩
    have ra := ev_sim h1 hf e1
    have rv := ev_sim h2 hf e2
    simp only [rel] at ra
    obtain ⟨p, hp, _, ea⟩ := ra
    obtain ⟨c1, c2⟩ := rel_cells rv hb1
    obtain ⟨w', d1, d2, d3, _⟩ := wr_sim (P := P) hs hw hp c1 c2
    refine ⟨w', ?_, ι, IM.le_refl _, by rw [d3]; exact d2⟩
    rw [ea]
    unfold Instr.storeAt
    simp only [Sem.run_bind, Instr.sureAddr, Sem.run_pure, Result.andThen_ok]
    unfold storeVar
    simp only [Sem.run_bind, sizeT_run hn, Result.andThen_ok]
    have hsz : (a.eval xv).cells.size = n := by have := relL_length c1; simp at this; omega
    simp only [hsz, ne_eq, not_true_eq_false, if_false]
    exact d1
 ·simp at h
end
end Go.Abs
