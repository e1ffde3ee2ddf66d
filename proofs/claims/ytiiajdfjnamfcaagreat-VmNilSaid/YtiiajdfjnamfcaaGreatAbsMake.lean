/- What is made in memory. -/
import Derived.Test.YtiiajdfjnamfcaaGreatAbsRead2
set_option autoImplicit false
set_option linter.unusedSimpArgs false
set_option linter.unusedVariables false
namespace Go.Abs
open Go Go.RowKit
def upd (H : Nat → Option AObj) (id : Nat) (o : AObj) : Nat → Option AObj := fun j => if j = id then some o else H j
def IM.set (ι : IM) (id g : Nat) (p : Place) : IM := fun j h => if j = id ∧ h = g then some p else ι j h
theorem IM.set_le {ι : IM} {id g : Nat} {p : Place} (h : ι id g = none) : ι.le (ι.set id g p) := by
 intro j k q hq
 unfold IM.set
 split
 ·rename_i e
  rw [e.1, e.2, h] at hq
  simp at hq
 ·exact hq
section
variable {P : Program} {w : World} {ι : IM} {w0 : World} {H : Nat → Option AObj} {nx : Nat}
theorem gens_keep {κ : IM} {w' : World} {id : Nat} {vs : List AV} {gen wgen : Nat} {grown : Bool} (h : gensOk ι w0 id vs gen wgen grown w) (hl : ι.le κ)
  (hb : ∀ g p, ι id g = some p → w'.heap[p.block]? = w.heap[p.block]?) : gensOk κ w0 id vs gen wgen grown w' := by
 intro g h1 h2
 obtain ⟨p, c, el, fr, a1, a2, a3, a4, a5, a6, a7, a8⟩ := h g h1 h2
 refine ⟨p, c, el, fr, hl _ _ _ a1, by rw [hb g p a1]; exact a2, a3, a4, a5, a6, a7, ?_⟩
 intro j x hj hx
 obtain ⟨y, b1, b2, b3⟩ := a8 j x hj hx
 exact ⟨y, b1, b2, rel_mono w0 hl _ _ b3⟩
theorem OR_keep {κ : IM} {w' : World} {id : Nat} {o : AObj} (h : OR ι w0 id o w) (hl : ι.le κ) (hs : ∀ g, κ id g = ι id g)
  (hb : ∀ g p, ι id g = some p → w'.heap[p.block]? = w.heap[p.block]?) : OR κ w0 id o w' := by
 cases o with
 | cells vs gen wgen grown =>
  obtain ⟨h1, h2, h3⟩ := h
  exact ⟨fun g hg => by rw [hs]; exact h1 g hg, h2, gens_keep h3 hl hb⟩
 | map es ck =>
  obtain ⟨h1, p, ces, h2, h3, h4⟩ := h
  exact ⟨fun g hg => by rw [hs]; exact h1 g hg, p, ces, hl _ _ _ h2, by rw [hb _ _ h2]; exact h3, relM_mono w0 hl _ _ h4⟩
 | sit s pos =>
  obtain ⟨h1, p, b, h2, h3, h4⟩ := h
  exact ⟨fun g hg => by rw [hs]; exact h1 g hg, p, b, hl _ _ _ h2, by rw [hb _ _ h2]; exact h3, h4⟩
 | mit m since seen last =>
  obtain ⟨h1, p, mb, h2, h3, h4⟩ := h
  refine ⟨fun g hg => by rw [hs]; exact h1 g hg, p, mb, hl _ _ _ h2, by rw [hb _ _ h2]; exact h3, ?_⟩
  cases m with
  | none => exact h4
  | some m => obtain ⟨q, h5, h6⟩ := h4; exact ⟨q, hl _ _ _ h5, h6⟩
theorem SR_change {κ : IM} {w' : World} {id nx' : Nat} {o : AObj} (h : SR ι w0 H nx w) (hl : ι.le κ) (hs : ∀ j g, j ≠ id → κ j g = ι j g)
  (hb : ∀ b, b < w.heap.size → (∀ g p, ι id g = some p → p.block ≠ b) → w'.heap[b]? = w.heap[b]?) (hz : w.heap.size ≤ w'.heap.size)
  (hos : w'.os = w.os) (htp : w'.tape = w.tape) (hout : w'.output = w.output)
  (ho : OR κ w0 id o w') (hp : ∀ g p, κ id g = some p → w0.heap.size ≤ p.block ∧ p.block < w'.heap.size ∧ (ι id g = some p ∨ (∃ g', ∃ q, ι id g' = some q ∧ q.block = p.block) ∨ w.heap.size ≤ p.block))
  (hid : id < nx') (hn : nx ≤ nx') : SR κ w0 (upd H id o) nx' w' := by
 have other : ∀ j, j ≠ id → ∀ g p, ι j g = some p → w'.heap[p.block]? = w.heap[p.block]? := by
  intro j hj g p hp'
  refine hb _ (h.blk _ _ _ hp').2 ?_
  intro g' q hq e
  exact hj (h.sep j id g g' p q hp' hq e.symm)
 constructor
 ·refine ⟨hos.trans h.low.os, htp.trans h.low.tape, hout.trans h.low.output, Nat.le_trans h.low.size hz, ?_⟩
  intro k hk
  rw [hb k (Nat.lt_of_lt_of_le hk h.low.size) ?_]
  ·exact h.low.block k hk
  ·intro g p hp' e
   have := (h.blk _ _ _ hp').1
   omega
 ·intro j q hq
  unfold upd at hq
  split at hq
  ·rename_i e
   cases hq
   subst e
   exact ho
  ·rename_i e
   exact OR_keep (h.obj j q hq) hl (fun g => hs j g e) (other j e)
 ·intro j hj g
  unfold upd at hj
  split at hj
  ·simp at hj
  ·rename_i e
   rw [hs j g e]
   exact h.non j hj g
 ·intro i j gi gj p q hp' hq' e
  by_cases hi : i = id
  ·by_cases hj : j = id
   ·rw [hi, hj]
   ·rw [hs j gj hj] at hq'
    subst hi
    exfalso
    rcases (hp gi p hp').2.2 with h1 | ⟨g', r, h1, h2⟩ | h1
    ·exact hj (h.sep _ _ _ _ _ _ h1 hq' e).symm
    ·exact hj (h.sep _ _ _ _ _ _ h1 hq' (h2.trans e)).symm
    ·have := (h.blk _ _ _ hq').2; omega
  ·rw [hs i gi hi] at hp'
   by_cases hj : j = id
   ·subst hj
    exfalso
    rcases (hp gj q hq').2.2 with h1 | ⟨g', r, h1, h2⟩ | h1
    ·exact hi (h.sep _ _ _ _ _ _ hp' h1 e)
    ·exact hi (h.sep _ _ _ _ _ _ hp' h1 (e.trans h2.symm))
    ·have := (h.blk _ _ _ hp').2; omega
   ·rw [hs j gj hj] at hq'
    exact h.sep _ _ _ _ _ _ hp' hq' e
 ·intro j hj
  unfold upd
  rw [if_neg (by omega)]
  exact h.fresh j (by omega)
 ·intro j g p hp'
  by_cases hj : j = id
  ·subst hj
   exact ⟨(hp g p hp').1, (hp g p hp').2.1⟩
  ·rw [hs j g hj] at hp'
   exact ⟨(h.blk _ _ _ hp').1, Nat.lt_of_lt_of_le (h.blk _ _ _ hp').2 hz⟩
structure Pushed (w w' : World) (o : Obj) : Prop where
 heap : w'.heap = w.heap.push o
 os : w'.os = w.os
 tape : w'.tape = w.tape
 output : w'.output = w.output
theorem SR_cells {w' : World} {id nx' : Nat} {vs : List AV} {c : Array Value} {el : TypeId} {fr : Nat × Nat} {grown : Bool} (h : SR ι w0 H nx w) (hn : H id = none) (hid : id < nx') (hnx : nx ≤ nx')
  (hw : Pushed w w' (.cells c el fr)) (hfr : fr.1 < fr.2 → c.size ≤ fr.1) (hlen : vs.length ≤ c.size) (hr : relL ι w0 vs (c.toList.take vs.length)) (h1 : one c.toList) :
  ∃ κ p, ι.le κ ∧ κ id 0 = some p ∧ p = ⟨w.heap.size, 0, vs.length, c.size, !grown⟩ ∧ SR κ w0 (upd H id (.cells vs 0 0 grown)) nx' w' := by
 have hno := h.non id hn
 refine ⟨ι.set id 0 ⟨w.heap.size, 0, vs.length, c.size, !grown⟩, _, IM.set_le (hno 0), by simp [IM.set], rfl, ?_⟩
 have hle : ι.le (ι.set id 0 ⟨w.heap.size, 0, vs.length, c.size, !grown⟩) := IM.set_le (hno 0)
 refine SR_change (w' := w') h hle ?_ ?_ ?_ hw.os hw.tape hw.output ?_ ?_ hid hnx
 ·intro j g hj; unfold IM.set; rw [if_neg (fun e => hj e.1)]
 ·intro b hb _
  rw [hw.heap, Array.getElem?_push, if_neg (by omega)]
 ·rw [hw.heap]; simp
 ·refine ⟨?_, Nat.le_refl _, ?_⟩
  ·intro g hg
   unfold IM.set
   rw [if_neg (by omega)]
   exact hno g
  ·intro g hg1 hg2
   have : g = 0 := by omega
   subst this
   refine ⟨_, c, el, fr, by simp [IM.set]; rfl, by rw [hw.heap]; simp, hfr, Nat.le_refl _, fun _ => ⟨rfl, rfl⟩, hlen, by simp, ?_⟩
   intro j x hj hx
   obtain ⟨y, hy, ry⟩ := relL_get hr hx
   simp only [List.getElem?_take] at hy
   split at hy
   ·refine ⟨y, by simpa using hy, ?_, rel_mono w0 hle _ _ ry⟩
    exact h1 y (List.mem_of_getElem? hy)
   ·rename_i hnlt; exact absurd hj hnlt
 ·intro g p hp
  unfold IM.set at hp
  split at hp
  ·simp at hp
   subst hp
   refine ⟨h.low.size, by rw [hw.heap]; simp, .inr (.inr (Nat.le_refl _))⟩
  ·rename_i e
   rw [hno g] at hp
   simp at hp
theorem SR_other {w' : World} {id nx' : Nat} {o : AObj} {ob : Obj} (h : SR ι w0 H nx w) (hn : H id = none) (hid : id < nx') (hnx : nx ≤ nx') (hw : Pushed w w' ob)
  (ho : ∀ κ : IM, ι.le κ → (∀ g, 0 < g → κ id g = none) → (∃ q : Place, q.block = w.heap.size ∧ κ id 0 = some q) → w'.heap[w.heap.size]? = some ob → OR κ w0 id o w') :
  ∃ κ p, ι.le κ ∧ κ id 0 = some p ∧ p = ⟨w.heap.size, 0, 0, 0, true⟩ ∧ SR κ w0 (upd H id o) nx' w' := by
 have hno := h.non id hn
 have hle : ι.le (ι.set id 0 ⟨w.heap.size, 0, 0, 0, true⟩) := IM.set_le (hno 0)
 refine ⟨ι.set id 0 ⟨w.heap.size, 0, 0, 0, true⟩, _, hle, by simp [IM.set], rfl, ?_⟩
 refine SR_change (w' := w') h hle ?_ ?_ ?_ hw.os hw.tape hw.output ?_ ?_ hid hnx
 ·intro j g hj; unfold IM.set; rw [if_neg (fun e => hj e.1)]
 ·intro b hb _
  rw [hw.heap, Array.getElem?_push, if_neg (by omega)]
 ·rw [hw.heap]; simp
 ·refine ho _ hle ?_ ⟨⟨w.heap.size, 0, 0, 0, true⟩, rfl, by simp [IM.set]⟩ (by rw [hw.heap]; simp)
  intro g hg
  unfold IM.set
  rw [if_neg (by omega)]
  exact hno g
 ·intro g p hp
  unfold IM.set at hp
  split at hp
  ·simp at hp
   subst hp
   refine ⟨h.low.size, by rw [hw.heap]; simp, .inr (.inr (Nat.le_refl _))⟩
  ·rw [hno g] at hp
   simp at hp
theorem rep_get : ∀ (zs : List AV) (n i : Nat), i < n * zs.length → (rep zs n)[i]? = zs[i % zs.length]?
 | zs, 0, i, h => by simp at h
 | zs, n + 1, i, h => by
  simp only [rep]
  by_cases hi : i < zs.length
  ·rw [List.getElem?_append_left hi, Nat.mod_eq_of_lt hi]
  ·rw [List.getElem?_append_right (by omega)]
   rw [rep_get zs n (i - zs.length) (by have := Nat.succ_mul n zs.length; simp only [Nat.succ_eq_add_one] at this; omega)]
   have e : (i - zs.length) % zs.length = i % zs.length := by rw [Nat.mod_eq_sub_mod (a := i) (by omega)]
   rw [e]
theorem rep_length : ∀ (zs : List AV) (n : Nat), (rep zs n).length = n * zs.length
 | zs, 0 => by simp [rep]
 | zs, n + 1 => by simp [rep, rep_length zs n, Nat.succ_mul]; omega
theorem rep_rel {zs : List AV} {z : Array Value} {n : Nat} (h : relL ι w0 zs z.toList) (h1 : one z.toList) (hz : z.size ≠ 0) :
  relL ι w0 (rep zs n) ((Array.range (n * z.size)).map (z[· % z.size]!)).toList ∧ one ((Array.range (n * z.size)).map (z[· % z.size]!)).toList := by
 have hl : zs.length = z.size := by simpa using relL_length h
 have hpos : 0 < z.size := by omega
 constructor
 ·apply relL_of_get
  ·rw [rep_length, hl]; simp
  ·intro i x y hx hy
   have hi : i < n * z.size := by
    have := (List.getElem?_eq_some_iff.1 hx).1
    rw [rep_length, hl] at this
    exact this
   rw [rep_get _ _ _ (by rw [hl]; exact hi), hl] at hx
   obtain ⟨y', hy', ry⟩ := relL_get h hx
   simp [hi] at hy
   have hlt := Nat.mod_lt i hpos
   have : y' = y := by
    rw [Array.getElem?_toList, Array.getElem?_eq_getElem hlt] at hy'
    cases hy'
    rw [← hy, getElem!_pos z _ hlt]
   subst this
   exact ry
 ·intro v hv
  simp at hv
  obtain ⟨i, hi, rfl⟩ := hv
  have hlt := Nat.mod_lt i hpos
  apply h1
  rw [getElem!_pos z _ hlt]
  simp
end
end Go.Abs
