/- Appends and copies, as the abstract evaluator has them. -/
import Derived.Test.YtiiajdfjnamfcaaGreatAbsEff2
set_option autoImplicit false
set_option linter.unusedSimpArgs false
set_option linter.unusedVariables false
namespace Go.Abs
open Go Go.RowKit
section
variable {P : Program} {w : World} {ι : IM} {w0 : World} {X : Nat → Option AObj} {s : St} {nx : Nat} {fr : Fr} {a : Act}
theorem len_run {b : AV} {b' : Value} {n : Nat} (h : ilen b = some n) (r : rel ι w0 b b') : ∀ w : World, (Builtin.lenOf b').run P w = .ok n w := by
 intro w
 cases b <;> simp [ilen] at h <;> simp only [rel] at r
 ·obtain ⟨c, rfl, rfl⟩ := r; subst h; rw [natBytes_length]; rfl
 ·obtain ⟨_, _, _, _, _, _, _, _, rfl⟩ := r; subst h; rfl
 ·obtain ⟨_, _, rfl, _⟩ := r; subst h; rfl
 ·obtain ⟨_, _, rfl⟩ := r; subst h; rfl
 ·subst r; subst h; rfl
theorem row_length {sz n : Nat} {v : AV} {v' : Value} {cs : List AV} (h : s.row sz n v = some cs) (hr : rel ι w0 v v') : cs.length = n * sz := by
 cases v <;> simp only [St.row] at h <;> try (simp at h; done)
 case slc id g off len cap sz' =>
  cases hb : (Nat.beq sz sz' && Nat.ble n len) with
  | false => simp [hb] at h
  | true =>
   simp only [hb, cond_true] at h
   cases hc : s.cells id g with
   | none => simp [hc] at h
   | some vs =>
    simp only [hc, seg] at h
    cases hs : Nat.ble (off + n * sz) vs.length with
    | false => simp [hs] at h
    | true =>
     simp [hs] at h
     subst h
     have := Nat.le_of_ble_eq_true hs
     simp; omega
 case isl cells len sz' =>
  cases hb : (Nat.beq sz sz' && Nat.ble n len) with
  | false => simp [hb] at h
  | true =>
   simp [hb] at h
   subst h
   rw [Bool.and_eq_true] at hb
   have h1 := Nat.eq_of_beq_eq_true hb.1
   have h2 := Nat.le_of_ble_eq_true hb.2
   subst h1
   simp only [rel] at hr
   obtain ⟨_, _, _, _, _, _, hl, _⟩ := hr
   have : n * sz ≤ len * sz := Nat.mul_le_mul_right sz h2
   simp; omega
 case eslc =>
  cases hb : Nat.beq n 0 with
  | false => simp [hb] at h
  | true => have := Nat.eq_of_beq_eq_true hb; subst this; simp [hb] at h; subst h; simp
 case nilslc =>
  cases hb : Nat.beq n 0 with
  | false => simp [hb] at h
  | true => have := Nat.eq_of_beq_eq_true hb; subst this; simp [hb] at h; subst h; simp
 case str b =>
  cases hb : (Nat.beq sz 1 && Nat.ble n b.length) with
  | false => simp [hb] at h
  | true =>
   simp [hb] at h
   subst h
   rw [Bool.and_eq_true] at hb
   have h1 := Nat.eq_of_beq_eq_true hb.1
   have h2 := Nat.le_of_ble_eq_true hb.2
   subst h1
   simp; omega
theorem SR_heap {H : Nat → Option AObj} {w1 : World} (h : SR ι w0 H nx w) (hh : w1.heap = w.heap) (ho : w1.os = w.os) (ht : w1.tape = w.tape) (hu : w1.output = w.output) : SR ι w0 H nx w1 := by
 constructor
 ·exact ⟨ho.trans h.low.os, ht.trans h.low.tape, hu.trans h.low.output, by rw [hh]; exact h.low.size, fun k hk => by rw [hh]; exact h.low.block k hk⟩
 ·intro id o hq
  exact OR_keep (h.obj id o hq) (IM.le_refl _) (fun _ => rfl) (fun _ _ _ => by rw [hh])
 ·exact h.non
 ·exact h.sep
 ·exact h.fresh
 ·intro id g p hp; rw [hh]; exact h.blk id g p hp
theorem view_put {id : Nat} {o : AObj} : (s.put id o).view X = upd (s.view X) id o := by
 funext j
 simp only [St.view, St.put, upd, Tr.get_set]
 by_cases hj : j = id <;> simp [hj]
theorem view_new {o : AObj} : (s.new o).view X = upd (s.view X) s.next o := by
 funext j
 simp only [St.view, St.new, upd, Tr.get_set]
 by_cases hj : j = s.next <;> simp [hj]
theorem obj_lt (hs : SR ι w0 (s.view X) nx w) {id : Nat} {o : AObj} (h : s.objs.get id = some o) : id < nx := by
 rcases Nat.lt_or_ge id nx with hh | hh
 ·exact hh
 ·have := hs.fresh id hh; rw [view_get h] at this; simp at this
theorem aappend_sim (hs : SR ι w0 (s.view X) s.next w) {ts : Array TypeId} {T t e : TypeId} {sz by' : Nat} {zs : List AV} {A B v : AV} {A' B' : Value} {s' : St} (ht : ts[0]? = some t) (hu : P.underlying t = some (.slice e)) (hsz : sizeT P e = some sz) (hz : notInt P ts)
  (hb : bytesT P e = some by') (hzs : zerosT P e = some zs) (hb2 : by' ≤ 1048576) (hA : rel ι w0 A A') (hB : rel ι w0 B B') (h : aappend s sz by' A B = some (v, s')) :
  ∃ v' w', (Builtin.append_ ts T #[A', B']).run P w = .ok v' w' ∧ ∃ κ, ι.le κ ∧ rel κ w0 v v' ∧ SR κ w0 (s'.view X) s'.next w' := by
 unfold aappend at h
 cases hn : ilen B with
 | none => simp [hn] at h
 | some n =>
  simp only [hn] at h
  cases hrow : s.row sz n B with
  | none => simp [hrow] at h
  | some new =>
   simp only [hrow] at h
   have hlen := len_run (P := P) hn hB
   obtain ⟨ys, y1, y2, y3'⟩ := row_run (P := P) hs hrow hB
   have y3 := y3' w rfl
   have hnl := row_length hrow hB
   have hnl' := relL_length y1
   cases h0 : Nat.beq n 0 with
   | true =>
    simp only [h0, cond_true] at h
    have h0 := Nat.eq_of_beq_eq_true h0
    subst h0
    have hys : ys = [] := by
     cases ys with
     | nil => rfl
     | cons y ys => rw [hnl, Nat.zero_mul] at hnl'; simp at hnl'
    subst hys
    have fin : ∀ (base : Option Addr) (l c : Nat), A' = .slice base l c → l ≤ c → v = A → s' = s → ∃ v' w', (Builtin.append_ ts T #[A', B']).run P w = .ok v' w' ∧ ∃ κ, ι.le κ ∧ rel κ w0 v v' ∧ SR κ w0 (s'.view X) s'.next w' := by
     intro base l c e1 e2 e3 e4
     subst e3 e4
     refine ⟨A', w, ?_, ι, IM.le_refl _, hA, hs⟩
     rw [e1]
     have := append_in (P := P) (T := T) (w' := w) ht hu hsz hz (hlen w) y3 (show l + 0 ≤ c from e2) (base := base) (by cases base <;> rfl)
     simpa using this
    cases A <;> simp at h <;> obtain ⟨rfl, rfl⟩ := h <;> have hA2 := hA <;> simp only [rel] at hA2
    ·obtain ⟨p, c, _, _, q1, q2, _, _, e⟩ := hA2; exact fin _ _ _ e (by omega) rfl rfl
    ·obtain ⟨_, _, e, q, _⟩ := hA2; exact fin _ _ _ e q rfl rfl
    ·obtain ⟨_, _, e⟩ := hA2; exact fin _ _ _ e (Nat.zero_le _) rfl rfl
    ·exact fin _ _ _ hA2 (Nat.le_refl _) rfl rfl
   | false =>
    simp only [h0, cond_false] at h
    have hn0 : n ≠ 0 := fun e => by subst e; simp at h0
    have grow : ∀ (base : Option Addr) (len c : Nat) (old : List AV) (ol : List Value), A' = .slice base len c → ¬ len + n ≤ c → (len + n) * (by' + 1) ≤ lim → relL ι w0 old ol → one ol → old.length = len * sz →
      (∀ w1 : World, w1.heap = w.heap → (Builtin.firstCells sz len (.slice base len c)).run P w1 = .ok ol.toArray w1) →
      ∃ C w' ca, len + n ≤ C ∧ (Builtin.append_ ts T #[A', B']).run P w = .ok (.slice (some ⟨w.heap.size, 0, none⟩) (len + n) C) w' ∧ Pushed w w' (.cells ca e) ∧ ca.size = C * sz ∧ relL ι w0 (old ++ new) (ca.toList.take (old ++ new).length) ∧ one ca.toList := by
     intro base len c old ol e1 hgt hfit ro oo hol hfo
     obtain ⟨C, rest, w', q1, q2, q3, q4, q5⟩ := append_grow (P := P) (T := T) (new := ys.toArray) (old := ol.toArray) ht hu hsz hz hb hzs hb2 hfit (hlen w) (fun w1 k _ _ _ => y3' w1 k) (fun w1 k _ _ _ => hfo w1 k) hgt
     refine ⟨C, w', _, q1, by rw [e1]; exact q2, q3, ?_, ?_, ?_⟩
     ·have := relL_length ro
      have e2 : C * sz = (len + n) * sz + (C - (len + n)) * sz := by rw [← Nat.add_mul]; congr 1; omega
      have e3 : (len + n) * sz = len * sz + n * sz := Nat.add_mul _ _ _
      simp [q4]; omega
     ·have e2 : (ol.toArray ++ ys.toArray ++ rest).toList.take (old ++ new).length = ol ++ ys := by
       rw [List.length_append, relL_length ro, hnl']
       simp only [Array.toList_append, List.append_assoc]
       rw [← List.append_assoc]
       exact List.take_left' (by simp)
      rw [e2]
      exact relL_append ro y1
     ·intro u hu2
      simp at hu2
      rcases hu2 with hu2 | hu2 | hu2
      ·exact oo u hu2
      ·exact y2 u hu2
      ·exact q5 u (by simpa using hu2)
    cases A <;> simp only at h <;> try (simp at h; done)
    case nilslc =>
     cases hfit : Nat.ble (n * (by' + 1)) lim with
     | false => simp [hfit] at h
     | true =>
      simp [hfit] at h
      obtain ⟨rfl, rfl⟩ := h
      have hfit := Nat.le_of_ble_eq_true hfit
      have hA2 := hA
      simp only [rel] at hA2
      obtain ⟨C, w', ca, q1, q2, q3, q4, q5, q6⟩ := grow none 0 0 [] [] hA2 (by omega) (by simpa using hfit) (by simp [relL]) (fun v hv => by simp at hv) (by simp) (fun w1 _ => rfl)
      simp only [List.nil_append, Nat.zero_add] at q1 q2 q5
      have hca : n * sz ≤ C * sz := Nat.mul_le_mul_right sz q1
      obtain ⟨κ, p, b1, b2, b3, b4⟩ := SR_cells (grown := true) (nx' := s.next + 1) hs (hs.fresh s.next (Nat.le_refl _)) (by omega) (by omega) q3 (by simp) (by omega) q5 q6
      refine ⟨_, w', q2, κ, b1, ?_, by rw [view_new]; exact b4⟩
      simp only [rel]
      subst b3
      exact ⟨_, C, b2, ⟨by simp; omega, by simp; omega⟩, Nat.le_refl _, q1, by simp; omega, by simp, by simp⟩
    case slc id g off len cap sz' =>
     cases hb3 : (Nat.beq sz sz' && Nat.ble ((len + n) * (by' + 1)) lim) with
     | false => simp [hb3] at h
     | true =>
      simp only [hb3, cond_true] at h
      rw [Bool.and_eq_true] at hb3
      have h1 := Nat.eq_of_beq_eq_true hb3.1
      subst h1
      have hfit := Nat.le_of_ble_eq_true hb3.2
      have hA2 := hA
      simp only [rel] at hA2
      obtain ⟨p, c, hp, ⟨he1, he2⟩, hlc, hcc, hroom, hexact, eA⟩ := hA2
      have hcapsz : len * sz ≤ cap * sz := Nat.mul_le_mul_right sz hlc
      split at h
      ·-- grown
       rename_i vs gen wg hob
       cases hg : Nat.beq g gen with
       | false => simp [hg] at h
       | true =>
        simp only [hg, cond_true] at h
        have hg := Nat.eq_of_beq_eq_true hg
        subst hg
        cases hseg : seg vs off (len * sz) with
        | none => simp [hseg] at h
        | some old =>
         simp [hseg] at h
         obtain ⟨rfl, rfl⟩ := h
         obtain ⟨o1, o2, o3⟩ := hs.obj id _ (view_get hob)
         have hcl : s.cells id g = some vs := by
          simp only [St.cells, hob]
          rw [Nat.ble_eq_true_of_le o2, Nat.ble_eq_true_of_le (Nat.le_refl g)]
          rfl
         obtain ⟨ol, l1, l2, l3, l4⟩ := seg_vals hs hcl hp hseg (by omega)
         obtain ⟨p', ca, el, fr', a1, a2, a3, a4, a5, a6, a7, a8⟩ := o3 g o2 (Nat.le_refl _)
         rw [hp] at a1
         cases a1
         obtain ⟨a5a, a5b⟩ := a5 rfl
         have hnone := o1 (g + 1) (by omega)
         have holen : old.length = len * sz := by rw [relL_length l1, l3]
         by_cases hin : len + n ≤ c
         ·-- in place
          have hroom2 : off + (len + n) * sz ≤ p.room := by
           have : (len + n) * sz ≤ c * sz := Nat.mul_le_mul_right sz hin
           omega
          have e3 : (len + n) * sz = len * sz + n * sz := Nat.add_mul _ _ _
          obtain ⟨c', b1, b2, b3, b4, b5, b6, b7, b8⟩ := setCells_at p.block ys (p.shift + off + len * sz) w ca el fr' a2 (by omega)
          have hst : (storeCells ((⟨p.block, p.shift + off, none⟩ : Addr).add (len * sz)) ys).run P w = .ok () (w.setCells p.block (p.shift + off + len * sz) ys) := by
           rw [add_eq rfl]
           have := run_storeCells_cells (P := P) p.block (p.shift + off + len * sz) ys 0 w ?_ ?_ y2
           ·simpa using this
           ·intro j hj
            rw [cell_of a2, Nat.add_zero]
            have : p.shift + off + len * sz + j < ca.size := by omega
            simp [this]
           ·intro j hj
            simp only [World.frozen?, a2]
            by_cases hf : fr'.1 < fr'.2
            ·have := a3 hf
             simp
             omega
            ·simp
             omega
          have happ := append_in (P := P) (T := T) (w' := w.setCells p.block (p.shift + off + len * sz) ys) ht hu hsz hz (hlen w) y3 hin (base := some ⟨p.block, p.shift + off, none⟩) (by simpa using hst)
          have hle : ι.le (ι.set id (g + 1) ⟨p.block, p.shift + off, (len + n) * sz, p.room - off, false⟩) := IM.set_le hnone
          refine ⟨_, _, by rw [eA]; exact happ, ι.set id (g + 1) ⟨p.block, p.shift + off, (len + n) * sz, p.room - off, false⟩, hle, ?_, ?_⟩
          ·simp only [rel]
           refine ⟨⟨p.block, p.shift + off, (len + n) * sz, p.room - off, false⟩, c, by simp [IM.set], ⟨by simp, by simp only; omega⟩, Nat.le_refl _, hin, by simp only; omega, by simp, by simp⟩
          ·rw [view_put]
           refine SR_change hs hle ?_ ?_ (by rw [b5]; exact Nat.le_refl _) b6 b7 b8 ?_ ?_ (obj_lt hs hob) (Nat.le_refl _)
           ·intro j g' hj; unfold IM.set; rw [if_neg (fun e => hj e.1)]
           ·intro b _ hne; exact b4 b (fun e => hne g p hp e.symm)
           ·refine ⟨?_, Nat.le_refl _, ?_⟩
            ·intro g' hg'
             unfold IM.set
             rw [if_neg (by omega)]
             exact o1 g' (by omega)
            ·intro g' hg1 hg2
             have : g' = g + 1 := by omega
             subst this
             refine ⟨⟨p.block, p.shift + off, (len + n) * sz, p.room - off, false⟩, c', el, fr', by simp [IM.set], b1, by rw [b3]; exact a3, by simp only [List.length_append]; omega, fun _ => ⟨by simp only [List.length_append]; omega, rfl⟩, by simp only; omega, by simp only; rw [b3]; omega, ?_⟩
             intro j x hj hx
             simp only at hj ⊢
             have hget : c'[p.shift + off + j]? = if p.shift + off + len * sz ≤ p.shift + off + j ∧ p.shift + off + j < p.shift + off + len * sz + ys.length then ys[p.shift + off + j - (p.shift + off + len * sz)]? else ca[p.shift + off + j]? := by
              rw [← Array.getElem?_toList, b2]
              unfold setSegV
              rw [seg_get _ _ _ _ (by simp; omega)]
              have hq : ca.toList[p.shift + off + j]? = ca[p.shift + off + j]? := Array.getElem?_toList
              rw [hq]
             rw [hget]
             by_cases hj2 : j < len * sz
             ·rw [if_neg (by omega)]
              rw [List.getElem?_append_left (by omega)] at hx
              obtain ⟨y, hy, ry⟩ := relL_get l1 hx
              have := l4 j y hy
              rw [cell_of a2] at this
              exact ⟨y, this, l2 y (List.mem_of_getElem? hy), rel_mono w0 hle _ _ ry⟩
             ·rw [if_pos (by omega)]
              rw [List.getElem?_append_right (by omega)] at hx
              obtain ⟨y, hy, ry⟩ := relL_get y1 hx
              refine ⟨y, ?_, y2 y (List.mem_of_getElem? hy), rel_mono w0 hle _ _ ry⟩
              rw [← hy, holen]
              congr 1
              omega
           ·intro g' q hq
            unfold IM.set at hq
            split at hq
            ·simp at hq
             subst hq
             refine ⟨(hs.blk _ _ _ hp).1, by rw [b5]; exact (hs.blk _ _ _ hp).2, .inr (.inl ⟨g, p, hp, rfl⟩)⟩
            ·exact ⟨(hs.blk _ _ _ hq).1, by rw [b5]; exact (hs.blk _ _ _ hq).2, .inl hq⟩
         ·-- a new place
          have hfo : ∀ w1 : World, w1.heap = w.heap → (Builtin.firstCells sz len (.slice (some ⟨p.block, p.shift + off, none⟩) len c)).run P w1 = .ok ol.toArray w1 := by
           intro w1 hw
           unfold Builtin.firstCells
           rw [← l3]
           exact load_cells rfl (fun j v hv => by simp only [World.cell?, hw]; exact l4 j v hv)
          obtain ⟨C, w', cn, q1, q2, q3, q4, q5, q6⟩ := grow _ len c old ol eA hin hfit l1 l2 holen hfo
          have hca : (len + n) * sz ≤ C * sz := Nat.mul_le_mul_right sz q1
          have e3 : (len + n) * sz = len * sz + n * sz := Nat.add_mul _ _ _
          have hle : ι.le (ι.set id (g + 1) ⟨w.heap.size, 0, (len + n) * sz, cn.size, false⟩) := IM.set_le hnone
          refine ⟨_, w', q2, ι.set id (g + 1) ⟨w.heap.size, 0, (len + n) * sz, cn.size, false⟩, hle, ?_, ?_⟩
          ·simp only [rel]
           exact ⟨⟨w.heap.size, 0, (len + n) * sz, cn.size, false⟩, C, by simp [IM.set], ⟨by simp, by simp only; omega⟩, Nat.le_refl _, q1, by simp only; omega, by simp, by simp⟩
          ·rw [view_put]
           refine SR_change hs hle ?_ ?_ (by rw [q3.heap]; simp) q3.os q3.tape q3.output ?_ ?_ (obj_lt hs hob) (Nat.le_refl _)
           ·intro j g' hj; unfold IM.set; rw [if_neg (fun e => hj e.1)]
           ·intro b hb' _; rw [q3.heap, Array.getElem?_push, if_neg (by omega)]
           ·refine ⟨?_, Nat.le_refl _, ?_⟩
            ·intro g' hg'
             unfold IM.set
             rw [if_neg (by omega)]
             exact o1 g' (by omega)
            ·intro g' hg1 hg2
             have : g' = g + 1 := by omega
             subst this
             refine ⟨⟨w.heap.size, 0, (len + n) * sz, cn.size, false⟩, cn, e, (0, 0), by simp [IM.set], by rw [q3.heap]; simp, by simp, by simp only [List.length_append]; omega, fun _ => ⟨by simp only [List.length_append]; omega, rfl⟩, by simp only; omega, by simp, ?_⟩
             intro j x hj hx
             obtain ⟨y, hy, ry⟩ := relL_get q5 hx
             simp only [List.getElem?_take] at hy
             split at hy
             ·exact ⟨y, by simpa using hy, q6 y (List.mem_of_getElem? hy), rel_mono w0 hle _ _ ry⟩
             ·simp at hy
           ·intro g' q hq
            unfold IM.set at hq
            split at hq
            ·simp at hq
             subst hq
             exact ⟨hs.low.size, by rw [q3.heap]; simp, .inr (.inr (Nat.le_refl _))⟩
            ·exact ⟨(hs.blk _ _ _ hq).1, by rw [q3.heap]; have := (hs.blk _ _ _ hq).2; simp; omega, .inl hq⟩
      ·-- exact
       rename_i vs gen wg hob
       cases hg : Nat.beq g gen with
       | false => simp [hg] at h
       | true =>
        simp only [hg, cond_true] at h
        have hg := Nat.eq_of_beq_eq_true hg
        subst hg
        obtain ⟨o1, o2, o3⟩ := hs.obj id _ (view_get hob)
        obtain ⟨p', ca, el, fr', a1, a2, a3, a4, a5, a6, a7, a8⟩ := o3 g o2 (Nat.le_refl _)
        rw [hp] at a1
        cases a1
        obtain ⟨a5a, a5b⟩ := a5 rfl
        have hceq : c = cap := hexact (by rw [a5b]; rfl)
        subst hceq
        cases hin : Nat.ble (len + n) c with
        | true =>
         simp only [hin, cond_true] at h
         have hin := Nat.le_of_ble_eq_true hin
         cases hw : wr s id g (off + len * sz) new with
         | none => simp [hw] at h
         | some s1 =>
          simp [hw] at h
          obtain ⟨rfl, rfl⟩ := h
          obtain ⟨w', d1, d2, d3, _⟩ := wr_sim (P := P) hs hw hp y1 y2
          have hst : (storeCells ((⟨p.block, p.shift + off, none⟩ : Addr).add (len * sz)) ys).run P w = .ok () w' := by
           rw [add_eq rfl, ← Nat.add_assoc] at *
           exact d1
          have happ := append_in (P := P) (T := T) (w' := w') ht hu hsz hz (hlen w) y3 hin (base := some ⟨p.block, p.shift + off, none⟩) (by simpa using hst)
          refine ⟨_, w', by rw [eA]; exact happ, ι, IM.le_refl _, ?_, by rw [d3]; exact d2⟩
          simp only [rel]
          exact ⟨p, c, hp, ⟨he1, he2⟩, hin, Nat.le_refl _, hroom, fun _ => rfl, rfl⟩
        | false =>
         simp only [hin, cond_false] at h
         have hin : ¬ len + n ≤ c := fun hh => by rw [Nat.ble_eq_true_of_le hh] at hin; simp at hin
         cases hseg : seg vs off (len * sz) with
         | none => simp [hseg] at h
         | some old =>
          simp [hseg] at h
          obtain ⟨rfl, rfl⟩ := h
          have hcl : s.cells id g = some vs := by
           simp only [St.cells, hob]
           rw [Nat.ble_eq_true_of_le o2, Nat.ble_eq_true_of_le (Nat.le_refl g)]
           rfl
          obtain ⟨ol, l1, l2, l3, l4⟩ := seg_vals hs hcl hp hseg (by omega)
          have holen : old.length = len * sz := by rw [relL_length l1, l3]
          have hfo : ∀ w1 : World, w1.heap = w.heap → (Builtin.firstCells sz len (.slice (some ⟨p.block, p.shift + off, none⟩) len c)).run P w1 = .ok ol.toArray w1 := by
           intro w1 hw
           unfold Builtin.firstCells
           rw [← l3]
           exact load_cells rfl (fun j v hv => by simp only [World.cell?, hw]; exact l4 j v hv)
          obtain ⟨C, w', cn, q1, q2, q3, q4, q5, q6⟩ := grow _ len c old ol eA hin hfit l1 l2 holen hfo
          have hca : (len + n) * sz ≤ C * sz := Nat.mul_le_mul_right sz q1
          have e3 : (len + n) * sz = len * sz + n * sz := Nat.add_mul _ _ _
          obtain ⟨κ, p2, b1, b2, b3, b4⟩ := SR_cells (vs := old ++ new) (grown := true) (nx' := s.next + 1) hs (hs.fresh s.next (Nat.le_refl _)) (by omega) (by omega) q3 (by simp) (by simp only [List.length_append]; omega) q5 q6
          refine ⟨_, w', q2, κ, b1, ?_, by rw [view_new]; exact b4⟩
          simp only [rel]
          subst b3
          exact ⟨_, C, b2, ⟨by simp only [List.length_append]; omega, by simp only [List.length_append]; omega⟩, Nat.le_refl _, q1, by simp only; omega, by simp, by simp⟩
      ·simp at h
end
end Go.Abs
