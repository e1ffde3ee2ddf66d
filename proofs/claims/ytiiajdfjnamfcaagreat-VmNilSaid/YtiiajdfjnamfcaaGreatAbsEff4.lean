/- Copies, and maps. -/
import Derived.Test.YtiiajdfjnamfcaaGreatAbsEff3
set_option autoImplicit false
set_option linter.unusedSimpArgs false
set_option linter.unusedVariables false
namespace Go.Abs
open Go Go.RowKit
section
variable {P : Program} {w : World} {ι : IM} {w0 : World} {X : Nat → Option AObj} {s : St} {nx : Nat} {fr : Fr} {a : Act}
theorem acopy_sim (hs : SR ι w0 (s.view X) s.next w) {ts : Array TypeId} {T t e : TypeId} {sz : Nat} {A B v : AV} {A' B' : Value} {s' : St} (ht : ts[0]? = some t) (hu : P.underlying t = some (.slice e)) (hsz : sizeT P e = some sz)
  (hA : rel ι w0 A A') (hB : rel ι w0 B B') (h : acopy s sz A B = some (v, s')) :
  ∃ v' w', (Builtin.copy_ ts T #[A', B']).run P w = .ok v' w' ∧ ∃ κ, ι.le κ ∧ rel κ w0 v v' ∧ SR κ w0 (s'.view X) s'.next w' := by
 unfold acopy at h
 cases hm : slen A with
 | none => simp [hm] at h
 | some m =>
  cases hk : ilen B with
  | none => simp [hm, hk] at h
  | some k =>
   simp only [hm, hk] at h
   have hmin : (bif Nat.ble k m then k else m) = Nat.min k m := by
    cases hb : Nat.ble k m with
    | true => have := Nat.le_of_ble_eq_true hb; simp [Nat.min_eq_left this]
    | false =>
     have : ¬ k ≤ m := fun hh => by rw [Nat.ble_eq_true_of_le hh] at hb; simp at hb
     simp only [cond_false]
     exact (Nat.min_eq_right (by omega)).symm
   rw [hmin] at h
   generalize hn : Nat.min k m = n at h
   cases hrow : s.row sz n B with
   | none => simp [hrow] at h
   | some cs =>
    simp only [hrow] at h
    obtain ⟨ys, y1, y2, y3'⟩ := row_run (P := P) hs hrow hB
    have y3 := y3' w rfl
    have hcl := row_length hrow hB
    have hsl : ∃ base c, A' = .slice base m c := by
     cases A <;> simp [slen] at hm <;> simp only [rel] at hA
     ·obtain ⟨_, _, _, _, _, _, _, _, e⟩ := hA; subst hm; exact ⟨_, _, e⟩
     ·obtain ⟨_, _, e, _⟩ := hA; subst hm; exact ⟨_, _, e⟩
     ·obtain ⟨_, _, e⟩ := hA; subst hm; exact ⟨_, _, e⟩
     ·subst hm; exact ⟨_, _, hA⟩
    obtain ⟨base, c, eA⟩ := hsl
    have run : ∀ w' : World, (match base with | some ad => (storeCells ad ys).run P w = .ok () w' | none => w' = w) → (Builtin.copy_ ts T #[A', B']).run P w = .ok (goInt n) w' := by
     intro w' hst
     unfold Builtin.copy_
     rw [eA]
     simp only [ht, List.getElem?_toArray, List.getElem?_cons_zero, List.getElem?_cons_succ, Sem.run_bind, run_underlying hu, Result.andThen_ok, len_run (P := P) hk hB w, sizeT_run hsz, hn, y3]
     cases base with
     | none => simp only at hst; subst hst; simp
     | some ad => simp only at hst; simp only [hst, Sem.run_bind, Result.andThen_ok, Sem.run_pure]
    cases h0 : Nat.beq n 0 with
    | true =>
     simp only [h0, cond_true] at h
     have h0 := Nat.eq_of_beq_eq_true h0
     subst h0
     simp at h
     obtain ⟨rfl, rfl⟩ := h
     have hys : ys = [] := by
      have := relL_length y1
      cases ys with
      | nil => rfl
      | cons y ys => rw [hcl, Nat.zero_mul] at this; simp at this
     subst hys
     refine ⟨_, w, run w (by cases base <;> rfl), ι, IM.le_refl _, by simp only [rel, goInt]; try rfl, hs⟩
    | false =>
     simp only [h0, cond_false] at h
     cases A <;> simp only at h <;> try (simp at h; done)
     case slc id g off len cap sz' =>
      cases hb : Nat.beq sz sz' with
      | false => simp [hb] at h
      | true =>
       simp only [hb, cond_true] at h
       have hb := Nat.eq_of_beq_eq_true hb
       subst hb
       cases hw : wr s id g off cs with
       | none => simp [hw] at h
       | some s1 =>
        simp [hw] at h
        obtain ⟨rfl, rfl⟩ := h
        simp only [rel] at hA
        obtain ⟨p, c', hp, _, _, _, _, _, e⟩ := hA
        rw [e] at eA
        cases eA
        obtain ⟨w', d1, d2, d3, _⟩ := wr_sim (P := P) hs hw hp y1 y2
        refine ⟨_, w', run w' d1, ι, IM.le_refl _, by simp only [rel, goInt]; try rfl, by rw [d3]; exact d2⟩
theorem relM_of_get : ∀ {es : List (AV × AV × Nat)} {ces : List MapEntry}, es.length = ces.length → (∀ (i : Nat) (k v : AV) (n : Nat) (e : MapEntry), es[i]? = some (k, v, n) → ces[i]? = some e → rel ι w0 k e.key ∧ rel ι w0 v e.val ∧ e.born = n) → relM ι w0 es ces
 | [], ces, h, _ => by simp only [relM]; cases ces with
  | nil => rfl
  | cons => simp at h
 | (k, v, n) :: es, [], h, _ => by simp at h
 | (k, v, n) :: es, e :: ces, h, hh => by
  simp only [relM]
  obtain ⟨h1, h2, h3⟩ := hh 0 k v n e (by simp) (by simp)
  exact ⟨e, ces, rfl, h1, h2, h3, relM_of_get (by simpa using h) fun i k v n e a b => hh (i + 1) k v n e (by simpa using a) (by simpa using b)⟩
theorem relM_get : ∀ {es : List (AV × AV × Nat)} {ces : List MapEntry}, relM ι w0 es ces → ∀ {i : Nat} {k v : AV} {n : Nat} {e : MapEntry}, es[i]? = some (k, v, n) → ces[i]? = some e → rel ι w0 k e.key ∧ rel ι w0 v e.val ∧ e.born = n
 | [], ces, h, i, k, v, n, e, h1, h2 => by simp at h1
 | (a, b, m) :: es, ces, h, i, k, v, n, e, h1, h2 => by
  simp only [relM] at h
  obtain ⟨e', t, rfl, q1, q2, q3, h⟩ := h
  cases i with
  | zero => simp at h1 h2; obtain ⟨rfl, rfl, rfl⟩ := h1; subst h2; exact ⟨q1, q2, q3⟩
  | succ i => exact relM_get h (by simpa using h1) (by simpa using h2)
theorem first_uniq {ag : Bool} {ks : List CK} {k : AV} {es : List (AV × AV × Nat)} {i j : Nat} (h : FirstAt ag ks k es i) (h' : FirstAt ag ks k es j) : i = j := by
 rcases Nat.lt_trichotomy i j with hh | hh | hh
 ·obtain ⟨⟨a, v, n, e1, e2⟩, _⟩ := h
  rw [h'.2 i a v n hh e1] at e2
  simp at e2
 ·exact hh
 ·obtain ⟨⟨a, v, n, e1, e2⟩, _⟩ := h'
  rw [h.2 j a v n hh e1] at e2
  simp at e2
theorem find_first {ag : Bool} {ks : List CK} {k : AV} : ∀ {es : List (AV × AV × Nat)} {r : Option (AV × Nat)}, find ag ks k es = some r →
  match r with
  | none => ∀ a v n, (a, v, n) ∈ es → flatEq ag ks k a = some false
  | some (v, n) => ∃ j a, es[j]? = some (a, v, n) ∧ FirstAt ag ks k es j
 | [], r, h => by simp [find] at h; subst h; simp
 | (a, v, n) :: es, r, h => by
  simp only [find] at h
  cases hq : flatEq ag ks k a with
  | none => simp [hq] at h
  | some b =>
   cases b with
   | true =>
    simp [hq] at h
    subst h
    exact ⟨0, a, by simp, ⟨a, v, n, by simp, hq⟩, fun i _ _ _ hi => by omega⟩
   | false =>
    simp only [hq] at h
    have ih := find_first h
    cases r with
    | none =>
     intro a' v' n' hm
     rcases List.mem_cons.1 hm with hm | hm
     ·cases hm; exact hq
     ·exact ih a' v' n' hm
    | some p =>
     obtain ⟨v', n'⟩ := p
     obtain ⟨j, a', e1, ⟨a2, v2, n2, e2, e3⟩, e4⟩ := ih
     refine ⟨j + 1, a', by simpa using e1, ⟨a2, v2, n2, by simpa using e2, e3⟩, ?_⟩
     intro i b u m hi hb
     cases i with
     | zero => simp at hb; obtain ⟨rfl, rfl, rfl⟩ := hb; exact hq
     | succ i => exact e4 i b u m (by omega) (by simpa using hb)
theorem mset_none {ag : Bool} {ks : List CK} {k v : AV} {ck : Nat} : ∀ {es : List (AV × AV × Nat)}, (∀ a v n, (a, v, n) ∈ es → flatEq ag ks k a = some false) → mset ag ks k v ck es = some (es ++ [(k, v, ck)], ck + 1)
 | [], h => by simp [mset]
 | (a, u, n) :: es, h => by
  simp only [mset]
  rw [h a u n (by simp), mset_none (fun a v n hm => h a v n (by simp [hm]))]
  rfl
theorem mset_some {ag : Bool} {ks : List CK} {k v : AV} {ck : Nat} : ∀ {es : List (AV × AV × Nat)} {j : Nat} {a u : AV} {n : Nat}, FirstAt ag ks k es j → es[j]? = some (a, u, n) → mset ag ks k v ck es = some (es.set j (k, v, n), ck)
 | [], j, a, u, n, h, he => by simp at he
 | (b, x, m) :: es, 0, a, u, n, h, he => by
  simp at he
  obtain ⟨rfl, rfl, rfl⟩ := he
  obtain ⟨⟨a', v', n', e1, e2⟩, _⟩ := h
  simp at e1
  obtain ⟨rfl, rfl, rfl⟩ := e1
  simp [mset, e2]
 | (b, x, m) :: es, j + 1, a, u, n, h, he => by
  have h0 := h.2 0 b x m (by omega) (by simp)
  have h1 : FirstAt ag ks k es j := by
   obtain ⟨⟨a', v', n', e1, e2⟩, e3⟩ := h
   exact ⟨⟨a', v', n', by simpa using e1, e2⟩, fun i b' x' m' hi hb => e3 (i + 1) b' x' m' (by omega) (by simpa using hb)⟩
  simp only [mset, h0, mset_some h1 (by simpa using he), List.set_cons_succ]
theorem mdel_none {ag : Bool} {ks : List CK} {k : AV} : ∀ {es : List (AV × AV × Nat)}, (∀ a v n, (a, v, n) ∈ es → flatEq ag ks k a = some false) → mdel ag ks k es = some es
 | [], h => by simp [mdel]
 | (a, u, n) :: es, h => by
  simp only [mdel]
  rw [h a u n (by simp), mdel_none (fun a v n hm => h a v n (by simp [hm]))]
theorem mdel_some {ag : Bool} {ks : List CK} {k : AV} : ∀ {es : List (AV × AV × Nat)} {j : Nat}, FirstAt ag ks k es j → mdel ag ks k es = some (es.eraseIdx j)
 | [], j, h => by obtain ⟨⟨a, v, n, e, _⟩, _⟩ := h; simp at e
 | (b, x, m) :: es, 0, h => by
  obtain ⟨⟨a', v', n', e1, e2⟩, _⟩ := h
  simp at e1
  obtain ⟨rfl, rfl, rfl⟩ := e1
  simp [mdel, e2]
 | (b, x, m) :: es, j + 1, h => by
  have h0 := h.2 0 b x m (by omega) (by simp)
  have h1 : FirstAt ag ks k es j := by
   obtain ⟨⟨a', v', n', e1, e2⟩, e3⟩ := h
   exact ⟨⟨a', v', n', by simpa using e1, e2⟩, fun i b' x' m' hi hb => e3 (i + 1) b' x' m' (by omega) (by simpa using hb)⟩
  simp only [mdel, h0, mdel_some h1, List.eraseIdx_cons_succ]
theorem SR_map (hs : SR ι w0 (s.view X) s.next w) {id : Nat} {es es' : List (AV × AV × Nat)} {ck ck' : Nat} {p : Place} {ces ces' : Array MapEntry} (hob : s.objs.get id = some (.map es ck)) (hp : ι id 0 = some p) (hw : w.heap[p.block]? = some (.map ces ck))
  (hr : relM ι w0 es' ces'.toList) : (setObj p.block (.map ces' ck')).run P w = .ok () { w with heap := w.heap.setIfInBounds p.block (.map ces' ck') } ∧
   SR ι w0 ((s.put id (.map es' ck')).view X) s.next { w with heap := w.heap.setIfInBounds p.block (.map ces' ck') } := by
 have hlt : p.block < w.heap.size := (hs.blk _ _ _ hp).2
 refine ⟨by simp [setObj, Sem.run, hw], ?_⟩
 rw [view_put]
 obtain ⟨o1, _⟩ := hs.obj id _ (view_get hob)
 refine SR_change hs (IM.le_refl _) (fun _ _ _ => rfl) ?_ (by simp) rfl rfl rfl ?_ ?_ (obj_lt hs hob) (Nat.le_refl _)
 ·intro b hb hne
  simp only
  rw [Array.getElem?_setIfInBounds, if_neg (hne 0 p hp)]
 ·refine ⟨o1, p, ces', hp, ?_, hr⟩
  simp only
  rw [Array.getElem?_setIfInBounds, if_pos rfl, if_pos hlt]
 ·intro g q hq
  exact ⟨(hs.blk _ _ _ hq).1, by simp; exact (hs.blk _ _ _ hq).2, .inl hq⟩
theorem same10000 {x y : Value} (h : ∀ n, Instr.sameBits (n + 1) x y = true) : Instr.sameBits 10000 x y = true := h 9999
theorem mset_run (hs : SR ι w0 (s.view X) s.next w) {id : Nat} {es : List (AV × AV × Nat)} {ck : Nat} {p : Place} {ces : Array MapEntry} (hob : s.objs.get id = some (.map es ck)) (hp : ι id 0 = some p) (hw : w.heap[p.block]? = some (.map ces ck)) (hm : relM ι w0 es ces.toList)
  {kt : TypeId} {ks : List CK} {ag : Bool} {k v : AV} {k' v' : Value} (hf : flatT P 4 kt = some ks) (ha : aggT P kt = some ag) (hk : rel ι w0 k k') (hv : rel ι w0 v v') (hok : keyOk ag ks k = true) {l : List (AV × AV × Nat)} {c : Nat} (h : mset ag ks k v ck es = some (l, c)) :
  ∃ r', (Instr.findKey kt k' ces.toList).run P w = .ok r' w ∧
   (
    (r' = none ∧ find ag ks k es = some none ∧ relM ι w0 l (ces.push { key := k', val := v', born := ck }).toList ∧ c = ck + 1) ∨
    ∃ j e u, r' = some (j, e.val) ∧ ces[j]? = some e ∧ find ag ks k es = some (some (u, e.born)) ∧ rel ι w0 u e.val ∧ Instr.sameBits 10000 e.key k' = true ∧
    relM ι w0 l (ces.modify j fun e => { e with key := k', val := v' }).toList ∧ c = ck) := by
 have hfd : ∃ r, find ag ks k es = some r := by
  have : ∀ (es : List (AV × AV × Nat)) (l : List (AV × AV × Nat)) (c : Nat), mset ag ks k v ck es = some (l, c) → ∃ r, find ag ks k es = some r := by
   intro es
   induction es with
   | nil => intro l c _; exact ⟨none, rfl⟩
   | cons q es ih =>
    obtain ⟨a, u, n⟩ := q
    intro l c h
    simp only [mset] at h
    simp only [find]
    cases hq : flatEq ag ks k a with
    | none => simp [hq] at h
    | some b =>
     cases b with
     | true => exact ⟨_, rfl⟩
     | false =>
      simp only [hq] at h
      cases hh : mset ag ks k v ck es with
      | none => simp [hh] at h
      | some q => obtain ⟨l', c'⟩ := q; exact ih l' c' hh
  exact this es l c h
 obtain ⟨r, hr⟩ := hfd
 obtain ⟨r', e1, e2⟩ := findKey_run (P := P) (w := w) hf ha hk hok hm hr
 refine ⟨r', e1, ?_⟩
 have hfst := find_first hr
 cases r with
 | none =>
  left
  simp only [Found] at e2
  have := mset_none (v := v) (ck := ck) hfst
  rw [this] at h
  simp at h
  obtain ⟨rfl, rfl⟩ := h
  refine ⟨e2, hr, ?_, rfl⟩
  refine relM_of_get (by have := relM_length hm; simp at this ⊢; exact this) ?_
  intro i k2 v2 n2 e h1 h2
  have hl := relM_length hm
  simp at hl
  simp only [Array.toList_push] at h2
  by_cases hi : i < es.length
  ·rw [List.getElem?_append_left hi] at h1
   rw [List.getElem?_append_left (by simp; omega)] at h2
   exact relM_get hm h1 h2
  ·rw [List.getElem?_append_right (by omega)] at h1
   rw [List.getElem?_append_right (by simp; omega)] at h2
   have : i - es.length = 0 := by
    rcases Nat.eq_zero_or_pos (i - es.length) with hz | hz
    ·exact hz
    ·rw [List.getElem?_eq_none (by simp; omega)] at h1; simp at h1
   rw [this] at h1
   simp only [Array.length_toList, ← hl, this] at h2
   simp at h1 h2
   obtain ⟨rfl, rfl, rfl⟩ := h1
   subst h2
   exact ⟨hk, hv, rfl⟩
 | some q =>
  right
  obtain ⟨u, n⟩ := q
  obtain ⟨j, e, f1, f2, f3, f4, f5, f6, f7⟩ := e2
  obtain ⟨i, b, g1, g2⟩ := hfst
  have hij := first_uniq f7 g2
  subst hij
  have := mset_some (v := v) (ck := ck) f7 g1
  rw [this] at h
  simp at h
  obtain ⟨rfl, rfl⟩ := h
  rw [Array.getElem?_toList] at f2
  refine ⟨j, e, u, by rw [f1, Nat.zero_add], f2, by rw [hr, f4], f3, same10000 f6, ?_, rfl⟩
  have hl := relM_length hm
  simp at hl
  refine relM_of_get (by simp; exact hl) ?_
  intro i' k2 v2 n2 e2 h1 h2
  rw [Array.getElem?_toList, Array.getElem?_modify] at h2
  rw [List.getElem?_set] at h1
  by_cases hi : j = i'
  ·subst hi
   have hjl : j < es.length := (List.getElem?_eq_some_iff.1 g1).1
   rw [if_pos rfl, if_pos hjl] at h1
   rw [if_pos rfl, f2] at h2
   simp at h1 h2
   obtain ⟨rfl, rfl, rfl⟩ := h1
   subst h2
   exact ⟨hk, hv, f4⟩
  ·rw [if_neg hi] at h1 h2
   exact relM_get hm h1 (by rw [Array.getElem?_toList]; exact h2)
end
end Go.Abs
