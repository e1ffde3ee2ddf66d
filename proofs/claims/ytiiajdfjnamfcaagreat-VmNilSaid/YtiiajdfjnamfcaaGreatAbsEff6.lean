/- Ranges. -/
import Derived.Test.YtiiajdfjnamfcaaGreatAbsEff5
set_option autoImplicit false
set_option linter.unusedSimpArgs false
set_option linter.unusedVariables false
namespace Go.Abs
open Go Go.RowKit
section
variable {P : Program} {w : World} {ι : IM} {w0 : World} {X : Nat → Option AObj} {s : St} {nx : Nat} {fr : Fr} {a : Act}
theorem rng_sim (hs : SR ι w0 (s.view X) s.next w) {t : TypeId} {str : Bool} {y : AO} {x' : Value} {v : AV} {s' : St} {call : CallF} (hu : if str then P.underlying t = some .string else ∃ k e, P.underlying t = some (.map k e))
  (hx : ∀ x, y.ev fr = some x → rel ι w0 x x') (h : aeff call fr s (.rng str y) = some (v, s')) :
  ∃ v' w', (Instr.range t x').run P w = .ok v' w' ∧ ∃ κ, ι.le κ ∧ rel κ w0 v v' ∧ SR κ w0 (s'.view X) s'.next w' := by
 have hfr : s.view X s.next = none := hs.fresh _ (Nat.le_refl _)
 simp only [aeff] at h
 split at h
 ·rename_i b e1
  have hr := hx _ e1
  simp only [rel] at hr
  obtain ⟨b', rfl, hb⟩ := hr
  simp at h
  obtain ⟨rfl, rfl⟩ := h
  simp only [if_true] at hu
  obtain ⟨κ, p, b1, b2, b3, b4⟩ := SR_other (o := .sit b 0) (nx' := s.next + 1) hs hfr (Nat.lt_succ_self _) (Nat.le_succ _) (pushed_rfl w (.stringIter b' 0)) (by
   intro κ hk hg ⟨q, hq, hq2⟩ hw
   exact ⟨hg, q, b', hq2, by rw [hq]; exact hw, hb⟩)
  refine ⟨.pointer (some ⟨w.heap.size, 0, none⟩), { w with heap := w.heap.push (.stringIter b' 0) }, ?_, κ, b1, ?_, by rw [view_new]; exact b4⟩
  ·unfold Instr.range
   simp [run_underlying hu]
  ·simp only [rel]
   exact ⟨p, b2, by rw [b3]⟩
 ·rename_i e1
  have hr := hx _ e1
  simp only [rel] at hr
  subst hr
  simp at h
  obtain ⟨rfl, rfl⟩ := h
  simp only [if_false, Bool.false_eq_true] at hu
  obtain ⟨k, e, hu⟩ := hu
  obtain ⟨κ, p, b1, b2, b3, b4⟩ := SR_other (o := .mit none 0 [] 0) (nx' := s.next + 1) hs hfr (Nat.lt_succ_self _) (Nat.le_succ _) (pushed_rfl w (.mapIter none 0 #[] 0)) (by
   intro κ hk hg ⟨q, hq, hq2⟩ hw
   exact ⟨hg, q, none, hq2, by rw [hq]; exact hw, rfl⟩)
  refine ⟨.pointer (some ⟨w.heap.size, 0, none⟩), { w with heap := w.heap.push (.mapIter none 0 #[] 0) }, ?_, κ, b1, ?_, by rw [view_new]; exact b4⟩
  ·unfold Instr.range
   simp [run_underlying hu]
  ·simp only [rel]
   exact ⟨p, b2, by rw [b3]⟩
 ·rename_i m e1
  have hr := hx _ e1
  cases hob : s.objs.get m with
  | none => simp [hob] at h
  | some ob =>
   cases ob <;> simp [hob] at h
   rename_i es ck
   obtain ⟨rfl, rfl⟩ := h
   simp only [if_false, Bool.false_eq_true] at hu
   obtain ⟨k, e, hu⟩ := hu
   obtain ⟨p0, ces, p1, p2, p3, p4, p5⟩ := map_obj (P := P) hs hob hr
   subst p2
   obtain ⟨κ, p, b1, b2, b3, b4⟩ := SR_other (o := .mit (some m) ck [] ck) (nx' := s.next + 1) hs hfr (Nat.lt_succ_self _) (Nat.le_succ _) (pushed_rfl w (.mapIter (some p0.block) ck #[] ck)) (by
    intro κ hk hg ⟨q, hq, hq2⟩ hw
    exact ⟨hg, q, some p0.block, hq2, by rw [hq]; exact hw, p0, hk _ _ _ p1, rfl⟩)
   refine ⟨.pointer (some ⟨w.heap.size, 0, none⟩), { w with heap := w.heap.push (.mapIter (some p0.block) ck #[] ck) }, ?_, κ, b1, ?_, by rw [view_new]; exact b4⟩
   ·unfold Instr.range
    simp [run_underlying hu, p3]
   ·simp only [rel]
    exact ⟨p, b2, by rw [b3]⟩
 ·simp at h
theorem relM_filter (p : Nat → Bool) : ∀ {es : List (AV × AV × Nat)} {ces : List MapEntry}, relM ι w0 es ces → relM ι w0 (es.filter fun e => p e.2.2) (ces.filter fun e => p e.born)
 | [], ces, h => by simp only [relM] at h; subst h; simp [relM]
 | (k, v, n) :: es, ces, h => by
  simp only [relM] at h
  obtain ⟨e, t, rfl, h1, h2, h3, h⟩ := h
  have ih := relM_filter p h
  cases hp : p n with
  | true =>
   rw [List.filter_cons_of_pos (by simp [hp]), List.filter_cons_of_pos (by simp [h3, hp])]
   simp only [relM]
   exact ⟨e, _, rfl, h1, h2, h3, ih⟩
  | false =>
   rw [List.filter_cons_of_neg (by simp [hp]), List.filter_cons_of_neg (by simp [h3, hp])]
   exact ih
theorem relM_all (p : Nat → Bool) : ∀ {es : List (AV × AV × Nat)} {ces : List MapEntry}, relM ι w0 es ces → (es.all fun e => p e.2.2) = ces.all fun e => p e.born
 | [], ces, h => by simp only [relM] at h; subst h; rfl
 | (k, v, n) :: es, ces, h => by
  simp only [relM] at h
  obtain ⟨e, t, rfl, h1, h2, h3, h⟩ := h
  simp only [List.all_cons, relM_all p h, h3]
def candsV (ces : List MapEntry) (since : Nat) (seen : List Nat) : List (Option MapEntry) :=
 let left := ces.filter fun e => !seen.contains e.born
 let old := left.filter fun e => decide (e.born < since)
 let new := left.filter fun e => decide (e.born ≥ since)
 (if old.isEmpty then [none] else []) ++ (old ++ new).map some
def CandR (ι : IM) (w0 : World) : Option (AV × AV × Nat) → Option MapEntry → Prop
 | none, c' => c' = none
 | some (k, v, n), c' => ∃ e : MapEntry, c' = some e ∧ rel ι w0 k e.key ∧ rel ι w0 v e.val ∧ e.born = n
theorem cands_sim {es : List (AV × AV × Nat)} {ces : List MapEntry} {since last : Nat} {seen : List Nat} {c : Option (AV × AV × Nat)} (hm : relM ι w0 es ces) (h : cands es since seen last = some [c]) :
  (!seen.isEmpty && !ces.isEmpty && ces.all fun e => decide (e.born ≥ last)) = false ∧ ∃ c', candsV ces since seen = [c'] ∧ CandR ι w0 c c' := by
 unfold cands at h
 have hle : ∀ n : Nat, Nat.ble last n = decide (n ≥ last) := by
  intro n
  cases hb : Nat.ble last n with
  | true => have := Nat.le_of_ble_eq_true hb; simp [this]
  | false => simp; exact Nat.lt_of_not_le fun hh => by rw [Nat.ble_eq_true_of_le hh] at hb; simp at hb
 have hlt : ∀ n : Nat, Nat.blt n since = decide (n < since) := by
  intro n
  cases hb : Nat.blt n since with
  | true => have := blt_lt hb; simp [this]
  | false =>
   simp
   rcases Nat.lt_or_ge n since with hh | hh
   ·have : Nat.blt n since = true := Nat.ble_eq_true_of_le hh
    rw [this] at hb; simp at hb
   ·exact hh
 have hge : ∀ n : Nat, (!Nat.blt n since) = decide (n ≥ since) := by
  intro n
  rw [hlt n]
  by_cases hh : n < since
  ·simp [hh]
  ·simp [hh]; omega
 have he : es.isEmpty = ces.isEmpty := by
  cases es with
  | nil => simp only [relM] at hm; subst hm; rfl
  | cons q es => obtain ⟨k, v, n⟩ := q; simp only [relM] at hm; obtain ⟨e, t, rfl, _⟩ := hm; rfl
 have ha := relM_all (ι := ι) (w0 := w0) (fun n => Nat.ble last n) hm
 rw [ha, he] at h
 simp only [hle] at h
 cases hc : (!seen.isEmpty && !ces.isEmpty && ces.all fun e => decide (e.born ≥ last)) with
 | true => rw [hc] at h; simp at h
 | false =>
  refine ⟨rfl, ?_⟩
  rw [hc] at h
  simp only [cond_false, Option.some.injEq] at h
  have hL := relM_filter (fun n => !seen.contains n) hm
  have hO := relM_filter (fun n => Nat.blt n since) hL
  have hN := relM_filter (fun n => !Nat.blt n since) hL
  simp only [hge] at hN h
  simp only [hlt] at hO h
  unfold candsV
  simp only
  generalize (es.filter fun e => !seen.contains e.2.2).filter (fun e => decide (e.2.2 < since)) = o1 at hO h
  generalize (es.filter fun e => !seen.contains e.2.2).filter (fun e => decide (e.2.2 ≥ since)) = n1 at hN h
  generalize (ces.filter fun e => !seen.contains e.born).filter (fun e => decide (e.born < since)) = o2 at hO ⊢
  generalize (ces.filter fun e => !seen.contains e.born).filter (fun e => decide (e.born ≥ since)) = n2 at hN ⊢
  cases o1 with
  | nil =>
   simp only [relM] at hO
   subst hO
   cases n1 with
   | nil =>
    simp only [relM] at hN
    subst hN
    simp at h
    subst h
    exact ⟨none, rfl, rfl⟩
   | cons q n1 => simp at h
  | cons q o1 =>
   obtain ⟨k, v, n⟩ := q
   simp only [relM] at hO
   obtain ⟨e, t, rfl, h1, h2, h3, hO⟩ := hO
   simp at h
   obtain ⟨rfl, rfl, rfl⟩ := h
   simp only [relM] at hO hN
   subst hO
   subst hN
   exact ⟨some e, rfl, e, rfl, h1, h2, h3⟩
theorem candsV_eq (ces : Array MapEntry) (since : Nat) (seen : List Nat) :
  (((if ((ces.filter fun e => !seen.toArray.contains e.born).filter (·.born < since)).isEmpty then #[none] else #[]) ++
   (((ces.filter fun e => !seen.toArray.contains e.born).filter (·.born < since)) ++ ((ces.filter fun e => !seen.toArray.contains e.born).filter (·.born ≥ since))).map some : Array (Option MapEntry))) = (candsV ces.toList since seen).toArray := by
 unfold candsV
 apply Array.toList_inj.1
 simp only [Array.toList_append, Array.toList_map, Array.toList_filter]
 have h1 : ∀ b : Nat, seen.toArray.contains b = seen.contains b := by intro b; simp
 simp only [h1]
 congr 1
 have h2 : ((ces.filter fun e => !seen.contains e.born).filter (·.born < since)).isEmpty = ((ces.toList.filter fun e => !seen.contains e.born).filter (fun e => decide (e.born < since))).isEmpty := by
  rw [← Array.toList_filter, ← Array.toList_filter, Array.isEmpty_toList]
 rw [h2]
 split <;> rfl
theorem next_sim (hs : SR ι w0 (s.view X) s.next w) {t : TypeId} {str : Bool} {y : AO} {x' : Value} {v : AV} {s' : St} {call : CallF}
  (hx : ∀ x, y.ev fr = some x → rel ι w0 x x') (h : aeff call fr s (.next str y) = some (v, s')) :
  ∃ v' w', (Instr.next x' str t).run P w = .ok v' w' ∧ ∃ κ, ι.le κ ∧ rel κ w0 v v' ∧ SR κ w0 (s'.view X) s'.next w' := by
 simp only [aeff] at h
 cases hy : y.ev fr with
 | none => simp [hy] at h
 | some x =>
  have hr := hx _ hy
  simp only [hy] at h
  cases x <;> simp only at h <;> try (simp at h; done)
  rename_i id
  simp only [rel] at hr
  obtain ⟨p, hp, rfl⟩ := hr
  have rf : rel ι w0 (.tup [.bool false]) (.tuple #[.bool false]) := by simp [rel, relL]
  split at h
  ·rename_i b pos hob
   obtain ⟨o1, p', b', o2, o3, o4⟩ := hs.obj id _ (view_get hob)
   rw [hp] at o2
   cases o2
   have hlen : b.length = b'.size := by rw [← o4, natBytes_length]
   cases hb : Nat.blt pos b.length with
   | true =>
    simp only [hb, cond_true] at h
    have hlt := blt_lt hb
    rw [hlen] at hlt
    have hd : dec b pos = Utf8.decode b' pos := by rw [← o4]; exact dec_eq b' pos hlt
    rw [hd] at h
    cases hdd : Utf8.decode b' pos with
    | mk c wd =>
     simp [hdd] at h
     obtain ⟨rfl, rfl⟩ := h
     obtain ⟨z1, z2⟩ := SR_it (P := P) (o' := .sit b (pos + wd)) (ob' := .stringIter b' (pos + wd)) hs hob o1 hp o3 (by simp) (fun w' hw' => ⟨o1, p, b', hp, hw', o4⟩)
     refine ⟨.tuple #[.bool true, goInt pos, .int .i32 c], _, ?_, ι, IM.le_refl _, ?_, z2⟩
     ·unfold Instr.next
      have hg : (getObj p.block).run P w = .ok (.stringIter b' pos) w := by simp [getObj, Sem.run, o3]
      simp only [Sem.run_bind, hg, Result.andThen_ok, hlt, if_true, hdd, z1, Sem.run_pure]
     ·simp only [rel, relL, goInt]
      exact ⟨_, rfl, _, _, rfl, rfl, _, _, rfl, rfl, _, _, rfl, rfl, rfl⟩
   | false =>
    simp [hb] at h
    obtain ⟨rfl, rfl⟩ := h
    have hge : ¬ pos < b'.size := by
     intro hh
     rw [← hlen] at hh
     have : Nat.blt pos b.length = true := Nat.ble_eq_true_of_le hh
     rw [this] at hb; simp at hb
    refine ⟨.tuple #[.bool false], w, ?_, ι, IM.le_refl _, rf, hs⟩
    unfold Instr.next
    have hg : (getObj p.block).run P w = .ok (.stringIter b' pos) w := by simp [getObj, Sem.run, o3]
    simp only [Sem.run_bind, hg, Result.andThen_ok, hge, if_false, Sem.run_pure]
  ·rename_i since seen last hob
   obtain ⟨o1, p', mb, o2, o3, o4⟩ := hs.obj id _ (view_get hob)
   rw [hp] at o2
   cases o2
   simp only at o4
   subst o4
   simp at h
   obtain ⟨rfl, rfl⟩ := h
   refine ⟨.tuple #[.bool false], w, ?_, ι, IM.le_refl _, rf, hs⟩
   unfold Instr.next
   have hg : (getObj p.block).run P w = .ok (.mapIter none since seen.toArray last) w := by simp [getObj, Sem.run, o3]
   simp only [Sem.run_bind, hg, Result.andThen_ok, Sem.run_pure]
  ·rename_i m since seen last hob
   obtain ⟨o1, p', mb, o2, o3, o4⟩ := hs.obj id _ (view_get hob)
   rw [hp] at o2
   cases o2
   simp only at o4
   obtain ⟨q, q1, rfl⟩ := o4
   have hg : (getObj p.block).run P w = .ok (.mapIter (some q.block) since seen.toArray last) w := by simp [getObj, Sem.run, o3]
   cases hob2 : s.objs.get m with
   | none => simp [hob2] at h
   | some ob =>
    cases ob <;> simp only [hob2] at h <;> try (simp at h; done)
    rename_i es ck
    obtain ⟨q', ces, m1, m2, m3, m4, m5⟩ := map_obj (P := P) hs hob2 (v' := .map (some q.block)) (by simp only [rel]; exact ⟨q, q1, rfl⟩)
    rw [q1] at m1
    cases m1
    have key : ∀ c, cands es since seen last = some [c] → ∃ c', CandR ι w0 c c' ∧
       (Instr.next (.pointer (some ⟨p.block, 0, none⟩)) false t).run P w = (match c' with
        | some e => (do setObj p.block (.mapIter (some q.block) since (seen.toArray.push e.born) ck); pure (.tuple #[.bool true, e.key, e.val]) : Sem Value)
        | none => pure (.tuple #[.bool false])).run P w := by
     intro c hc
     obtain ⟨k1, c', k2, k3⟩ := cands_sim m5 hc
     refine ⟨c', k3, ?_⟩
     unfold Instr.next
     have hc1 : (!seen.toArray.isEmpty && !ces.isEmpty && ces.all (fun x => decide (x.born ≥ last))) = false := by
      rw [← k1]; cases ces; simp
     simp only [Sem.run_bind, hg, m3, Result.andThen_ok, hc1, Bool.false_eq_true, if_false]
     rw [candsV_eq, k2]
     simp only [List.size_toArray, List.length_cons, List.length_nil]
     have hch : ∀ w : World, (choose (.mapNext 1)).run P w = .ok 0 w := by intro w; simp [choose, Sem.run, Question.forced]
     simp only [Nat.zero_add, hch, Result.andThen_ok]
     cases c' with
     | none => simp
     | some e => simp
    split at h
    ·rename_i k v1 n hc
     obtain ⟨c', ⟨e, rfl, k1, k2, k3⟩, k4⟩ := key _ hc
     simp at h
     obtain ⟨rfl, rfl⟩ := h
     obtain ⟨z1, z2⟩ := SR_it (P := P) (o' := .mit (some m) since (seen ++ [n]) ck) (ob' := .mapIter (some q.block) since (seen.toArray.push e.born) ck) hs hob o1 hp o3 (by simp) (fun w' hw' => ⟨o1, p, some q.block, hp, by rw [hw']; simp [k3], q, q1, rfl⟩)
     refine ⟨.tuple #[.bool true, e.key, e.val], _, ?_, ι, IM.le_refl _, ?_, z2⟩
     ·rw [k4]
      simp only [Sem.run_bind, z1, Result.andThen_ok, Sem.run_pure]
     ·simp only [rel, relL]
      exact ⟨_, rfl, _, _, rfl, rfl, _, _, rfl, k1, _, _, rfl, k2, rfl⟩
    ·rename_i hc
     obtain ⟨c', rfl, k4⟩ := key _ hc
     simp at h
     obtain ⟨rfl, rfl⟩ := h
     exact ⟨.tuple #[.bool false], w, by rw [k4]; simp, ι, IM.le_refl _, rf, hs⟩
    ·simp at h
  ·simp at h
end
end Go.Abs
