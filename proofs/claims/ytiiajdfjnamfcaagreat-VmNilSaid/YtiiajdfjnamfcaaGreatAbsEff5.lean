/- Every operation that changes memory but a call. -/
import Derived.Test.YtiiajdfjnamfcaaGreatAbsEff4
import Derived.Laws.RangeAny
set_option autoImplicit false
set_option linter.unusedSimpArgs false
set_option linter.unusedVariables false
namespace Go.Abs
open Go Go.RowKit
section
variable {P : Program} {w : World} {ι : IM} {w0 : World} {X : Nat → Option AObj} {s : St} {nx : Nat} {fr : Fr} {a : Act}
theorem mdel_run (hs : SR ι w0 (s.view X) s.next w) {es : List (AV × AV × Nat)} {ces : Array MapEntry} (hm : relM ι w0 es ces.toList)
  {kt : TypeId} {ks : List CK} {ag : Bool} {k : AV} {k' : Value} (hf : flatT P 4 kt = some ks) (ha : aggT P kt = some ag) (hk : rel ι w0 k k') (hok : keyOk ag ks k = true) {l : List (AV × AV × Nat)} (h : mdel ag ks k es = some l) :
  ∃ r', (Instr.findKey kt k' ces.toList).run P w = .ok r' w ∧
   ((r' = none ∧ relM ι w0 l ces.toList) ∨ ∃ j v, r' = some (j, v) ∧ relM ι w0 l (ces.eraseIdxIfInBounds j).toList) := by
 have hfd : ∃ r, find ag ks k es = some r := by
  have : ∀ (es : List (AV × AV × Nat)) (l : List (AV × AV × Nat)), mdel ag ks k es = some l → ∃ r, find ag ks k es = some r := by
   intro es
   induction es with
   | nil => intro l _; exact ⟨none, rfl⟩
   | cons q es ih =>
    obtain ⟨a, u, n⟩ := q
    intro l h
    simp only [mdel] at h
    simp only [find]
    cases hq : flatEq ag ks k a with
    | none => simp [hq] at h
    | some b =>
     cases b with
     | true => exact ⟨_, rfl⟩
     | false =>
      simp only [hq] at h
      cases hh : mdel ag ks k es with
      | none => simp [hh] at h
      | some l' => exact ih l' hh
  exact this es l h
 obtain ⟨r, hr⟩ := hfd
 obtain ⟨r', e1, e2⟩ := findKey_run (P := P) (w := w) hf ha hk hok hm hr
 refine ⟨r', e1, ?_⟩
 have hfst := find_first hr
 cases r with
 | none =>
  left
  simp only [Found] at e2
  rw [mdel_none hfst] at h
  simp at h
  subst h
  exact ⟨e2, hm⟩
 | some q =>
  right
  obtain ⟨u, n⟩ := q
  obtain ⟨j, e, f1, f2, f3, f4, f5, f6, f7⟩ := e2
  rw [mdel_some f7] at h
  simp at h
  subst h
  refine ⟨j, e.val, by rw [f1, Nat.zero_add], ?_⟩
  have hl := relM_length hm
  simp at hl
  have hjl : j < ces.size := by have := (List.getElem?_eq_some_iff.1 f2).1; simpa using this
  have he : (ces.eraseIdxIfInBounds j).toList = ces.toList.eraseIdx j := by
   simp [Array.eraseIdxIfInBounds, hjl]
  rw [he]
  refine relM_of_get ?_ ?_
  ·rw [List.length_eraseIdx, List.length_eraseIdx]; simp [hl]
  ·intro i k2 v2 n2 e2 h1 h2
   rw [List.getElem?_eraseIdx] at h1 h2
   by_cases hi : i < j
   ·rw [if_pos hi] at h1 h2; exact relM_get hm h1 h2
   ·rw [if_neg hi] at h1 h2; exact relM_get hm h1 h2
theorem mput_rel : ∀ {es : List (AV × AV × Nat)} {ces : List MapEntry} {n : Nat} {v : AV} {v' : Value} {l : List (AV × AV × Nat)}, relM ι w0 es ces → rel ι w0 v v' → mputS n v es = some l →
  ∃ j, ces.findIdx? (fun e => (e.born : Int) == (n : Int)) = some j ∧ relM ι w0 l (ces.modify j fun e => { e with val := v' })
 | [], ces, n, v, v', l, hm, hv, h => by simp [mputS] at h
 | (a, x, m) :: es, ces, n, v, v', l, hm, hv, h => by
  simp only [relM] at hm
  obtain ⟨e, t, rfl, q1, q2, q3, hm⟩ := hm
  simp only [mputS] at h
  cases hb : Nat.beq m n with
  | true =>
   have hb := Nat.eq_of_beq_eq_true hb
   subst hb
   simp at h
   subst h
   refine ⟨0, ?_, ?_⟩
   ·rw [List.findIdx?_cons]; simp [q3]
   ·simp only [List.modify_zero_cons, relM]
    exact ⟨_, _, rfl, q1, hv, q3, hm⟩
  | false =>
   simp only [hb, cond_false] at h
   have hne : ¬ m = n := fun e => by subst e; simp at hb
   cases hh : mputS n v es with
   | none => simp [hh] at h
   | some l' =>
    simp [hh] at h
    subst h
    obtain ⟨j, j1, j2⟩ := mput_rel hm hv hh
    refine ⟨j + 1, ?_, ?_⟩
    ·rw [List.findIdx?_cons]
     have : ((e.born : Int) == (n : Int)) = false := by rw [q3]; simp; omega
     rw [this]
     simp [j1]
    ·simp only [List.modify_succ_cons, relM]
     exact ⟨_, _, rfl, q1, q2, q3, j2⟩
theorem dec_eq (b : ByteArray) (pos : Nat) (h : pos < b.size) : dec (natBytes b) pos = Utf8.decode b pos := by
 unfold dec
 have hg : (natBytes b)[pos]? = some (b[pos]'h).toNat := by
  rw [natBytes_get, getElem?_pos b pos h]; rfl
 rw [hg]
 simp only
 cases hb : Nat.blt (b[pos]'h).toNat 128 with
 | true =>
  have := blt_lt hb
  simp only [cond_true]
  exact (decode_ascii b pos h this).symm
 | false =>
  simp only [cond_false]
  congr 1
  unfold toBA natBytes
  have hl : ∀ l : List UInt8, (l.map (·.toNat)).map UInt8.ofNat = l := by
   intro l
   induction l with
   | nil => rfl
   | cons x l ih => simp only [List.map_cons, ih]; congr 1; simp
  cases b with
  | mk d => rw [hl]
theorem mupd_sim (hs : SR ι w0 (s.view X) s.next w) {t kt e : TypeId} {ks : List CK} {ag : Bool} (hu : P.underlying t = some (.map kt e)) (hf : flatT P 4 kt = some ks) (ha : aggT P kt = some ag)
  {id ck c : Nat} {es l : List (AV × AV × Nat)} {k v : AV} {m' k' v' : Value} (hob : s.objs.get id = some (.map es ck)) (hm : rel ι w0 (.map id) m') (hk : rel ι w0 k k') (hv : rel ι w0 v v') (hok : keyOk ag ks k = true) (h : mset ag ks k v ck es = some (l, c)) :
  ∃ w', (Instr.mapUpdate t m' k' v').run P w = .ok () w' ∧ ∃ κ, ι.le κ ∧ SR κ w0 ((s.put id (.map l c)).view X) s.next w' := by
 obtain ⟨p, ces, p1, p2, p3, p4, p5⟩ := map_obj (P := P) hs hob hm
 obtain ⟨r', e1, e2⟩ := mset_run (P := P) hs hob p1 p4 p5 hf ha hk hv hok h
 subst p2
 unfold Instr.mapUpdate
 simp only [Sem.run_bind, run_underlying hu, Result.andThen_ok, p3, keyOk_run hf ha hok hk, e1]
 rcases e2 with ⟨rfl, q1, q2, rfl⟩ | ⟨j, en, u, rfl, q1, q2, q3, q4, q5, rfl⟩
 ·obtain ⟨z1, z2⟩ := SR_map (P := P) hs hob p1 p4 q2
  exact ⟨_, z1, ι, IM.le_refl _, z2⟩
 ·obtain ⟨z1, z2⟩ := SR_map (P := P) hs hob p1 p4 q5
  refine ⟨_, ?_, ι, IM.le_refl _, z2⟩
  simp only [q1, Option.map_some, Option.getD_some, Instr.keyThatStays, q4, if_true, Sem.run_bind, Sem.run_pure, Result.andThen_ok]
  exact z1
theorem delete_sim (hs : SR ι w0 (s.view X) s.next w) {ts : Array TypeId} {T t kt e : TypeId} {ks : List CK} {ag : Bool} (ht : ts[0]? = some t) (hu : P.underlying t = some (.map kt e)) (hf : flatT P 4 kt = some ks) (ha : aggT P kt = some ag)
  {id ck : Nat} {es l : List (AV × AV × Nat)} {k : AV} {m' k' : Value} (hob : s.objs.get id = some (.map es ck)) (hm : rel ι w0 (.map id) m') (hk : rel ι w0 k k') (hok : keyOk ag ks k = true) (h : mdel ag ks k es = some l) :
  ∃ w', (Builtin.delete_ ts T #[m', k']).run P w = .ok undef w' ∧ ∃ κ, ι.le κ ∧ SR κ w0 ((s.put id (.map l ck)).view X) s.next w' := by
 obtain ⟨p, ces, p1, p2, p3, p4, p5⟩ := map_obj (P := P) hs hob hm
 obtain ⟨r', e1, e2⟩ := mdel_run (P := P) hs p5 hf ha hk hok h
 subst p2
 unfold Builtin.delete_
 simp only [ht, List.getElem?_toArray, List.getElem?_cons_zero, List.getElem?_cons_succ, Sem.run_bind, run_underlying hu, Result.andThen_ok, p3, keyOk_run hf ha hok hk, e1]
 rcases e2 with ⟨rfl, q1⟩ | ⟨j, v, rfl, q1⟩
 ·obtain ⟨z1, z2⟩ := SR_map (P := P) (ck' := ck) hs hob p1 p4 q1
  exact ⟨_, by simp only [Sem.run_bind, z1, Sem.run_pure, Result.andThen_ok, undef], ι, IM.le_refl _, z2⟩
 ·obtain ⟨z1, z2⟩ := SR_map (P := P) (ck' := ck) hs hob p1 p4 q1
  exact ⟨_, by simp only [Sem.run_bind, z1, Sem.run_pure, Result.andThen_ok, undef], ι, IM.le_refl _, z2⟩
theorem ment_sim (hs : SR ι w0 (s.view X) s.next w) {t kt e : TypeId} {ks : List CK} {ag : Bool} (hu : P.underlying t = some (.map kt e)) (hf : flatT P 4 kt = some ks) (ha : aggT P kt = some ag) {zero : AV} (hz : zeroT P e = some zero)
  {id ck c : Nat} {es l : List (AV × AV × Nat)} {k : AV} {m' k' : Value} {r : Option (AV × Nat)} (hob : s.objs.get id = some (.map es ck)) (hm : rel ι w0 (.map id) m') (hk : rel ι w0 k k') (hok : keyOk ag ks k = true)
  (hr : find ag ks k es = some r) (h : mset ag ks k (match r with | some (v, _) => v | none => zero) ck es = some (l, c)) :
  ∃ v' w', (Instr.mapEntry t m' k').run P w = .ok v' w' ∧ ∃ κ, ι.le κ ∧ rel κ w0 (match r with | some (v, n) => .tup [v, .int .i64 (.ofNat n)] | none => .tup [zero, .int .i64 (.ofNat ck)]) v' ∧ SR κ w0 ((s.put id (.map l c)).view X) s.next w' := by
 obtain ⟨p, ces, p1, p2, p3, p4, p5⟩ := map_obj (P := P) hs hob hm
 subst p2
 unfold Instr.mapEntry
 cases r with
 | none =>
  obtain ⟨z', a1, a2, a3⟩ := zeroT_run (P := P) (w := w) hz
  have hv := constV_rel (ι := ι) (w0 := w0) a2
  obtain ⟨r', e1, e2⟩ := mset_run (P := P) hs hob p1 p4 p5 hf ha hk hv hok h
  simp only [Sem.run_bind, run_underlying hu, Result.andThen_ok, p3, keyOk_run hf ha hok hk, e1]
  rcases e2 with ⟨rfl, q1, q2, rfl⟩ | ⟨j, en, u, rfl, q1, q2, q3, q4, q5, rfl⟩
  ·obtain ⟨z1, z2⟩ := SR_map (P := P) hs hob p1 p4 q2
   refine ⟨.tuple #[z', goInt ck], _, ?_, ι, IM.le_refl _, rel_tup2 hv (by simp only [rel, goInt]; try rfl), z2⟩
   simp only [Sem.run_bind, a1, Result.andThen_ok, z1, Sem.run_pure]
  ·rw [hr] at q2; simp at q2
 | some q =>
  obtain ⟨v, n⟩ := q
  simp only at h ⊢
  obtain ⟨r0, g1, g2⟩ := findKey_run (P := P) (w := w) hf ha hk hok p5 hr
  simp only [Found] at g2
  obtain ⟨j, en, f1, f2, f3, f4, f5, f6, f7⟩ := g2
  obtain ⟨r', e1, e2⟩ := mset_run (P := P) hs hob p1 p4 p5 hf ha hk f3 hok h
  rcases e2 with ⟨_, q1, _⟩ | ⟨j', en', u, q0, q1, q2, q3, q4, q5, rfl⟩
  ·rw [hr] at q1; simp at q1
  ·have hjj : j = j' ∧ en.val = en'.val := by
    rw [g1] at e1
    cases e1
    rw [f1] at q0
    simp at q0
    exact q0
   obtain ⟨rfl, _⟩ := hjj
   rw [Array.getElem?_toList, q1] at f2
   cases f2
   have hq5 : relM ι w0 l (ces.modify j fun e => { e with key := k' }).toList := by
    have : (ces.modify j fun e => { e with key := k', val := en.val }) = ces.modify j fun e => { e with key := k' } := by
     apply Array.ext_getElem?
     intro i
     rw [Array.getElem?_modify, Array.getElem?_modify]
     by_cases hi : j = i
     ·subst hi; simp only [if_true, q1, Option.map_some]
     ·simp only [hi, if_false]
    rw [← this]
    exact q5
   obtain ⟨z1, z2⟩ := SR_map (P := P) hs hob p1 p4 hq5
   refine ⟨.tuple #[en.val, goInt n], _, ?_, ι, IM.le_refl _, rel_tup2 f3 (by simp only [rel, goInt]; try rfl), z2⟩
   simp only [Sem.run_bind, run_underlying hu, Result.andThen_ok, p3, keyOk_run hf ha hok hk, e1, q0, q1, Option.map_some, Option.getD_some, Instr.keyThatStays, q4, if_true, Sem.run_pure, z1, f4]
theorem mput_sim (hs : SR ι w0 (s.view X) s.next w) {t : TypeId} {id ck n : Nat} {kd : IntKind} {es l : List (AV × AV × Nat)} {v : AV} {m' n' v' : Value} (hob : s.objs.get id = some (.map es ck)) (hm : rel ι w0 (.map id) m') (hn : rel ι w0 (.int kd (.ofNat n)) n')
  (hv : rel ι w0 v v') (h : mputS n v es = some l) :
  ∃ w', (Instr.entryStore t m' n' v').run P w = .ok () w' ∧ ∃ κ, ι.le κ ∧ SR κ w0 ((s.put id (.map l ck)).view X) s.next w' := by
 obtain ⟨p, ces, p1, p2, p3, p4, p5⟩ := map_obj (P := P) hs hob hm
 subst p2
 simp only [rel] at hn
 subst hn
 obtain ⟨j, j1, j2⟩ := mput_rel p5 hv h
 have hj : ces.findIdx? (fun e => (e.born : Int) == (n : Int)) = some j := by rw [← j1]; cases ces; simp
 have hq : relM ι w0 l (ces.modify j fun e => { e with val := v' }).toList := by simpa using j2
 obtain ⟨z1, z2⟩ := SR_map (P := P) (ck' := ck) hs hob p1 p4 hq
 refine ⟨_, ?_, ι, IM.le_refl _, z2⟩
 unfold Instr.entryStore
 simp only [Sem.run_bind, Result.andThen_ok, p3, asInt, asIntOf, Sem.run_pure]
 have : (Int.ofNat n) = (n : Int) := rfl
 rw [this, hj]
 exact z1
theorem SR_it (hs : SR ι w0 (s.view X) s.next w) {id : Nat} {o o' : AObj} {p : Place} {ob ob' : Obj} (hob : s.objs.get id = some o) (hno : ∀ g, 0 < g → ι id g = none) (hp : ι id 0 = some p) (hw : w.heap[p.block]? = some ob) (hcl : ∀ c e f, ob ≠ .cells c e f)
  (ho : ∀ w' : World, w'.heap[p.block]? = some ob' → OR ι w0 id o' w') : (setObj p.block ob').run P w = .ok () { w with heap := w.heap.setIfInBounds p.block ob' } ∧
   SR ι w0 ((s.put id o').view X) s.next { w with heap := w.heap.setIfInBounds p.block ob' } := by
 have hlt : p.block < w.heap.size := (hs.blk _ _ _ hp).2
 refine ⟨by cases ob <;> first | exact absurd rfl (hcl _ _ _) | simp [setObj, Sem.run, hw], ?_⟩
 rw [view_put]
 refine SR_change hs (IM.le_refl _) (fun _ _ _ => rfl) ?_ (by simp) rfl rfl rfl ?_ ?_ (obj_lt hs hob) (Nat.le_refl _)
 ·intro b hb hne
  simp only
  rw [Array.getElem?_setIfInBounds, if_neg (hne 0 p hp)]
 ·refine ho _ ?_
  simp only
  rw [Array.getElem?_setIfInBounds, if_pos rfl, if_pos hlt]
 ·intro g q hq
  exact ⟨(hs.blk _ _ _ hq).1, by simp; exact (hs.blk _ _ _ hq).2, .inl hq⟩
end
end Go.Abs
