/- The run of a drawn region in the order of the text, step by step. -/
import Derived.Test.YtggpnokhhpnnaaaAbsDraw1
set_option autoImplicit false
set_option linter.unusedSimpArgs false
set_option linter.unusedVariables false
namespace Go.Abs
open Go Go.RowKit

inductive Stp (call : CallF) (id i : Nat) (o : AOper) (d d' : DS) : AV → Option AObj → Bool → Prop
  | off : wants d.fr o.guard = some false → d' = { d with fr := putO d.fr o.dst (.tup []) } → Stp call id i o d d' (.tup []) none false
  | p {p : POp} {v : AV} : wants d.fr o.guard = some true → o.op = .p p → apure d.fr p = some v → d' = { d with fr := putO d.fr o.dst v } → Stp call id i o d d' v none false
  | r {k : RK} {x y : AO} {xv yv v : AV} : wants d.fr o.guard = some true → o.op = .r k x y → x.ev d.fr = some xv → y.ev d.fr = some yv → aread k xv yv d.s = some v → effsOk o.pre k xv yv v d.effs = true →
      d' = { d with fr := putO d.fr o.dst v, rds := ⟨i, k, xv, yv, v⟩ :: d.rds } → Stp call id i o d d' v none false
  | a {p : LOp} {ob : AObj} {v : AV} : wants d.fr o.guard = some true → o.op = .a p → amake d.fr id p = some (ob, v) → d' = { d with fr := putO d.fr o.dst v, pend := (id, ob) :: d.pend } → Stp call id i o d d' v (some ob) false
  | e {e : EOp} {v : AV} {s' : St} : wants d.fr o.guard = some true → o.op = .e e → aeff call d.fr (flush d.s d.pend) e = some (v, s') → readsOk o.pre s' d.rds = true →
      d' = { fr := putO d.fr o.dst v, s := s', pend := [], effs := (i, d.s) :: d.effs, rds := d.rds } → Stp call id i o d d' v none true

theorem adop_stp {call : CallF} {id i : Nat} {o : AOper} {d d' : DS} (hw : wants d.fr o.guard = some true) (h : adop call id i o d = some d') : ∃ v al ef, Stp call id i o d d' v al ef := by
  unfold adop at h
  split at h
  · rename_i p hp
    split at h <;> simp at h
    rename_i v hv
    exact ⟨v, none, false, .p hw hp hv h.symm⟩
  · rename_i k x y hp
    split at h
    · rename_i xv yv hx hy
      split at h
      · rename_i v hv
        obtain ⟨he, h⟩ := bif_some h
        simp at h
        exact ⟨v, none, false, .r hw hp hx hy hv he h.symm⟩
      · simp at h
    · simp at h
  · rename_i p hp
    split at h <;> simp at h
    rename_i ob v hv
    exact ⟨v, some ob, false, .a hw hp hv h.symm⟩
  · rename_i e hp
    split at h
    · rename_i v s' hv
      obtain ⟨he, h⟩ := bif_some h
      simp at h
      exact ⟨v, none, true, .e hw hp hv he h.symm⟩
    · simp at h

theorem adraws_trace {call : CallF} : ∀ {L : List AOper} {id i : Nat} {d0 dm : DS}, adraws call id i L d0 = some dm →
    ∃ (d : Nat → DS) (val : Nat → AV) (al : Nat → Option AObj) (ef : Nat → Bool), d 0 = d0 ∧ d L.length = dm ∧ ∀ j o, L[j]? = some o → Stp call (id + j) (i + j) o (d j) (d (j + 1)) (val j) (al j) (ef j)
  | [], id, i, d0, dm, h => by
    simp [adraws] at h
    subst h
    exact ⟨fun _ => d0, fun _ => .tup [], fun _ => none, fun _ => false, rfl, rfl, by simp⟩
  | o :: L, id, i, d0, dm, h => by
    have hstep : ∃ d1 v al ef, Stp call id i o d0 d1 v al ef ∧ adraws call (id + 1) (i + 1) L d1 = some dm := by
      simp only [adraws] at h
      cases hw : wants d0.fr o.guard with
      | none => simp [hw] at h
      | some b =>
        cases b with
        | false => simp only [hw] at h; exact ⟨_, _, _, _, .off hw rfl, h⟩
        | true =>
          simp only [hw] at h
          cases ha : adop call id i o d0 with
          | none => simp [ha] at h
          | some d1 =>
            simp only [ha] at h
            obtain ⟨v, al, ef, hs⟩ := adop_stp hw ha
            exact ⟨d1, v, al, ef, hs, h⟩
    obtain ⟨d1, v, a0, e0, hs, h⟩ := hstep
    obtain ⟨d, val, al, ef, h1, h2, h3⟩ := adraws_trace h
    refine ⟨fun j => match j with | 0 => d0 | j + 1 => d j, fun j => match j with | 0 => v | j + 1 => val j, fun j => match j with | 0 => a0 | j + 1 => al j, fun j => match j with | 0 => e0 | j + 1 => ef j, rfl, h2, ?_⟩
    intro j o' ho
    cases j with
    | zero => simp at ho; subst ho; simp only [Nat.zero_add, Nat.add_zero]; rw [h1]; exact hs
    | succ j =>
      have := h3 j o' (by simpa using ho)
      have e1 : id + (j + 1) = id + 1 + j := by omega
      have e2 : i + (j + 1) = i + 1 + j := by omega
      rw [e1, e2]
      exact this

theorem flush_next (s : St) : ∀ l : List (Nat × AObj), (flush s l).next = s.next
  | [] => rfl
  | (id, o) :: l => by simp only [flush, St.put]; exact flush_next s l

structure Trace (call : CallF) (base : Nat) (L : List AOper) (d : Nat → DS) (val : Nat → AV) (al : Nat → Option AObj) (ef : Nat → Bool) : Prop where
  step : ∀ i o, L[i]? = some o → Stp call (base + i) i o (d i) (d (i + 1)) (val i) (al i) (ef i)
  ini : (d 0).pend = [] ∧ (d 0).effs = [] ∧ (d 0).rds = []
  keeps : KeepsF call
  next0 : base + L.length ≤ (d 0).s.next

structure TrP (base m : Nat) (d : Nat → DS) (al : Nat → Option AObj) (e : Nat) : Prop where
  pa : ∀ id o, (d e).s.objs.get id = some o → (flush (d e).s (d e).pend).objs.get id = some o
  pb : ∀ id o, (d e).s.objs.get id = none → (flush (d e).s (d e).pend).objs.get id = some o → ∃ i, i < e ∧ id = base + i ∧ al i = some o
  pc : ∀ i ob, i < e → al i = some ob → (flush (d e).s (d e).pend).objs.get (base + i) ≠ none
  pd : ∀ i, i < m → (e ≤ i ∨ al i = none) → (flush (d e).s (d e).pend).objs.get (base + i) = none
  pe : base + m ≤ (d e).s.next
  pf : Keeps base (d 0).s (flush (d e).s (d e).pend)

section
variable {call : CallF} {base : Nat} {L : List AOper} {d : Nat → DS} {val : Nat → AV} {al : Nat → Option AObj} {ef : Nat → Bool}

theorem trace_P (T : Trace call base L d val al ef) (none0 : ∀ i, i < L.length → (d 0).s.objs.get (base + i) = none) : ∀ e, e ≤ L.length → TrP base L.length d al e
  | 0, _ => by
    have hp := T.ini.1
    refine ⟨?_, ?_, ?_, ?_, T.next0, ?_⟩ <;> rw [hp]
    · intro id o h; exact h
    · intro id o h h2; simp only [flush] at h2; rw [h] at h2; simp at h2
    · intro i ob h; omega
    · intro i h _; exact none0 i h
    · exact Keeps.refl _ _
  | e + 1, he => by
    have IH := trace_P T none0 e (by omega)
    have ho : ∃ o, L[e]? = some o := ⟨L[e], by simp [List.getElem?_eq_getElem (show e < L.length by omega)]⟩
    obtain ⟨o, ho⟩ := ho
    have same : al e = none → (d (e + 1)).s = (d e).s → (d (e + 1)).pend = (d e).pend → TrP base L.length d al (e + 1) := by
      intro h0 h1 h2
      refine ⟨?_, ?_, ?_, ?_, ?_, ?_⟩ <;> rw [h1] <;> try rw [h2]
      · exact IH.pa
      · intro id o h3 h4
        obtain ⟨i, i1, i2, i3⟩ := IH.pb id o h3 h4
        exact ⟨i, by omega, i2, i3⟩
      · intro i ob h3 h4
        rcases Nat.lt_or_ge i e with h | h
        · exact IH.pc i ob h h4
        · have : i = e := by omega
          subst this
          rw [h0] at h4; simp at h4
      · intro i h3 h4
        refine IH.pd i h3 ?_
        rcases h4 with h4 | h4
        · left; omega
        · right; exact h4
      · exact IH.pe
      · exact IH.pf
    have st := T.step e o ho
    generalize hv : val e = v at st
    generalize ha : al e = aa at st
    generalize hef : ef e = ee at st
    cases st with
    | off hw hd => exact same ha (by rw [hd]) (by rw [hd])
    | p hw hp hv2 hd => exact same ha (by rw [hd]) (by rw [hd])
    | r hw hp hx hy hr hef2 hd => exact same ha (by rw [hd]) (by rw [hd])
    | @a p ob v2 hw hp hm hd =>
      have hs : (d (e + 1)).s = (d e).s := by rw [hd]
      have hpe : (d (e + 1)).pend = (base + e, ob) :: (d e).pend := by rw [hd]
      have hfree := IH.pd e (by omega) (.inl (Nat.le_refl _))
      refine ⟨?_, ?_, ?_, ?_, ?_, ?_⟩ <;> rw [hs] <;> try rw [hpe]
      · intro id o2 h
        have h2 := IH.pa id o2 h
        simp only [flush, St.put, Tr.get_set]
        rw [if_neg (fun e1 => by rw [e1, hfree] at h2; simp at h2)]
        exact h2
      · intro id o2 h1 h2
        simp only [flush, St.put, Tr.get_set] at h2
        by_cases e1 : id = base + e
        · rw [if_pos e1] at h2
          simp at h2
          exact ⟨e, by omega, e1, by rw [ha, h2]⟩
        · rw [if_neg e1] at h2
          obtain ⟨i, i1, i2, i3⟩ := IH.pb id o2 h1 h2
          exact ⟨i, by omega, i2, i3⟩
      · intro i ob2 h1 h2
        simp only [flush, St.put, Tr.get_set]
        by_cases e1 : base + i = base + e
        · rw [if_pos e1]; simp
        · rw [if_neg e1]; exact IH.pc i ob2 (by omega) h2
      · intro i h1 h2
        simp only [flush, St.put, Tr.get_set]
        rw [if_neg ?_]
        · refine IH.pd i h1 ?_
          rcases h2 with h2 | h2
          · left; omega
          · right; exact h2
        · intro e1
          have : i = e := by omega
          subst this
          rcases h2 with h2 | h2
          · omega
          · rw [ha] at h2; simp at h2
      · exact IH.pe
      · refine ⟨IH.pf.1, fun j => ⟨fun hj hn => ?_, fun hn => ?_⟩⟩
        · simp only [flush, St.put, Tr.get_set]
          rw [if_neg (by omega)]
          exact (IH.pf.2 j).1 hj hn
        · simp only [flush, St.put, Tr.get_set] at hn
          by_cases e1 : j = base + e
          · rw [if_pos e1] at hn; simp at hn
          · rw [if_neg e1] at hn; exact (IH.pf.2 j).2 hn
    | @e eo v2 s' hw hp hm hr hd =>
      have hs : (d (e + 1)).s = s' := by rw [hd]
      have hpe : (d (e + 1)).pend = [] := by rw [hd]
      have hk := aeff_keeps T.keeps hm
      rw [flush_next] at hk
      refine ⟨?_, ?_, ?_, ?_, ?_, ?_⟩ <;> rw [hs] <;> try rw [hpe]
      · intro id o2 h; exact h
      · intro id o2 h h2; simp only [flush] at h2; rw [h] at h2; simp at h2
      · intro i ob h1 h2 h3
        simp only [flush] at h3
        have hie : i < e := by
          rcases Nat.lt_or_ge i e with h | h
          · exact h
          · have : i = e := by omega
            subst this; rw [ha] at h2; simp at h2
        exact IH.pc i ob hie h2 ((hk.2 _).2 h3)
      · intro i h1 h2
        simp only [flush]
        have he := IH.pe
        refine (hk.2 _).1 (by omega) (IH.pd i h1 ?_)
        rcases h2 with h2 | h2
        · left; omega
        · right; exact h2
      · have h1 := IH.pe
        have h2 := hk.1
        rw [flush_next] at h2
        omega
      · simp only [flush]
        have he := IH.pe
        exact IH.pf.trans (hk.mono (by omega))

/-- The slots after some of the operations. -/
noncomputable def GT (L : List AOper) (d : Nat → DS) (val : Nat → AV) (D : Nat → Bool) : Nat → Fr
  | 0 => (d 0).fr
  | k + 1 => bif D k then putO (GT L d val D k) ((L[k]?).bind (·.dst)) (val k) else GT L d val D k

theorem stp_fr {id i : Nat} {o : AOper} {d d' : DS} {v : AV} {aa : Option AObj} {b : Bool} (h : Stp call id i o d d' v aa b) : d'.fr = putO d.fr o.dst v := by
  cases h <;> rename_i hd <;> rw [hd]

theorem trace_fr (T : Trace call base L d val al ef) : ∀ k, k ≤ L.length → (d k).fr = GT L d val (fun _ => true) k
  | 0, _ => rfl
  | k + 1, hk => by
    have ho : L[k]? = some L[k] := by simp [List.getElem?_eq_getElem (show k < L.length by omega)]
    rw [stp_fr (T.step k _ ho), trace_fr T k (by omega)]
    simp only [GT, cond_true, ho, Option.bind_some]

theorem putO_get {fr : Fr} {dst : Option Nat} {v : AV} {t : Nat} : (putO fr dst v).get t = if dst = some t then some v else fr.get t := by
  cases dst with
  | none => simp [putO]
  | some x =>
    simp only [putO, Tr.get_set]
    by_cases h : t = x
    · subst h; simp
    · rw [if_neg h, if_neg (fun e => h (Option.some.inj e).symm)]

theorem GT_drop {D : Nat → Bool} {t j : Nat} : ∀ k, j ≤ k → (∀ i, j ≤ i → i < k → (L[i]?).bind (·.dst) = some t → D i = false) → (GT L d val D k).get t = (GT L d val D j).get t
  | 0, h, _ => by have : j = 0 := by omega
                  rw [this]
  | k + 1, h, hD => by
    rcases Nat.lt_or_ge k j with hk | hk
    · have : j = k + 1 := by omega
      rw [this]
    · have ih := GT_drop k hk fun i h1 h2 h3 => hD i h1 (by omega) h3
      simp only [GT]
      cases hb : D k with
      | false => simp only [cond_false]; exact ih
      | true =>
        simp only [cond_true, putO_get]
        rw [if_neg (fun e => by have := hD k hk (by omega) e; rw [hb] at this; simp at this)]
        exact ih

theorem GT_same {D E : Nat → Bool} {t : Nat} : ∀ k, (∀ i, i < k → (L[i]?).bind (·.dst) = some t → D i = E i) → (GT L d val D k).get t = (GT L d val E k).get t
  | 0, _ => rfl
  | k + 1, h => by
    have ih := GT_same k fun i h1 h2 => h i (by omega) h2
    simp only [GT]
    by_cases ht : (L[k]?).bind (·.dst) = some t
    · rw [h k (by omega) ht]
      cases E k <;> simp [putO_get, ht, ih]
    · cases D k <;> cases E k <;> simp [putO_get, ht, ih]

/-- What an operation reads is what it reads in the order of the text. -/
theorem GT_at {D : Nat → Bool} {t j m : Nat} (hj : j ≤ m) (h1 : ∀ i, i < j → (L[i]?).bind (·.dst) = some t → D i = true) (h2 : ∀ i, j ≤ i → i < m → (L[i]?).bind (·.dst) = some t → D i = false) :
    (GT L d val D m).get t = (GT L d val (fun _ => true) j).get t := by
  rw [GT_drop m hj h2]
  exact GT_same j h1

theorem GT_put {D : Nat → Bool} {j m t : Nat} (hj : j < m) (h2 : ∀ i t, j < i → i < m → (L[i]?).bind (·.dst) = some t → (L[j]?).bind (·.dst) = some t → D i = false) :
    (GT L d val (fun i => D i || i == j) m).get t = if (L[j]?).bind (·.dst) = some t then some (val j) else (GT L d val D m).get t := by
  by_cases ht : (L[j]?).bind (·.dst) = some t
  · rw [if_pos ht]
    have : (GT L d val (fun i => D i || i == j) m).get t = (GT L d val (fun i => D i || i == j) (j + 1)).get t := by
      refine GT_drop m (by omega) ?_
      intro i h3 h4 h5
      have := h2 i t (by omega) h4 h5 ht
      simp [this]
      omega
    rw [this]
    simp [GT, putO_get, ht]
  · rw [if_neg ht]
    refine GT_same m ?_
    intro i h3 h4
    have : (i == j) = false := by
      simp
      intro e
      subst e
      exact ht h4
    simp [this]

/-! The logs. -/
theorem effsOk_mem {pre : Nat} {k : RK} {x y v : AV} : ∀ {l : List (Nat × St)} {i : Nat} {s : St}, effsOk pre k x y v l = true → (i, s) ∈ l → Nat.testBit pre i = true ∨ aread k x y s = some v
  | [], i, s, h, hm => by simp at hm
  | (j, s1) :: l, i, s, h, hm => by
    simp only [effsOk, Bool.and_eq_true, Bool.or_eq_true] at h
    rcases List.mem_cons.1 hm with hm | hm
    · cases hm
      rcases h.1 with h1 | h1
      · exact .inl h1
      · exact .inr (osame_eq h1)
    · exact effsOk_mem h.2 hm

theorem readsOk_mem {pre : Nat} {s : St} : ∀ {l : List Rd} {r : Rd}, readsOk pre s l = true → r ∈ l → Nat.testBit pre r.i = true ∨ aread r.k r.x r.y s = some r.v
  | [], r, h, hm => by simp at hm
  | q :: l, r, h, hm => by
    simp only [readsOk, Bool.and_eq_true, Bool.or_eq_true] at h
    rcases List.mem_cons.1 hm with hm | hm
    · cases hm
      rcases h.1 with h1 | h1
      · exact .inl h1
      · exact .inr (osame_eq h1)
    · exact readsOk_mem h.2 hm

theorem trace_effs (T : Trace call base L d val al ef) {i : Nat} (hef : ef i = true) : ∀ j, i < j → j ≤ L.length → (i, (d i).s) ∈ (d j).effs
  | 0, h, _ => by omega
  | j + 1, h, hj => by
    have ho : L[j]? = some L[j] := by simp [List.getElem?_eq_getElem (show j < L.length by omega)]
    have st := T.step j _ ho
    rcases Nat.lt_or_ge i j with hij | hij
    · have ih := trace_effs T hef j hij (by omega)
      generalize hv : val j = v at st
      generalize ha : al j = aa at st
      generalize hee : ef j = ee at st
      cases st with
      | off hw hd => rw [hd]; exact ih
      | p hw hp hv2 hd => rw [hd]; exact ih
      | r hw hp hx hy hr hef2 hd => rw [hd]; exact ih
      | a hw hp hm hd => rw [hd]; exact ih
      | e hw hp hm hr hd => rw [hd]; exact List.mem_cons_of_mem _ ih
    · have : i = j := by omega
      subst this
      generalize hv : val i = v at st
      generalize ha : al i = aa at st
      rw [hef] at st
      cases st with
      | e hw hp hm hr hd => rw [hd]; exact List.mem_cons_self ..

theorem trace_rds (T : Trace call base L d val al ef) {i : Nat} {r : Rd} (hr : r ∈ (d (i + 1)).rds) : ∀ j, i < j → j ≤ L.length → r ∈ (d j).rds
  | 0, h, _ => by omega
  | j + 1, h, hj => by
    rcases Nat.lt_or_ge i j with hij | hij
    · have ih := trace_rds T hr j hij (by omega)
      have ho : L[j]? = some L[j] := by simp [List.getElem?_eq_getElem (show j < L.length by omega)]
      have st := T.step j _ ho
      generalize hv : val j = v at st
      generalize ha : al j = aa at st
      generalize hee : ef j = ee at st
      cases st with
      | off hw hd => rw [hd]; exact ih
      | p hw hp hv2 hd => rw [hd]; exact ih
      | r hw hp hx hy hr hef2 hd => rw [hd]; exact List.mem_cons_of_mem _ ih
      | a hw hp hm hd => rw [hd]; exact ih
      | e hw hp hm hr hd => rw [hd]; exact ih
    · have : i = j := by omega
      subst this
      exact hr

theorem trace_s (T : Trace call base L d val al ef) {e : Nat} : ∀ e', e ≤ e' → e' ≤ L.length → (∀ i, e ≤ i → i < e' → ef i = false) → (d e').s = (d e).s
  | 0, h, _, _ => by have : e = 0 := by omega
                     rw [this]
  | j + 1, h, hj, hn => by
    rcases Nat.lt_or_ge j e with hij | hij
    · have : e = j + 1 := by omega
      rw [this]
    · have ih := trace_s T j hij (by omega) fun i h1 h2 => hn i h1 (by omega)
      have ho : L[j]? = some L[j] := by simp [List.getElem?_eq_getElem (show j < L.length by omega)]
      have st := T.step j _ ho
      have hf := hn j hij (by omega)
      generalize hv : val j = v at st
      generalize ha : al j = aa at st
      rw [hf] at st
      cases st with
      | off hw hd => rw [hd]; exact ih
      | p hw hp hv2 hd => rw [hd]; exact ih
      | r hw hp hx hy hr hef2 hd => rw [hd]; exact ih
      | a hw hp hm hd => rw [hd]; exact ih
end
end Go.Abs
