/- A drawn region goes as in the order of the text. -/
import Derived.Test.YtggpnokhhpnnaaaAbsDraw2
set_option autoImplicit false
set_option linter.unusedSimpArgs false
set_option linter.unusedVariables false
namespace Go.Abs
open Go Go.RowKit

section
variable {call : CallF} {base : Nat} {L : List AOper} {d : Nat → DS} {val : Nat → AV} {al : Nat → Option AObj} {ef : Nat → Bool}

theorem trace_K (T : Trace call base L d val al ef) : ∀ e, e ≤ L.length → base + L.length ≤ (d e).s.next ∧ Keeps base (d 0).s (flush (d e).s (d e).pend)
  | 0, _ => by
    refine ⟨T.next0, ?_⟩
    rw [T.ini.1]
    exact Keeps.refl _ _
  | e + 1, he => by
    obtain ⟨IH1, IH2⟩ := trace_K T e (by omega)
    have ho : L[e]? = some L[e] := by simp [List.getElem?_eq_getElem (show e < L.length by omega)]
    have st := T.step e _ ho
    generalize hv : val e = v at st
    generalize ha : al e = aa at st
    generalize hef : ef e = ee at st
    cases st with
    | off hw hd => rw [hd]; exact ⟨IH1, IH2⟩
    | p hw hp hv2 hd => rw [hd]; exact ⟨IH1, IH2⟩
    | r hw hp hx hy hr hef2 hd => rw [hd]; exact ⟨IH1, IH2⟩
    | @a p ob v2 hw hp hm hd =>
      rw [hd]
      refine ⟨IH1, IH2.1, fun j => ⟨fun hj hn => ?_, fun hn => ?_⟩⟩
      · simp only [flush, St.put, Tr.get_set]
        rw [if_neg (by omega)]
        exact (IH2.2 j).1 hj hn
      · simp only [flush, St.put, Tr.get_set] at hn
        by_cases e1 : j = base + e
        · rw [if_pos e1] at hn; simp at hn
        · rw [if_neg e1] at hn; exact (IH2.2 j).2 hn
    | @e eo v2 s' hw hp hm hr hd =>
      have hk := aeff_keeps T.keeps hm
      rw [flush_next] at hk
      rw [hd]
      refine ⟨?_, IH2.trans (hk.mono (by omega))⟩
      have h2 := hk.1
      rw [flush_next] at h2
      simp only
      omega

theorem least (ef : Nat → Bool) (e : Nat) : ∀ j, (∀ i, e ≤ i → i < j → ef i = false) ∨ ∃ i, e ≤ i ∧ i < j ∧ ef i = true ∧ ∀ k, e ≤ k → k < i → ef k = false
  | 0 => .inl fun i _ h => by omega
  | j + 1 => by
    rcases least ef e j with h | ⟨i, h1, h2, h3, h4⟩
    · by_cases hj : e ≤ j ∧ ef j = true
      · exact .inr ⟨j, hj.1, by omega, hj.2, h⟩
      · refine .inl fun i h1 h2 => ?_
        rcases Nat.lt_or_ge i j with h3 | h3
        · exact h i h1 h3
        · have : i = j := by omega
          subst this
          cases hq : ef i with
          | false => rfl
          | true => exact absurd ⟨h1, hq⟩ hj
    · exact .inr ⟨i, h1, by omega, h3, h4⟩

theorem greatest (ef : Nat → Bool) (e : Nat) : ∀ j, (∀ i, e ≤ i → i < j → ef i = false) ∨ ∃ i, e ≤ i ∧ i < j ∧ ef i = true ∧ ∀ k, i < k → k < j → ef k = false
  | 0 => .inl fun i _ h => by omega
  | j + 1 => by
    by_cases hj : e ≤ j ∧ ef j = true
    · exact .inr ⟨j, hj.1, by omega, hj.2, fun k h1 h2 => by omega⟩
    · have hj2 : e ≤ j → ef j = false := fun h => by
        cases hq : ef j with
        | false => rfl
        | true => exact absurd ⟨h, hq⟩ hj
      rcases greatest ef e j with h | ⟨i, h1, h2, h3, h4⟩
      · refine .inl fun i h1 h2 => ?_
        rcases Nat.lt_or_ge i j with h3 | h3
        · exact h i h1 h3
        · have : i = j := by omega
          subst this
          exact hj2 h1
      · refine .inr ⟨i, h1, by omega, h3, fun k h5 h6 => ?_⟩
        rcases Nat.lt_or_ge k j with h7 | h7
        · exact h4 k h5 h7
        · have : k = j := by omega
          subst this
          exact hj2 (by omega)

/-! What the checks of the text say. -/
theorem pair_hit {i : Nat} {o p : AOper} (h : pairOk i o p = true) (hh : o.hits p = true ∨ p.hits o = true) : Nat.testBit p.pre i = true := by
  unfold pairOk at h
  rcases hh with hh | hh <;> simp [hh] at h <;> exact h

theorem pair_eff {i : Nat} {o p : AOper} (h : pairOk i o p = true) (h1 : o.op.isE = true ∨ o.op.isA = true) (h2 : p.op.isE = true) : Nat.testBit p.pre i = true := by
  unfold pairOk at h
  rcases h1 with h1 | h1 <;> simp [h1, h2] at h <;> exact h

theorem rowOk_get {i : Nat} {o : AOper} : ∀ {l : List AOper} {j : Nat} {p : AOper}, rowOk i o l = true → l[j]? = some p → pairOk i o p = true
  | [], j, p, _, h => by simp at h
  | q :: l, 0, p, h, hj => by simp at hj; subst hj; simp only [rowOk, Bool.and_eq_true] at h; exact h.1
  | q :: l, j + 1, p, h, hj => by simp only [rowOk, Bool.and_eq_true] at h; exact rowOk_get h.2 (by simpa using hj)

theorem drawOk_pair : ∀ {l : List AOper} {k i j : Nat} {o p : AOper}, drawOk k l = true → l[i]? = some o → l[j]? = some p → i < j → pairOk (k + i) o p = true
  | [], k, i, j, o, p, _, h, _, _ => by simp at h
  | q :: l, k, 0, j, o, p, h, hi, hj, hij => by
    simp at hi
    subst hi
    simp only [drawOk, Bool.and_eq_true] at h
    cases j with
    | zero => omega
    | succ j => exact rowOk_get h.1.2 (by simpa using hj)
  | q :: l, k, i + 1, j, o, p, h, hi, hj, hij => by
    simp only [drawOk, Bool.and_eq_true] at h
    cases j with
    | zero => omega
    | succ j =>
      have := drawOk_pair h.2 (by simpa using hi) (by simpa using hj) (by omega : i < j)
      have e : k + 1 + i = k + (i + 1) := by omega
      rw [e] at this
      exact this

theorem compOpers_get {P : Program} {ops : Array Oper} : ∀ {l : List Oper} {pres : List Nat} {r : List AOper}, compOpers P ops l pres = some r → r.length = l.length ∧ ∀ j op, l[j]? = some op →
    ∃ o, r[j]? = some o ∧ o.dst = op.dst ∧ compOp P op.op = some o.op ∧ compGuard ops op.guard = some o.guard ∧ o.pre = preOf (pres ++ (r.take j).map (·.pre)) op
  | [], pres, r, h => by simp [compOpers] at h; subst h; exact ⟨rfl, by simp⟩
  | op :: l, pres, r, h => by
    simp only [compOpers] at h
    cases h1 : compOp P op.op with
    | none => simp [h1] at h
    | some ao =>
      cases h2 : compGuard ops op.guard with
      | none => simp [h1, h2] at h
      | some g =>
        simp only [h1, h2] at h
        cases h3 : compOpers P ops l (pres ++ [preOf pres op]) with
        | none => simp [h3] at h
        | some l' =>
          simp [h3] at h
          subst h
          obtain ⟨k1, k2⟩ := compOpers_get h3
          refine ⟨by simp [k1], ?_⟩
          intro j op' hj
          cases j with
          | zero =>
            simp at hj
            subst hj
            exact ⟨_, rfl, rfl, h1, h2, by simp⟩
          | succ j =>
            obtain ⟨o, q1, q2, q3, q4, q5⟩ := k2 j op' (by simpa using hj)
            refine ⟨o, by simpa using q1, q2, q3, q4, ?_⟩
            rw [q5]
            simp

/-- The objects made so far are there. -/
noncomputable def XD (X : Nat → Option AObj) (base : Nat) (al : Nat → Option AObj) (D : Nat → Bool) : Nat → Option AObj := fun id =>
  if base ≤ id then match al (id - base) with
    | some ob => if D (id - base) = true then some ob else X id
    | none => X id
  else X id

theorem XD_at {X : Nat → Option AObj} {D : Nat → Bool} {i : Nat} {ob : AObj} (h : al i = some ob) (hd : D i = true) : XD X base al D (base + i) = some ob := by
  unfold XD
  rw [if_pos (by omega)]
  have : base + i - base = i := by omega
  rw [this, h]
  simp [hd]

theorem XD_off {X : Nat → Option AObj} {D : Nat → Bool} {i : Nat} (hd : D i = false) : XD X base al D (base + i) = X (base + i) := by
  unfold XD
  rw [if_pos (by omega)]
  have : base + i - base = i := by omega
  rw [this]
  split <;> simp [hd]

theorem XD_none {X : Nat → Option AObj} {D : Nat → Bool} {i : Nat} (h : al i = none) : XD X base al D (base + i) = X (base + i) := by
  unfold XD
  rw [if_pos (by omega)]
  have : base + i - base = i := by omega
  rw [this, h]

theorem XD_low {X : Nat → Option AObj} {D : Nat → Bool} {id : Nat} (h : id < base) : XD X base al D id = X id := by
  unfold XD
  rw [if_neg (by omega)]

theorem XD_add_none {X : Nat → Option AObj} {D : Nat → Bool} {j : Nat} (h : al j = none) : XD X base al (fun i => D i || i == j) = XD X base al D := by
  funext id
  rcases Nat.lt_or_ge id base with hl | hl
  · rw [XD_low hl, XD_low hl]
  · obtain ⟨i, rfl⟩ : ∃ i, id = base + i := ⟨id - base, by omega⟩
    by_cases hij : i = j
    · subst hij; rw [XD_none h, XD_none h]
    · cases hd : D i with
      | true =>
        cases ha : al i with
        | none => rw [XD_none ha, XD_none ha]
        | some ob => rw [XD_at ha (by simp [hd]), XD_at ha hd]
      | false => rw [XD_off (by simp [hd, hij]), XD_off hd]

theorem XD_add {X : Nat → Option AObj} {D : Nat → Bool} {j : Nat} {ob : AObj} {s : St} (h : al j = some ob) (hs : s.objs.get (base + j) = none) : upd (s.view (XD X base al D)) (base + j) ob = s.view (XD X base al (fun i => D i || i == j)) := by
  funext id
  unfold upd
  by_cases he : id = base + j
  · rw [if_pos he]
    subst he
    simp only [St.view, hs]
    rw [XD_at h (by simp)]
  · rw [if_neg he]
    simp only [St.view]
    cases s.objs.get id with
    | some o => rfl
    | none =>
      simp only
      rcases Nat.lt_or_ge id base with hl | hl
      · rw [XD_low hl, XD_low hl]
      · obtain ⟨i, rfl⟩ : ∃ i, id = base + i := ⟨id - base, by omega⟩
        have hij : i ≠ j := fun e => he (by rw [e])
        cases hd : D i with
        | true =>
          cases ha : al i with
          | none => rw [XD_none ha, XD_none ha]
          | some ob2 => rw [XD_at ha hd, XD_at ha (by simp [hd])]
        | false => rw [XD_off hd, XD_off (by simp [hd, hij])]
end

/-- All that is given of a drawn region. -/
structure Dr (P : Program) (call : CallF) (base n : Nat) (ops : Array Oper) (L : List AOper) (d : Nat → DS) (val : Nat → AV) (al : Nat → Option AObj) (ef : Nat → Bool) (X : Nat → Option AObj) : Prop where
  snd : Sound P call
  T : Trace call base L d val al ef
  comp : compOpers P ops ops.toList [] = some L
  dst : dstsOk n L = true
  ok : drawOk 0 L = true
  non : ∀ i, i < L.length → (d 0).s.objs.get (base + i) = none
  X0 : ∀ i, i < L.length → X (base + i) = none

structure Inv (L : List AOper) (base n : Nat) (d : Nat → DS) (val : Nat → AV) (al : Nat → Option AObj) (ef : Nat → Bool) (X : Nat → Option AObj) (ι : IM) (w0 : World) (a0 : Act) (D : Nat → Bool) (κ : IM) (e : Nat) (a : Act) (w : World) : Prop where
  lt : ∀ i, D i = true → i < L.length
  cl : ∀ j o i, L[j]? = some o → D j = true → Nat.testBit o.pre i = true → D i = true
  cut : e ≤ L.length ∧ (∀ i, i < e → ef i = true → D i = true) ∧ (∀ i, e ≤ i → i < L.length → ef i = true → D i = false)
  le : ι.le κ
  fr : FR κ w0 (GT L d val D L.length) a
  sr : SR κ w0 ((d e).s.view (XD X base al D)) (d e).s.next w
  size : a.tmps.size = a0.tmps.size
  dfr : a.defers = a0.defers

section
variable {P : Program} {call : CallF} {base n : Nat} {ops : Array Oper} {L : List AOper} {d : Nat → DS} {val : Nat → AV} {al : Nat → Option AObj} {ef : Nat → Bool} {X : Nat → Option AObj} {ι : IM} {w0 : World} {a0 : Act}

theorem stp_alA {id i : Nat} {o : AOper} {d d' : DS} {v : AV} {ob : AObj} {b : Bool} (h : Stp call id i o d d' v (some ob) b) : o.op.isA = true ∧ b = false := by
  cases h
  rename_i h1 _ _ _
  exact ⟨by simp_all [AOp.isA], rfl⟩

theorem stp_efE {id i : Nat} {o : AOper} {d d' : DS} {v : AV} {aa : Option AObj} (h : Stp call id i o d d' v aa true) : o.op.isE = true ∧ aa = none := by
  cases h
  rename_i h1 _ _ _ _
  exact ⟨by simp_all [AOp.isE], rfl⟩

theorem get_of_lt {i : Nat} (h : i < L.length) : ∃ o, L[i]? = some o := ⟨L[i], by simp [List.getElem?_eq_getElem h]⟩

/-- What an operation reads, and what stands before and behind it. -/
theorem inv_uses (R : Dr P call base n ops L d val al ef X) {D : Nat → Bool} {κ : IM} {e : Nat} {a : Act} {w : World} (I : Inv L base n d val al ef X ι w0 a0 D κ e a w) {j : Nat} {o : AOper} (ho : L[j]? = some o) (hD : D j = false)
    (hp : ∀ i, Nat.testBit o.pre i = true → D i = true) : ∀ t, t ∈ o.uses → (GT L d val D L.length).get t = (d j).fr.get t := by
  intro t ht
  have hj : j < L.length := (List.getElem?_eq_some_iff.1 ho).1
  rw [trace_fr R.T j (by omega)]
  refine GT_at (by omega) ?_ ?_
  · intro i hi hd
    obtain ⟨q, hq⟩ := get_of_lt (L := L) (show i < L.length by omega)
    rw [hq] at hd
    simp at hd
    have hpr := drawOk_pair R.ok hq ho hi
    rw [Nat.zero_add] at hpr
    refine hp i (pair_hit hpr (.inl ?_))
    unfold AOper.hits
    rw [hd]
    simp [ht]
  · intro i hi him hd
    rcases Nat.lt_or_ge j i with hji | hji
    · obtain ⟨q, hq⟩ := get_of_lt (L := L) him
      rw [hq] at hd
      simp at hd
      have hpr := drawOk_pair R.ok ho hq hji
      rw [Nat.zero_add] at hpr
      have := pair_hit hpr (.inr (by unfold AOper.hits; rw [hd]; simp [ht]))
      cases hDi : D i with
      | false => rfl
      | true =>
        have := I.cl i q j hq hDi this
        rw [hD] at this; simp at this
    · have : i = j := by omega
      subst this
      exact hD

theorem inv_later (R : Dr P call base n ops L d val al ef X) {D : Nat → Bool} {κ : IM} {e : Nat} {a : Act} {w : World} (I : Inv L base n d val al ef X ι w0 a0 D κ e a w) {j : Nat} {o : AOper} (ho : L[j]? = some o) (hD : D j = false) :
    ∀ i t, j < i → i < L.length → (L[i]?).bind (·.dst) = some t → (L[j]?).bind (·.dst) = some t → D i = false := by
  intro i t hji him h1 h2
  obtain ⟨q, hq⟩ := get_of_lt (L := L) him
  rw [hq] at h1
  rw [ho] at h2
  simp at h1 h2
  have hpr := drawOk_pair R.ok ho hq hji
  rw [Nat.zero_add] at hpr
  have := pair_hit hpr (.inl (by unfold AOper.hits; rw [h2]; simp [h1]))
  cases hDi : D i with
  | false => rfl
  | true =>
    have := I.cl i q j hq hDi this
    rw [hD] at this; simp at this

theorem inv_free (R : Dr P call base n ops L d val al ef X) {D : Nat → Bool} {κ : IM} {e : Nat} {a : Act} {w : World} (I : Inv L base n d val al ef X ι w0 a0 D κ e a w) {j : Nat} {o : AOper} (ho : L[j]? = some o) (hD : D j = false) :
    (d e).s.objs.get (base + j) = none := by
  have hj : j < L.length := (List.getElem?_eq_some_iff.1 ho).1
  have get0 : ∀ k, k ≤ L.length → (k ≤ j ∨ al j = none) → (d k).s.objs.get (base + j) = none := by
    intro k hk hh
    have TP := trace_P R.T R.non k hk
    have := TP.pd j hj hh
    cases hq : (d k).s.objs.get (base + j) with
    | none => rfl
    | some ob => rw [TP.pa _ _ hq] at this; simp at this
  cases ha : al j with
  | none => exact get0 e I.cut.1 (.inr ha)
  | some ob =>
    rcases Nat.lt_or_ge j e with hje | hje
    · have st := R.T.step j o ho
      rw [ha] at st
      obtain ⟨hA, hef⟩ := stp_alA st
      have hno : ∀ i, j ≤ i → i < e → ef i = false := by
        intro i h1 h2
        rcases Nat.lt_or_ge j i with h3 | h3
        · cases hfi : ef i with
          | false => rfl
          | true =>
            obtain ⟨q, hq⟩ := get_of_lt (L := L) (show i < L.length by have := I.cut.1; omega)
            have st2 := R.T.step i q hq
            rw [hfi] at st2
            have hpr := drawOk_pair R.ok ho hq h3
            rw [Nat.zero_add] at hpr
            have := I.cl i q j hq (I.cut.2.1 i h2 hfi) (pair_eff hpr (.inr hA) (stp_efE st2).1)
            rw [hD] at this; simp at this
        · have : i = j := by omega
          subst this
          exact hef
      rw [trace_s R.T e (by omega) I.cut.1 hno]
      exact get0 j (by omega) (.inl (Nat.le_refl _))
    · exact get0 e I.cut.1 (.inl hje)

theorem inv_step (R : Dr P call base n ops L d val al ef X) {D : Nat → Bool} {κ κ' : IM} {e e' : Nat} {a : Act} {w w' : World} (I : Inv L base n d val al ef X ι w0 a0 D κ e a w) {j : Nat} {o : AOper} (ho : L[j]? = some o) (hD : D j = false)
    (hp : ∀ i, Nat.testBit o.pre i = true → D i = true) (hn : n ≤ a0.tmps.size) {v' : Value} (hl : κ.le κ') (hv : rel κ' w0 (val j) v') (hs : SR κ' w0 ((d e').s.view (XD X base al (fun i => D i || i == j))) (d e').s.next w')
    (hc : e' ≤ L.length ∧ (∀ i, i < e' → ef i = true → (D i || i == j) = true) ∧ (∀ i, e' ≤ i → i < L.length → ef i = true → (D i || i == j) = false)) :
    Inv L base n d val al ef X ι w0 a0 (fun i => D i || i == j) κ' e' (a.put o.dst v') w' := by
  have hj : j < L.length := (List.getElem?_eq_some_iff.1 ho).1
  refine ⟨?_, ?_, hc, IM.le_trans I.le hl, ?_, hs, ?_, ?_⟩
  · intro i hi
    simp at hi
    rcases hi with hi | hi
    · exact I.lt i hi
    · omega
  · intro i q k hq hi hk
    simp at hi
    rcases hi with hi | hi
    · simp [I.cl i q k hq hi hk]
    · subst hi
      rw [ho] at hq
      cases hq
      simp [hp k hk]
  · have hsz : ∀ t, o.dst = some t → t < a.tmps.size := by
      intro t ht
      have hd := R.dst
      simp only [dstsOk, List.all_eq_true] at hd
      have := hd o (List.mem_of_getElem? ho)
      rw [ht] at this
      exact Nat.lt_of_lt_of_le (blt_lt this) (by rw [I.size]; exact hn)
    have hF := FR_put (FR_mono hl I.fr) hv hsz
    intro t v hg
    refine hF t v ?_
    rw [GT_put hj (inv_later R I ho hD)] at hg
    rw [putO_get, ← hg]
    simp [ho]
  · rw [put_size]; exact I.size
  · rw [put_defers]; exact I.dfr
end
end Go.Abs
