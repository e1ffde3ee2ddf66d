/- A drawn region, one operation at a time, in whichever order. -/
import Derived.Test.YtggpnokhhpnnaaaAbsDraw3
set_option autoImplicit false
set_option linter.unusedSimpArgs false
set_option linter.unusedVariables false
namespace Go.Abs
open Go Go.RowKit

section
variable {P : Program} {call : CallF} {base n : Nat} {ops : Array Oper} {L : List AOper} {d : Nat → DS} {val : Nat → AV} {al : Nat → Option AObj} {ef : Nat → Bool} {X : Nat → Option AObj} {ι : IM} {w0 : World} {a0 : Act}

theorem upd_tmps_p {o : AOper} {p : POp} (h : o.op = .p p) : ∀ t, t ∈ p.tmps → t ∈ o.uses := by
  intro t ht; unfold AOper.uses; rw [h]; simp [AOp.tmps, ht]
theorem upd_tmps_a {o : AOper} {p : LOp} (h : o.op = .a p) : ∀ t, t ∈ p.tmps → t ∈ o.uses := by
  intro t ht; unfold AOper.uses; rw [h]; simp [AOp.tmps, ht]
theorem upd_tmps_e {o : AOper} {p : EOp} (h : o.op = .e p) : ∀ t, t ∈ p.tmps → t ∈ o.uses := by
  intro t ht; unfold AOper.uses; rw [h]; simp [AOp.tmps, ht]

/-- The read that was made in the text is made now. -/
theorem inv_read (R : Dr P call base n ops L d val al ef X) {D : Nat → Bool} {κ : IM} {e : Nat} {a : Act} {w : World} (I : Inv L base n d val al ef X ι w0 a0 D κ e a w) {j : Nat} {o : AOper} (ho : L[j]? = some o) (hD : D j = false)
    (hp : ∀ i, Nat.testBit o.pre i = true → D i = true) {k : RK} {xv yv v : AV} (hr : aread k xv yv (d j).s = some v) (hok : effsOk o.pre k xv yv v (d j).effs = true) (hrd : (⟨j, k, xv, yv, v⟩ : Rd) ∈ (d (j + 1)).rds) (hef : ef j = false) :
    aread k xv yv (d e).s = some v := by
  have hj : j < L.length := (List.getElem?_eq_some_iff.1 ho).1
  rcases Nat.lt_or_ge j e with hje | hje
  · rcases greatest ef j e with h | ⟨i, h1, h2, h3, h4⟩
    · rw [trace_s R.T e (by omega) I.cut.1 h]; exact hr
    · have hij : j < i := by
        rcases Nat.lt_or_ge j i with h | h
        · exact h
        · have : i = j := by omega
          subst this; rw [hef] at h3; simp at h3
      have hi : i < L.length := by have := I.cut.1; omega
      obtain ⟨q, hq⟩ := get_of_lt (L := L) hi
      have st := R.T.step i q hq
      have hmem := trace_rds R.T hrd i hij (by omega)
      have hsi : (d e).s = (d (i + 1)).s := trace_s R.T e (by omega) I.cut.1 fun k h5 h6 => h4 k (by omega) h6
      have hnp : ¬ Nat.testBit q.pre j = true := fun h => by
        have := I.cl i q j hq (I.cut.2.1 i h2 h3) h
        rw [hD] at this; simp at this
      rw [h3] at st
      generalize hv : val i = v2 at st
      generalize ha : al i = aa at st
      cases st with
      | e hw hp2 hm hro hd =>
        rw [hsi, hd]
        exact (readsOk_mem hro hmem).resolve_left hnp
  · rcases least ef e j with h | ⟨i, h1, h2, h3, h4⟩
    · rw [← trace_s R.T j hje (by omega) h]; exact hr
    · have hsi : (d i).s = (d e).s := trace_s R.T i h1 (by omega) h4
      rw [← hsi]
      refine (effsOk_mem hok (trace_effs R.T h3 j h2 (by omega))).resolve_left ?_
      intro h
      have := I.cut.2.2 i h1 (by omega) h3
      rw [hp i h] at this; simp at this

/-- The next effect finds the store of the text. -/
theorem inv_eff (R : Dr P call base n ops L d val al ef X) {D : Nat → Bool} {κ : IM} {e : Nat} {a : Act} {w : World} (I : Inv L base n d val al ef X ι w0 a0 D κ e a w) {j : Nat} {o : AOper} (ho : L[j]? = some o) (hD : D j = false)
    (hp : ∀ i, Nat.testBit o.pre i = true → D i = true) (hef : ef j = true) : e ≤ j ∧ (d j).s = (d e).s ∧ (∀ i, e ≤ i → i < j → ef i = false) ∧
    (d e).s.view (XD X base al D) = (flush (d j).s (d j).pend).view (XD X base al D) := by
  have hj : j < L.length := (List.getElem?_eq_some_iff.1 ho).1
  have st := R.T.step j o ho
  rw [hef] at st
  have hE := (stp_efE st).1
  have hej : e ≤ j := by
    rcases Nat.lt_or_ge j e with h | h
    · have := I.cut.2.1 j h hef
      rw [hD] at this; simp at this
    · exact h
  have hno : ∀ i, e ≤ i → i < j → ef i = false := by
    intro i h1 h2
    cases hfi : ef i with
    | false => rfl
    | true =>
      obtain ⟨q, hq⟩ := get_of_lt (L := L) (show i < L.length by omega)
      have st2 := R.T.step i q hq
      rw [hfi] at st2
      have hpr := drawOk_pair R.ok hq ho h2
      rw [Nat.zero_add] at hpr
      have h3 := hp i (pair_eff hpr (.inl (stp_efE st2).1) hE)
      have := I.cut.2.2 i h1 (by omega) hfi
      rw [h3] at this; simp at this
  have hs := trace_s R.T j hej (by omega) hno
  refine ⟨hej, hs, hno, ?_⟩
  rw [← hs]
  have TP := trace_P R.T R.non j (by omega)
  funext id
  simp only [St.view]
  cases h1 : (d j).s.objs.get id with
  | some ob => rw [TP.pa _ _ h1]
  | none =>
    simp only
    cases h2 : (flush (d j).s (d j).pend).objs.get id with
    | none => rfl
    | some ob =>
      obtain ⟨i, i1, rfl, i3⟩ := TP.pb id ob h1 h2
      obtain ⟨q, hq⟩ := get_of_lt (L := L) (show i < L.length by omega)
      have st2 := R.T.step i q hq
      rw [i3] at st2
      have hpr := drawOk_pair R.ok hq ho i1
      rw [Nat.zero_add] at hpr
      exact XD_at i3 (hp i (pair_eff hpr (.inr (stp_alA st2).1) hE))

/-- One operation. -/
theorem inv_op (R : Dr P call base n ops L d val al ef X) {D : Nat → Bool} {κ : IM} {e : Nat} {a : Act} {w : World} (I : Inv L base n d val al ef X ι w0 a0 D κ e a w) (hn : n ≤ a0.tmps.size) {j : Nat} {op : Oper} (hop : ops[j]? = some op) (hD : D j = false)
    (hp : ∀ o, L[j]? = some o → ∀ i, Nat.testBit o.pre i = true → D i = true) {next : Act → World → Prop} {Q : Exit → Act → World → Prop}
    (hk : ∀ κ' e' a' w', Inv L base n d val al ef X ι w0 a0 (fun i => D i || i == j) κ' e' a' w' → next a' w') :
    if Region.wanted op (yielded ops a.tmps) then op.wp P a w next Q ∨ (op.asks P a w ∧ LetsOut Q) else next (a.put op.dst undef) w := by
  obtain ⟨hlen, hget⟩ := compOpers_get R.comp
  obtain ⟨o, ho, o1, o2, o3, o4⟩ := hget j op (by simpa using hop)
  have hp := hp o ho
  have hj : j < L.length := (List.getElem?_eq_some_iff.1 ho).1
  have huse := inv_uses R I ho hD hp
  have hfree := inv_free R I ho hD
  have hfree2 : (d e).s.view (XD X base al D) (base + j) = none := by
    simp only [St.view, hfree]
    rw [XD_off hD]
    exact R.X0 j hj
  have hK := trace_K R.T e I.cut.1
  have hnx : base + j < (d e).s.next := by omega
  have hguard : ∀ b, wants (d j).fr o.guard = some b → Region.wanted op (yielded ops a.tmps) = b := by
    intro b hb
    refine wants_sim o3 I.fr ?_
    rw [wants_congr (fr1 := (d j).fr)]
    · exact hb
    · intro t ht
      exact huse t (by unfold AOper.uses; simp [ht])
  have cutS : ef j = false → e ≤ L.length ∧ (∀ i, i < e → ef i = true → (D i || i == j) = true) ∧ (∀ i, e ≤ i → i < L.length → ef i = true → (D i || i == j) = false) := by
    intro hef
    refine ⟨I.cut.1, fun i h1 h2 => by simp [I.cut.2.1 i h1 h2], fun i h1 h2 h3 => ?_⟩
    simp [I.cut.2.2 i h1 h2 h3]
    intro e1
    subst e1
    rw [hef] at h3; simp at h3
  have st := R.T.step j o ho
  rw [← o1]
  generalize hv : val j = v at st
  generalize ha : al j = aa at st
  generalize hef : ef j = ee at st
  cases st with
  | off hw hd =>
    rw [hguard false hw]
    simp only [Bool.false_eq_true, if_false]
    refine hk κ e _ w (inv_step R I ho hD hp hn (IM.le_refl _) (by rw [hv]; exact rel_undef) ?_ (cutS hef))
    rw [XD_add_none ha]
    exact I.sr
  | @p p v hw hpo hv2 hd =>
    rw [hguard true hw]
    simp only [if_true]
    left
    have h2 : aop call (base + j) (GT L d val D L.length) (d e).s o.op = some (v, (d e).s) := by
      rw [hpo]
      simp only [aop]
      rw [apure_congr (fr1 := (d j).fr) fun t ht => huse t (upd_tmps_p hpo t ht), hv2]
    refine aop_wp R.snd o2 I.fr I.sr hnx hfree2 h2 ?_
    intro v' w' κ' k1 k2 k3
    rw [← o1]
    refine hk κ' e _ w' (inv_step R I ho hD hp hn k1 (by rw [hv]; exact k2) ?_ (cutS hef))
    rw [XD_add_none ha]
    exact k3
  | @r k x y xv yv v hw hpo hx hy hr heo hd =>
    rw [hguard true hw]
    simp only [if_true]
    left
    have hux : ∀ t, t ∈ x.tmps ∨ t ∈ y.tmps → t ∈ o.uses := by
      intro t ht; unfold AOper.uses; rw [hpo]; simp only [AOp.tmps, List.mem_append]; exact .inl ht
    have h2 : aop call (base + j) (GT L d val D L.length) (d e).s o.op = some (v, (d e).s) := by
      rw [hpo]
      simp only [aop]
      rw [ev_congr (fr1 := (d j).fr) (x := x) fun t ht => huse t (hux t (.inl ht)), ev_congr (fr1 := (d j).fr) (x := y) fun t ht => huse t (hux t (.inr ht)), hx, hy]
      simp only
      rw [inv_read R I ho hD hp hr heo (by rw [hd]; exact List.mem_cons_self ..) hef]
    refine aop_wp R.snd o2 I.fr I.sr hnx hfree2 h2 ?_
    intro v' w' κ' k1 k2 k3
    rw [← o1]
    refine hk κ' e _ w' (inv_step R I ho hD hp hn k1 (by rw [hv]; exact k2) ?_ (cutS hef))
    rw [XD_add_none ha]
    exact k3
  | @a p ob v hw hpo hm hd =>
    rw [hguard true hw]
    simp only [if_true]
    left
    have h2 : aop call (base + j) (GT L d val D L.length) (d e).s o.op = some (v, (d e).s.put (base + j) ob) := by
      rw [hpo]
      simp only [aop]
      rw [amake_congr (fr1 := (d j).fr) fun t ht => huse t (upd_tmps_a hpo t ht), hm]
    refine aop_wp R.snd o2 I.fr I.sr hnx hfree2 h2 ?_
    intro v' w' κ' k1 k2 k3
    rw [← o1]
    refine hk κ' e _ w' (inv_step R I ho hD hp hn k1 (by rw [hv]; exact k2) ?_ (cutS hef))
    rw [view_put, XD_add ha hfree] at k3
    exact k3
  | @e eo v s' hw hpo hm hro hd =>
    rw [hguard true hw]
    simp only [if_true]
    left
    obtain ⟨q1, q2, q3, q4⟩ := inv_eff R I ho hD hp hef
    have hKj := trace_K R.T j (by omega)
    have h2 : aop call (base + j) (GT L d val D L.length) (flush (d j).s (d j).pend) o.op = some (v, s') := by
      rw [hpo]
      simp only [aop]
      rw [aeff_congr (fr1 := (d j).fr) fun t ht => huse t (upd_tmps_e hpo t ht), hm]
    have hsr := I.sr
    rw [q4] at hsr hfree2
    have hnx2 : (d e).s.next = (flush (d j).s (d j).pend).next := by rw [flush_next, q2]
    rw [hnx2] at hsr
    refine aop_wp R.snd o2 I.fr hsr (by rw [flush_next]; omega) hfree2 h2 ?_
    intro v' w' κ' k1 k2 k3
    rw [← o1]
    refine hk κ' (j + 1) _ w' (inv_step R I ho hD hp hn k1 (by rw [hv]; exact k2) ?_ ?_)
    · rw [XD_add_none ha, hd]
      exact k3
    · refine ⟨by omega, fun i h3 h4 => ?_, fun i h3 h4 h5 => ?_⟩
      · rcases Nat.lt_or_ge i e with h6 | h6
        · simp [I.cut.2.1 i h6 h4]
        · rcases Nat.lt_or_ge i j with h7 | h7
          · rw [q3 i h6 h7] at h4; simp at h4
          · have : i = j := by omega
            simp [this]
      · simp [I.cut.2.2 i (by omega) h4 h5]
        omega

/-- An order that the edges allow. -/
inductive Topo (ops : Array Oper) : (Nat → Bool) → List Nat → Prop
  | nil {D : Nat → Bool} : (∀ i, i < ops.size → D i = true) → Topo ops D []
  | cons {D : Nat → Bool} {i : Nat} {op : Oper} {l : List Nat} : ops[i]? = some op → D i = false → (∀ e, e ∈ op.after.toList → Region.binds .any e = true → D e.on = true) → Topo ops (fun k => D k || k == i) l → Topo ops D (i :: l)

theorem foldl_pre {pres : List Nat} {D : Nat → Bool} (hD : ∀ j i, D j = true → Nat.testBit (pres.getD j 0) i = true → D i = true) : ∀ (l : List Edge) (s : Nat), (∀ e, e ∈ l → Region.binds .any e = true → D e.on = true) → (∀ i, Nat.testBit s i = true → D i = true) →
    ∀ i, Nat.testBit (l.foldl (fun s e => if Region.binds .any e then s ||| 2 ^ e.on ||| pres.getD e.on 0 else s) s) i = true → D i = true
  | [], s, _, hs, i, h => hs i h
  | e :: l, s, hl, hs, i, h => by
    simp only [List.foldl_cons] at h
    refine foldl_pre hD l _ (fun e he => hl e (List.mem_cons_of_mem _ he)) ?_ i h
    intro i hi
    by_cases hb : Region.binds .any e = true
    · rw [if_pos hb] at hi
      simp only [Nat.testBit_or, Bool.or_eq_true] at hi
      have he := hl e (List.mem_cons_self ..) hb
      rcases hi with (hi | hi) | hi
      · exact hs i hi
      · rw [Nat.testBit_two_pow] at hi
        simp at hi
        rw [← hi]; exact he
      · exact hD e.on i he hi
    · rw [if_neg hb] at hi
      exact hs i hi

theorem inv_topo (R : Dr P call base n ops L d val al ef X) (hn : n ≤ a0.tmps.size) {Q : Exit → Act → World → Prop} : ∀ {l : List Nat} {D : Nat → Bool}, Topo ops D l → ∀ {κ : IM} {e : Nat} {a : Act} {w : World}, Inv L base n d val al ef X ι w0 a0 D κ e a w →
    (∀ D κ e a w, (∀ i, i < L.length → D i = true) → Inv L base n d val al ef X ι w0 a0 D κ e a w → Q .normal a w) → wpOps P ops Q l a w := by
  intro l D ht
  obtain ⟨hlen, hget⟩ := compOpers_get R.comp
  have hsz : L.length = ops.size := by simpa using hlen
  induction ht with
  | nil h => intro κ e a w I hq; exact hq _ κ e a w (fun i hi => h i (by omega)) I
  | @cons D i op l hop hD hpre ht ih =>
    intro κ e a w I hq
    simp only [wpOps, hop]
    refine inv_op R I hn hop hD ?_ fun κ' e' a' w' I' => ih I' hq
    intro o ho
    obtain ⟨o', ho', o1, o2, o3, o4⟩ := hget i op (by simpa using hop)
    rw [ho] at ho'
    cases ho'
    intro k hk
    rw [o4] at hk
    simp only [List.nil_append] at hk
    unfold preOf at hk
    refine foldl_pre ?_ _ 0 hpre (fun i h => by simp at h) k hk
    intro j k2 hj hk2
    by_cases hlt : j < i
    · have hjL : j < L.length := I.lt j hj
      obtain ⟨q, hq2⟩ := get_of_lt (L := L) hjL
      have : ((L.take i).map (·.pre)).getD j 0 = q.pre := by
        rw [List.getD_eq_getElem?_getD, List.getElem?_map, List.getElem?_take_of_lt hlt, hq2]
        rfl
      rw [this] at hk2
      exact I.cl j q k2 hq2 hj hk2
    · have : ((L.take i).map (·.pre)).getD j 0 = 0 := by
        rw [List.getD_eq_getElem?_getD, List.getElem?_eq_none]
        · rfl
        · simp; omega
      rw [this] at hk2
      simp at hk2
end
end Go.Abs
