/- Drawn regions are sound: with that, all calls are. -/
import Derived.Test.YtggpnokhhpnnaaaAbsDraw4
set_option autoImplicit false
set_option linter.unusedSimpArgs false
set_option linter.unusedVariables false
namespace Go.Abs
open Go Go.RowKit

theorem filter_pos {p : Nat → Bool} : ∀ {l : List Nat}, 0 < (l.filter p).length → ∃ i, i ∈ l ∧ p i = true
  | l, h => by
    cases hq : l.filter p with
    | nil => rw [hq] at h; simp at h
    | cons x r =>
      have : x ∈ l.filter p := by rw [hq]; simp
      rw [List.mem_filter] at this
      exact ⟨x, this⟩

theorem filter_zero {p : Nat → Bool} {l : List Nat} (h : (l.filter p).length = 0) : ∀ i, i ∈ l → p i = false := by
  intro i hi
  cases hp : p i with
  | false => rfl
  | true =>
    have : i ∈ l.filter p := List.mem_filter.2 ⟨hi, hp⟩
    have h2 := List.eq_nil_of_length_eq_zero h
    rw [h2] at this; simp at this

theorem least_of {p : Nat → Bool} : ∀ n, (∃ i, i < n ∧ p i = true) → ∃ i, i < n ∧ p i = true ∧ ∀ k, k < i → p k = false
  | 0, ⟨i, h, _⟩ => by omega
  | n + 1, ⟨i, h, hp⟩ => by
    by_cases he : ∃ i, i < n ∧ p i = true
    · obtain ⟨k, h1, h2, h3⟩ := least_of n he
      exact ⟨k, by omega, h2, h3⟩
    · refine ⟨n, by omega, ?_, fun k hk => ?_⟩
      · rcases Nat.lt_or_ge i n with h4 | h4
        · exact absurd ⟨i, h4, hp⟩ he
        · have : i = n := by omega
          rw [← this]; exact hp
      · cases hq : p k with
        | false => rfl
        | true => exact absurd ⟨k, hk, hq⟩ he

theorem filter_less {p q : Nat → Bool} {i : Nat} : ∀ {l : List Nat}, l.Nodup → i ∈ l → p i = true → (∀ k, q k = (p k && !(k == i))) → (l.filter q).length + 1 = (l.filter p).length
  | [], _, h, _, _ => by simp at h
  | x :: l, hn, hm, hp, hq => by
    rw [List.nodup_cons] at hn
    by_cases hx : x = i
    · subst hx
      have hqx : q x = false := by rw [hq]; simp
      rw [List.filter_cons_of_neg (by simp [hqx]), List.filter_cons_of_pos hp]
      have : l.filter q = l.filter p := by
        apply List.filter_congr
        intro y hy
        rw [hq]
        have : (y == x) = false := by
          simp
          intro e
          subst e
          exact hn.1 hy
        simp [this]
      simp [this]
    · have hm2 : i ∈ l := by
        rcases List.mem_cons.1 hm with h | h
        · exact absurd h.symm hx
        · exact h
      have ih := filter_less hn.2 hm2 hp hq
      have hqx : q x = p x := by rw [hq]; simp [hx]
      cases hpx : p x with
      | true => rw [List.filter_cons_of_pos (by rw [hqx, hpx]), List.filter_cons_of_pos hpx]; simp [← ih]
      | false => rw [List.filter_cons_of_neg (by rw [hqx, hpx]; simp), List.filter_cons_of_neg (by rw [hpx]; simp)]; exact ih

theorem topo_ext {ops : Array Oper} {D E : Nat → Bool} {l : List Nat} (h : Topo ops D l) (he : D = E) : Topo ops E l := he ▸ h

theorem go_topo {ops : Array Oper} (hedge : ∀ i op, ops[i]? = some op → ∀ e, e ∈ op.after.toList → Region.binds .any e = true → e.on < i) : ∀ (fuel t : Nat) (listed : Array Bool) (acc : List Nat), listed.size = ops.size →
    ((List.range ops.size).filter fun i => !listed.getD i true).length = fuel → ∃ l, Region.linearise.go .any ops fuel t listed acc = acc.reverse ++ l ∧ Topo ops (fun i => listed.getD i false) l
  | 0, t, listed, acc, hs, hc => by
    refine ⟨[], by simp [Region.linearise.go], .nil fun i hi => ?_⟩
    have := filter_zero hc i (by simp [hi])
    simp at this
    have hlt : i < listed.size := by omega
    simp only [Array.getD_eq_getD_getElem?, Array.getElem?_eq_getElem hlt] at this ⊢
    simpa using this
  | fuel + 1, t, listed, acc, hs, hc => by
    simp only [Region.linearise.go]
    generalize hrs : (List.range ops.size).filter (fun i => !listed.getD i true && ((ops[i]?).map (·.after.all fun e => !Region.binds .any e || listed.getD e.on false)).getD false) = rs
    have hmem : ∀ i, i ∈ rs → ∃ op, ops[i]? = some op ∧ listed.getD i false = false ∧ i < listed.size ∧ ∀ e, e ∈ op.after.toList → Region.binds .any e = true → listed.getD e.on false = true := by
      intro i hi
      rw [← hrs, List.mem_filter] at hi
      obtain ⟨h1, h2⟩ := hi
      have hlt : i < ops.size := by simpa using h1
      rw [Bool.and_eq_true] at h2
      obtain ⟨h2, h3⟩ := h2
      refine ⟨ops[i], by simp [hlt], ?_, by omega, ?_⟩
      · rw [Array.getD_eq_getD_getElem?, Array.getElem?_eq_getElem (by omega)] at h2 ⊢
        simpa using h2
      · intro e he hb
        rw [Array.getElem?_eq_getElem hlt] at h3
        simp only [Option.map_some, Option.getD_some, Array.all_eq_true_iff_forall_mem] at h3
        have := h3 e (by simpa using he)
        rw [hb] at this
        simpa using this
    have hne : rs ≠ [] := by
      obtain ⟨i0, hi0, hp0⟩ := filter_pos (l := List.range ops.size) (p := fun i => !listed.getD i true) (by omega)
      obtain ⟨i, h1, h2, h3⟩ := least_of (p := fun i => !listed.getD i true) ops.size ⟨i0, by simpa using hi0, hp0⟩
      intro hnil
      have : i ∈ rs := by
        rw [← hrs, List.mem_filter]
        refine ⟨by simpa using h1, ?_⟩
        rw [Bool.and_eq_true]
        refine ⟨h2, ?_⟩
        rw [Array.getElem?_eq_getElem h1]
        simp only [Option.map_some, Option.getD_some, Array.all_eq_true_iff_forall_mem]
        intro e he
        cases hb : Region.binds .any e with
        | false => rfl
        | true =>
          have hlt := hedge i ops[i] (by simp [h1]) e (by simpa using he) hb
          have := h3 e.on hlt
          simp only [Bool.not_true, Bool.false_or]
          have hlt2 : e.on < listed.size := by omega
          rw [Array.getD_eq_getD_getElem?, Array.getElem?_eq_getElem hlt2] at this ⊢
          simpa using this
      rw [hnil] at this; simp at this
    have hpos : 0 < rs.length := List.length_pos_iff.2 hne
    have hlt : t % rs.length < rs.length := Nat.mod_lt _ hpos
    rw [List.getElem?_eq_getElem hlt]
    simp only
    generalize hi : rs[t % rs.length] = i
    have him : i ∈ rs := by rw [← hi]; exact List.getElem_mem hlt
    obtain ⟨op, m1, m2, m3, m4⟩ := hmem i him
    have hset : ∀ k b, (listed.setIfInBounds i true).getD k b = if k = i then true else listed.getD k b := by
      intro k b
      rw [Array.getD_eq_getD_getElem?, Array.getElem?_setIfInBounds, Array.getD_eq_getD_getElem?]
      by_cases e : k = i
      · subst e; simp [m3]
      · rw [if_neg (fun h => e h.symm), if_neg e]
    have hcount : ((List.range ops.size).filter fun k => !(listed.setIfInBounds i true).getD k true).length = fuel := by
      have hp : (!listed.getD i true) = true := by
        rw [Array.getD_eq_getD_getElem?, Array.getElem?_eq_getElem m3] at m2 ⊢
        simpa using m2
      have := filter_less (l := List.range ops.size) (p := fun k => !listed.getD k true) (q := fun k => !(listed.setIfInBounds i true).getD k true) (i := i) List.nodup_range (by simp; omega) hp (by
        intro k
        rw [hset]
        by_cases e : k = i
        · subst e; simp
        · simp [e])
      omega
    obtain ⟨l, l1, l2⟩ := go_topo hedge fuel (t / rs.length) (listed.setIfInBounds i true) (i :: acc) (by simpa using hs) hcount
    refine ⟨i :: l, by rw [l1]; simp, ?_⟩
    refine .cons m1 m2 m4 (topo_ext l2 ?_)
    funext k
    rw [hset]
    by_cases e : k = i
    · subst e; simp
    · simp [e]

theorem lin_topo {ops : Array Oper} (hedge : ∀ i op, ops[i]? = some op → ∀ e, e ∈ op.after.toList → Region.binds .any e = true → e.on < i) (t : Nat) : Topo ops (fun _ => false) (Region.linearise .any ops t) := by
  unfold Region.linearise
  obtain ⟨l, l1, l2⟩ := go_topo hedge ops.size t (Array.replicate ops.size false) [] (by simp) (by
    have : (List.range ops.size).filter (fun i => !(Array.replicate ops.size false).getD i true) = List.range ops.size := by
      rw [List.filter_eq_self]
      intro i hi
      have : i < ops.size := by simpa using hi
      simp [Array.getD_eq_getD_getElem?, this]
    rw [this]; simp)
  rw [l1]
  simp only [List.reverse_nil, List.nil_append]
  refine topo_ext l2 ?_
  funext i
  rw [Array.getD_eq_getD_getElem?]
  by_cases h : i < ops.size
  · simp [h]
  · simp [h]

theorem GT_congr {L : List AOper} {d : Nat → DS} {val : Nat → AV} {D E : Nat → Bool} : ∀ k, (∀ i, i < k → D i = E i) → GT L d val D k = GT L d val E k
  | 0, _ => rfl
  | k + 1, h => by
    simp only [GT]
    rw [h k (by omega), GT_congr k fun i hi => h i (by omega)]

theorem draw_sim {P : Program} (hM : P.follows .mixedOrders = true) : DrawOk P := by
  intro call fuel n ops l id hg hc
  unfold compReg at hc
  cases h1 : compOpers P ops ops.toList [] with
  | none => simp [h1] at hc
  | some l' =>
    simp only [h1] at hc
    split at hc
    · rename_i hd
      simp only [if_true] at hc
      split at hc
      · rename_i hok
        simp at hc
        subst hc
        rw [Bool.and_eq_true] at hok
        obtain ⟨hok, hedge⟩ := hok
        have hedge : ∀ i op, ops[i]? = some op → ∀ e, e ∈ op.after.toList → Region.binds .any e = true → e.on < i := by
          intro i op hi e he hb
          simp only [edgesOk, List.all_eq_true] at hedge
          have hm : (op, i) ∈ ops.toList.zipIdx := by
            rw [List.mem_zipIdx_iff_getElem?]
            simpa using hi
          have := hedge (op, i) hm e he
          simp [hb] at this
          exact this
        intro fr s x fr' s' h
        simp only [acode] at h
        split at h <;> simp at h
        rename_i fr1 s1 h2
        obtain ⟨rfl, rfl, rfl⟩ := h
        unfold adraw at h2
        split at h2
        · rename_i dm h3
          simp at h2
          obtain ⟨rfl, rfl⟩ := h2
          obtain ⟨d, val, al, ef, e0, em, hst⟩ := adraws_trace h3
          have hT : Trace call s.next l' d val al ef := by
            refine ⟨fun i o ho => by have := hst i o ho; rw [Nat.zero_add] at this; exact this, by rw [e0]; exact ⟨rfl, rfl, rfl⟩, hg.keeps, by rw [e0]; exact Nat.le_refl _⟩
          have hK := trace_K hT l'.length (Nat.le_refl _)
          rw [e0, em] at hK
          refine ⟨⟨by have := hK.2.1; simp at this; omega, fun j => by simpa using hK.2.2 j⟩, ?_⟩
          intro ι w0 X a w hn hf hs
          apply wp_region_draw
          intro t
          have hsched : Region.schedule (P.follows .mixedOrders) ops t = Region.linearise .any ops t := by
            unfold Region.schedule
            rw [hM]
            simp
          rw [hsched]
          have hfree : ∀ i, s.objs.get (s.next + i) = none ∧ X (s.next + i) = none := by
            intro i
            have := hs.fresh (s.next + i) (by omega)
            simp only [St.view] at this
            cases hq : s.objs.get (s.next + i) with
            | none => rw [hq] at this; exact ⟨rfl, this⟩
            | some o => rw [hq] at this; simp at this
          have R : Dr P call s.next n ops l' d val al ef X := ⟨hg, hT, h1, hd, hok, fun i _ => by rw [e0]; exact (hfree i).1, fun i _ => (hfree i).2⟩
          have hs' : SR ι w0 (s.view X) s.next { w with drawn := w.drawn + 1 } := SR_heap hs rfl rfl rfl rfl
          have hXD : XD X s.next al (fun _ => false) = X := by
            funext id
            unfold XD
            split
            · split <;> simp
            · rfl
          have I0 : Inv l' s.next n d val al ef X ι w0 a (fun _ => false) ι 0 a { w with drawn := w.drawn + 1 } := by
            refine ⟨fun i h => by simp at h, fun j o i h1 h2 h3 => by simp at h2, ⟨Nat.zero_le _, fun i h => by omega, fun _ _ _ _ => rfl⟩, IM.le_refl _, ?_, ?_, rfl, rfl⟩
            · have : (GT l' d val (fun _ => false) l'.length) = fr := by
                have : ∀ k, GT l' d val (fun _ => false) k = fr := by
                  intro k
                  induction k with
                  | zero => simp only [GT]; rw [e0]
                  | succ k ih => simp only [GT, cond_false]; exact ih
                exact this _
              rw [this]
              exact hf
            · rw [hXD, e0]
              exact SR.up hs' (by simp)
          refine inv_topo R hn (lin_topo hedge t) I0 ?_
          intro D κ e a' w' hD I
          refine ⟨rfl, κ, I.le, ?_, ?_, I.size, I.dfr⟩
          · rw [← em, trace_fr hT _ (Nat.le_refl _)]
            have := GT_congr (L := l') (d := d) (val := val) (D := D) (E := fun _ => true) l'.length fun i hi => hD i hi
            rw [← this]
            exact I.fr
          · have hno : ∀ i, e ≤ i → i < l'.length → ef i = false := by
              intro i h4 h5
              cases hfi : ef i with
              | false => rfl
              | true =>
                have := I.cut.2.2 i h4 h5 hfi
                rw [hD i h5] at this; simp at this
            have hse := trace_s hT l'.length I.cut.1 (Nat.le_refl _) hno
            have hsr := I.sr
            rw [← hse, em] at hsr
            have TP := trace_P hT (fun i _ => by rw [e0]; exact (hfree i).1) l'.length (Nat.le_refl _)
            have hview : dm.s.view (XD X s.next al D) = (flush dm.s dm.pend).view X := by
              rw [← em]
              funext id
              simp only [St.view]
              cases q1 : (d l'.length).s.objs.get id with
              | some ob => rw [TP.pa _ _ q1]
              | none =>
                simp only
                cases q2 : (flush (d l'.length).s (d l'.length).pend).objs.get id with
                | some ob =>
                  obtain ⟨i, i1, rfl, i3⟩ := TP.pb id ob q1 q2
                  exact XD_at i3 (hD i i1)
                | none =>
                  simp only
                  rcases Nat.lt_or_ge id s.next with hl | hl
                  · exact XD_low hl
                  · obtain ⟨i, rfl⟩ : ∃ i, id = s.next + i := ⟨id - s.next, by omega⟩
                    cases hal : al i with
                    | none => exact XD_none hal
                    | some ob =>
                      cases hDi : D i with
                      | false => exact XD_off hDi
                      | true => exact absurd q2 (TP.pc i ob (I.lt i hDi) hal)
            rw [hview] at hsr
            rw [flush_next]
            exact hsr
        · simp at h2
      · simp at hc
    · simp at hc

/-- All that the evaluator says of a call, the program does. -/
theorem acall_ok {P : Program} (hM : P.follows .mixedOrders = true) {E : FuncId → Option (List AV → St → Option (AV × St))} (hE : ∀ f g, E f = some g → SoundF P f g) (n : Nat) : Sound P (acall (comp P) E n) :=
  acall_sound (draw_sim hM) hE n
end Go.Abs
