/- Contract: the graph of modules, or what is wrong of them. -/
import Derived.Test.YtbcnhellcpeecaaDepsA
set_option autoImplicit false
set_option maxRecDepth 100000
set_option linter.unusedVariables false
namespace Go.Proofs.Ytbcnhellcpeecaa
open Go Go.Abs

def twice (D : List Dep) : Prop := ∃ i, ∃ h : i < D.length, first D D[i].name ≠ some i
def missing (D : List Dep) (ns : List (List Nat)) : Prop := ∃ d ∈ D, ∃ q ∈ d.needs, first D q = none ∧ q ∉ ns
def needsOf (D : List Dep) (i : Nat) : List (List Nat) := match D[i]? with
  | some d => d.needs
  | none => []
/-- For whom a module waits, of the first of its needs. -/
def wPart (D : List Dep) (i k : Nat) : List Nat := (((needsOf D i).take k).filterMap (first D)).filter fun p => decide (p ≠ i)
def wOf (D : List Dep) (i : Nat) : List Nat := ((needsOf D i).filterMap (first D)).filter fun p => decide (p ≠ i)
theorem needsOf_lt {D : List Dep} {i : Nat} (h : i < D.length) : needsOf D i = D[i].needs := by simp [needsOf, h]
theorem wPart_all {D : List Dep} {i : Nat} (h : i < D.length) : wPart D i D[i].needs.length = wOf D i := by
  unfold wPart wOf; rw [needsOf_lt h, List.take_length]
theorem wPart_succ {D : List Dep} {i k : Nat} (h : i < D.length) (hk : k < D[i].needs.length) :
    wPart D i (k + 1) = match first D D[i].needs[k] with
      | some p => if p ≠ i then wPart D i k ++ [p] else wPart D i k
      | none => wPart D i k := by
  unfold wPart
  rw [needsOf_lt h, List.take_succ_eq_append_getElem hk, List.filterMap_append, List.filter_append]
  cases hf : first D D[i].needs[k] with
  | none => simp [hf]
  | some p => by_cases hp : p = i <;> simp [hf, hp]
theorem wPart_length (D : List Dep) (i k : Nat) : (wPart D i k).length ≤ k := by
  unfold wPart
  refine Nat.le_trans (List.length_filter_le _ _) (Nat.le_trans (List.length_filterMap_le _ _) ?_)
  simp; omega

/-- The graph's rows in a store. -/
def WaitsV (b : Nat) (s : St) (wv : AV) (n : Nat) (W : Nat → List Nat) : Prop := ∃ rows, Slv s 1 wv rows ∧ rows.length = n ∧ (∀ id, id < b → offId wv id) ∧ ∀ j, j < n → ∃ v, rows[j]? = some [v] ∧ Slv s 1 v (nats (W j)) ∧ ∀ id, id < b → offId v id
/-- While the graph is drawn: its two structs, and its rows, each one its own. -/
structure WInv (s0 s : St) (lo id4 id6 idW n : Nat) (lv : AV) (W : Nat → List Nat) : Prop where
  ext : Ext s0 s
  lt : s0.next ≤ id4 ∧ id4 < lo ∧ s0.next ≤ id6 ∧ id6 < lo ∧ s0.next ≤ idW ∧ idW < lo ∧ lo ≤ s.next
  ne : id4 ≠ id6 ∧ id4 ≠ idW ∧ id6 ≠ idW
  g4 : s.objs.get id4 = some (.cells [.nilslc, .nilslc] 0 0 false)
  g6 : s.objs.get id6 = some (.cells [lv, .slc idW 0 0 n n 1] 0 0 false)
  gW : ∃ ws : List AV, s.objs.get idW = some (.cells ws 0 0 false) ∧ ws.length = n ∧ (∀ j, j < n → ∃ v, ws[j]? = some v ∧ Own s lo 1 v (nats (W j))) ∧ ∀ (i j : Nat) (vi vj : AV), i ≠ j → ws[i]? = some vi → ws[j]? = some vj → Apart vi vj
variable {s0 s s' : St} {lo id4 id6 idW n : Nat} {lv : AV} {W : Nat → List Nat}
theorem WInv.step (h : WInv s0 s lo id4 id6 idW n lv W) (k : Ext s s') : WInv s0 s' lo id4 id6 idW n lv W := by
  obtain ⟨a1, a2, a3, a4, a5, a6, a7⟩ := h.lt
  refine ⟨h.ext.trans k, ⟨a1, a2, a3, a4, a5, a6, Nat.le_trans a7 k.next⟩, h.ne, ?_, ?_, ?_⟩
  · rw [k.old _ (by omega)]; exact h.g4
  · rw [k.old _ (by omega)]; exact h.g6
  · obtain ⟨ws, b1, b2, b3, b4⟩ := h.gW
    refine ⟨ws, by rw [k.old _ (by omega)]; exact b1, b2, fun j hj => ?_, b4⟩
    obtain ⟨v, c1, c2⟩ := b3 j hj
    exact ⟨v, c1, c2.ext k⟩
theorem WInv.slvW (h : WInv s0 s lo id4 id6 idW n lv W) {ws : List AV} (hw : s.objs.get idW = some (.cells ws 0 0 false)) (hl : ws.length = n) : Slv s 1 (.slc idW 0 0 n n 1) (ws.map fun v => [v]) := by
  obtain ⟨a1, a2, a3, a4, a5, a6, a7⟩ := h.lt
  have e : (ws.map fun v => [v]).flatten = ws := by
    clear hw hl
    induction ws with
    | nil => rfl
    | cons x xs ih => simp [ih]
  refine ⟨by simp, rfl, by simp [hl], by omega, ws, by simp only [St.cells, hw]; rfl, ?_⟩
  rw [e, seg_some]
  exact ⟨by simp [hl], by rw [List.drop_zero, Nat.mul_one, ← hl, List.take_length]⟩
theorem WInv.congr {V : Nat → List Nat} (h : WInv s0 s lo id4 id6 idW n lv W) (e : ∀ j, j < n → V j = W j) : WInv s0 s lo id4 id6 idW n lv V := by
  refine ⟨h.ext, h.lt, h.ne, h.g4, h.g6, ?_⟩
  obtain ⟨ws, b1, b2, b3, b4⟩ := h.gW
  refine ⟨ws, b1, b2, fun j hj => ?_, b4⟩
  rw [e j hj]; exact b3 j hj
theorem ld_obj {s : St} {id g o lm : Nat} {gr : Bool} {cs : List AV} {v y : AV} (h : s.objs.get id = some (.cells cs g g gr)) (hv : cs[o]? = some v) (hl : 1 ≤ lm) : aread .load1 (.ptr id g o lm) y s = some v := by
  simp only [aread, St.cells, h, Nat.ble_eq_true_of_le hl, Nat.ble_eq_true_of_le (Nat.le_refl g), Bool.and_self, cond_true]
  exact hv

section
variable {F : FuncId → Option AFunc} {E : FuncId → Option (List AV → St → Option (AV × St))}
/-- The step in which a module is waited for. -/
theorem drawStep {call : CallF} {m : Nat} {i p : Nat} {l : SL} (h : WInv s0 s lo id4 id6 idW n lv W) (hi : i < n) (h6 : lkS l 6 = some (.ptr id6 0 0 2)) (h12 : lkS l 12 = some (.int .i64 (.ofNat i))) (h16 : lkS l 16 = some (.int .i64 (.ofNat p))) (hb : (W i).length < 1000)
    {Q : AX → SL → St → Prop} (hq : ∀ s' l', (∀ t, t < 75 → lkS l' t = lkS l t) → WInv s0 s' lo id4 id6 idW n lv (fun j => if j = i then W j ++ [p] else W j) → Q .nrm l' s') : WC call m (.draw r14_19) l s Q := by
  have hs := h.ext
  obtain ⟨a1, a2, a3, a4, a5, a6, a7⟩ := h.lt
  (repeat refine WC.seq ?_); refine WC.drawX hs fun s1 hs1 hx1 ho1 hn1 => ?_
  have h1 := h.step hx1
  obtain ⟨ws, b1, b2, b3, b4⟩ := h1.gW
  obtain ⟨v, c1, c2⟩ := b3 i hi
  obtain ⟨e1, e2, e3⟩ := h.ne
  have hL : ∀ y, aread .load1 (.ptr id6 0 1 1) y s1 = some (.slc idW 0 0 n n 1) := fun y => ld_obj h1.g6 rfl (Nat.le_refl _)
  have hI : apure .e (.iadr 1 (.c (.slc idW 0 0 n n 1)) (.c (.int .i64 (.ofNat i)))) = some (.ptr idW 0 (0 + i * 1) 1) := by
    simp only [apure, AO.ev]
    rw [show (Nat.beq 1 1 && Nat.blt i n) = true by rw [show Nat.blt i n = true from Nat.ble_eq_true_of_le hi]; rfl]
    rfl
  refine WD.fadr h6 rfl ?_
  refine WD.r rfl rfl (hL _) rfl ?_
  refine WD.mov h12 ?_
  refine WD.fadr h6 rfl ?_
  refine WD.r rfl rfl (hL _) rfl ?_
  refine WD.mov h12 ?_
  refine WD.iadr rfl rfl hI ?_
  refine WD.r rfl rfl (ld_obj b1 (by simpa using c1) (Nat.le_refl _)) rfl ?_
  refine WD.mov h16 ?_
  refine WD.lits (fillL1 rfl ⟨rfl, rfl⟩ (by simp [rep]) rfl) ?_
  have hlit : s.next + 1 + 1 + 1 + 1 + 1 + 1 + 1 + 1 + 1 < s1.next := by rw [hn1]; simp [r14_19]
  generalize hL9 : s.next + 1 + 1 + 1 + 1 + 1 + 1 + 1 + 1 + 1 = id at hlit ⊢
  generalize hs2 : flush s1 [(id, AObj.cells (setSeg (rep [AV.int IntKind.i64 (Int.ofNat 0)] 1) 0 [AV.int IntKind.i64 (Int.ofNat p)]) 0 0 false)] = s2
  have hs2' : s2 = s1.put id (.cells [.int .i64 (.ofNat p)] 0 0 false) := by rw [← hs2]; rfl
  have hx2 : Ext s s2 := by rw [hs2']; exact hx1.put (by omega) _
  have h2 := h.step hx2
  have lit : Slv s2 1 (.slc id 0 0 1 1 1) (nats [p]) := by
    refine ⟨by simp [nats], rfl, rfl, by rw [hs2']; exact hlit, [.int .i64 (.ofNat p)], ?_, rfl⟩
    rw [hs2']; simp only [St.cells, get_put, if_pos]; rfl
  have own2 : Own s2 lo 1 v (nats (W i)) := by
    rw [hs2']
    refine c2.put ?_ _
    obtain ⟨d1, d2, ⟨rfl, _⟩ | ⟨j, g, rfl, d3, d4, d5⟩⟩ := c2
    · trivial
    · have hid : s.next ≤ id := by omega
      obtain ⟨ws', b1', b2', b3', b4'⟩ := h.gW
      obtain ⟨v', c1', c2'⟩ := b3' i hi
      have : ws' = ws := by
        have := hx1.old idW (by omega)
        rw [b1, b1'] at this
        cases this; rfl
      subst this
      rw [c1] at c1'
      cases c1'
      have := c2'.slv.lt (id := j) (by simp [offId])
      simp only [offId]; omega
  obtain ⟨v2, s3, f1, f2, f3, f4⟩ := Own.app (bytes := 8) own2 lit (by simp [nats, lim]; omega)
  have off6 : offId v id6 := own2.offOld a4
  have offW : offId v idW := own2.offOld a6
  have off4 : offId v id4 := own2.offOld a2
  have n2 := hx2.next
  have g6' : s3.objs.get id6 = some (.cells [lv, .slc idW 0 0 n n 1] 0 0 false) := by rw [f3.old _ (by omega) off6]; exact h2.g6
  have gW' : s3.objs.get idW = some (.cells ws 0 0 false) := by
    rw [f3.old _ (by omega) offW, hs2', get_put, if_neg (by omega)]; exact b1
  have hws : i < ws.length := by omega
  refine WD.append (s' := s3) rfl rfl (by rw [hs2]; exact f1) ?_ ?_
  · exact readsOk_bit (by decide) (readsOk_bit (by decide) (readsOk_re (ld_obj g6' rfl (Nat.le_refl _)) rfl))
  refine WD.iadr rfl rfl hI ?_
  refine WD.store (s' := s3.put idW (.cells (setSeg ws i [v2]) 0 0 false)) rfl rfl f2.slv.one.1 (by rw [f2.slv.one.2]; rfl) (Nat.le_refl _) ?_ (readsOk_bit (by decide) (readsOk_bit (by decide) (readsOk_bit (by decide) rfl))) ?_
  · rw [f2.slv.one.2]
    show wr s3 idW 0 (0 + i * 1) [v2] = _
    rw [show 0 + i * 1 = i by omega]
    exact wr_some gW' (by simp; omega)
  refine WD.nil ?_
  refine hq _ _ ?_ ?_
  · intro t ht
    simp only [putL, lkS]
    have ne : ∀ u, 75 ≤ u → Nat.beq u t = false := by
      intro u hu
      cases hb : Nat.beq u t with
      | false => rfl
      | true => have := Nat.eq_of_beq_eq_true hb; omega
    simp only [ne 75 (by omega), ne 76 (by omega), ne 77 (by omega), ne 78 (by omega), ne 79 (by omega), ne 80 (by omega), ne 81 (by omega), ne 82 (by omega), ne 83 (by omega), ne 84 (by omega), ne 85 (by omega), ne 86 (by omega), cond_false]
  show WInv s0 (s3.put idW _) _ _ _ _ _ _ _
  have n3 := f3.next
  have x3 : Ext s0 s3 := f3.ext h2.ext fun id hid => own2.offOld (by omega)
  refine ⟨x3.put (by omega) _, ⟨a1, a2, a3, a4, a5, a6, by rw [next_put]; omega⟩, ⟨e1, e2, e3⟩, ?_, ?_, ?_⟩
  · rw [get_put, if_neg (by omega), f3.old _ (by omega) off4]; exact h2.g4
  · rw [get_put, if_neg (by omega)]; exact g6'
  · have len2 : (setSeg ws i [v2]).length = n := by simp [setSeg]; omega
    have get2 : ∀ j, (setSeg ws i [v2])[j]? = if j = i then some v2 else ws[j]? := by
      intro j
      simp only [setSeg, List.length_singleton]
      by_cases e : j = i
      · subst e
        rw [if_pos rfl, List.append_assoc, List.getElem?_append_right (by rw [List.length_take]; omega), List.length_take, Nat.min_eq_left (by omega)]; simp
      · rw [if_neg e]
        by_cases hj : j < i
        · rw [List.append_assoc, List.getElem?_append_left (by simp; omega), List.getElem?_take_of_lt hj]
        · rw [List.append_assoc, List.getElem?_append_right (by simp; omega), List.getElem?_append_right (by simp; omega), List.getElem?_drop]
          congr 1; simp; omega
    have own3 : ∀ j, j < n → j ≠ i → ∀ vj, ws[j]? = some vj → Own s3 lo 1 vj (nats (W j)) ∧ Apart v vj ∧ Slv s2 1 vj (nats (W j)) := by
      intro j hj hji vj hvj
      have ap := b4 i j v vj (fun e => hji e.symm) c1 hvj
      obtain ⟨ws2, x1, x2, x3', x4⟩ := h2.gW
      have : ws2 = ws := by
        have := hx2.old idW (by omega)
        rw [x1] at this
        have h3 := hx1.old idW (by omega)
        rw [b1] at h3
        rw [← h3] at this
        cases this; rfl
      subst this
      obtain ⟨w, y1, y2⟩ := x3' j hj
      rw [hvj] at y1
      cases y1
      refine ⟨?_, ap, y2.slv⟩
      obtain ⟨z1, z2, z3 | ⟨k, g, rfl, z4, z5, z6⟩⟩ := y2
      · exact ⟨z1, Nat.le_trans z2 n3, .inl z3⟩
      · refine ⟨z1, Nat.le_trans z2 n3, .inr ⟨k, g, rfl, z4, by omega, ?_⟩⟩
        rw [f3.old _ z5 ((ap k).resolve_right (by simp [offId]))]; exact z6
    refine ⟨setSeg ws i [v2], by rw [get_put, if_pos rfl], len2, fun j hj => ?_, ?_⟩
    · rw [get2]
      by_cases e : j = i
      · subst e
        rw [if_pos rfl, if_pos rfl]
        refine ⟨v2, rfl, ?_⟩
        have := f2.put (id := idW) (f2.offOld a6) (.cells (setSeg ws j [v2]) 0 0 false)
        rw [show nats (W j ++ [p]) = nats (W j) ++ nats [p] by simp [nats]]
        exact this
      · rw [if_neg e, if_neg e]
        obtain ⟨w, y1, y2⟩ := b3 j hj
        obtain ⟨o1, o2, o3⟩ := own3 j hj e w y1
        exact ⟨w, y1, o1.put (o1.offOld a6) _⟩
    · intro j k vj vk hjk hvj hvk
      rw [get2] at hvj hvk
      have lt : ∀ q vq, ws[q]? = some vq → q < n := fun q vq hq => by
        rw [List.getElem?_eq_some_iff] at hq; obtain ⟨h, _⟩ := hq; omega
      by_cases e : j = i
      · subst e
        rw [if_pos rfl] at hvj
        cases hvj
        rw [if_neg (fun e => hjk e.symm)] at hvk
        obtain ⟨o1, o2, o3⟩ := own3 k (lt _ _ hvk) (fun e => hjk e.symm) vk hvk
        exact apart_app o3 o2 f4
      · rw [if_neg e] at hvj
        by_cases e2 : k = i
        · subst e2
          rw [if_pos rfl] at hvk
          cases hvk
          obtain ⟨o1, o2, o3⟩ := own3 j (lt _ _ hvj) e vj hvj
          exact (apart_app o3 o2 f4).symm
        · rw [if_neg e2] at hvk
          exact b4 j k vj vk hjk hvj hvk
end
end Go.Proofs.Ytbcnhellcpeecaa

namespace Go.Proofs.Ytbcnhellcpeecaa
open Go Go.Abs
variable {F : FuncId → Option AFunc} {E : FuncId → Option (List AV → St → Option (AV × St))}
variable {s0 : St} {lo id4 id6 idW : Nat} {lv hv : AV} {D : List Dep} {ns : List (List Nat)}

theorem loop14a (hF : F 18 = some fn18) (hE : E 18 = none) (hD : DepsV s0 lv D) (hlen : D.length < 1000) {n : Nat} (hn : D.length < n) {W : Nat → List Nat} :
    ∀ (j k : Nat) (s : St) (f : Nat), k + j = D.length → j < f → (∀ i (h : i < D.length), i < k → first D D[i].name = some i) → WInv s0 s lo id4 id6 idW D.length lv W →
      WL (acall F E (n + 1)) (n + 1) b14_0 f [(0, lv), (1, hv), (4, .ptr id4 0 0 2), (6, .ptr id6 0 0 2), (7, .int .i64 (.ofNat 11)), (23, lv), (24, .int .i64 (.ofNat D.length)), (25, .int .i64 (.ofNat k))] s
        (fun x l s => WInv s0 s lo id4 id6 idW D.length lv W ∧ lkS l 4 = some (.ptr id4 0 0 2) ∧ ((x = .ext 0 ∧ ¬ twice D ∧ lkS l 0 = some lv ∧ lkS l 1 = some hv ∧ lkS l 6 = some (.ptr id6 0 0 2)) ∨ (x = .goto 0 ∧ twice D ∧ lkS l 7 = some (.int .i64 (.ofNat 11))))) := by
  intro j
  induction j with
  | zero =>
    intro k s f hk hf hq hw
    obtain ⟨f, rfl⟩ : ∃ g, f = g + 1 := ⟨f - 1, by omega⟩
    have hs := hw.ext
    refine WL.round ?_
    (repeat refine WC.seq ?_); refine WC.regX hs fun s1 hs1 hx1 ho1 hn1 => ?_
    repeat (first | refine WR.nil ?_ | refine WR.guardY rfl ?_ | refine WR.guardN rfl ?_ | refine WR.guardT rfl ?_ | refine WR.mov rfl ?_ | (refine WR.len (v := ?_) rfl ?_ ?_; rotate_left; first | assumption | exact rfl) | (refine WR.iadr (v := ?_) rfl rfl ?_ ?_; rotate_left; assumption) | (refine WR.fadr (v := ?_) rfl ?_ ?_; rotate_left; first | assumption | exact rfl) | (refine WR.r (v := ?_) rfl rfl (Ld.use (s0 := ?_) ?_ ?_) ?_; rotate_left; rotate_left; assumption; assumption) | (refine WR.bin (v := ?_) rfl rfl ?_ ?_; rotate_left; first | assumption | exact lss_nat _ _ | exact eql_nat _ _ | exact neq_nat _ _ | exact gtr_nat _ _ | exact geq_nat _ _ | exact leq_nat _ _ | exact eql_str _ _ | exact neq_str _ _ | (refine add_nat ?_; omega) | (refine sub_nat ?_ ?_; omega; omega)) | refine WR.pick rfl rfl rfl ?_ | refine WR.un rfl rfl ?_ | refine WR.ext rfl rfl ?_)
    (repeat refine WC.seq ?_); refine WC.cond rfl ?_ ?_
    · intro h; simp at h; omega
    · intro h
      refine WC.ext ⟨hw.step hx1, rfl, .inl ⟨rfl, ?_, rfl, rfl, rfl⟩⟩
      rintro ⟨i, hi, e⟩
      exact e (hq i hi (by omega))
  | succ j ih =>
    intro k s f hk hf hq hw
    obtain ⟨f, rfl⟩ : ∃ g, f = g + 1 := ⟨f - 1, by omega⟩
    have hs := hw.ext
    have hkl : k < D.length := by omega
    obtain ⟨p, q0, q1, nv, e1, e2, e3, e4, e5, e6, e7⟩ := hD.at hkl
    refine WL.round ?_
    (repeat refine WC.seq ?_); refine WC.regX hs fun s1 hs1 hx1 ho1 hn1 => ?_
    repeat (first | refine WR.nil ?_ | refine WR.guardY rfl ?_ | refine WR.guardN rfl ?_ | refine WR.guardT rfl ?_ | refine WR.mov rfl ?_ | (refine WR.len (v := ?_) rfl ?_ ?_; rotate_left; first | assumption | exact rfl) | (refine WR.iadr (v := ?_) rfl rfl ?_ ?_; rotate_left; assumption) | (refine WR.fadr (v := ?_) rfl ?_ ?_; rotate_left; first | assumption | exact rfl) | (refine WR.r (v := ?_) rfl rfl (Ld.use (s0 := ?_) ?_ ?_) ?_; rotate_left; rotate_left; assumption; assumption) | (refine WR.bin (v := ?_) rfl rfl ?_ ?_; rotate_left; first | assumption | exact lss_nat _ _ | exact eql_nat _ _ | exact neq_nat _ _ | exact gtr_nat _ _ | exact geq_nat _ _ | exact leq_nat _ _ | exact eql_str _ _ | exact neq_str _ _ | (refine add_nat ?_; omega) | (refine sub_nat ?_ ?_; omega; omega)) | refine WR.pick rfl rfl rfl ?_ | refine WR.un rfl rfl ?_ | refine WR.ext rfl rfl ?_)
    (repeat refine WC.seq ?_); refine WC.cond rfl ?_ ?_
    · intro _
      (repeat refine WC.seq ?_); refine WC.skip ?_
      (repeat refine WC.seq ?_); refine WC.blk ?_
      (repeat refine WC.seq ?_); refine WC.regX hs1 fun s2 hs2 hx2 ho2 hn2 => ?_
      repeat (first | refine WR.nil ?_ | refine WR.guardY rfl ?_ | refine WR.guardN rfl ?_ | refine WR.guardT rfl ?_ | refine WR.mov rfl ?_ | (refine WR.len (v := ?_) rfl ?_ ?_; rotate_left; first | assumption | exact rfl) | (refine WR.iadr (v := ?_) rfl rfl ?_ ?_; rotate_left; assumption) | (refine WR.fadr (v := ?_) rfl ?_ ?_; rotate_left; first | assumption | exact rfl) | (refine WR.r (v := ?_) rfl rfl (Ld.use (s0 := ?_) ?_ ?_) ?_; rotate_left; rotate_left; assumption; assumption) | (refine WR.bin (v := ?_) rfl rfl ?_ ?_; rotate_left; first | assumption | exact lss_nat _ _ | exact eql_nat _ _ | exact neq_nat _ _ | exact gtr_nat _ _ | exact geq_nat _ _ | exact leq_nat _ _ | exact eql_str _ _ | exact neq_str _ _ | (refine add_nat ?_; omega) | (refine sub_nat ?_ ?_; omega; omega)) | refine WR.pick rfl rfl rfl ?_ | refine WR.un rfl rfl ?_ | refine WR.ext rfl rfl ?_)
      refine WR.r rfl rfl ((e7.ext hs2).loadn rfl _) ?_
      refine WR.alloc ?_
      repeat (first | refine WR.nil ?_ | refine WR.guardY rfl ?_ | refine WR.guardN rfl ?_ | refine WR.guardT rfl ?_ | refine WR.mov rfl ?_ | (refine WR.len (v := ?_) rfl ?_ ?_; rotate_left; first | assumption | exact rfl) | (refine WR.iadr (v := ?_) rfl rfl ?_ ?_; rotate_left; assumption) | (refine WR.fadr (v := ?_) rfl ?_ ?_; rotate_left; first | assumption | exact rfl) | (refine WR.r (v := ?_) rfl rfl (Ld.use (s0 := ?_) ?_ ?_) ?_; rotate_left; rotate_left; assumption; assumption) | (refine WR.bin (v := ?_) rfl rfl ?_ ?_; rotate_left; first | assumption | exact lss_nat _ _ | exact eql_nat _ _ | exact neq_nat _ _ | exact gtr_nat _ _ | exact geq_nat _ _ | exact leq_nat _ _ | exact eql_str _ _ | exact neq_str _ _ | (refine add_nat ?_; omega) | (refine sub_nat ?_ ?_; omega; omega)) | refine WR.pick rfl rfl rfl ?_ | refine WR.un rfl rfl ?_ | refine WR.ext rfl rfl ?_)
      refine WR.store rfl rfl rfl rfl (by simp) (wr_some (by rw [get_put, if_pos rfl]) (by simp [cellsOf])) ?_
      repeat (first | refine WR.nil ?_ | refine WR.guardY rfl ?_ | refine WR.guardN rfl ?_ | refine WR.guardT rfl ?_ | refine WR.mov rfl ?_ | (refine WR.len (v := ?_) rfl ?_ ?_; rotate_left; first | assumption | exact rfl) | (refine WR.iadr (v := ?_) rfl rfl ?_ ?_; rotate_left; assumption) | (refine WR.fadr (v := ?_) rfl ?_ ?_; rotate_left; first | assumption | exact rfl) | (refine WR.r (v := ?_) rfl rfl (Ld.use (s0 := ?_) ?_ ?_) ?_; rotate_left; rotate_left; assumption; assumption) | (refine WR.bin (v := ?_) rfl rfl ?_ ?_; rotate_left; first | assumption | exact lss_nat _ _ | exact eql_nat _ _ | exact neq_nat _ _ | exact gtr_nat _ _ | exact geq_nat _ _ | exact leq_nat _ _ | exact eql_str _ _ | exact neq_str _ _ | (refine add_nat ?_; omega) | (refine sub_nat ?_ ?_; omega; omega)) | refine WR.pick rfl rfl rfl ?_ | refine WR.un rfl rfl ?_ | refine WR.ext rfl rfl ?_)
      have hid : s1.next + 1 + 1 + 1 < s2.next := by rw [hn2]; simp [r14_5]
      generalize hid0 : s1.next + 1 + 1 + 1 = id at hid ⊢
      generalize hs3 : St.put (St.put s2 _ _) _ _ = s3
      have n12 := hx2.next
      have hidn : s1.next ≤ id := by omega
      have hy3 : Ext s1 s3 := by rw [← hs3]; exact (hx2.put hidn _).put hidn _
      have hg3 : s3.objs.get id = some (.cells [.str D[k].name, nv] 0 0 false) := by rw [← hs3, get_put, if_pos rfl]; rfl
      have hn3 : id < s3.next := by rw [← hs3]; exact hid
      obtain ⟨u, u1, u2⟩ := (Pt.obj hg3 hn3).fadr (off := 0) (size := 1) (by simp)
      have hz3 := hs1.trans hy3
      have hw3 := hw.step (hx1.trans hy3)
      (repeat refine WC.seq ?_); refine WC.regX hz3 fun s4 hs4 hx4 ho4 hn4 => ?_
      have hw4 := hw3.step hx4
      have p6 : Pt s4 (.ptr id6 0 0 2) [lv, .slc idW 0 0 D.length D.length 1] := Pt.obj hw4.g6 (Nat.lt_of_lt_of_le hw4.lt.2.2.2.1 hw4.lt.2.2.2.2.2.2)
      refine WR.r rfl rfl (p6.loadn rfl _) ?_
      refine WR.fadr rfl u1 ?_
      refine WR.r rfl rfl ((u2.ext hx4).load1 _) ?_
      obtain ⟨v5, s5, c1, c2, c3⟩ := number18 hF hE (q := D[k].name) (wv := .slc idW 0 0 D.length D.length 1) (hD.ext hs4) (by omega) hn
      refine WR.fn rfl c1 ?_
      subst c3
      have hs5 := hs4.trans c2
      have hw5 := hw4.step c2
      cases hf0 : first D D[k].name with
      | none => exact absurd rfl (first_none.1 hf0 k hkl)
      | some k' =>
        simp only [numV]
        repeat (first | refine WR.nil ?_ | refine WR.guardY rfl ?_ | refine WR.guardN rfl ?_ | refine WR.guardT rfl ?_ | refine WR.mov rfl ?_ | (refine WR.len (v := ?_) rfl ?_ ?_; rotate_left; first | assumption | exact rfl) | (refine WR.iadr (v := ?_) rfl rfl ?_ ?_; rotate_left; assumption) | (refine WR.fadr (v := ?_) rfl ?_ ?_; rotate_left; first | assumption | exact rfl) | (refine WR.r (v := ?_) rfl rfl (Ld.use (s0 := ?_) ?_ ?_) ?_; rotate_left; rotate_left; assumption; assumption) | (refine WR.bin (v := ?_) rfl rfl ?_ ?_; rotate_left; first | assumption | exact lss_nat _ _ | exact eql_nat _ _ | exact neq_nat _ _ | exact gtr_nat _ _ | exact geq_nat _ _ | exact leq_nat _ _ | exact eql_str _ _ | exact neq_str _ _ | (refine add_nat ?_; omega) | (refine sub_nat ?_ ?_; omega; omega)) | refine WR.pick rfl rfl rfl ?_ | refine WR.un rfl rfl ?_ | refine WR.ext rfl rfl ?_)
        (repeat refine WC.seq ?_); refine WC.regX hs5 fun s6 hs6 hx6 ho6 hn6 => ?_
        have hw6 := hw5.step hx6
        by_cases hkk : k' = k
        · subst hkk
          have hb := neqF (rfl : k' = k')
          repeat (first | refine WR.nil ?_ | refine WR.guardY rfl ?_ | refine WR.guardN rfl ?_ | refine WR.guardT rfl ?_ | refine WR.mov rfl ?_ | (refine WR.len (v := ?_) rfl ?_ ?_; rotate_left; first | assumption | exact rfl) | (refine WR.iadr (v := ?_) rfl rfl ?_ ?_; rotate_left; assumption) | (refine WR.fadr (v := ?_) rfl ?_ ?_; rotate_left; first | assumption | exact rfl) | (refine WR.r (v := ?_) rfl rfl (Ld.use (s0 := ?_) ?_ ?_) ?_; rotate_left; rotate_left; assumption; assumption) | (refine WR.bin (v := ?_) rfl rfl ?_ ?_; rotate_left; first | assumption | exact lss_nat _ _ | exact eql_nat _ _ | exact neq_nat _ _ | exact gtr_nat _ _ | exact geq_nat _ _ | exact leq_nat _ _ | exact eql_str _ _ | exact neq_str _ _ | (refine add_nat ?_; omega) | (refine sub_nat ?_ ?_; omega; omega)) | refine WR.pick rfl rfl rfl ?_ | refine WR.un rfl rfl ?_ | refine WR.ext rfl rfl ?_)
          (repeat refine WC.seq ?_); refine WC.cond rfl ?_ ?_
          · intro h; simp at h
          · intro _
            (repeat refine WC.seq ?_); refine WC.skip ?_
            (repeat refine WC.seq ?_); refine WC.regX hs6 fun s7 hs7 hx7 ho7 hn7 => ?_
            repeat (first | refine WR.nil ?_ | refine WR.guardY rfl ?_ | refine WR.guardN rfl ?_ | refine WR.guardT rfl ?_ | refine WR.mov rfl ?_ | (refine WR.len (v := ?_) rfl ?_ ?_; rotate_left; first | assumption | exact rfl) | (refine WR.iadr (v := ?_) rfl rfl ?_ ?_; rotate_left; assumption) | (refine WR.fadr (v := ?_) rfl ?_ ?_; rotate_left; first | assumption | exact rfl) | (refine WR.r (v := ?_) rfl rfl (Ld.use (s0 := ?_) ?_ ?_) ?_; rotate_left; rotate_left; assumption; assumption) | (refine WR.bin (v := ?_) rfl rfl ?_ ?_; rotate_left; first | assumption | exact lss_nat _ _ | exact eql_nat _ _ | exact neq_nat _ _ | exact gtr_nat _ _ | exact geq_nat _ _ | exact leq_nat _ _ | exact eql_str _ _ | exact neq_str _ _ | (refine add_nat ?_; omega) | (refine sub_nat ?_ ?_; omega; omega)) | refine WR.pick rfl rfl rfl ?_ | refine WR.un rfl rfl ?_ | refine WR.ext rfl rfl ?_)
            refine WL.weak ?hw1 (ih (k' + 1) _ f (by omega) (by omega) ?_ (hw6.step hx7))
            case hw1 => exact ⟨rfl, rfl, rfl, rfl, rfl, rfl, rfl, rfl, trivial⟩
            intro i hi hik
            by_cases e : i = k'
            · subst e; exact hf0
            · exact hq i hi (by omega)
        · have hb := neqT hkk
          repeat (first | refine WR.nil ?_ | refine WR.guardY rfl ?_ | refine WR.guardN rfl ?_ | refine WR.guardT rfl ?_ | refine WR.mov rfl ?_ | (refine WR.len (v := ?_) rfl ?_ ?_; rotate_left; first | assumption | exact rfl) | (refine WR.iadr (v := ?_) rfl rfl ?_ ?_; rotate_left; assumption) | (refine WR.fadr (v := ?_) rfl ?_ ?_; rotate_left; first | assumption | exact rfl) | (refine WR.r (v := ?_) rfl rfl (Ld.use (s0 := ?_) ?_ ?_) ?_; rotate_left; rotate_left; assumption; assumption) | (refine WR.bin (v := ?_) rfl rfl ?_ ?_; rotate_left; first | assumption | exact lss_nat _ _ | exact eql_nat _ _ | exact neq_nat _ _ | exact gtr_nat _ _ | exact geq_nat _ _ | exact leq_nat _ _ | exact eql_str _ _ | exact neq_str _ _ | (refine add_nat ?_; omega) | (refine sub_nat ?_ ?_; omega; omega)) | refine WR.pick rfl rfl rfl ?_ | refine WR.un rfl rfl ?_ | refine WR.ext rfl rfl ?_)
          (repeat refine WC.seq ?_); refine WC.cond rfl ?_ ?_
          · intro _
            refine WC.goto ⟨hw6, rfl, .inr ⟨rfl, ⟨k, hkl, ?_⟩, rfl⟩⟩
            rw [hf0]; intro e; cases e; exact hkk rfl
          · intro h; simp at h
    · intro h; simp at h; omega

def cur (D : List Dep) (i k j : Nat) : List Nat := if j < i then wOf D j else if j = i then wPart D i k else []
/-- All slots that are of use within the second loops. -/
def fr14 (lv hv : AV) (D : List Dep) (id4 id6 i : Nat) : SL := [(0, lv), (1, hv), (4, .ptr id4 0 0 2), (6, .ptr id6 0 0 2), (7, .int .i64 (.ofNat 19)), (41, lv), (42, .int .i64 (.ofNat D.length)), (43, .int .i64 (.ofNat i))]
theorem loop14b (hF : F 18 = some fn18) (hE : E 18 = none) (hF9 : F 19 = some fn19) (hE9 : E 19 = none) (hD : DepsV s0 lv D) (hH : Slv s0 1 hv (strs ns)) (hlen : D.length < 1000) (hns : ns.length < 1000) {n : Nat} (hn : D.length < n) (hnn : ns.length < n) {i : Nat} (hi : i < D.length) (hneeds : D[i].needs.length < 1000)
    {nv : AV} (hv1 : Slv s0 1 nv (strs D[i].needs)) :
    ∀ (j k : Nat) (s : St) (f : Nat), k + j = D[i].needs.length → j < f → (∀ m (h : m < D[i].needs.length), m < k → first D D[i].needs[m] = none → D[i].needs[m] ∈ ns) → WInv s0 s lo id4 id6 idW D.length lv (cur D i k) →
      WL (acall F E (n + 1)) (n + 1) b14_1 f [(0, lv), (1, hv), (4, .ptr id4 0 0 2), (6, .ptr id6 0 0 2), (7, .int .i64 (.ofNat 19)), (41, lv), (42, .int .i64 (.ofNat D.length)), (43, .int .i64 (.ofNat i)), (12, .int .i64 (.ofNat i)), (49, nv), (50, .int .i64 (.ofNat D[i].needs.length)), (51, .int .i64 (.ofNat k))] s
        (fun x l s => (∃ W, WInv s0 s lo id4 id6 idW D.length lv W ∧ x = .goto 0 ∧ missing D ns ∧ lkS l 7 = some (.int .i64 (.ofNat 19)) ∧ lkS l 4 = some (.ptr id4 0 0 2)) ∨
          (x = .ext 4 ∧ WInv s0 s lo id4 id6 idW D.length lv (cur D (i + 1) 0) ∧ Sub2 (fr14 lv hv D id4 id6 i) l ∧ ∀ q ∈ D[i].needs, first D q = none → q ∈ ns)) := by
  intro j
  induction j with
  | zero =>
    intro k s f hk hf hq hw
    obtain ⟨f, rfl⟩ : ∃ g, f = g + 1 := ⟨f - 1, by omega⟩
    have hs := hw.ext
    refine WL.round ?_
    (repeat refine WC.seq ?_); refine WC.regX hs fun s1 hs1 hx1 ho1 hn1 => ?_
    repeat (first | refine WR.nil ?_ | refine WR.guardY rfl ?_ | refine WR.guardN rfl ?_ | refine WR.guardT rfl ?_ | refine WR.mov rfl ?_ | (refine WR.len (v := ?_) rfl ?_ ?_; rotate_left; first | assumption | exact rfl) | (refine WR.iadr (v := ?_) rfl rfl ?_ ?_; rotate_left; assumption) | (refine WR.fadr (v := ?_) rfl ?_ ?_; rotate_left; first | assumption | exact rfl) | (refine WR.r (v := ?_) rfl rfl (Ld.use (s0 := ?_) ?_ ?_) ?_; rotate_left; rotate_left; assumption; assumption) | (refine WR.bin (v := ?_) rfl rfl ?_ ?_; rotate_left; first | assumption | exact lss_nat _ _ | exact eql_nat _ _ | exact neq_nat _ _ | exact gtr_nat _ _ | exact geq_nat _ _ | exact leq_nat _ _ | exact eql_str _ _ | exact neq_str _ _ | (refine add_nat ?_; omega) | (refine sub_nat ?_ ?_; omega; omega)) | refine WR.pick rfl rfl rfl ?_ | refine WR.un rfl rfl ?_ | refine WR.ext rfl rfl ?_)
    (repeat refine WC.seq ?_); refine WC.cond rfl ?_ ?_
    · intro h; simp at h; omega
    · intro h
      refine WC.ext (.inr ⟨rfl, (hw.step hx1).congr fun j hj => ?_, ⟨rfl, rfl, rfl, rfl, rfl, rfl, rfl, rfl, trivial⟩, fun q hq2 h1 => ?_⟩)
      · have hk' : k = D[i].needs.length := by omega
        subst hk'
        unfold cur
        rw [wPart_all hi]
        by_cases e : j < i
        · rw [if_pos (by omega), if_pos e]
        · by_cases e2 : j = i
          · subst e2; rw [if_pos (by omega), if_neg e, if_pos rfl]
          · rw [if_neg (by omega), if_neg e, if_neg e2]
            by_cases e3 : j = i + 1
            · subst e3; rw [if_pos rfl]; simp [wPart]
            · rw [if_neg e3]
      · obtain ⟨m, hm, rfl⟩ := List.getElem_of_mem hq2
        exact hq m hm (by omega) h1
  | succ j ih =>
    intro k s f hk hf hq hw
    obtain ⟨f, rfl⟩ : ∃ g, f = g + 1 := ⟨f - 1, by omega⟩
    have hs := hw.ext
    have hkl : k < D[i].needs.length := by omega
    obtain ⟨p, hp, hld⟩ := hv1.at1 (i := k) (a := .str D[i].needs[k]) (by simp [strs, hkl])
    -- the rest of a round
    have tail : ∀ (l : SL) (s : St), Sub2 [(0, lv), (1, hv), (4, .ptr id4 0 0 2), (6, .ptr id6 0 0 2), (7, .int .i64 (.ofNat 19)), (41, lv), (42, .int .i64 (.ofNat D.length)), (43, .int .i64 (.ofNat i)), (12, .int .i64 (.ofNat i)), (49, nv), (50, .int .i64 (.ofNat D[i].needs.length)), (51, .int .i64 (.ofNat k))] l →
        WInv s0 s lo id4 id6 idW D.length lv (cur D i (k + 1)) → (first D D[i].needs[k] = none → D[i].needs[k] ∈ ns) →
        WC (acall F E (n + 1)) (n + 1) (.reg r14_20) l s (fun x l s => thenW x (WL (acall F E (n + 1)) (n + 1) b14_1 f l s (fun x l s => (∃ W, WInv s0 s lo id4 id6 idW D.length lv W ∧ x = .goto 0 ∧ missing D ns ∧ lkS l 7 = some (.int .i64 (.ofNat 19)) ∧ lkS l 4 = some (.ptr id4 0 0 2)) ∨
          (x = .ext 4 ∧ WInv s0 s lo id4 id6 idW D.length lv (cur D (i + 1) 0) ∧ Sub2 (fr14 lv hv D id4 id6 i) l ∧ ∀ q ∈ D[i].needs, first D q = none → q ∈ ns)))
          ((∃ W, WInv s0 s lo id4 id6 idW D.length lv W ∧ x = .goto 0 ∧ missing D ns ∧ lkS l 7 = some (.int .i64 (.ofNat 19)) ∧ lkS l 4 = some (.ptr id4 0 0 2)) ∨
          (x = .ext 4 ∧ WInv s0 s lo id4 id6 idW D.length lv (cur D (i + 1) 0) ∧ Sub2 (fr14 lv hv D id4 id6 i) l ∧ ∀ q ∈ D[i].needs, first D q = none → q ∈ ns))) := by
      intro l s hl hw hno
      refine WC.weak hl ?_
      have hs := hw.ext
      (repeat refine WC.seq ?_); refine WC.regX hs fun s1 hs1 hx1 ho1 hn1 => ?_
      repeat (first | refine WR.nil ?_ | refine WR.guardY rfl ?_ | refine WR.guardN rfl ?_ | refine WR.guardT rfl ?_ | refine WR.mov rfl ?_ | (refine WR.len (v := ?_) rfl ?_ ?_; rotate_left; first | assumption | exact rfl) | (refine WR.iadr (v := ?_) rfl rfl ?_ ?_; rotate_left; assumption) | (refine WR.fadr (v := ?_) rfl ?_ ?_; rotate_left; first | assumption | exact rfl) | (refine WR.r (v := ?_) rfl rfl (Ld.use (s0 := ?_) ?_ ?_) ?_; rotate_left; rotate_left; assumption; assumption) | (refine WR.bin (v := ?_) rfl rfl ?_ ?_; rotate_left; first | assumption | exact lss_nat _ _ | exact eql_nat _ _ | exact neq_nat _ _ | exact gtr_nat _ _ | exact geq_nat _ _ | exact leq_nat _ _ | exact eql_str _ _ | exact neq_str _ _ | (refine add_nat ?_; omega) | (refine sub_nat ?_ ?_; omega; omega)) | refine WR.pick rfl rfl rfl ?_ | refine WR.un rfl rfl ?_ | refine WR.ext rfl rfl ?_)
      refine WL.weak ?hw1 (ih (k + 1) _ f (by omega) (by omega) ?_ (hw.step hx1))
      case hw1 => exact ⟨rfl, rfl, rfl, rfl, rfl, rfl, rfl, rfl, rfl, rfl, rfl, rfl, trivial⟩
      intro m hm hmk h1
      by_cases e : m = k
      · subst e; exact hno h1
      · exact hq m hm (by omega) h1
    refine WL.round ?_
    (repeat refine WC.seq ?_); refine WC.regX hs fun s1 hs1 hx1 ho1 hn1 => ?_
    repeat (first | refine WR.nil ?_ | refine WR.guardY rfl ?_ | refine WR.guardN rfl ?_ | refine WR.guardT rfl ?_ | refine WR.mov rfl ?_ | (refine WR.len (v := ?_) rfl ?_ ?_; rotate_left; first | assumption | exact rfl) | (refine WR.iadr (v := ?_) rfl rfl ?_ ?_; rotate_left; assumption) | (refine WR.fadr (v := ?_) rfl ?_ ?_; rotate_left; first | assumption | exact rfl) | (refine WR.r (v := ?_) rfl rfl (Ld.use (s0 := ?_) ?_ ?_) ?_; rotate_left; rotate_left; assumption; assumption) | (refine WR.bin (v := ?_) rfl rfl ?_ ?_; rotate_left; first | assumption | exact lss_nat _ _ | exact eql_nat _ _ | exact neq_nat _ _ | exact gtr_nat _ _ | exact geq_nat _ _ | exact leq_nat _ _ | exact eql_str _ _ | exact neq_str _ _ | (refine add_nat ?_; omega) | (refine sub_nat ?_ ?_; omega; omega)) | refine WR.pick rfl rfl rfl ?_ | refine WR.un rfl rfl ?_ | refine WR.ext rfl rfl ?_)
    (repeat refine WC.seq ?_); refine WC.cond rfl ?_ ?_
    · intro _
      (repeat refine WC.seq ?_); refine WC.skip ?_
      (repeat refine WC.seq ?_); refine WC.blk ?_
      (repeat refine WC.seq ?_); refine WC.regX hs1 fun s2 hs2 hx2 ho2 hn2 => ?_
      repeat (first | refine WR.nil ?_ | refine WR.guardY rfl ?_ | refine WR.guardN rfl ?_ | refine WR.guardT rfl ?_ | refine WR.mov rfl ?_ | (refine WR.len (v := ?_) rfl ?_ ?_; rotate_left; first | assumption | exact rfl) | (refine WR.iadr (v := ?_) rfl rfl ?_ ?_; rotate_left; assumption) | (refine WR.fadr (v := ?_) rfl ?_ ?_; rotate_left; first | assumption | exact rfl) | (refine WR.r (v := ?_) rfl rfl (Ld.use (s0 := ?_) ?_ ?_) ?_; rotate_left; rotate_left; assumption; assumption) | (refine WR.bin (v := ?_) rfl rfl ?_ ?_; rotate_left; first | assumption | exact lss_nat _ _ | exact eql_nat _ _ | exact neq_nat _ _ | exact gtr_nat _ _ | exact geq_nat _ _ | exact leq_nat _ _ | exact eql_str _ _ | exact neq_str _ _ | (refine add_nat ?_; omega) | (refine sub_nat ?_ ?_; omega; omega)) | refine WR.pick rfl rfl rfl ?_ | refine WR.un rfl rfl ?_ | refine WR.ext rfl rfl ?_)
      (repeat refine WC.seq ?_); refine WC.regX hs2 fun s4 hs4 hx4 ho4 hn4 => ?_
      have hw4 := hw.step ((hx1.trans hx2).trans hx4)
      have p6 : Pt s4 (.ptr id6 0 0 2) [lv, .slc idW 0 0 D.length D.length 1] := Pt.obj hw4.g6 (Nat.lt_of_lt_of_le hw4.lt.2.2.2.1 hw4.lt.2.2.2.2.2.2)
      refine WR.r rfl rfl (p6.loadn rfl _) ?_
      repeat (first | refine WR.nil ?_ | refine WR.guardY rfl ?_ | refine WR.guardN rfl ?_ | refine WR.guardT rfl ?_ | refine WR.mov rfl ?_ | (refine WR.len (v := ?_) rfl ?_ ?_; rotate_left; first | assumption | exact rfl) | (refine WR.iadr (v := ?_) rfl rfl ?_ ?_; rotate_left; assumption) | (refine WR.fadr (v := ?_) rfl ?_ ?_; rotate_left; first | assumption | exact rfl) | (refine WR.r (v := ?_) rfl rfl (Ld.use (s0 := ?_) ?_ ?_) ?_; rotate_left; rotate_left; assumption; assumption) | (refine WR.bin (v := ?_) rfl rfl ?_ ?_; rotate_left; first | assumption | exact lss_nat _ _ | exact eql_nat _ _ | exact neq_nat _ _ | exact gtr_nat _ _ | exact geq_nat _ _ | exact leq_nat _ _ | exact eql_str _ _ | exact neq_str _ _ | (refine add_nat ?_; omega) | (refine sub_nat ?_ ?_; omega; omega)) | refine WR.pick rfl rfl rfl ?_ | refine WR.un rfl rfl ?_ | refine WR.ext rfl rfl ?_)
      obtain ⟨v5, s5, c1, c2, c3⟩ := number18 hF hE (q := D[i].needs[k]) (wv := .slc idW 0 0 D.length D.length 1) (hD.ext hs4) (by omega) hn
      refine WR.fn rfl c1 ?_
      subst c3
      have hs5 := hs4.trans c2
      have hw5 := hw4.step c2
      cases hf0 : first D D[i].needs[k] with
      | none =>
        simp only [numV]
        repeat (first | refine WR.nil ?_ | refine WR.guardY rfl ?_ | refine WR.guardN rfl ?_ | refine WR.guardT rfl ?_ | refine WR.mov rfl ?_ | (refine WR.len (v := ?_) rfl ?_ ?_; rotate_left; first | assumption | exact rfl) | (refine WR.iadr (v := ?_) rfl rfl ?_ ?_; rotate_left; assumption) | (refine WR.fadr (v := ?_) rfl ?_ ?_; rotate_left; first | assumption | exact rfl) | (refine WR.r (v := ?_) rfl rfl (Ld.use (s0 := ?_) ?_ ?_) ?_; rotate_left; rotate_left; assumption; assumption) | (refine WR.bin (v := ?_) rfl rfl ?_ ?_; rotate_left; first | assumption | exact lss_nat _ _ | exact eql_nat _ _ | exact neq_nat _ _ | exact gtr_nat _ _ | exact geq_nat _ _ | exact leq_nat _ _ | exact eql_str _ _ | exact neq_str _ _ | (refine add_nat ?_; omega) | (refine sub_nat ?_ ?_; omega; omega)) | refine WR.pick rfl rfl rfl ?_ | refine WR.un rfl rfl ?_ | refine WR.ext rfl rfl ?_)
        (repeat refine WC.seq ?_); refine WC.regX hs5 fun s6 hs6 hx6 ho6 hn6 => ?_
        repeat (first | refine WR.nil ?_ | refine WR.guardY rfl ?_ | refine WR.guardN rfl ?_ | refine WR.guardT rfl ?_ | refine WR.mov rfl ?_ | (refine WR.len (v := ?_) rfl ?_ ?_; rotate_left; first | assumption | exact rfl) | (refine WR.iadr (v := ?_) rfl rfl ?_ ?_; rotate_left; assumption) | (refine WR.fadr (v := ?_) rfl ?_ ?_; rotate_left; first | assumption | exact rfl) | (refine WR.r (v := ?_) rfl rfl (Ld.use (s0 := ?_) ?_ ?_) ?_; rotate_left; rotate_left; assumption; assumption) | (refine WR.bin (v := ?_) rfl rfl ?_ ?_; rotate_left; first | assumption | exact lss_nat _ _ | exact eql_nat _ _ | exact neq_nat _ _ | exact gtr_nat _ _ | exact geq_nat _ _ | exact leq_nat _ _ | exact eql_str _ _ | exact neq_str _ _ | (refine add_nat ?_; omega) | (refine sub_nat ?_ ?_; omega; omega)) | refine WR.pick rfl rfl rfl ?_ | refine WR.un rfl rfl ?_ | refine WR.ext rfl rfl ?_)
        have hw6 := hw5.step hx6
        obtain ⟨v7, s7, d1, d2, d3⟩ := known19 hF9 hE9 (q := D[i].needs[k]) (hH.ext hs6) (by omega) hnn
        refine WR.fn rfl d1 ?_
        subst d3
        have hs7 := hs6.trans d2
        have hw7 := hw6.step d2
        by_cases hm : D[i].needs[k] ∈ ns
        · rw [decide_eq_true hm]
          repeat (first | refine WR.nil ?_ | refine WR.guardY rfl ?_ | refine WR.guardN rfl ?_ | refine WR.guardT rfl ?_ | refine WR.mov rfl ?_ | (refine WR.len (v := ?_) rfl ?_ ?_; rotate_left; first | assumption | exact rfl) | (refine WR.iadr (v := ?_) rfl rfl ?_ ?_; rotate_left; assumption) | (refine WR.fadr (v := ?_) rfl ?_ ?_; rotate_left; first | assumption | exact rfl) | (refine WR.r (v := ?_) rfl rfl (Ld.use (s0 := ?_) ?_ ?_) ?_; rotate_left; rotate_left; assumption; assumption) | (refine WR.bin (v := ?_) rfl rfl ?_ ?_; rotate_left; first | assumption | exact lss_nat _ _ | exact eql_nat _ _ | exact neq_nat _ _ | exact gtr_nat _ _ | exact geq_nat _ _ | exact leq_nat _ _ | exact eql_str _ _ | exact neq_str _ _ | (refine add_nat ?_; omega) | (refine sub_nat ?_ ?_; omega; omega)) | refine WR.pick rfl rfl rfl ?_ | refine WR.un rfl rfl ?_ | refine WR.ext rfl rfl ?_)
          (repeat refine WC.seq ?_); refine WC.cond rfl ?_ ?_
          · intro h; simp at h
          · intro _
            (repeat refine WC.seq ?_); refine WC.skip ?_
            (repeat refine WC.seq ?_); refine WC.regX hs7 fun s8 hs8 hx8 ho8 hn8 => ?_
            repeat (first | refine WR.nil ?_ | refine WR.guardY rfl ?_ | refine WR.guardN rfl ?_ | refine WR.guardT rfl ?_ | refine WR.mov rfl ?_ | (refine WR.len (v := ?_) rfl ?_ ?_; rotate_left; first | assumption | exact rfl) | (refine WR.iadr (v := ?_) rfl rfl ?_ ?_; rotate_left; assumption) | (refine WR.fadr (v := ?_) rfl ?_ ?_; rotate_left; first | assumption | exact rfl) | (refine WR.r (v := ?_) rfl rfl (Ld.use (s0 := ?_) ?_ ?_) ?_; rotate_left; rotate_left; assumption; assumption) | (refine WR.bin (v := ?_) rfl rfl ?_ ?_; rotate_left; first | assumption | exact lss_nat _ _ | exact eql_nat _ _ | exact neq_nat _ _ | exact gtr_nat _ _ | exact geq_nat _ _ | exact leq_nat _ _ | exact eql_str _ _ | exact neq_str _ _ | (refine add_nat ?_; omega) | (refine sub_nat ?_ ?_; omega; omega)) | refine WR.pick rfl rfl rfl ?_ | refine WR.un rfl rfl ?_ | refine WR.ext rfl rfl ?_)
            (repeat refine WC.seq ?_); refine WC.cond rfl ?_ ?_
            · intro h; simp at h
            · intro _
              refine WC.skip (tail _ _ ⟨rfl, rfl, rfl, rfl, rfl, rfl, rfl, rfl, rfl, rfl, rfl, rfl, trivial⟩ ((hw7.step hx8).congr fun j hj => ?_) fun _ => hm)
              unfold cur
              rw [wPart_succ hi hkl, hf0]
        · rw [decide_eq_false hm]
          repeat (first | refine WR.nil ?_ | refine WR.guardY rfl ?_ | refine WR.guardN rfl ?_ | refine WR.guardT rfl ?_ | refine WR.mov rfl ?_ | (refine WR.len (v := ?_) rfl ?_ ?_; rotate_left; first | assumption | exact rfl) | (refine WR.iadr (v := ?_) rfl rfl ?_ ?_; rotate_left; assumption) | (refine WR.fadr (v := ?_) rfl ?_ ?_; rotate_left; first | assumption | exact rfl) | (refine WR.r (v := ?_) rfl rfl (Ld.use (s0 := ?_) ?_ ?_) ?_; rotate_left; rotate_left; assumption; assumption) | (refine WR.bin (v := ?_) rfl rfl ?_ ?_; rotate_left; first | assumption | exact lss_nat _ _ | exact eql_nat _ _ | exact neq_nat _ _ | exact gtr_nat _ _ | exact geq_nat _ _ | exact leq_nat _ _ | exact eql_str _ _ | exact neq_str _ _ | (refine add_nat ?_; omega) | (refine sub_nat ?_ ?_; omega; omega)) | refine WR.pick rfl rfl rfl ?_ | refine WR.un rfl rfl ?_ | refine WR.ext rfl rfl ?_)
          (repeat refine WC.seq ?_); refine WC.cond rfl ?_ ?_
          · intro _
            exact WC.goto (.inl ⟨_, hw7, rfl, ⟨D[i], List.getElem_mem _, _, List.getElem_mem _, hf0, hm⟩, rfl, rfl⟩)
          · intro h; simp at h
      | some p' =>
        simp only [numV]
        repeat (first | refine WR.nil ?_ | refine WR.guardY rfl ?_ | refine WR.guardN rfl ?_ | refine WR.guardT rfl ?_ | refine WR.mov rfl ?_ | (refine WR.len (v := ?_) rfl ?_ ?_; rotate_left; first | assumption | exact rfl) | (refine WR.iadr (v := ?_) rfl rfl ?_ ?_; rotate_left; assumption) | (refine WR.fadr (v := ?_) rfl ?_ ?_; rotate_left; first | assumption | exact rfl) | (refine WR.r (v := ?_) rfl rfl (Ld.use (s0 := ?_) ?_ ?_) ?_; rotate_left; rotate_left; assumption; assumption) | (refine WR.bin (v := ?_) rfl rfl ?_ ?_; rotate_left; first | assumption | exact lss_nat _ _ | exact eql_nat _ _ | exact neq_nat _ _ | exact gtr_nat _ _ | exact geq_nat _ _ | exact leq_nat _ _ | exact eql_str _ _ | exact neq_str _ _ | (refine add_nat ?_; omega) | (refine sub_nat ?_ ?_; omega; omega)) | refine WR.pick rfl rfl rfl ?_ | refine WR.un rfl rfl ?_ | refine WR.ext rfl rfl ?_)
        (repeat refine WC.seq ?_); refine WC.regX hs5 fun s6 hs6 hx6 ho6 hn6 => ?_
        repeat (first | refine WR.nil ?_ | refine WR.guardY rfl ?_ | refine WR.guardN rfl ?_ | refine WR.guardT rfl ?_ | refine WR.mov rfl ?_ | (refine WR.len (v := ?_) rfl ?_ ?_; rotate_left; first | assumption | exact rfl) | (refine WR.iadr (v := ?_) rfl rfl ?_ ?_; rotate_left; assumption) | (refine WR.fadr (v := ?_) rfl ?_ ?_; rotate_left; first | assumption | exact rfl) | (refine WR.r (v := ?_) rfl rfl (Ld.use (s0 := ?_) ?_ ?_) ?_; rotate_left; rotate_left; assumption; assumption) | (refine WR.bin (v := ?_) rfl rfl ?_ ?_; rotate_left; first | assumption | exact lss_nat _ _ | exact eql_nat _ _ | exact neq_nat _ _ | exact gtr_nat _ _ | exact geq_nat _ _ | exact leq_nat _ _ | exact eql_str _ _ | exact neq_str _ _ | (refine add_nat ?_; omega) | (refine sub_nat ?_ ?_; omega; omega)) | refine WR.pick rfl rfl rfl ?_ | refine WR.un rfl rfl ?_ | refine WR.ext rfl rfl ?_)
        have hw6 := hw5.step hx6
        (repeat refine WC.seq ?_); refine WC.cond rfl ?_ ?_
        · intro h; simp at h
        · intro _
          (repeat refine WC.seq ?_); refine WC.skip ?_
          (repeat refine WC.seq ?_); refine WC.regX hs6 fun s8 hs8 hx8 ho8 hn8 => ?_
          have hw8 := hw6.step hx8
          by_cases hpi : p' = i
          · subst hpi
            have hb := neqF (rfl : p' = p')
            repeat (first | refine WR.nil ?_ | refine WR.guardY rfl ?_ | refine WR.guardN rfl ?_ | refine WR.guardT rfl ?_ | refine WR.mov rfl ?_ | (refine WR.len (v := ?_) rfl ?_ ?_; rotate_left; first | assumption | exact rfl) | (refine WR.iadr (v := ?_) rfl rfl ?_ ?_; rotate_left; assumption) | (refine WR.fadr (v := ?_) rfl ?_ ?_; rotate_left; first | assumption | exact rfl) | (refine WR.r (v := ?_) rfl rfl (Ld.use (s0 := ?_) ?_ ?_) ?_; rotate_left; rotate_left; assumption; assumption) | (refine WR.bin (v := ?_) rfl rfl ?_ ?_; rotate_left; first | assumption | exact lss_nat _ _ | exact eql_nat _ _ | exact neq_nat _ _ | exact gtr_nat _ _ | exact geq_nat _ _ | exact leq_nat _ _ | exact eql_str _ _ | exact neq_str _ _ | (refine add_nat ?_; omega) | (refine sub_nat ?_ ?_; omega; omega)) | refine WR.pick rfl rfl rfl ?_ | refine WR.un rfl rfl ?_ | refine WR.ext rfl rfl ?_)
            (repeat refine WC.seq ?_); refine WC.cond rfl ?_ ?_
            · intro h; simp at h
            · intro _
              refine WC.skip (tail _ _ ⟨rfl, rfl, rfl, rfl, rfl, rfl, rfl, rfl, rfl, rfl, rfl, rfl, trivial⟩ (hw8.congr fun j hj => ?_) fun h => by rw [hf0] at h; simp at h)
              unfold cur
              rw [wPart_succ hi hkl, hf0]
              simp
          · have hb := neqT hpi
            repeat (first | refine WR.nil ?_ | refine WR.guardY rfl ?_ | refine WR.guardN rfl ?_ | refine WR.guardT rfl ?_ | refine WR.mov rfl ?_ | (refine WR.len (v := ?_) rfl ?_ ?_; rotate_left; first | assumption | exact rfl) | (refine WR.iadr (v := ?_) rfl rfl ?_ ?_; rotate_left; assumption) | (refine WR.fadr (v := ?_) rfl ?_ ?_; rotate_left; first | assumption | exact rfl) | (refine WR.r (v := ?_) rfl rfl (Ld.use (s0 := ?_) ?_ ?_) ?_; rotate_left; rotate_left; assumption; assumption) | (refine WR.bin (v := ?_) rfl rfl ?_ ?_; rotate_left; first | assumption | exact lss_nat _ _ | exact eql_nat _ _ | exact neq_nat _ _ | exact gtr_nat _ _ | exact geq_nat _ _ | exact leq_nat _ _ | exact eql_str _ _ | exact neq_str _ _ | (refine add_nat ?_; omega) | (refine sub_nat ?_ ?_; omega; omega)) | refine WR.pick rfl rfl rfl ?_ | refine WR.un rfl rfl ?_ | refine WR.ext rfl rfl ?_)
            (repeat refine WC.seq ?_); refine WC.cond rfl ?_ ?_
            · intro _
              refine drawStep hw8 hi rfl rfl rfl ?_ (fun s' l' hl hw' => ?_)
              · unfold cur
                rw [if_neg (by omega), if_pos rfl]
                have := wPart_length D i k
                omega
              · refine tail _ _ ⟨(hl 0 (by omega)).trans rfl, (hl 1 (by omega)).trans rfl, (hl 4 (by omega)).trans rfl, (hl 6 (by omega)).trans rfl, (hl 7 (by omega)).trans rfl, (hl 41 (by omega)).trans rfl, (hl 42 (by omega)).trans rfl, (hl 43 (by omega)).trans rfl, (hl 12 (by omega)).trans rfl, (hl 49 (by omega)).trans rfl, (hl 50 (by omega)).trans rfl, (hl 51 (by omega)).trans rfl, trivial⟩ (hw'.congr fun j hj => ?_) fun h => by rw [hf0] at h; simp at h
                unfold cur
                rw [wPart_succ hi hkl, hf0]
                by_cases e : j = i
                · subst e; simp [hpi]
                · simp only [if_neg e]
            · intro h; simp at h
    · intro h; simp at h; omega
end Go.Proofs.Ytbcnhellcpeecaa

namespace Go.Proofs.Ytbcnhellcpeecaa
open Go Go.Abs
variable {F : FuncId → Option AFunc} {E : FuncId → Option (List AV → St → Option (AV × St))}
variable {s0 : St} {lo id4 id6 idW : Nat} {lv hv : AV} {D : List Dep} {ns : List (List Nat)}
theorem loop14c (hF : F 18 = some fn18) (hE : E 18 = none) (hF9 : F 19 = some fn19) (hE9 : E 19 = none) (hD : DepsV s0 lv D) (hH : Slv s0 1 hv (strs ns)) (hlen : D.length < 1000) (hns : ns.length < 1000) {n : Nat} (hn : D.length < n) (hnn : ns.length < n) (hneeds : ∀ d ∈ D, d.needs.length < 1000 ∧ d.needs.length < n + 1) :
    ∀ (j k : Nat) (s : St) (f : Nat), k + j = D.length → j < f → (∀ m (h : m < D.length), m < k → ∀ q ∈ D[m].needs, first D q = none → q ∈ ns) → WInv s0 s lo id4 id6 idW D.length lv (cur D k 0) →
      WL (acall F E (n + 1)) (n + 1) b14_2 f [(0, lv), (1, hv), (4, .ptr id4 0 0 2), (6, .ptr id6 0 0 2), (7, .int .i64 (.ofNat 19)), (41, lv), (42, .int .i64 (.ofNat D.length)), (43, .int .i64 (.ofNat k))] s
        (fun x l s => (∃ W, WInv s0 s lo id4 id6 idW D.length lv W ∧ x = .goto 0 ∧ missing D ns ∧ lkS l 7 = some (.int .i64 (.ofNat 19)) ∧ lkS l 4 = some (.ptr id4 0 0 2)) ∨
          (x = .ext 2 ∧ WInv s0 s lo id4 id6 idW D.length lv (wOf D) ∧ lkS l 4 = some (.ptr id4 0 0 2) ∧ lkS l 6 = some (.ptr id6 0 0 2) ∧ ¬ missing D ns)) := by
  intro j
  induction j with
  | zero =>
    intro k s f hk hf hq hw
    obtain ⟨f, rfl⟩ : ∃ g, f = g + 1 := ⟨f - 1, by omega⟩
    have hs := hw.ext
    refine WL.round ?_
    (repeat refine WC.seq ?_); refine WC.regX hs fun s1 hs1 hx1 ho1 hn1 => ?_
    repeat (first | refine WR.nil ?_ | refine WR.guardY rfl ?_ | refine WR.guardN rfl ?_ | refine WR.guardT rfl ?_ | refine WR.mov rfl ?_ | (refine WR.len (v := ?_) rfl ?_ ?_; rotate_left; first | assumption | exact rfl) | (refine WR.iadr (v := ?_) rfl rfl ?_ ?_; rotate_left; assumption) | (refine WR.fadr (v := ?_) rfl ?_ ?_; rotate_left; first | assumption | exact rfl) | (refine WR.r (v := ?_) rfl rfl (Ld.use (s0 := ?_) ?_ ?_) ?_; rotate_left; rotate_left; assumption; assumption) | (refine WR.bin (v := ?_) rfl rfl ?_ ?_; rotate_left; first | assumption | exact lss_nat _ _ | exact eql_nat _ _ | exact neq_nat _ _ | exact gtr_nat _ _ | exact geq_nat _ _ | exact leq_nat _ _ | exact eql_str _ _ | exact neq_str _ _ | (refine add_nat ?_; omega) | (refine sub_nat ?_ ?_; omega; omega)) | refine WR.pick rfl rfl rfl ?_ | refine WR.un rfl rfl ?_ | refine WR.ext rfl rfl ?_)
    (repeat refine WC.seq ?_); refine WC.cond rfl ?_ ?_
    · intro h; simp at h; omega
    · intro h
      refine WC.ext (.inr ⟨rfl, (hw.step hx1).congr fun j hj => ?_, rfl, rfl, ?_⟩)
      · unfold cur; rw [if_pos (by omega)]
      · rintro ⟨d, hd, q, hq2, h1, h2⟩
        obtain ⟨m, hm, rfl⟩ := List.getElem_of_mem hd
        exact h2 (hq m hm (by omega) q hq2 h1)
  | succ j ih =>
    intro k s f hk hf hq hw
    obtain ⟨f, rfl⟩ : ∃ g, f = g + 1 := ⟨f - 1, by omega⟩
    have hs := hw.ext
    have hkl : k < D.length := by omega
    obtain ⟨p, q0, q1, nv, e1, e2, e3, e4, e5, e6, e7⟩ := hD.at hkl
    have hnd := hneeds D[k] (List.getElem_mem _)
    have hlen' := e6.len' (m := D[k].needs.length) (by simp [strs])
    refine WL.round ?_
    (repeat refine WC.seq ?_); refine WC.regX hs fun s1 hs1 hx1 ho1 hn1 => ?_
    repeat (first | refine WR.nil ?_ | refine WR.guardY rfl ?_ | refine WR.guardN rfl ?_ | refine WR.guardT rfl ?_ | refine WR.mov rfl ?_ | (refine WR.len (v := ?_) rfl ?_ ?_; rotate_left; first | assumption | exact rfl) | (refine WR.iadr (v := ?_) rfl rfl ?_ ?_; rotate_left; assumption) | (refine WR.fadr (v := ?_) rfl ?_ ?_; rotate_left; first | assumption | exact rfl) | (refine WR.r (v := ?_) rfl rfl (Ld.use (s0 := ?_) ?_ ?_) ?_; rotate_left; rotate_left; assumption; assumption) | (refine WR.bin (v := ?_) rfl rfl ?_ ?_; rotate_left; first | assumption | exact lss_nat _ _ | exact eql_nat _ _ | exact neq_nat _ _ | exact gtr_nat _ _ | exact geq_nat _ _ | exact leq_nat _ _ | exact eql_str _ _ | exact neq_str _ _ | (refine add_nat ?_; omega) | (refine sub_nat ?_ ?_; omega; omega)) | refine WR.pick rfl rfl rfl ?_ | refine WR.un rfl rfl ?_ | refine WR.ext rfl rfl ?_)
    (repeat refine WC.seq ?_); refine WC.cond rfl ?_ ?_
    · intro _
      (repeat refine WC.seq ?_); refine WC.skip ?_
      (repeat refine WC.seq ?_); refine WC.blk ?_
      (repeat refine WC.seq ?_); refine WC.regX hs1 fun s2 hs2 hx2 ho2 hn2 => ?_
      repeat (first | refine WR.nil ?_ | refine WR.guardY rfl ?_ | refine WR.guardN rfl ?_ | refine WR.guardT rfl ?_ | refine WR.mov rfl ?_ | (refine WR.len (v := ?_) rfl ?_ ?_; rotate_left; first | assumption | exact rfl) | (refine WR.iadr (v := ?_) rfl rfl ?_ ?_; rotate_left; assumption) | (refine WR.fadr (v := ?_) rfl ?_ ?_; rotate_left; first | assumption | exact rfl) | (refine WR.r (v := ?_) rfl rfl (Ld.use (s0 := ?_) ?_ ?_) ?_; rotate_left; rotate_left; assumption; assumption) | (refine WR.bin (v := ?_) rfl rfl ?_ ?_; rotate_left; first | assumption | exact lss_nat _ _ | exact eql_nat _ _ | exact neq_nat _ _ | exact gtr_nat _ _ | exact geq_nat _ _ | exact leq_nat _ _ | exact eql_str _ _ | exact neq_str _ _ | (refine add_nat ?_; omega) | (refine sub_nat ?_ ?_; omega; omega)) | refine WR.pick rfl rfl rfl ?_ | refine WR.un rfl rfl ?_ | refine WR.ext rfl rfl ?_)
      refine WR.r rfl rfl ((e7.ext hs2).loadn rfl _) ?_
      refine WR.alloc ?_
      repeat (first | refine WR.nil ?_ | refine WR.guardY rfl ?_ | refine WR.guardN rfl ?_ | refine WR.guardT rfl ?_ | refine WR.mov rfl ?_ | (refine WR.len (v := ?_) rfl ?_ ?_; rotate_left; first | assumption | exact rfl) | (refine WR.iadr (v := ?_) rfl rfl ?_ ?_; rotate_left; assumption) | (refine WR.fadr (v := ?_) rfl ?_ ?_; rotate_left; first | assumption | exact rfl) | (refine WR.r (v := ?_) rfl rfl (Ld.use (s0 := ?_) ?_ ?_) ?_; rotate_left; rotate_left; assumption; assumption) | (refine WR.bin (v := ?_) rfl rfl ?_ ?_; rotate_left; first | assumption | exact lss_nat _ _ | exact eql_nat _ _ | exact neq_nat _ _ | exact gtr_nat _ _ | exact geq_nat _ _ | exact leq_nat _ _ | exact eql_str _ _ | exact neq_str _ _ | (refine add_nat ?_; omega) | (refine sub_nat ?_ ?_; omega; omega)) | refine WR.pick rfl rfl rfl ?_ | refine WR.un rfl rfl ?_ | refine WR.ext rfl rfl ?_)
      refine WR.store rfl rfl rfl rfl (by simp) (wr_some (by rw [get_put, if_pos rfl]) (by simp [cellsOf])) ?_
      repeat (first | refine WR.nil ?_ | refine WR.guardY rfl ?_ | refine WR.guardN rfl ?_ | refine WR.guardT rfl ?_ | refine WR.mov rfl ?_ | (refine WR.len (v := ?_) rfl ?_ ?_; rotate_left; first | assumption | exact rfl) | (refine WR.iadr (v := ?_) rfl rfl ?_ ?_; rotate_left; assumption) | (refine WR.fadr (v := ?_) rfl ?_ ?_; rotate_left; first | assumption | exact rfl) | (refine WR.r (v := ?_) rfl rfl (Ld.use (s0 := ?_) ?_ ?_) ?_; rotate_left; rotate_left; assumption; assumption) | (refine WR.bin (v := ?_) rfl rfl ?_ ?_; rotate_left; first | assumption | exact lss_nat _ _ | exact eql_nat _ _ | exact neq_nat _ _ | exact gtr_nat _ _ | exact geq_nat _ _ | exact leq_nat _ _ | exact eql_str _ _ | exact neq_str _ _ | (refine add_nat ?_; omega) | (refine sub_nat ?_ ?_; omega; omega)) | refine WR.pick rfl rfl rfl ?_ | refine WR.un rfl rfl ?_ | refine WR.ext rfl rfl ?_)
      have hid : s1.next + 1 + 1 + 1 < s2.next := by rw [hn2]; simp [r14_12]
      generalize hid0 : s1.next + 1 + 1 + 1 = id at hid ⊢
      generalize hs3 : St.put (St.put s2 _ _) _ _ = s3
      have hidn : s1.next ≤ id := by omega
      have hy3 : Ext s1 s3 := by rw [← hs3]; exact (hx2.put hidn _).put hidn _
      have hg3 : s3.objs.get id = some (.cells [.str D[k].name, nv] 0 0 false) := by rw [← hs3, get_put, if_pos rfl]; rfl
      have hn3 : id < s3.next := by rw [← hs3]; exact hid
      obtain ⟨u, u1, u2⟩ := (Pt.obj hg3 hn3).fadr (off := 1) (size := 1) (by simp)
      have hz3 := hs1.trans hy3
      have hw3 := hw.step (hx1.trans hy3)
      (repeat refine WC.seq ?_); refine WC.regX hz3 fun s4 hs4 hx4 ho4 hn4 => ?_
      have hw4 := hw3.step hx4
      refine WR.fadr rfl u1 ?_
      refine WR.r rfl rfl ((u2.ext hx4).load1 _) ?_
      repeat (first | refine WR.nil ?_ | refine WR.guardY rfl ?_ | refine WR.guardN rfl ?_ | refine WR.guardT rfl ?_ | refine WR.mov rfl ?_ | (refine WR.len (v := ?_) rfl ?_ ?_; rotate_left; first | assumption | exact rfl) | (refine WR.iadr (v := ?_) rfl rfl ?_ ?_; rotate_left; assumption) | (refine WR.fadr (v := ?_) rfl ?_ ?_; rotate_left; first | assumption | exact rfl) | (refine WR.r (v := ?_) rfl rfl (Ld.use (s0 := ?_) ?_ ?_) ?_; rotate_left; rotate_left; assumption; assumption) | (refine WR.bin (v := ?_) rfl rfl ?_ ?_; rotate_left; first | assumption | exact lss_nat _ _ | exact eql_nat _ _ | exact neq_nat _ _ | exact gtr_nat _ _ | exact geq_nat _ _ | exact leq_nat _ _ | exact eql_str _ _ | exact neq_str _ _ | (refine add_nat ?_; omega) | (refine sub_nat ?_ ?_; omega; omega)) | refine WR.pick rfl rfl rfl ?_ | refine WR.un rfl rfl ?_ | refine WR.ext rfl rfl ?_)
      (repeat refine WC.seq ?_); refine WC.blk (WC.loop ?_)
      refine WL.weak ?hw1 (WL.mono (loop14b hF hE hF9 hE9 hD hH hlen hns hn hnn hkl hnd.1 e6 D[k].needs.length 0 _ (n + 1) (by omega) hnd.2 (fun m _ hm => absurd hm (by omega)) hw4) ?_)
      case hw1 => exact ⟨rfl, rfl, rfl, rfl, rfl, rfl, rfl, rfl, rfl, rfl, rfl, rfl, trivial⟩
      rintro x l s (⟨W, h1, rfl, h2, h3, h4⟩ | ⟨rfl, h1, h2, h3⟩)
      · exact .inl ⟨W, h1, rfl, h2, h3, h4⟩
      · refine WC.weak h2 ?_
        have hs5 := h1.ext
        (repeat refine WC.seq ?_); refine WC.regX hs5 fun s6 hs6 hx6 ho6 hn6 => ?_
        repeat (first | refine WR.nil ?_ | refine WR.guardY rfl ?_ | refine WR.guardN rfl ?_ | refine WR.guardT rfl ?_ | refine WR.mov rfl ?_ | (refine WR.len (v := ?_) rfl ?_ ?_; rotate_left; first | assumption | exact rfl) | (refine WR.iadr (v := ?_) rfl rfl ?_ ?_; rotate_left; assumption) | (refine WR.fadr (v := ?_) rfl ?_ ?_; rotate_left; first | assumption | exact rfl) | (refine WR.r (v := ?_) rfl rfl (Ld.use (s0 := ?_) ?_ ?_) ?_; rotate_left; rotate_left; assumption; assumption) | (refine WR.bin (v := ?_) rfl rfl ?_ ?_; rotate_left; first | assumption | exact lss_nat _ _ | exact eql_nat _ _ | exact neq_nat _ _ | exact gtr_nat _ _ | exact geq_nat _ _ | exact leq_nat _ _ | exact eql_str _ _ | exact neq_str _ _ | (refine add_nat ?_; omega) | (refine sub_nat ?_ ?_; omega; omega)) | refine WR.pick rfl rfl rfl ?_ | refine WR.un rfl rfl ?_ | refine WR.ext rfl rfl ?_)
        refine WL.weak ?hw2 (ih (k + 1) _ f (by omega) (by omega) ?_ (h1.step hx6))
        case hw2 => exact ⟨rfl, rfl, rfl, rfl, rfl, rfl, rfl, rfl, trivial⟩
        intro m hm hmk q hq2 hf0
        by_cases e : m = k
        · subst e; exact h3 q hq2 hf0
        · exact hq m hm (by omega) q hq2 hf0
    · intro h; simp at h; omega

/-- What a graph, or a fault, looks like. -/
def DrawP (b : Nat) (lv : AV) (D : List Dep) (ns : List (List Nat)) (v : AV) (s : St) : Prop :=
  (twice D ∧ v = .tup [.agg [.nilslc, .nilslc], .int .i64 (.ofNat 11)]) ∨ (¬ twice D ∧ missing D ns ∧ v = .tup [.agg [.nilslc, .nilslc], .int .i64 (.ofNat 19)]) ∨
  (¬ twice D ∧ ¬ missing D ns ∧ ∃ wv, v = .tup [.agg [lv, wv], .int .i64 (.ofNat 0)] ∧ OneC wv ∧ WaitsV b s wv D.length (wOf D))
theorem rep_get (v : AV) : ∀ (n j : Nat), j < n → (rep [v] n)[j]? = some v
  | 0, j, h => by omega
  | n + 1, 0, h => rfl
  | n + 1, j + 1, h => by simp only [rep, List.singleton_append, List.getElem?_cons_succ]; exact rep_get v n j (by omega)
theorem rep_length (v : AV) : ∀ n, (rep [v] n).length = n
  | 0 => rfl
  | n + 1 => by simp only [rep, List.singleton_append, List.length_cons, rep_length v n]
theorem draw14 (hF14 : F 14 = some fn14) (hE14 : E 14 = none) (hF : F 18 = some fn18) (hE : E 18 = none) (hF9 : F 19 = some fn19) (hE9 : E 19 = none) (hD : DepsV s0 lv D) (hlv : OneC lv) (hH : Slv s0 1 hv (strs ns)) (hlen : D.length < 1000) (hns : ns.length < 1000) {n : Nat} (hn : D.length < n) (hnn : ns.length < n) (hneeds : ∀ d ∈ D, d.needs.length < 1000 ∧ d.needs.length < n + 1) :
    Pure (acall F E (n + 2)) 14 s0 [lv, hv] fun v s => DrawP s0.next lv D ns v s := by
  have hs := Ext.refl s0
  have h0 := hD.len
  refine acall_of (P := fun v s' => Ext s0 s' ∧ DrawP s0.next lv D ns v s') hE14 hF14 (Nat.le_of_ble_eq_true rfl) ?_
  (repeat refine WC.seq ?_); refine WC.regX hs fun s1 hs1 hx1 ho1 hn1 => ?_
  refine WR.alloc ?_
  repeat (first | refine WR.nil ?_ | refine WR.guardY rfl ?_ | refine WR.guardN rfl ?_ | refine WR.guardT rfl ?_ | refine WR.mov rfl ?_ | (refine WR.len (v := ?_) rfl ?_ ?_; rotate_left; first | assumption | exact rfl) | (refine WR.iadr (v := ?_) rfl rfl ?_ ?_; rotate_left; assumption) | (refine WR.fadr (v := ?_) rfl ?_ ?_; rotate_left; first | assumption | exact rfl) | (refine WR.r (v := ?_) rfl rfl (Ld.use (s0 := ?_) ?_ ?_) ?_; rotate_left; rotate_left; assumption; assumption) | (refine WR.bin (v := ?_) rfl rfl ?_ ?_; rotate_left; first | assumption | exact lss_nat _ _ | exact eql_nat _ _ | exact neq_nat _ _ | exact gtr_nat _ _ | exact geq_nat _ _ | exact leq_nat _ _ | exact eql_str _ _ | exact neq_str _ _ | (refine add_nat ?_; omega) | (refine sub_nat ?_ ?_; omega; omega)) | refine WR.pick rfl rfl rfl ?_ | refine WR.un rfl rfl ?_ | refine WR.ext rfl rfl ?_)
  have hid4 : s0.next < s1.next := by rw [hn1]; simp [r14_0]
  generalize hs2 : St.put s1 _ _ = s2
  have hy2 : Ext s0 s2 := by rw [← hs2]; exact hs1.put (Nat.le_refl _) _
  have hn2 : s2.next = s1.next := by rw [← hs2]; rfl
  have hg2 : s2.objs.get s0.next = some (.cells [.nilslc, .nilslc] 0 0 false) := by rw [← hs2, get_put, if_pos rfl]
  refine WC.scpj ?_
  (repeat refine WC.seq ?_); refine WC.regX hy2 fun s3 hs3 hx3 ho3 hn3 => ?_
  repeat (first | refine WR.nil ?_ | refine WR.guardY rfl ?_ | refine WR.guardN rfl ?_ | refine WR.guardT rfl ?_ | refine WR.mov rfl ?_ | (refine WR.len (v := ?_) rfl ?_ ?_; rotate_left; first | assumption | exact rfl) | (refine WR.iadr (v := ?_) rfl rfl ?_ ?_; rotate_left; assumption) | (refine WR.fadr (v := ?_) rfl ?_ ?_; rotate_left; first | assumption | exact rfl) | (refine WR.r (v := ?_) rfl rfl (Ld.use (s0 := ?_) ?_ ?_) ?_; rotate_left; rotate_left; assumption; assumption) | (refine WR.bin (v := ?_) rfl rfl ?_ ?_; rotate_left; first | assumption | exact lss_nat _ _ | exact eql_nat _ _ | exact neq_nat _ _ | exact gtr_nat _ _ | exact geq_nat _ _ | exact leq_nat _ _ | exact eql_str _ _ | exact neq_str _ _ | (refine add_nat ?_; omega) | (refine sub_nat ?_ ?_; omega; omega)) | refine WR.pick rfl rfl rfl ?_ | refine WR.un rfl rfl ?_ | refine WR.ext rfl rfl ?_)
  refine WR.mkslc rfl rfl (Nat.le_refl _) (by simp [lim]; omega) ?_
  refine WR.build (fillL1 rfl hlv (by simp) (fillL1 rfl ⟨rfl, rfl⟩ (by simp [setSeg]) rfl)) ?_
  refine WR.alloc ?_
  refine WR.store rfl rfl rfl rfl (by simp) (wr_some (by rw [get_put, if_pos rfl]) (by simp [cellsOf, setSeg])) ?_
  repeat (first | refine WR.nil ?_ | refine WR.guardY rfl ?_ | refine WR.guardN rfl ?_ | refine WR.guardT rfl ?_ | refine WR.mov rfl ?_ | (refine WR.len (v := ?_) rfl ?_ ?_; rotate_left; first | assumption | exact rfl) | (refine WR.iadr (v := ?_) rfl rfl ?_ ?_; rotate_left; assumption) | (refine WR.fadr (v := ?_) rfl ?_ ?_; rotate_left; first | assumption | exact rfl) | (refine WR.r (v := ?_) rfl rfl (Ld.use (s0 := ?_) ?_ ?_) ?_; rotate_left; rotate_left; assumption; assumption) | (refine WR.bin (v := ?_) rfl rfl ?_ ?_; rotate_left; first | assumption | exact lss_nat _ _ | exact eql_nat _ _ | exact neq_nat _ _ | exact gtr_nat _ _ | exact geq_nat _ _ | exact leq_nat _ _ | exact eql_str _ _ | exact neq_str _ _ | (refine add_nat ?_; omega) | (refine sub_nat ?_ ?_; omega; omega)) | refine WR.pick rfl rfl rfl ?_ | refine WR.un rfl rfl ?_ | refine WR.ext rfl rfl ?_)
  have hlen3 : s3.next = s2.next + 7 := by rw [hn3]; rfl
  generalize hid6 : s2.next + 1 + 1 + 1 + 1 + 1 = id6
  generalize hidW : s2.next + 1 + 1 + 1 = idW
  generalize hs4 : St.put (St.put (St.put s3 _ _) _ _) _ _ = s4
  have e4 : s4.next = s3.next := by rw [← hs4]; rfl
  have inv : WInv s0 s4 s4.next s0.next id6 idW D.length lv (cur D 0 0) := by
    refine ⟨?_, ⟨by omega, by omega, by omega, by omega, by omega, by omega, by omega⟩, ⟨by omega, by omega, by omega⟩, ?_, ?_, ?_⟩
    · rw [← hs4]; exact ((hs3.put (by omega) _).put (by omega) _).put (by omega) _
    · rw [← hs4, get_put, if_neg (by omega), get_put, if_neg (by omega), get_put, if_neg (by omega), hx3.old _ (by omega)]; exact hg2
    · rw [← hs4, get_put, if_pos rfl]; rfl
    · refine ⟨rep [.nilslc] D.length, ?_, rep_length _ _, fun j hj => ⟨.nilslc, rep_get _ _ _ hj, ?_⟩, ?_⟩
      · rw [← hs4, get_put, if_neg (by omega), get_put, if_neg (by omega), get_put, if_pos rfl]
      · have : cur D 0 0 j = [] := by
          unfold cur
          rw [if_neg (by omega)]
          by_cases e : j = 0
          · subst e; rw [if_pos rfl]; simp [wPart]
          · rw [if_neg e]
        rw [this]
        exact Own.nil (Nat.le_refl _)
      · intro i j vi vj _ h1 h2
        have : vi = .nilslc := by
          have hi : i < D.length := by
            rw [List.getElem?_eq_some_iff] at h1; obtain ⟨h, _⟩ := h1; rwa [rep_length] at h
          rw [rep_get _ _ _ hi] at h1; cases h1; rfl
        subst this
        exact fun _ => .inl trivial
  have hs4' := inv.ext
  -- a fault, told
  have fault : ∀ (c : Nat) (l : SL) (s : St) (W : Nat → List Nat), WInv s0 s s4.next s0.next id6 idW D.length lv W → lkS l 7 = some (.int .i64 (.ofNat c)) → lkS l 4 = some (.ptr s0.next 0 0 2) → (c = 11 ∧ twice D ∨ c = 19 ∧ ¬ twice D ∧ missing D ns) →
      WC (acall F E (n + 1)) (n + 1) (.seq .skip (.seq (.reg r14_24) .ret)) l s (fun x l s => noGoto x (fun x => doneW fn14.results (fun v s' => Ext s0 s' ∧ DrawP s0.next lv D ns v s') x l s)) := by
    intro c l s W hw h7 h4 hc
    refine WC.weak (l2 := [(7, .int .i64 (.ofNat c)), (4, .ptr s0.next 0 0 2)]) ⟨h7, h4, trivial⟩ ?_
    have hs := hw.ext
    (repeat refine WC.seq ?_); refine WC.skip ?_
    (repeat refine WC.seq ?_); refine WC.regX hs fun s1 hs1 hx1 ho1 hn1 => ?_
    refine WR.build rfl ?_
    repeat (first | refine WR.nil ?_ | refine WR.guardY rfl ?_ | refine WR.guardN rfl ?_ | refine WR.guardT rfl ?_ | refine WR.mov rfl ?_ | (refine WR.len (v := ?_) rfl ?_ ?_; rotate_left; first | assumption | exact rfl) | (refine WR.iadr (v := ?_) rfl rfl ?_ ?_; rotate_left; assumption) | (refine WR.fadr (v := ?_) rfl ?_ ?_; rotate_left; first | assumption | exact rfl) | (refine WR.r (v := ?_) rfl rfl (Ld.use (s0 := ?_) ?_ ?_) ?_; rotate_left; rotate_left; assumption; assumption) | (refine WR.bin (v := ?_) rfl rfl ?_ ?_; rotate_left; first | assumption | exact lss_nat _ _ | exact eql_nat _ _ | exact neq_nat _ _ | exact gtr_nat _ _ | exact geq_nat _ _ | exact leq_nat _ _ | exact eql_str _ _ | exact neq_str _ _ | (refine add_nat ?_; omega) | (refine sub_nat ?_ ?_; omega; omega)) | refine WR.pick rfl rfl rfl ?_ | refine WR.un rfl rfl ?_ | refine WR.ext rfl rfl ?_)
    have hw1 := hw.step hx1
    refine WR.store rfl rfl rfl rfl (by simp) (wr_some hw1.g4 (by simp [cellsOf])) ?_
    repeat (first | refine WR.nil ?_ | refine WR.guardY rfl ?_ | refine WR.guardN rfl ?_ | refine WR.guardT rfl ?_ | refine WR.mov rfl ?_ | (refine WR.len (v := ?_) rfl ?_ ?_; rotate_left; first | assumption | exact rfl) | (refine WR.iadr (v := ?_) rfl rfl ?_ ?_; rotate_left; assumption) | (refine WR.fadr (v := ?_) rfl ?_ ?_; rotate_left; first | assumption | exact rfl) | (refine WR.r (v := ?_) rfl rfl (Ld.use (s0 := ?_) ?_ ?_) ?_; rotate_left; rotate_left; assumption; assumption) | (refine WR.bin (v := ?_) rfl rfl ?_ ?_; rotate_left; first | assumption | exact lss_nat _ _ | exact eql_nat _ _ | exact neq_nat _ _ | exact gtr_nat _ _ | exact geq_nat _ _ | exact leq_nat _ _ | exact eql_str _ _ | exact neq_str _ _ | (refine add_nat ?_; omega) | (refine sub_nat ?_ ?_; omega; omega)) | refine WR.pick rfl rfl rfl ?_ | refine WR.un rfl rfl ?_ | refine WR.ext rfl rfl ?_)
    (repeat refine WC.seq ?_); refine WC.ret ?_
    refine ⟨.inr rfl, [.agg [.nilslc, .nilslc], .int .i64 (.ofNat c)], ?_, hs1.put (Nat.le_refl _) _, ?_⟩
    · have : Pt (s1.put s0.next (.cells (setSeg [.nilslc, .nilslc] 0 (cellsOf (.agg [.nilslc, .nilslc]))) 0 0 false)) (.ptr s0.next 0 0 2) [.nilslc, .nilslc] :=
        Pt.obj (g := 0) (gr := false) (cs := [.nilslc, .nilslc]) (by rw [get_put]; simp [setSeg, cellsOf]) (show s0.next < s1.next by have := hw1.lt; omega)
      simp only [fn14, ressL, resL, putL, lkS]
      simp only [show Nat.beq 5 4 = false from rfl, show Nat.beq 91 4 = false from rfl, show Nat.beq 90 4 = false from rfl, show Nat.beq 7 4 = false from rfl, show Nat.beq 4 4 = true from rfl, show Nat.beq 5 5 = true from rfl, cond_true, cond_false, this.loadn (n := 2) rfl]
    · rcases hc with ⟨rfl, h⟩ | ⟨rfl, h, h2⟩
      · exact .inl ⟨h, rfl⟩
      · exact .inr (.inl ⟨h, h2, rfl⟩)
  (repeat refine WC.seq ?_); refine WC.regX hs4' fun s5 hs5 hx5 ho5 hn5 => ?_
  repeat (first | refine WR.nil ?_ | refine WR.guardY rfl ?_ | refine WR.guardN rfl ?_ | refine WR.guardT rfl ?_ | refine WR.mov rfl ?_ | (refine WR.len (v := ?_) rfl ?_ ?_; rotate_left; first | assumption | exact rfl) | (refine WR.iadr (v := ?_) rfl rfl ?_ ?_; rotate_left; assumption) | (refine WR.fadr (v := ?_) rfl ?_ ?_; rotate_left; first | assumption | exact rfl) | (refine WR.r (v := ?_) rfl rfl (Ld.use (s0 := ?_) ?_ ?_) ?_; rotate_left; rotate_left; assumption; assumption) | (refine WR.bin (v := ?_) rfl rfl ?_ ?_; rotate_left; first | assumption | exact lss_nat _ _ | exact eql_nat _ _ | exact neq_nat _ _ | exact gtr_nat _ _ | exact geq_nat _ _ | exact leq_nat _ _ | exact eql_str _ _ | exact neq_str _ _ | (refine add_nat ?_; omega) | (refine sub_nat ?_ ?_; omega; omega)) | refine WR.pick rfl rfl rfl ?_ | refine WR.un rfl rfl ?_ | refine WR.ext rfl rfl ?_)
  have inv5 := inv.step hx5
  (repeat refine WC.seq ?_); refine WC.regX hs5 fun s6 hs6 hx6 ho6 hn6 => ?_
  repeat (first | refine WR.nil ?_ | refine WR.guardY rfl ?_ | refine WR.guardN rfl ?_ | refine WR.guardT rfl ?_ | refine WR.mov rfl ?_ | (refine WR.len (v := ?_) rfl ?_ ?_; rotate_left; first | assumption | exact rfl) | (refine WR.iadr (v := ?_) rfl rfl ?_ ?_; rotate_left; assumption) | (refine WR.fadr (v := ?_) rfl ?_ ?_; rotate_left; first | assumption | exact rfl) | (refine WR.r (v := ?_) rfl rfl (Ld.use (s0 := ?_) ?_ ?_) ?_; rotate_left; rotate_left; assumption; assumption) | (refine WR.bin (v := ?_) rfl rfl ?_ ?_; rotate_left; first | assumption | exact lss_nat _ _ | exact eql_nat _ _ | exact neq_nat _ _ | exact gtr_nat _ _ | exact geq_nat _ _ | exact leq_nat _ _ | exact eql_str _ _ | exact neq_str _ _ | (refine add_nat ?_; omega) | (refine sub_nat ?_ ?_; omega; omega)) | refine WR.pick rfl rfl rfl ?_ | refine WR.un rfl rfl ?_ | refine WR.ext rfl rfl ?_)
  (repeat refine WC.seq ?_); refine WC.blk (WC.loop ?_)
  refine WL.weak ?hw1 (WL.mono (loop14a (hv := hv) hF hE hD hlen hn D.length 0 _ (n + 1) (by omega) (by omega) (fun i _ hi => absurd hi (by omega)) (inv5.step hx6)) ?_)
  case hw1 => exact ⟨rfl, rfl, rfl, rfl, rfl, rfl, rfl, rfl, trivial⟩
  rintro x l s ⟨h1, h2, ⟨rfl, h3, h4, h5, h6⟩ | ⟨rfl, h3, h4⟩⟩
  · have hsA := h1.ext
    refine WC.weak (l2 := [(0, lv), (1, hv), (4, .ptr s0.next 0 0 2), (6, .ptr id6 0 0 2)]) ⟨h4, h5, h2, h6, trivial⟩ ?_
    (repeat refine WC.seq ?_); refine WC.regX hsA fun s7 hs7 hx7 ho7 hn7 => ?_
    repeat (first | refine WR.nil ?_ | refine WR.guardY rfl ?_ | refine WR.guardN rfl ?_ | refine WR.guardT rfl ?_ | refine WR.mov rfl ?_ | (refine WR.len (v := ?_) rfl ?_ ?_; rotate_left; first | assumption | exact rfl) | (refine WR.iadr (v := ?_) rfl rfl ?_ ?_; rotate_left; assumption) | (refine WR.fadr (v := ?_) rfl ?_ ?_; rotate_left; first | assumption | exact rfl) | (refine WR.r (v := ?_) rfl rfl (Ld.use (s0 := ?_) ?_ ?_) ?_; rotate_left; rotate_left; assumption; assumption) | (refine WR.bin (v := ?_) rfl rfl ?_ ?_; rotate_left; first | assumption | exact lss_nat _ _ | exact eql_nat _ _ | exact neq_nat _ _ | exact gtr_nat _ _ | exact geq_nat _ _ | exact leq_nat _ _ | exact eql_str _ _ | exact neq_str _ _ | (refine add_nat ?_; omega) | (refine sub_nat ?_ ?_; omega; omega)) | refine WR.pick rfl rfl rfl ?_ | refine WR.un rfl rfl ?_ | refine WR.ext rfl rfl ?_)
    (repeat refine WC.seq ?_); refine WC.regX hs7 fun s8 hs8 hx8 ho8 hn8 => ?_
    repeat (first | refine WR.nil ?_ | refine WR.guardY rfl ?_ | refine WR.guardN rfl ?_ | refine WR.guardT rfl ?_ | refine WR.mov rfl ?_ | (refine WR.len (v := ?_) rfl ?_ ?_; rotate_left; first | assumption | exact rfl) | (refine WR.iadr (v := ?_) rfl rfl ?_ ?_; rotate_left; assumption) | (refine WR.fadr (v := ?_) rfl ?_ ?_; rotate_left; first | assumption | exact rfl) | (refine WR.r (v := ?_) rfl rfl (Ld.use (s0 := ?_) ?_ ?_) ?_; rotate_left; rotate_left; assumption; assumption) | (refine WR.bin (v := ?_) rfl rfl ?_ ?_; rotate_left; first | assumption | exact lss_nat _ _ | exact eql_nat _ _ | exact neq_nat _ _ | exact gtr_nat _ _ | exact geq_nat _ _ | exact leq_nat _ _ | exact eql_str _ _ | exact neq_str _ _ | (refine add_nat ?_; omega) | (refine sub_nat ?_ ?_; omega; omega)) | refine WR.pick rfl rfl rfl ?_ | refine WR.un rfl rfl ?_ | refine WR.ext rfl rfl ?_)
    (repeat refine WC.seq ?_); refine WC.blk (WC.loop ?_)
    refine WL.weak ?hw2 (WL.mono (loop14c (ns := ns) hF hE hF9 hE9 hD hH hlen hns hn hnn hneeds D.length 0 _ (n + 1) (by omega) (by omega) (fun i _ hi => absurd hi (by omega)) ((h1.step hx7).step hx8)) ?_)
    case hw2 => exact ⟨rfl, rfl, rfl, rfl, rfl, rfl, rfl, rfl, trivial⟩
    rintro x l s (⟨W, k1, rfl, k2, k3, k4⟩ | ⟨rfl, k1, k2, k3, k4⟩)
    · exact ⟨rfl, fault 19 _ _ _ k1 k3 k4 (.inr ⟨rfl, h3, k2⟩)⟩
    · have hsB := k1.ext
      refine WC.weak (l2 := [(4, .ptr s0.next 0 0 2), (6, .ptr id6 0 0 2)]) ⟨k2, k3, trivial⟩ ?_
      (repeat refine WC.seq ?_); refine WC.regX hsB fun s9 hs9 hx9 ho9 hn9 => ?_
      have k9 := k1.step hx9
      have p6 : Pt s9 (.ptr id6 0 0 2) [lv, .slc idW 0 0 D.length D.length 1] := Pt.obj k9.g6 (Nat.lt_of_lt_of_le k9.lt.2.2.2.1 k9.lt.2.2.2.2.2.2)
      refine WR.r rfl rfl (p6.loadn rfl _) ?_
      refine WR.store rfl rfl rfl rfl (by simp) (wr_some k9.g4 (by simp [cellsOf])) ?_
      repeat (first | refine WR.nil ?_ | refine WR.guardY rfl ?_ | refine WR.guardN rfl ?_ | refine WR.guardT rfl ?_ | refine WR.mov rfl ?_ | (refine WR.len (v := ?_) rfl ?_ ?_; rotate_left; first | assumption | exact rfl) | (refine WR.iadr (v := ?_) rfl rfl ?_ ?_; rotate_left; assumption) | (refine WR.fadr (v := ?_) rfl ?_ ?_; rotate_left; first | assumption | exact rfl) | (refine WR.r (v := ?_) rfl rfl (Ld.use (s0 := ?_) ?_ ?_) ?_; rotate_left; rotate_left; assumption; assumption) | (refine WR.bin (v := ?_) rfl rfl ?_ ?_; rotate_left; first | assumption | exact lss_nat _ _ | exact eql_nat _ _ | exact neq_nat _ _ | exact gtr_nat _ _ | exact geq_nat _ _ | exact leq_nat _ _ | exact eql_str _ _ | exact neq_str _ _ | (refine add_nat ?_; omega) | (refine sub_nat ?_ ?_; omega; omega)) | refine WR.pick rfl rfl rfl ?_ | refine WR.un rfl rfl ?_ | refine WR.ext rfl rfl ?_)
      (repeat refine WC.seq ?_); refine WC.ret ?_
      refine ⟨.inr rfl, [.agg [lv, .slc idW 0 0 D.length D.length 1], .int .i64 (.ofNat 0)], ?_, hs9.put (Nat.le_refl _) _, .inr (.inr ⟨h3, k4, _, rfl, ⟨rfl, rfl⟩, ?_⟩)⟩
      · have : Pt (s9.put s0.next (.cells (setSeg [.nilslc, .nilslc] 0 (cellsOf (.agg [lv, .slc idW 0 0 D.length D.length 1]))) 0 0 false)) (.ptr s0.next 0 0 2) [lv, .slc idW 0 0 D.length D.length 1] :=
          Pt.obj (g := 0) (gr := false) (cs := [lv, .slc idW 0 0 D.length D.length 1]) (by rw [get_put]; simp [setSeg, cellsOf]) (show s0.next < s9.next by have := k9.lt; omega)
        simp only [fn14, ressL, resL, putL, lkS]
        simp only [show Nat.beq 5 4 = false from rfl, show Nat.beq 89 4 = false from rfl, show Nat.beq 6 4 = false from rfl, show Nat.beq 4 4 = true from rfl, show Nat.beq 5 5 = true from rfl, cond_true, cond_false, this.loadn (n := 2) rfl]
      · obtain ⟨ws, b1, b2, b3, b4⟩ := k9.gW
        have o4 : ∀ v rows, Own s9 s4.next 1 v rows → offId v s0.next := fun v rows h => h.offOld (by have := k9.lt; omega)
        refine ⟨ws.map fun v => [v], (k9.slvW b1 b2).put (by simp only [offId]; have := k9.ne; omega) _, by simp [b2], fun id hid => by have := k9.lt; simp only [offId]; omega, fun j hj => ?_⟩
        obtain ⟨v, c1, c2⟩ := b3 j hj
        exact ⟨v, by simp [c1], c2.slv.put (o4 _ _ c2) _, fun id hid => c2.offOld (by have := k9.lt; omega)⟩
  · exact ⟨rfl, fault 11 _ _ _ h1 h4 h2 (.inl ⟨rfl, h3⟩)⟩
end Go.Proofs.Ytbcnhellcpeecaa

namespace Go.Proofs.Ytbcnhellcpeecaa
open Go Go.Abs

/-- The first number from i on, of so many, that is right. -/
def scan (p : Nat → Bool) : Nat → Nat → Option Nat
  | 0, _ => none
  | c + 1, i => if p i then some i else scan p c (i + 1)
/-- Is a module not taken, but all for whom it waits? -/
def ready (W : Nat → List Nat) (out : List Nat) (i : Nat) : Bool := !decide (i ∈ out) && (W i).all fun k => decide (k ∈ out)
def rounds (W : Nat → List Nat) (n : Nat) : Nat → List Nat → Option (List Nat)
  | 0, out => some out
  | c + 1, out => match scan (ready W out) n 0 with
    | none => none
    | some i => rounds W n c (out ++ [i])
/-- THE ORDER OF MODULES, or what is wrong of them. -/
def OrderS (D : List Dep) (ns : List (List Nat)) (out : List Nat) (e : Nat) : Prop :=
  (twice D ∧ out = [] ∧ e = 11) ∨ (¬ twice D ∧ missing D ns ∧ out = [] ∧ e = 19) ∨
  (¬ twice D ∧ ¬ missing D ns ∧ rounds (wOf D) D.length D.length [] = none ∧ out = [] ∧ e = 18) ∨ (¬ twice D ∧ ¬ missing D ns ∧ rounds (wOf D) D.length D.length [] = some out ∧ e = 0)
theorem OrderS.same {D : List Dep} {ns : List (List Nat)} {out out' : List Nat} {e e' : Nat} (h : OrderS D ns out e) (k : OrderS D ns out' e') : out = out' ∧ e = e' := by
  rcases h with ⟨a, b, c⟩ | ⟨a, b, c, d⟩ | ⟨a, b, c, d, f⟩ | ⟨a, b, c, d⟩ <;> rcases k with ⟨a', b', c'⟩ | ⟨a', b', c', d'⟩ | ⟨a', b', c', d', f'⟩ | ⟨a', b', c', d'⟩ <;>
    simp_all
/-- What an order's answer looks like. -/
def OrderP (D : List Dep) (ns : List (List Nat)) (v : AV) (s : St) : Prop := ∃ ov out e, v = .tup [ov, .int .i64 (.ofNat e)] ∧ Slv s 1 ov (nats out) ∧ OrderS D ns out e
theorem wOf_lt {D : List Dep} {i k : Nat} (h : k ∈ wOf D i) : k < D.length := by
  unfold wOf at h
  simp only [List.mem_filter, List.mem_filterMap] at h
  obtain ⟨⟨q, _, hq⟩, _⟩ := h
  obtain ⟨h1, _⟩ := first_some.1 hq
  exact h1
theorem wOf_length {D : List Dep} {i : Nat} (h : i < D.length) : (wOf D i).length ≤ D[i].needs.length := by
  unfold wOf
  rw [needsOf_lt h]
  exact Nat.le_trans (List.length_filter_le _ _) (List.length_filterMap_le _ _)
theorem WaitsV.ext {b : Nat} {s s' : St} {wv : AV} {n : Nat} {W : Nat → List Nat} (h : WaitsV b s wv n W) (k : Ext s s') : WaitsV b s' wv n W := by
  obtain ⟨rows, h1, h2, h3, h4⟩ := h
  refine ⟨rows, h1.ext k, h2, h3, fun j hj => ?_⟩
  obtain ⟨v, c1, c2, c3⟩ := h4 j hj
  exact ⟨v, c1, c2.ext k, c3⟩
theorem WaitsV.put {b : Nat} {s : St} {wv : AV} {n : Nat} {W : Nat → List Nat} (h : WaitsV b s wv n W) {id : Nat} (hi : id < b) (o : AObj) : WaitsV b (s.put id o) wv n W := by
  obtain ⟨rows, h1, h2, h3, h4⟩ := h
  refine ⟨rows, h1.put (h3 id hi) o, h2, h3, fun j hj => ?_⟩
  obtain ⟨v, c1, c2, c3⟩ := h4 j hj
  exact ⟨v, c1, c2.put (c3 id hi) o, c3⟩
def ints (ts : List Nat) : List AV := ts.map fun t => .int .i64 (.ofNat t)

/-- While modules are taken. -/
structure TInv (sB s : St) (lo idT n : Nat) (ov : AV) (out ts : List Nat) : Prop where
  ext : Ext sB s
  lt : sB.next ≤ idT ∧ idT < lo ∧ lo ≤ s.next
  gT : s.objs.get idT = some (.cells (ints ts) 0 0 false)
  len : ts.length = n
  own : Own s lo 1 ov (nats out)
  told : ∀ i, i < n → ∃ t, ts[i]? = some t ∧ t ≤ 1 ∧ (0 < t ↔ i ∈ out)
variable {F : FuncId → Option AFunc} {E : FuncId → Option (List AV → St → Option (AV × St))}
variable {sB s s' : St} {lo id6 idT n : Nat} {lv hv wv ov : AV} {D : List Dep} {ns : List (List Nat)} {out ts : List Nat}
theorem TInv.step (h : TInv sB s lo idT n ov out ts) (k : Ext s s') : TInv sB s' lo idT n ov out ts := by
  obtain ⟨a1, a2, a3⟩ := h.lt
  exact ⟨h.ext.trans k, ⟨a1, a2, Nat.le_trans a3 k.next⟩, by rw [k.old _ (by omega)]; exact h.gT, h.len, h.own.ext k, h.told⟩
theorem iadr_slc {id g n i : Nat} (hi : i < n) (sz cap : Nat) : apure .e (.iadr sz (.c (.slc id g 0 n cap sz)) (.c (.int .i64 (.ofNat i)))) = some (.ptr id g (0 + i * sz) sz) := by
  simp only [apure, AO.ev]
  rw [show (Nat.beq sz sz && Nat.blt i n) = true by rw [show Nat.blt i n = true from Nat.ble_eq_true_of_le hi]; simp]
  rfl
theorem TInv.load (h : TInv sB s lo idT n ov out ts) {i t : Nat} (hi : ts[i]? = some t) (y : AV) : aread .load1 (.ptr idT 0 (0 + i * 1) 1) y s = some (.int .i64 (.ofNat t)) :=
  ld_obj h.gT (by simp [ints, hi]) (Nat.le_refl _)

theorem loop10a {call : CallF} {m : Nat} {i : Nat} {w : AV} {ws : List Nat} (hw : Slv sB 1 w (nats ws)) (hwn : ∀ k ∈ ws, k < n) (hlen : ws.length < 1000) {b3 : AV} :
    ∀ (j k : Nat) (s : St) (f : Nat), k + j = ws.length → j < f → (∀ q (h : q < ws.length), q < k → ws[q] ∈ out) → TInv sB s lo idT n ov out ts →
      WL call m b10_0 f [(0, lv), (6, b3), (8, ov), (9, .slc idT 0 0 n n 1), (10, .int .i64 (.ofNat i)), (31, .int .i64 (.ofNat n)), (32, .int .i64 (.ofNat i)), (44, w), (45, .int .i64 (.ofNat ws.length)), (46, .int .i64 (.ofNat k))] s
        (fun x l s => TInv sB s lo idT n ov out ts ∧ Sub2 [(0, lv), (6, b3), (8, ov), (9, .slc idT 0 0 n n 1), (10, .int .i64 (.ofNat i)), (31, .int .i64 (.ofNat n)), (32, .int .i64 (.ofNat i))] l ∧
          ((x = .ext 4 ∧ ∀ q ∈ ws, q ∈ out) ∨ (x = .ext 3 ∧ ∃ q ∈ ws, q ∉ out))) := by
  intro j
  induction j with
  | zero =>
    intro k s f hk hf hq ht
    obtain ⟨f, rfl⟩ : ∃ g, f = g + 1 := ⟨f - 1, by omega⟩
    have hs := ht.ext
    refine WL.round ?_
    (repeat refine WC.seq ?_); refine WC.regX hs fun s1 hs1 hx1 ho1 hn1 => ?_
    repeat (first | refine WR.nil ?_ | refine WR.guardY rfl ?_ | refine WR.guardN rfl ?_ | refine WR.guardT rfl ?_ | refine WR.mov rfl ?_ | (refine WR.len (v := ?_) rfl ?_ ?_; rotate_left; first | assumption | exact rfl) | (refine WR.iadr (v := ?_) rfl rfl ?_ ?_; rotate_left; assumption) | (refine WR.fadr (v := ?_) rfl ?_ ?_; rotate_left; first | assumption | exact rfl) | (refine WR.r (v := ?_) rfl rfl (Ld.use (s0 := ?_) ?_ ?_) ?_; rotate_left; rotate_left; assumption; assumption) | (refine WR.bin (v := ?_) rfl rfl ?_ ?_; rotate_left; first | assumption | exact lss_nat _ _ | exact eql_nat _ _ | exact neq_nat _ _ | exact gtr_nat _ _ | exact geq_nat _ _ | exact leq_nat _ _ | exact eql_str _ _ | exact neq_str _ _ | (refine add_nat ?_; omega) | (refine sub_nat ?_ ?_; omega; omega)) | refine WR.pick rfl rfl rfl ?_ | refine WR.un rfl rfl ?_ | refine WR.ext rfl rfl ?_)
    (repeat refine WC.seq ?_); refine WC.cond rfl ?_ ?_
    · intro h; simp at h; omega
    · intro h
      refine WC.ext ⟨ht.step hx1, ⟨rfl, rfl, rfl, rfl, rfl, rfl, rfl, trivial⟩, .inl ⟨rfl, fun q hq2 => ?_⟩⟩
      obtain ⟨p, hp, rfl⟩ := List.getElem_of_mem hq2
      exact hq p hp (by omega)
  | succ j ih =>
    intro k s f hk hf hq ht
    obtain ⟨f, rfl⟩ : ∃ g, f = g + 1 := ⟨f - 1, by omega⟩
    have hs := ht.ext
    have hkl : k < ws.length := by omega
    obtain ⟨p, hp, hld⟩ := hw.at1 (i := k) (a := .int .i64 (.ofNat ws[k])) (by simp [nats, hkl])
    have hkn : ws[k] < n := hwn _ (List.getElem_mem _)
    obtain ⟨t, t1, t2, t3⟩ := ht.told ws[k] hkn
    have hI := iadr_slc (id := idT) (g := 0) hkn 1 n
    refine WL.round ?_
    (repeat refine WC.seq ?_); refine WC.regX hs fun s1 hs1 hx1 ho1 hn1 => ?_
    repeat (first | refine WR.nil ?_ | refine WR.guardY rfl ?_ | refine WR.guardN rfl ?_ | refine WR.guardT rfl ?_ | refine WR.mov rfl ?_ | (refine WR.len (v := ?_) rfl ?_ ?_; rotate_left; first | assumption | exact rfl) | (refine WR.iadr (v := ?_) rfl rfl ?_ ?_; rotate_left; assumption) | (refine WR.fadr (v := ?_) rfl ?_ ?_; rotate_left; first | assumption | exact rfl) | (refine WR.r (v := ?_) rfl rfl (Ld.use (s0 := ?_) ?_ ?_) ?_; rotate_left; rotate_left; assumption; assumption) | (refine WR.bin (v := ?_) rfl rfl ?_ ?_; rotate_left; first | assumption | exact lss_nat _ _ | exact eql_nat _ _ | exact neq_nat _ _ | exact gtr_nat _ _ | exact geq_nat _ _ | exact leq_nat _ _ | exact eql_str _ _ | exact neq_str _ _ | (refine add_nat ?_; omega) | (refine sub_nat ?_ ?_; omega; omega)) | refine WR.pick rfl rfl rfl ?_ | refine WR.un rfl rfl ?_ | refine WR.ext rfl rfl ?_)
    (repeat refine WC.seq ?_); refine WC.cond rfl ?_ ?_
    · intro _
      (repeat refine WC.seq ?_); refine WC.skip ?_
      (repeat refine WC.seq ?_); refine WC.blk ?_
      (repeat refine WC.seq ?_); refine WC.regX hs1 fun s2 hs2 hx2 ho2 hn2 => ?_
      repeat (first | refine WR.nil ?_ | refine WR.guardY rfl ?_ | refine WR.guardN rfl ?_ | refine WR.guardT rfl ?_ | refine WR.mov rfl ?_ | (refine WR.len (v := ?_) rfl ?_ ?_; rotate_left; first | assumption | exact rfl) | (refine WR.iadr (v := ?_) rfl rfl ?_ ?_; rotate_left; assumption) | (refine WR.fadr (v := ?_) rfl ?_ ?_; rotate_left; first | assumption | exact rfl) | (refine WR.r (v := ?_) rfl rfl (Ld.use (s0 := ?_) ?_ ?_) ?_; rotate_left; rotate_left; assumption; assumption) | (refine WR.bin (v := ?_) rfl rfl ?_ ?_; rotate_left; first | assumption | exact lss_nat _ _ | exact eql_nat _ _ | exact neq_nat _ _ | exact gtr_nat _ _ | exact geq_nat _ _ | exact leq_nat _ _ | exact eql_str _ _ | exact neq_str _ _ | (refine add_nat ?_; omega) | (refine sub_nat ?_ ?_; omega; omega)) | refine WR.pick rfl rfl rfl ?_ | refine WR.un rfl rfl ?_ | refine WR.ext rfl rfl ?_)
      (repeat refine WC.seq ?_); refine WC.regX hs2 fun s3 hs3 hx3 ho3 hn3 => ?_
      repeat (first | refine WR.nil ?_ | refine WR.guardY rfl ?_ | refine WR.guardN rfl ?_ | refine WR.guardT rfl ?_ | refine WR.mov rfl ?_ | (refine WR.len (v := ?_) rfl ?_ ?_; rotate_left; first | assumption | exact rfl) | (refine WR.iadr (v := ?_) rfl rfl ?_ ?_; rotate_left; assumption) | (refine WR.fadr (v := ?_) rfl ?_ ?_; rotate_left; first | assumption | exact rfl) | (refine WR.r (v := ?_) rfl rfl (Ld.use (s0 := ?_) ?_ ?_) ?_; rotate_left; rotate_left; assumption; assumption) | (refine WR.bin (v := ?_) rfl rfl ?_ ?_; rotate_left; first | assumption | exact lss_nat _ _ | exact eql_nat _ _ | exact neq_nat _ _ | exact gtr_nat _ _ | exact geq_nat _ _ | exact leq_nat _ _ | exact eql_str _ _ | exact neq_str _ _ | (refine add_nat ?_; omega) | (refine sub_nat ?_ ?_; omega; omega)) | refine WR.pick rfl rfl rfl ?_ | refine WR.un rfl rfl ?_ | refine WR.ext rfl rfl ?_)
      have ht3 := ht.step ((hx1.trans hx2).trans hx3)
      refine WR.r rfl rfl (ht3.load t1 _) ?_
      repeat (first | refine WR.nil ?_ | refine WR.guardY rfl ?_ | refine WR.guardN rfl ?_ | refine WR.guardT rfl ?_ | refine WR.mov rfl ?_ | (refine WR.len (v := ?_) rfl ?_ ?_; rotate_left; first | assumption | exact rfl) | (refine WR.iadr (v := ?_) rfl rfl ?_ ?_; rotate_left; assumption) | (refine WR.fadr (v := ?_) rfl ?_ ?_; rotate_left; first | assumption | exact rfl) | (refine WR.r (v := ?_) rfl rfl (Ld.use (s0 := ?_) ?_ ?_) ?_; rotate_left; rotate_left; assumption; assumption) | (refine WR.bin (v := ?_) rfl rfl ?_ ?_; rotate_left; first | assumption | exact lss_nat _ _ | exact eql_nat _ _ | exact neq_nat _ _ | exact gtr_nat _ _ | exact geq_nat _ _ | exact leq_nat _ _ | exact eql_str _ _ | exact neq_str _ _ | (refine add_nat ?_; omega) | (refine sub_nat ?_ ?_; omega; omega)) | refine WR.pick rfl rfl rfl ?_ | refine WR.un rfl rfl ?_ | refine WR.ext rfl rfl ?_)
      (repeat refine WC.seq ?_); refine WC.cond rfl ?_ ?_
      · intro h
        simp at h
        refine WC.ext ⟨ht3, ⟨rfl, rfl, rfl, rfl, rfl, rfl, rfl, trivial⟩, .inr ⟨rfl, ws[k], List.getElem_mem _, fun hm => ?_⟩⟩
        have := t3.2 hm
        omega
      · intro h
        simp at h
        (repeat refine WC.seq ?_); refine WC.skip ?_
        (repeat refine WC.seq ?_); refine WC.regX hs3 fun s4 hs4 hx4 ho4 hn4 => ?_
        repeat (first | refine WR.nil ?_ | refine WR.guardY rfl ?_ | refine WR.guardN rfl ?_ | refine WR.guardT rfl ?_ | refine WR.mov rfl ?_ | (refine WR.len (v := ?_) rfl ?_ ?_; rotate_left; first | assumption | exact rfl) | (refine WR.iadr (v := ?_) rfl rfl ?_ ?_; rotate_left; assumption) | (refine WR.fadr (v := ?_) rfl ?_ ?_; rotate_left; first | assumption | exact rfl) | (refine WR.r (v := ?_) rfl rfl (Ld.use (s0 := ?_) ?_ ?_) ?_; rotate_left; rotate_left; assumption; assumption) | (refine WR.bin (v := ?_) rfl rfl ?_ ?_; rotate_left; first | assumption | exact lss_nat _ _ | exact eql_nat _ _ | exact neq_nat _ _ | exact gtr_nat _ _ | exact geq_nat _ _ | exact leq_nat _ _ | exact eql_str _ _ | exact neq_str _ _ | (refine add_nat ?_; omega) | (refine sub_nat ?_ ?_; omega; omega)) | refine WR.pick rfl rfl rfl ?_ | refine WR.un rfl rfl ?_ | refine WR.ext rfl rfl ?_)
        refine WL.weak ?hw (ih (k + 1) _ f (by omega) (by omega) ?_ (ht3.step hx4))
        case hw => exact ⟨rfl, rfl, rfl, rfl, rfl, rfl, rfl, rfl, rfl, rfl, trivial⟩
        intro q hq2 hqk
        by_cases e : q = k
        · subst e; exact t3.1 (by omega)
        · exact hq q hq2 (by omega)
    · intro h; simp at h; omega

/-- What stands still while modules are taken. -/
structure Fixed (b : Nat) (sB : St) (id6 : Nat) (lv wv : AV) (D : List Dep) : Prop where
  lt : id6 < sB.next
  g6 : sB.objs.get id6 = some (.cells [lv, wv] 0 0 false)
  deps : DepsV sB lv D
  waits : WaitsV b sB wv D.length (wOf D)
theorem ready_false {W : Nat → List Nat} {out : List Nat} {i : Nat} (h : i ∈ out ∨ ∃ q ∈ W i, q ∉ out) : ready W out i = false := by
  unfold ready
  rcases h with h | ⟨q, h1, h2⟩
  · simp [h]
  · rw [Bool.and_eq_false_iff]; right
    rw [List.all_eq_false]
    exact ⟨q, h1, by simpa using h2⟩
theorem ready_true {W : Nat → List Nat} {out : List Nat} {i : Nat} (h1 : i ∉ out) (h2 : ∀ q ∈ W i, q ∈ out) : ready W out i = true := by
  unfold ready
  simp [h1]
  exact h2
theorem scan_step {p : Nat → Bool} {c i : Nat} (h : p i = false) : scan p (c + 1) i = scan p c (i + 1) := by simp [scan, h]

theorem loop10b {call : CallF} {b : Nat} (hx : Fixed b sB id6 lv wv D) (hn : n = D.length) (hlen : D.length < 1000) (hneeds : ∀ d ∈ D, d.needs.length < 1000) {m : Nat} (hm : ∀ d ∈ D, d.needs.length < m) (ho : out.length < D.length) :
    ∀ (j k : Nat) (s : St) (f : Nat), k + j = n → j < f → TInv sB s lo idT n ov out ts →
      WL call m b10_1 f [(0, lv), (6, .ptr id6 0 0 2), (8, ov), (9, .slc idT 0 0 n n 1), (31, .int .i64 (.ofNat n)), (32, .int .i64 (.ofNat k))] s
        (fun x l s => (x = .ext 2 ∧ Ext sB s ∧ scan (ready (wOf D) out) j k = none) ∨
          (x = .ext 1 ∧ ∃ i ov' ts', scan (ready (wOf D) out) j k = some i ∧ TInv sB s lo idT n ov' (out ++ [i]) ts' ∧ Sub2 [(0, lv), (6, .ptr id6 0 0 2), (8, ov'), (9, .slc idT 0 0 n n 1)] l)) := by
  intro j
  induction j with
  | zero =>
    intro k s f hk hf ht
    obtain ⟨f, rfl⟩ : ∃ g, f = g + 1 := ⟨f - 1, by omega⟩
    have hs := ht.ext
    refine WL.round ?_
    (repeat refine WC.seq ?_); refine WC.regX hs fun s1 hs1 hx1 ho1 hn1 => ?_
    repeat (first | refine WR.nil ?_ | refine WR.guardY rfl ?_ | refine WR.guardN rfl ?_ | refine WR.guardT rfl ?_ | refine WR.mov rfl ?_ | (refine WR.len (v := ?_) rfl ?_ ?_; rotate_left; first | assumption | exact rfl) | (refine WR.iadr (v := ?_) rfl rfl ?_ ?_; rotate_left; assumption) | (refine WR.fadr (v := ?_) rfl ?_ ?_; rotate_left; first | assumption | exact rfl) | (refine WR.r (v := ?_) rfl rfl (Ld.use (s0 := ?_) ?_ ?_) ?_; rotate_left; rotate_left; assumption; assumption) | (refine WR.bin (v := ?_) rfl rfl ?_ ?_; rotate_left; first | assumption | exact lss_nat _ _ | exact eql_nat _ _ | exact neq_nat _ _ | exact gtr_nat _ _ | exact geq_nat _ _ | exact leq_nat _ _ | exact eql_str _ _ | exact neq_str _ _ | (refine add_nat ?_; omega) | (refine sub_nat ?_ ?_; omega; omega)) | refine WR.pick rfl rfl rfl ?_ | refine WR.un rfl rfl ?_ | refine WR.ext rfl rfl ?_)
    (repeat refine WC.seq ?_); refine WC.cond rfl ?_ ?_
    · intro h; simp at h; omega
    · intro h
      exact WC.ext (.inl ⟨rfl, hs1, rfl⟩)
  | succ j ih =>
    intro k s f hk hf ht
    obtain ⟨f, rfl⟩ : ∃ g, f = g + 1 := ⟨f - 1, by omega⟩
    have hs := ht.ext
    have hkn : k < n := by omega
    obtain ⟨t, t1, t2, t3⟩ := ht.told k hkn
    have hI := iadr_slc (id := idT) (g := 0) hkn 1 n
    obtain ⟨rows, w1, w2, w3, w4⟩ := hx.waits
    obtain ⟨w, w5, w6, w7⟩ := w4 k (by omega)
    obtain ⟨pw, hpw, hldw⟩ := w1.at1 w5
    have hlenw := w6.len' (m := (wOf D k).length) (by simp [nats])
    have hkD : k < D.length := by omega
    have hwl := wOf_length hkD
    have hnk := hneeds D[k] (List.getElem_mem _)
    have hnm := hm D[k] (List.getElem_mem _)
    -- on to the next module
    have tail : ∀ (l : SL) (s : St), Sub2 [(0, lv), (6, .ptr id6 0 0 2), (8, ov), (9, .slc idT 0 0 n n 1), (31, .int .i64 (.ofNat n)), (32, .int .i64 (.ofNat k))] l → TInv sB s lo idT n ov out ts → ready (wOf D) out k = false →
        WC call m (.reg r10_18) l s (fun x l s => thenW x (WL call m b10_1 f l s (fun x l s => (x = .ext 2 ∧ Ext sB s ∧ scan (ready (wOf D) out) (j + 1) k = none) ∨
          (x = .ext 1 ∧ ∃ i ov' ts', scan (ready (wOf D) out) (j + 1) k = some i ∧ TInv sB s lo idT n ov' (out ++ [i]) ts' ∧ Sub2 [(0, lv), (6, .ptr id6 0 0 2), (8, ov'), (9, .slc idT 0 0 n n 1)] l)))
          ((x = .ext 2 ∧ Ext sB s ∧ scan (ready (wOf D) out) (j + 1) k = none) ∨
          (x = .ext 1 ∧ ∃ i ov' ts', scan (ready (wOf D) out) (j + 1) k = some i ∧ TInv sB s lo idT n ov' (out ++ [i]) ts' ∧ Sub2 [(0, lv), (6, .ptr id6 0 0 2), (8, ov'), (9, .slc idT 0 0 n n 1)] l))) := by
      intro l s hl ht hr
      refine WC.weak hl ?_
      have hs := ht.ext
      (repeat refine WC.seq ?_); refine WC.regX hs fun s1 hs1 hx1 ho1 hn1 => ?_
      repeat (first | refine WR.nil ?_ | refine WR.guardY rfl ?_ | refine WR.guardN rfl ?_ | refine WR.guardT rfl ?_ | refine WR.mov rfl ?_ | (refine WR.len (v := ?_) rfl ?_ ?_; rotate_left; first | assumption | exact rfl) | (refine WR.iadr (v := ?_) rfl rfl ?_ ?_; rotate_left; assumption) | (refine WR.fadr (v := ?_) rfl ?_ ?_; rotate_left; first | assumption | exact rfl) | (refine WR.r (v := ?_) rfl rfl (Ld.use (s0 := ?_) ?_ ?_) ?_; rotate_left; rotate_left; assumption; assumption) | (refine WR.bin (v := ?_) rfl rfl ?_ ?_; rotate_left; first | assumption | exact lss_nat _ _ | exact eql_nat _ _ | exact neq_nat _ _ | exact gtr_nat _ _ | exact geq_nat _ _ | exact leq_nat _ _ | exact eql_str _ _ | exact neq_str _ _ | (refine add_nat ?_; omega) | (refine sub_nat ?_ ?_; omega; omega)) | refine WR.pick rfl rfl rfl ?_ | refine WR.un rfl rfl ?_ | refine WR.ext rfl rfl ?_)
      rw [scan_step hr]
      refine WL.weak ?hw (ih (k + 1) _ f (by omega) (by omega) (ht.step hx1))
      case hw => exact ⟨rfl, rfl, rfl, rfl, rfl, rfl, trivial⟩
    refine WL.round ?_
    (repeat refine WC.seq ?_); refine WC.regX hs fun s1 hs1 hx1 ho1 hn1 => ?_
    repeat (first | refine WR.nil ?_ | refine WR.guardY rfl ?_ | refine WR.guardN rfl ?_ | refine WR.guardT rfl ?_ | refine WR.mov rfl ?_ | (refine WR.len (v := ?_) rfl ?_ ?_; rotate_left; first | assumption | exact rfl) | (refine WR.iadr (v := ?_) rfl rfl ?_ ?_; rotate_left; assumption) | (refine WR.fadr (v := ?_) rfl ?_ ?_; rotate_left; first | assumption | exact rfl) | (refine WR.r (v := ?_) rfl rfl (Ld.use (s0 := ?_) ?_ ?_) ?_; rotate_left; rotate_left; assumption; assumption) | (refine WR.bin (v := ?_) rfl rfl ?_ ?_; rotate_left; first | assumption | exact lss_nat _ _ | exact eql_nat _ _ | exact neq_nat _ _ | exact gtr_nat _ _ | exact geq_nat _ _ | exact leq_nat _ _ | exact eql_str _ _ | exact neq_str _ _ | (refine add_nat ?_; omega) | (refine sub_nat ?_ ?_; omega; omega)) | refine WR.pick rfl rfl rfl ?_ | refine WR.un rfl rfl ?_ | refine WR.ext rfl rfl ?_)
    (repeat refine WC.seq ?_); refine WC.cond rfl ?_ ?_
    · intro _
      (repeat refine WC.seq ?_); refine WC.skip ?_
      (repeat refine WC.seq ?_); refine WC.blk ?_
      (repeat refine WC.seq ?_); refine WC.regX hs1 fun s2 hs2 hx2 ho2 hn2 => ?_
      repeat (first | refine WR.nil ?_ | refine WR.guardY rfl ?_ | refine WR.guardN rfl ?_ | refine WR.guardT rfl ?_ | refine WR.mov rfl ?_ | (refine WR.len (v := ?_) rfl ?_ ?_; rotate_left; first | assumption | exact rfl) | (refine WR.iadr (v := ?_) rfl rfl ?_ ?_; rotate_left; assumption) | (refine WR.fadr (v := ?_) rfl ?_ ?_; rotate_left; first | assumption | exact rfl) | (refine WR.r (v := ?_) rfl rfl (Ld.use (s0 := ?_) ?_ ?_) ?_; rotate_left; rotate_left; assumption; assumption) | (refine WR.bin (v := ?_) rfl rfl ?_ ?_; rotate_left; first | assumption | exact lss_nat _ _ | exact eql_nat _ _ | exact neq_nat _ _ | exact gtr_nat _ _ | exact geq_nat _ _ | exact leq_nat _ _ | exact eql_str _ _ | exact neq_str _ _ | (refine add_nat ?_; omega) | (refine sub_nat ?_ ?_; omega; omega)) | refine WR.pick rfl rfl rfl ?_ | refine WR.un rfl rfl ?_ | refine WR.ext rfl rfl ?_)
      (repeat refine WC.seq ?_); refine WC.regX hs2 fun s3 hs3 hx3 ho3 hn3 => ?_
      repeat (first | refine WR.nil ?_ | refine WR.guardY rfl ?_ | refine WR.guardN rfl ?_ | refine WR.guardT rfl ?_ | refine WR.mov rfl ?_ | (refine WR.len (v := ?_) rfl ?_ ?_; rotate_left; first | assumption | exact rfl) | (refine WR.iadr (v := ?_) rfl rfl ?_ ?_; rotate_left; assumption) | (refine WR.fadr (v := ?_) rfl ?_ ?_; rotate_left; first | assumption | exact rfl) | (refine WR.r (v := ?_) rfl rfl (Ld.use (s0 := ?_) ?_ ?_) ?_; rotate_left; rotate_left; assumption; assumption) | (refine WR.bin (v := ?_) rfl rfl ?_ ?_; rotate_left; first | assumption | exact lss_nat _ _ | exact eql_nat _ _ | exact neq_nat _ _ | exact gtr_nat _ _ | exact geq_nat _ _ | exact leq_nat _ _ | exact eql_str _ _ | exact neq_str _ _ | (refine add_nat ?_; omega) | (refine sub_nat ?_ ?_; omega; omega)) | refine WR.pick rfl rfl rfl ?_ | refine WR.un rfl rfl ?_ | refine WR.ext rfl rfl ?_)
      have ht3 := ht.step ((hx1.trans hx2).trans hx3)
      refine WR.r rfl rfl (ht3.load t1 _) ?_
      repeat (first | refine WR.nil ?_ | refine WR.guardY rfl ?_ | refine WR.guardN rfl ?_ | refine WR.guardT rfl ?_ | refine WR.mov rfl ?_ | (refine WR.len (v := ?_) rfl ?_ ?_; rotate_left; first | assumption | exact rfl) | (refine WR.iadr (v := ?_) rfl rfl ?_ ?_; rotate_left; assumption) | (refine WR.fadr (v := ?_) rfl ?_ ?_; rotate_left; first | assumption | exact rfl) | (refine WR.r (v := ?_) rfl rfl (Ld.use (s0 := ?_) ?_ ?_) ?_; rotate_left; rotate_left; assumption; assumption) | (refine WR.bin (v := ?_) rfl rfl ?_ ?_; rotate_left; first | assumption | exact lss_nat _ _ | exact eql_nat _ _ | exact neq_nat _ _ | exact gtr_nat _ _ | exact geq_nat _ _ | exact leq_nat _ _ | exact eql_str _ _ | exact neq_str _ _ | (refine add_nat ?_; omega) | (refine sub_nat ?_ ?_; omega; omega)) | refine WR.pick rfl rfl rfl ?_ | refine WR.un rfl rfl ?_ | refine WR.ext rfl rfl ?_)
      (repeat refine WC.seq ?_); refine WC.cond rfl ?_ ?_
      · intro h
        simp at h
        exact WC.ext (tail _ _ ⟨rfl, rfl, rfl, rfl, rfl, rfl, trivial⟩ ht3 (ready_false (.inl (t3.1 (by omega)))))
      · intro h
        simp at h
        have hno : k ∉ out := fun hm => by have := t3.2 hm; omega
        (repeat refine WC.seq ?_); refine WC.skip ?_
        (repeat refine WC.seq ?_); refine WC.regX hs3 fun s4 hs4 hx4 ho4 hn4 => ?_
        have ht4 := ht3.step hx4
        have hL : ∀ y, aread .load1 (.ptr id6 0 (0 + 1) 1) y s4 = some wv := fun y => ld_obj (by rw [hs4.old _ hx.lt]; exact hx.g6) rfl (Nat.le_refl _)
        refine WR.fadr rfl rfl ?_
        refine WR.r rfl rfl (hL _) ?_
        repeat (first | refine WR.nil ?_ | refine WR.guardY rfl ?_ | refine WR.guardN rfl ?_ | refine WR.guardT rfl ?_ | refine WR.mov rfl ?_ | (refine WR.len (v := ?_) rfl ?_ ?_; rotate_left; first | assumption | exact rfl) | (refine WR.iadr (v := ?_) rfl rfl ?_ ?_; rotate_left; assumption) | (refine WR.fadr (v := ?_) rfl ?_ ?_; rotate_left; first | assumption | exact rfl) | (refine WR.r (v := ?_) rfl rfl (Ld.use (s0 := ?_) ?_ ?_) ?_; rotate_left; rotate_left; assumption; assumption) | (refine WR.bin (v := ?_) rfl rfl ?_ ?_; rotate_left; first | assumption | exact lss_nat _ _ | exact eql_nat _ _ | exact neq_nat _ _ | exact gtr_nat _ _ | exact geq_nat _ _ | exact leq_nat _ _ | exact eql_str _ _ | exact neq_str _ _ | (refine add_nat ?_; omega) | (refine sub_nat ?_ ?_; omega; omega)) | refine WR.pick rfl rfl rfl ?_ | refine WR.un rfl rfl ?_ | refine WR.ext rfl rfl ?_)
        (repeat refine WC.seq ?_); refine WC.blk (WC.loop ?_)
        refine WL.weak ?hw1 (WL.mono (loop10a (i := k) (ws := wOf D k) w6 (fun q hq => by have := wOf_lt hq; omega) (by omega) (lv := lv) (b3 := .ptr id6 0 0 2) (wOf D k).length 0 _ m (by omega) (by omega) (fun q _ h => absurd h (by omega)) ht4) ?_)
        case hw1 => exact ⟨rfl, rfl, rfl, rfl, rfl, rfl, rfl, rfl, rfl, rfl, trivial⟩
        rintro x l s5 ⟨ht5, hl5, ⟨rfl, h5⟩ | ⟨rfl, h5⟩⟩
        · refine WC.weak hl5 ?_
          have hs5 := ht5.ext
          have hr : ready (wOf D) out k = true := ready_true hno h5
          (repeat refine WC.seq ?_); refine WC.regX hs5 fun s6 hs6 hx6 ho6 hn6 => ?_
          have ht6 := ht5.step hx6
          repeat (first | refine WR.nil ?_ | refine WR.guardY rfl ?_ | refine WR.guardN rfl ?_ | refine WR.guardT rfl ?_ | refine WR.mov rfl ?_ | (refine WR.len (v := ?_) rfl ?_ ?_; rotate_left; first | assumption | exact rfl) | (refine WR.iadr (v := ?_) rfl rfl ?_ ?_; rotate_left; assumption) | (refine WR.fadr (v := ?_) rfl ?_ ?_; rotate_left; first | assumption | exact rfl) | (refine WR.r (v := ?_) rfl rfl (Ld.use (s0 := ?_) ?_ ?_) ?_; rotate_left; rotate_left; assumption; assumption) | (refine WR.bin (v := ?_) rfl rfl ?_ ?_; rotate_left; first | assumption | exact lss_nat _ _ | exact eql_nat _ _ | exact neq_nat _ _ | exact gtr_nat _ _ | exact geq_nat _ _ | exact leq_nat _ _ | exact eql_str _ _ | exact neq_str _ _ | (refine add_nat ?_; omega) | (refine sub_nat ?_ ?_; omega; omega)) | refine WR.pick rfl rfl rfl ?_ | refine WR.un rfl rfl ?_ | refine WR.ext rfl rfl ?_)
          refine WR.r rfl rfl (ht6.load t1 _) ?_
          repeat (first | refine WR.nil ?_ | refine WR.guardY rfl ?_ | refine WR.guardN rfl ?_ | refine WR.guardT rfl ?_ | refine WR.mov rfl ?_ | (refine WR.len (v := ?_) rfl ?_ ?_; rotate_left; first | assumption | exact rfl) | (refine WR.iadr (v := ?_) rfl rfl ?_ ?_; rotate_left; assumption) | (refine WR.fadr (v := ?_) rfl ?_ ?_; rotate_left; first | assumption | exact rfl) | (refine WR.r (v := ?_) rfl rfl (Ld.use (s0 := ?_) ?_ ?_) ?_; rotate_left; rotate_left; assumption; assumption) | (refine WR.bin (v := ?_) rfl rfl ?_ ?_; rotate_left; first | assumption | exact lss_nat _ _ | exact eql_nat _ _ | exact neq_nat _ _ | exact gtr_nat _ _ | exact geq_nat _ _ | exact leq_nat _ _ | exact eql_str _ _ | exact neq_str _ _ | (refine add_nat ?_; omega) | (refine sub_nat ?_ ?_; omega; omega)) | refine WR.pick rfl rfl rfl ?_ | refine WR.un rfl rfl ?_ | refine WR.ext rfl rfl ?_)
          obtain ⟨l1, l2, l3⟩ := ht6.lt
          have hset : setSeg (ints ts) (0 + k * 1) (cellsOf (.int .i64 (.ofNat (t + 1)))) = ints (ts.set k (t + 1)) := by
            have hkt : k < ts.length := by rw [ht.len]; exact hkn
            simp only [setSeg, cellsOf, List.length_singleton, ints, List.map_set]
            rw [show 0 + k * 1 = k by omega, List.set_eq_take_append_cons_drop, if_pos (by simpa using hkt)]
            simp
          refine WR.store rfl rfl rfl rfl (Nat.le_refl _) (wr_some ht6.gT (by simp [cellsOf, ints, ht.len]; omega)) ?_
          rw [hset]
          repeat (first | refine WR.nil ?_ | refine WR.guardY rfl ?_ | refine WR.guardN rfl ?_ | refine WR.guardT rfl ?_ | refine WR.mov rfl ?_ | (refine WR.len (v := ?_) rfl ?_ ?_; rotate_left; first | assumption | exact rfl) | (refine WR.iadr (v := ?_) rfl rfl ?_ ?_; rotate_left; assumption) | (refine WR.fadr (v := ?_) rfl ?_ ?_; rotate_left; first | assumption | exact rfl) | (refine WR.r (v := ?_) rfl rfl (Ld.use (s0 := ?_) ?_ ?_) ?_; rotate_left; rotate_left; assumption; assumption) | (refine WR.bin (v := ?_) rfl rfl ?_ ?_; rotate_left; first | assumption | exact lss_nat _ _ | exact eql_nat _ _ | exact neq_nat _ _ | exact gtr_nat _ _ | exact geq_nat _ _ | exact leq_nat _ _ | exact eql_str _ _ | exact neq_str _ _ | (refine add_nat ?_; omega) | (refine sub_nat ?_ ?_; omega; omega)) | refine WR.pick rfl rfl rfl ?_ | refine WR.un rfl rfl ?_ | refine WR.ext rfl rfl ?_)
          generalize hs7 : St.put s6 _ _ = s7
          have n7 : s7.next = s6.next := by rw [← hs7]; rfl
          have ht7 : Ext sB s7 := by rw [← hs7]; exact hs6.put (by omega) _
          have own7 : Own s7 lo 1 ov (nats out) := by rw [← hs7]; exact ht6.own.put (ht6.own.offOld l2) _
          (repeat refine WC.seq ?_); refine WC.regX ht7 fun s8 hs8 hx8 ho8 hn8 => ?_
          repeat (first | refine WR.nil ?_ | refine WR.guardY rfl ?_ | refine WR.guardN rfl ?_ | refine WR.guardT rfl ?_ | refine WR.mov rfl ?_ | (refine WR.len (v := ?_) rfl ?_ ?_; rotate_left; first | assumption | exact rfl) | (refine WR.iadr (v := ?_) rfl rfl ?_ ?_; rotate_left; assumption) | (refine WR.fadr (v := ?_) rfl ?_ ?_; rotate_left; first | assumption | exact rfl) | (refine WR.r (v := ?_) rfl rfl (Ld.use (s0 := ?_) ?_ ?_) ?_; rotate_left; rotate_left; assumption; assumption) | (refine WR.bin (v := ?_) rfl rfl ?_ ?_; rotate_left; first | assumption | exact lss_nat _ _ | exact eql_nat _ _ | exact neq_nat _ _ | exact gtr_nat _ _ | exact geq_nat _ _ | exact leq_nat _ _ | exact eql_str _ _ | exact neq_str _ _ | (refine add_nat ?_; omega) | (refine sub_nat ?_ ?_; omega; omega)) | refine WR.pick rfl rfl rfl ?_ | refine WR.un rfl rfl ?_ | refine WR.ext rfl rfl ?_)
          refine WR.lits (fillL1 rfl ⟨rfl, rfl⟩ (by simp [rep]) rfl) ?_
          have hlit : s7.next + 1 + 1 < s8.next := by rw [hn8]; simp [r10_17]
          generalize hid : s7.next + 1 + 1 = id at hlit ⊢
          generalize hs9 : St.put s8 _ _ = s9
          have hx9 : Ext s7 s9 := by rw [← hs9]; exact hx8.put (by omega) _
          have lit : Slv s9 1 (.slc id 0 0 1 1 1) (nats [k]) := by
            refine ⟨by simp [nats], rfl, rfl, by rw [← hs9]; exact hlit, [.int .i64 (.ofNat k)], ?_, rfl⟩
            rw [← hs9]; simp only [St.cells, get_put, if_pos]; rfl
          obtain ⟨v2, s10, f1, f2, f3, f4⟩ := Own.app (bytes := 8) (own7.ext hx9) lit (by simp [nats, lim]; omega)
          refine WR.append rfl rfl f1 ?_
          repeat (first | refine WR.nil ?_ | refine WR.guardY rfl ?_ | refine WR.guardN rfl ?_ | refine WR.guardT rfl ?_ | refine WR.mov rfl ?_ | (refine WR.len (v := ?_) rfl ?_ ?_; rotate_left; first | assumption | exact rfl) | (refine WR.iadr (v := ?_) rfl rfl ?_ ?_; rotate_left; assumption) | (refine WR.fadr (v := ?_) rfl ?_ ?_; rotate_left; first | assumption | exact rfl) | (refine WR.r (v := ?_) rfl rfl (Ld.use (s0 := ?_) ?_ ?_) ?_; rotate_left; rotate_left; assumption; assumption) | (refine WR.bin (v := ?_) rfl rfl ?_ ?_; rotate_left; first | assumption | exact lss_nat _ _ | exact eql_nat _ _ | exact neq_nat _ _ | exact gtr_nat _ _ | exact geq_nat _ _ | exact leq_nat _ _ | exact eql_str _ _ | exact neq_str _ _ | (refine add_nat ?_; omega) | (refine sub_nat ?_ ?_; omega; omega)) | refine WR.pick rfl rfl rfl ?_ | refine WR.un rfl rfl ?_ | refine WR.ext rfl rfl ?_)
          refine WC.ext (.inr ⟨rfl, k, v2, ts.set k (t + 1), by simp [scan, hr], ?_, ⟨rfl, rfl, rfl, rfl, trivial⟩⟩)
          have n9 := hx9.next
          have n10 := f3.next
          refine ⟨f3.ext (ht7.trans hx9) fun id hid => (own7.ext hx9).offOld (by omega), ⟨l1, l2, by omega⟩, ?_, by simp [ht.len], by simpa [nats] using f2, fun i hi => ?_⟩
          · rw [f3.old _ (by omega) ((own7.ext hx9).offOld l2), hx9.old _ (by omega), ← hs7, get_put, if_pos rfl]
          · by_cases e : i = k
            · subst e
              refine ⟨t + 1, by rw [List.getElem?_set_self (by rw [ht.len]; exact hi)], by omega, by simp⟩
            · obtain ⟨u, u1, u2, u3⟩ := ht.told i hi
              refine ⟨u, by rw [List.getElem?_set_ne (fun h => e h.symm)]; exact u1, u2, ?_⟩
              rw [u3]; simp [e]
        · exact tail _ _ ⟨hl5.1, hl5.2.1, hl5.2.2.1, hl5.2.2.2.1, hl5.2.2.2.2.2.1, hl5.2.2.2.2.2.2.1, trivial⟩ ht5 (ready_false (.inr h5))
    · intro h; simp at h; omega
end Go.Proofs.Ytbcnhellcpeecaa

namespace Go.Proofs.Ytbcnhellcpeecaa
open Go Go.Abs
variable {F : FuncId → Option AFunc} {E : FuncId → Option (List AV → St → Option (AV × St))}
variable {sB s s' : St} {lo id6 idT n : Nat} {lv hv wv ov : AV} {D : List Dep} {ns : List (List Nat)} {out ts : List Nat}
theorem loop10c {call : CallF} {b : Nat} (hx : Fixed b sB id6 lv wv D) (hlen : D.length < 1000) (hneeds : ∀ d ∈ D, d.needs.length < 1000) {m : Nat} (hm : ∀ d ∈ D, d.needs.length < m) (hm2 : D.length < m) :
    ∀ (j : Nat) (s : St) (f : Nat) (ov : AV) (out ts : List Nat), out.length + j = D.length → j < f → TInv sB s lo idT D.length ov out ts →
      WL call m b10_2 f [(0, lv), (6, .ptr id6 0 0 2), (8, ov), (9, .slc idT 0 0 D.length D.length 1)] s
        (fun x l s => (x = .ext 0 ∧ ∃ ov' out' ts', TInv sB s lo idT D.length ov' out' ts' ∧ rounds (wOf D) D.length j out = some out' ∧ lkS l 8 = some ov') ∨
          (x = .ret ∧ Ext sB s ∧ rounds (wOf D) D.length j out = none ∧ lkS l 4 = some .nilslc ∧ lkS l 5 = some (.int .i64 (.ofNat 18)))) := by
  have h0 := hx.deps.len
  intro j
  induction j with
  | zero =>
    intro s f ov out ts hk hf ht
    obtain ⟨f, rfl⟩ : ∃ g, f = g + 1 := ⟨f - 1, by omega⟩
    have hs := ht.ext
    have ho := ht.own.slv.len' (m := out.length) (by simp [nats])
    refine WL.round ?_
    (repeat refine WC.seq ?_); refine WC.regX hs fun s1 hs1 hx1 ho1 hn1 => ?_
    repeat (first | refine WR.nil ?_ | refine WR.guardY rfl ?_ | refine WR.guardN rfl ?_ | refine WR.guardT rfl ?_ | refine WR.mov rfl ?_ | (refine WR.len (v := ?_) rfl ?_ ?_; rotate_left; first | assumption | exact rfl) | (refine WR.iadr (v := ?_) rfl rfl ?_ ?_; rotate_left; assumption) | (refine WR.fadr (v := ?_) rfl ?_ ?_; rotate_left; first | assumption | exact rfl) | (refine WR.r (v := ?_) rfl rfl (Ld.use (s0 := ?_) ?_ ?_) ?_; rotate_left; rotate_left; assumption; assumption) | (refine WR.bin (v := ?_) rfl rfl ?_ ?_; rotate_left; first | assumption | exact lss_nat _ _ | exact eql_nat _ _ | exact neq_nat _ _ | exact gtr_nat _ _ | exact geq_nat _ _ | exact leq_nat _ _ | exact eql_str _ _ | exact neq_str _ _ | (refine add_nat ?_; omega) | (refine sub_nat ?_ ?_; omega; omega)) | refine WR.pick rfl rfl rfl ?_ | refine WR.un rfl rfl ?_ | refine WR.ext rfl rfl ?_)
    (repeat refine WC.seq ?_); refine WC.cond rfl ?_ ?_
    · intro h; simp at h; omega
    · intro h
      exact WC.ext (.inl ⟨rfl, ov, out, ts, ht.step hx1, rfl, rfl⟩)
  | succ j ih =>
    intro s f ov out ts hk hf ht
    obtain ⟨f, rfl⟩ : ∃ g, f = g + 1 := ⟨f - 1, by omega⟩
    have hs := ht.ext
    have ho := ht.own.slv.len' (m := out.length) (by simp [nats])
    refine WL.round ?_
    (repeat refine WC.seq ?_); refine WC.regX hs fun s1 hs1 hx1 ho1 hn1 => ?_
    repeat (first | refine WR.nil ?_ | refine WR.guardY rfl ?_ | refine WR.guardN rfl ?_ | refine WR.guardT rfl ?_ | refine WR.mov rfl ?_ | (refine WR.len (v := ?_) rfl ?_ ?_; rotate_left; first | assumption | exact rfl) | (refine WR.iadr (v := ?_) rfl rfl ?_ ?_; rotate_left; assumption) | (refine WR.fadr (v := ?_) rfl ?_ ?_; rotate_left; first | assumption | exact rfl) | (refine WR.r (v := ?_) rfl rfl (Ld.use (s0 := ?_) ?_ ?_) ?_; rotate_left; rotate_left; assumption; assumption) | (refine WR.bin (v := ?_) rfl rfl ?_ ?_; rotate_left; first | assumption | exact lss_nat _ _ | exact eql_nat _ _ | exact neq_nat _ _ | exact gtr_nat _ _ | exact geq_nat _ _ | exact leq_nat _ _ | exact eql_str _ _ | exact neq_str _ _ | (refine add_nat ?_; omega) | (refine sub_nat ?_ ?_; omega; omega)) | refine WR.pick rfl rfl rfl ?_ | refine WR.un rfl rfl ?_ | refine WR.ext rfl rfl ?_)
    (repeat refine WC.seq ?_); refine WC.cond rfl ?_ ?_
    · intro _
      refine WC.skip (WC.blk (WC.scp ?_))
      (repeat refine WC.seq ?_); refine WC.skip ?_
      (repeat refine WC.seq ?_); refine WC.regX hs1 fun s2 hs2 hx2 ho2 hn2 => ?_
      repeat (first | refine WR.nil ?_ | refine WR.guardY rfl ?_ | refine WR.guardN rfl ?_ | refine WR.guardT rfl ?_ | refine WR.mov rfl ?_ | (refine WR.len (v := ?_) rfl ?_ ?_; rotate_left; first | assumption | exact rfl) | (refine WR.iadr (v := ?_) rfl rfl ?_ ?_; rotate_left; assumption) | (refine WR.fadr (v := ?_) rfl ?_ ?_; rotate_left; first | assumption | exact rfl) | (refine WR.r (v := ?_) rfl rfl (Ld.use (s0 := ?_) ?_ ?_) ?_; rotate_left; rotate_left; assumption; assumption) | (refine WR.bin (v := ?_) rfl rfl ?_ ?_; rotate_left; first | assumption | exact lss_nat _ _ | exact eql_nat _ _ | exact neq_nat _ _ | exact gtr_nat _ _ | exact geq_nat _ _ | exact leq_nat _ _ | exact eql_str _ _ | exact neq_str _ _ | (refine add_nat ?_; omega) | (refine sub_nat ?_ ?_; omega; omega)) | refine WR.pick rfl rfl rfl ?_ | refine WR.un rfl rfl ?_ | refine WR.ext rfl rfl ?_)
      (repeat refine WC.seq ?_); refine WC.blk (WC.loop ?_)
      refine WL.weak ?hw1 (WL.mono (loop10b (m := m) hx rfl hlen hneeds hm (by omega) D.length 0 _ m (by omega) (by omega) ((ht.step hx1).step hx2)) ?_)
      case hw1 => exact ⟨rfl, rfl, rfl, rfl, rfl, rfl, trivial⟩
      rintro x l s5 (⟨rfl, h1, h2⟩ | ⟨rfl, i, ov', ts', h1, h2, h3⟩)
      · (repeat refine WC.seq ?_); refine WC.regX h1 fun s6 hs6 hx6 ho6 hn6 => ?_
        repeat (first | refine WR.nil ?_ | refine WR.guardY rfl ?_ | refine WR.guardN rfl ?_ | refine WR.guardT rfl ?_ | refine WR.mov rfl ?_ | (refine WR.len (v := ?_) rfl ?_ ?_; rotate_left; first | assumption | exact rfl) | (refine WR.iadr (v := ?_) rfl rfl ?_ ?_; rotate_left; assumption) | (refine WR.fadr (v := ?_) rfl ?_ ?_; rotate_left; first | assumption | exact rfl) | (refine WR.r (v := ?_) rfl rfl (Ld.use (s0 := ?_) ?_ ?_) ?_; rotate_left; rotate_left; assumption; assumption) | (refine WR.bin (v := ?_) rfl rfl ?_ ?_; rotate_left; first | assumption | exact lss_nat _ _ | exact eql_nat _ _ | exact neq_nat _ _ | exact gtr_nat _ _ | exact geq_nat _ _ | exact leq_nat _ _ | exact eql_str _ _ | exact neq_str _ _ | (refine add_nat ?_; omega) | (refine sub_nat ?_ ?_; omega; omega)) | refine WR.pick rfl rfl rfl ?_ | refine WR.un rfl rfl ?_ | refine WR.ext rfl rfl ?_)
        (repeat refine WC.seq ?_); refine WC.ret ?_
        exact .inr ⟨rfl, hs6, by simp [rounds, h2], rfl, rfl⟩
      · refine WL.weak h3 (WL.mono (ih _ f _ _ _ (by simp; omega) (by omega) h2) ?_)
        have hr : rounds (wOf D) D.length (j + 1) out = rounds (wOf D) D.length j (out ++ [i]) := by simp [rounds, h1]
        rw [hr]
        exact fun x l s h => h
    · intro h; simp at h; omega

theorem order10 (hF10 : F 10 = some fn10) (hE10 : E 10 = none) (hF14 : F 14 = some fn14) (hE14 : E 14 = none) (hF : F 18 = some fn18) (hE : E 18 = none) (hF9 : F 19 = some fn19) (hE9 : E 19 = none) {s0 : St} (hD : DepsV s0 lv D) (hlv : OneC lv) (hH : Slv s0 1 hv (strs ns))
    (hlen : D.length < 1000) (hns : ns.length < 1000) {n : Nat} (hn : D.length < n) (hnn : ns.length < n) (hneeds : ∀ d ∈ D, d.needs.length < 1000 ∧ d.needs.length < n + 1) :
    Pure (acall F E (n + 3)) 10 s0 [lv, hv] fun v s => OrderP D ns v s := by
  have hs := Ext.refl s0
  refine acall_of (P := fun v s' => Ext s0 s' ∧ OrderP D ns v s') hE10 hF10 (Nat.le_of_ble_eq_true rfl) ?_
  (repeat refine WC.seq ?_); refine WC.regX hs fun s1 hs1 hx1 ho1 hn1 => ?_
  repeat (first | refine WR.nil ?_ | refine WR.guardY rfl ?_ | refine WR.guardN rfl ?_ | refine WR.guardT rfl ?_ | refine WR.mov rfl ?_ | (refine WR.len (v := ?_) rfl ?_ ?_; rotate_left; first | assumption | exact rfl) | (refine WR.iadr (v := ?_) rfl rfl ?_ ?_; rotate_left; assumption) | (refine WR.fadr (v := ?_) rfl ?_ ?_; rotate_left; first | assumption | exact rfl) | (refine WR.r (v := ?_) rfl rfl (Ld.use (s0 := ?_) ?_ ?_) ?_; rotate_left; rotate_left; assumption; assumption) | (refine WR.bin (v := ?_) rfl rfl ?_ ?_; rotate_left; first | assumption | exact lss_nat _ _ | exact eql_nat _ _ | exact neq_nat _ _ | exact gtr_nat _ _ | exact geq_nat _ _ | exact leq_nat _ _ | exact eql_str _ _ | exact neq_str _ _ | (refine add_nat ?_; omega) | (refine sub_nat ?_ ?_; omega; omega)) | refine WR.pick rfl rfl rfl ?_ | refine WR.un rfl rfl ?_ | refine WR.ext rfl rfl ?_)
  refine WC.scp ?_
  (repeat refine WC.seq ?_); refine WC.regX hs1 fun s2 hs2 hx2 ho2 hn2 => ?_
  repeat (first | refine WR.nil ?_ | refine WR.guardY rfl ?_ | refine WR.guardN rfl ?_ | refine WR.guardT rfl ?_ | refine WR.mov rfl ?_ | (refine WR.len (v := ?_) rfl ?_ ?_; rotate_left; first | assumption | exact rfl) | (refine WR.iadr (v := ?_) rfl rfl ?_ ?_; rotate_left; assumption) | (refine WR.fadr (v := ?_) rfl ?_ ?_; rotate_left; first | assumption | exact rfl) | (refine WR.r (v := ?_) rfl rfl (Ld.use (s0 := ?_) ?_ ?_) ?_; rotate_left; rotate_left; assumption; assumption) | (refine WR.bin (v := ?_) rfl rfl ?_ ?_; rotate_left; first | assumption | exact lss_nat _ _ | exact eql_nat _ _ | exact neq_nat _ _ | exact gtr_nat _ _ | exact geq_nat _ _ | exact leq_nat _ _ | exact eql_str _ _ | exact neq_str _ _ | (refine add_nat ?_; omega) | (refine sub_nat ?_ ?_; omega; omega)) | refine WR.pick rfl rfl rfl ?_ | refine WR.un rfl rfl ?_ | refine WR.ext rfl rfl ?_)
  obtain ⟨v3, s3, c1, c2, c3⟩ := draw14 hF14 hE14 hF hE hF9 hE9 (hD.ext hs2) hlv (hH.ext hs2) hlen hns hn hnn hneeds
  refine WR.fn rfl c1 ?_
  have hs3 := hs2.trans c2
  have n3 := c2.next
  have e2 : s2.next = s1.next + 9 := by rw [hn2]; rfl
  have n1 := hs1.next
  have flt : ∀ (c : Nat), (c = 11 ∧ twice D ∨ c = 19 ∧ ¬ twice D ∧ missing D ns) → v3 = .tup [.agg [.nilslc, .nilslc], .int .i64 (.ofNat c)] → OrderS D ns [] c := by
    rintro c (⟨rfl, h⟩ | ⟨rfl, h1, h2⟩) _
    · exact .inl ⟨h, rfl, rfl⟩
    · exact .inr (.inl ⟨h1, h2, rfl, rfl⟩)
  have bad : ∀ (c : Nat), 0 < c → OrderS D ns [] c → v3 = .tup [.agg [.nilslc, .nilslc], .int .i64 (.ofNat c)] →
      WR (acall F E (n + 2)) (s1.next + 1 + 1 + 1) [⟨some 13, .p (.mov (.t 16)), none, 7⟩, ⟨some 17, .p (.ext (.t 13) 0), none, 15⟩, ⟨some 18, .p (.ext (.t 13) 1), none, 15⟩, ⟨some 6, .a (.alloc [.nilslc, .nilslc]), none, 0⟩, ⟨none, .e (.store 2 (.t 6) (.t 17)), none, 95⟩, ⟨some 7, .p (.mov (.t 18)), none, 255⟩]
        [(16, v3), (0, lv), (1, hv)] s3 (fun l s => WC (acall F E (n + 2)) (n + 2) (.seq (.seq (.reg r10_2) (.cond (.t 20) (.seq (.reg r10_3) .ret) .skip)) (.seq (.reg r10_4) (.seq (.reg r10_5) (.seq .skip (.seq (.blk 0 (.loop b10_2)) (.seq (.reg r10_20) .ret)))))) l s
          (fun x l s => noGoto x (fun x => doneW fn10.results (fun v s' => Ext s0 s' ∧ OrderP D ns v s') x l s))) := by
    rintro c hc hO rfl
    repeat (first | refine WR.nil ?_ | refine WR.guardY rfl ?_ | refine WR.guardN rfl ?_ | refine WR.guardT rfl ?_ | refine WR.mov rfl ?_ | (refine WR.len (v := ?_) rfl ?_ ?_; rotate_left; first | assumption | exact rfl) | (refine WR.iadr (v := ?_) rfl rfl ?_ ?_; rotate_left; assumption) | (refine WR.fadr (v := ?_) rfl ?_ ?_; rotate_left; first | assumption | exact rfl) | (refine WR.r (v := ?_) rfl rfl (Ld.use (s0 := ?_) ?_ ?_) ?_; rotate_left; rotate_left; assumption; assumption) | (refine WR.bin (v := ?_) rfl rfl ?_ ?_; rotate_left; first | assumption | exact lss_nat _ _ | exact eql_nat _ _ | exact neq_nat _ _ | exact gtr_nat _ _ | exact geq_nat _ _ | exact leq_nat _ _ | exact eql_str _ _ | exact neq_str _ _ | (refine add_nat ?_; omega) | (refine sub_nat ?_ ?_; omega; omega)) | refine WR.pick rfl rfl rfl ?_ | refine WR.un rfl rfl ?_ | refine WR.ext rfl rfl ?_)
    refine WR.alloc ?_
    refine WR.store rfl rfl rfl rfl (by simp) (wr_some (by rw [get_put, if_pos rfl]) (by simp [cellsOf])) ?_
    repeat (first | refine WR.nil ?_ | refine WR.guardY rfl ?_ | refine WR.guardN rfl ?_ | refine WR.guardT rfl ?_ | refine WR.mov rfl ?_ | (refine WR.len (v := ?_) rfl ?_ ?_; rotate_left; first | assumption | exact rfl) | (refine WR.iadr (v := ?_) rfl rfl ?_ ?_; rotate_left; assumption) | (refine WR.fadr (v := ?_) rfl ?_ ?_; rotate_left; first | assumption | exact rfl) | (refine WR.r (v := ?_) rfl rfl (Ld.use (s0 := ?_) ?_ ?_) ?_; rotate_left; rotate_left; assumption; assumption) | (refine WR.bin (v := ?_) rfl rfl ?_ ?_; rotate_left; first | assumption | exact lss_nat _ _ | exact eql_nat _ _ | exact neq_nat _ _ | exact gtr_nat _ _ | exact geq_nat _ _ | exact leq_nat _ _ | exact eql_str _ _ | exact neq_str _ _ | (refine add_nat ?_; omega) | (refine sub_nat ?_ ?_; omega; omega)) | refine WR.pick rfl rfl rfl ?_ | refine WR.un rfl rfl ?_ | refine WR.ext rfl rfl ?_)
    generalize hid : s1.next + 1 + 1 + 1 + 1 + 1 + 1 = id6
    generalize hs4 : St.put (St.put s3 _ _) _ _ = s4
    have hs4' : Ext s0 s4 := by rw [← hs4]; exact (hs3.put (by omega) _).put (by omega) _
    have hb := neqT (show c ≠ 0 by omega)
    (repeat refine WC.seq ?_); refine WC.regX hs4' fun s5 hs5 hx5 ho5 hn5 => ?_
    repeat (first | refine WR.nil ?_ | refine WR.guardY rfl ?_ | refine WR.guardN rfl ?_ | refine WR.guardT rfl ?_ | refine WR.mov rfl ?_ | (refine WR.len (v := ?_) rfl ?_ ?_; rotate_left; first | assumption | exact rfl) | (refine WR.iadr (v := ?_) rfl rfl ?_ ?_; rotate_left; assumption) | (refine WR.fadr (v := ?_) rfl ?_ ?_; rotate_left; first | assumption | exact rfl) | (refine WR.r (v := ?_) rfl rfl (Ld.use (s0 := ?_) ?_ ?_) ?_; rotate_left; rotate_left; assumption; assumption) | (refine WR.bin (v := ?_) rfl rfl ?_ ?_; rotate_left; first | assumption | exact lss_nat _ _ | exact eql_nat _ _ | exact neq_nat _ _ | exact gtr_nat _ _ | exact geq_nat _ _ | exact leq_nat _ _ | exact eql_str _ _ | exact neq_str _ _ | (refine add_nat ?_; omega) | (refine sub_nat ?_ ?_; omega; omega)) | refine WR.pick rfl rfl rfl ?_ | refine WR.un rfl rfl ?_ | refine WR.ext rfl rfl ?_)
    (repeat refine WC.seq ?_); refine WC.cond rfl ?_ ?_
    · intro _
      (repeat refine WC.seq ?_); refine WC.regX hs5 fun s6 hs6 hx6 ho6 hn6 => ?_
      repeat (first | refine WR.nil ?_ | refine WR.guardY rfl ?_ | refine WR.guardN rfl ?_ | refine WR.guardT rfl ?_ | refine WR.mov rfl ?_ | (refine WR.len (v := ?_) rfl ?_ ?_; rotate_left; first | assumption | exact rfl) | (refine WR.iadr (v := ?_) rfl rfl ?_ ?_; rotate_left; assumption) | (refine WR.fadr (v := ?_) rfl ?_ ?_; rotate_left; first | assumption | exact rfl) | (refine WR.r (v := ?_) rfl rfl (Ld.use (s0 := ?_) ?_ ?_) ?_; rotate_left; rotate_left; assumption; assumption) | (refine WR.bin (v := ?_) rfl rfl ?_ ?_; rotate_left; first | assumption | exact lss_nat _ _ | exact eql_nat _ _ | exact neq_nat _ _ | exact gtr_nat _ _ | exact geq_nat _ _ | exact leq_nat _ _ | exact eql_str _ _ | exact neq_str _ _ | (refine add_nat ?_; omega) | (refine sub_nat ?_ ?_; omega; omega)) | refine WR.pick rfl rfl rfl ?_ | refine WR.un rfl rfl ?_ | refine WR.ext rfl rfl ?_)
      (repeat refine WC.seq ?_); refine WC.ret ?_
      exact ⟨.inr rfl, _, rfl, hs6, .nilslc, [], c, rfl, ⟨by simp [nats], rfl⟩, hO⟩
    · intro h; simp at h
  rcases c3 with ⟨h1, rfl⟩ | ⟨h1, h2, rfl⟩ | ⟨h1, h2, wv, rfl, hwv, hW⟩
  · refine WR.weak ?hb1 (bad 11 (by omega) (flt 11 (.inl ⟨rfl, h1⟩) rfl) rfl)
    case hb1 => exact ⟨rfl, rfl, rfl, trivial⟩
  · refine WR.weak ?hb2 (bad 19 (by omega) (flt 19 (.inr ⟨rfl, h1, h2⟩) rfl) rfl)
    case hb2 => exact ⟨rfl, rfl, rfl, trivial⟩
  · repeat (first | refine WR.nil ?_ | refine WR.guardY rfl ?_ | refine WR.guardN rfl ?_ | refine WR.guardT rfl ?_ | refine WR.mov rfl ?_ | (refine WR.len (v := ?_) rfl ?_ ?_; rotate_left; first | assumption | exact rfl) | (refine WR.iadr (v := ?_) rfl rfl ?_ ?_; rotate_left; assumption) | (refine WR.fadr (v := ?_) rfl ?_ ?_; rotate_left; first | assumption | exact rfl) | (refine WR.r (v := ?_) rfl rfl (Ld.use (s0 := ?_) ?_ ?_) ?_; rotate_left; rotate_left; assumption; assumption) | (refine WR.bin (v := ?_) rfl rfl ?_ ?_; rotate_left; first | assumption | exact lss_nat _ _ | exact eql_nat _ _ | exact neq_nat _ _ | exact gtr_nat _ _ | exact geq_nat _ _ | exact leq_nat _ _ | exact eql_str _ _ | exact neq_str _ _ | (refine add_nat ?_; omega) | (refine sub_nat ?_ ?_; omega; omega)) | refine WR.pick rfl rfl rfl ?_ | refine WR.un rfl rfl ?_ | refine WR.ext rfl rfl ?_)
    refine WR.alloc ?_
    refine WR.store rfl rfl rfl rfl (by simp) (wr_some (by rw [get_put, if_pos rfl]) (by simp [cellsOf])) ?_
    repeat (first | refine WR.nil ?_ | refine WR.guardY rfl ?_ | refine WR.guardN rfl ?_ | refine WR.guardT rfl ?_ | refine WR.mov rfl ?_ | (refine WR.len (v := ?_) rfl ?_ ?_; rotate_left; first | assumption | exact rfl) | (refine WR.iadr (v := ?_) rfl rfl ?_ ?_; rotate_left; assumption) | (refine WR.fadr (v := ?_) rfl ?_ ?_; rotate_left; first | assumption | exact rfl) | (refine WR.r (v := ?_) rfl rfl (Ld.use (s0 := ?_) ?_ ?_) ?_; rotate_left; rotate_left; assumption; assumption) | (refine WR.bin (v := ?_) rfl rfl ?_ ?_; rotate_left; first | assumption | exact lss_nat _ _ | exact eql_nat _ _ | exact neq_nat _ _ | exact gtr_nat _ _ | exact geq_nat _ _ | exact leq_nat _ _ | exact eql_str _ _ | exact neq_str _ _ | (refine add_nat ?_; omega) | (refine sub_nat ?_ ?_; omega; omega)) | refine WR.pick rfl rfl rfl ?_ | refine WR.un rfl rfl ?_ | refine WR.ext rfl rfl ?_)
    generalize hid : s1.next + 1 + 1 + 1 + 1 + 1 + 1 = id6
    generalize hs4 : St.put (St.put s3 _ _) _ _ = s4
    have hs4' : Ext s0 s4 := by rw [← hs4]; exact (hs3.put (by omega) _).put (by omega) _
    have n4 : s4.next = s3.next := by rw [← hs4]; rfl
    have hx : Fixed s2.next s4 id6 lv wv D := by
      refine ⟨by omega, by rw [← hs4, get_put, if_pos rfl]; rfl, hD.ext hs4', ?_⟩
      rw [← hs4]
      exact (hW.put (by omega) _).put (by omega) _
    have hb := neqF (rfl : 0 = 0)
    (repeat refine WC.seq ?_); refine WC.regX hs4' fun s5 hs5 hx5 ho5 hn5 => ?_
    repeat (first | refine WR.nil ?_ | refine WR.guardY rfl ?_ | refine WR.guardN rfl ?_ | refine WR.guardT rfl ?_ | refine WR.mov rfl ?_ | (refine WR.len (v := ?_) rfl ?_ ?_; rotate_left; first | assumption | exact rfl) | (refine WR.iadr (v := ?_) rfl rfl ?_ ?_; rotate_left; assumption) | (refine WR.fadr (v := ?_) rfl ?_ ?_; rotate_left; first | assumption | exact rfl) | (refine WR.r (v := ?_) rfl rfl (Ld.use (s0 := ?_) ?_ ?_) ?_; rotate_left; rotate_left; assumption; assumption) | (refine WR.bin (v := ?_) rfl rfl ?_ ?_; rotate_left; first | assumption | exact lss_nat _ _ | exact eql_nat _ _ | exact neq_nat _ _ | exact gtr_nat _ _ | exact geq_nat _ _ | exact leq_nat _ _ | exact eql_str _ _ | exact neq_str _ _ | (refine add_nat ?_; omega) | (refine sub_nat ?_ ?_; omega; omega)) | refine WR.pick rfl rfl rfl ?_ | refine WR.un rfl rfl ?_ | refine WR.ext rfl rfl ?_)
    (repeat refine WC.seq ?_); refine WC.cond rfl ?_ ?_
    · intro h; simp at h
    · intro _
      (repeat refine WC.seq ?_); refine WC.skip ?_
      (repeat refine WC.seq ?_); refine WC.regX hs5 fun s6 hs6 hx6 ho6 hn6 => ?_
      repeat (first | refine WR.nil ?_ | refine WR.guardY rfl ?_ | refine WR.guardN rfl ?_ | refine WR.guardT rfl ?_ | refine WR.mov rfl ?_ | (refine WR.len (v := ?_) rfl ?_ ?_; rotate_left; first | assumption | exact rfl) | (refine WR.iadr (v := ?_) rfl rfl ?_ ?_; rotate_left; assumption) | (refine WR.fadr (v := ?_) rfl ?_ ?_; rotate_left; first | assumption | exact rfl) | (refine WR.r (v := ?_) rfl rfl (Ld.use (s0 := ?_) ?_ ?_) ?_; rotate_left; rotate_left; assumption; assumption) | (refine WR.bin (v := ?_) rfl rfl ?_ ?_; rotate_left; first | assumption | exact lss_nat _ _ | exact eql_nat _ _ | exact neq_nat _ _ | exact gtr_nat _ _ | exact geq_nat _ _ | exact leq_nat _ _ | exact eql_str _ _ | exact neq_str _ _ | (refine add_nat ?_; omega) | (refine sub_nat ?_ ?_; omega; omega)) | refine WR.pick rfl rfl rfl ?_ | refine WR.un rfl rfl ?_ | refine WR.ext rfl rfl ?_)
      (repeat refine WC.seq ?_); refine WC.regX hs6 fun s7 hs7 hx7 ho7 hn7 => ?_
      have h7 := (hD.ext hs7).len
      repeat (first | refine WR.nil ?_ | refine WR.guardY rfl ?_ | refine WR.guardN rfl ?_ | refine WR.guardT rfl ?_ | refine WR.mov rfl ?_ | (refine WR.len (v := ?_) rfl ?_ ?_; rotate_left; first | assumption | exact rfl) | (refine WR.iadr (v := ?_) rfl rfl ?_ ?_; rotate_left; assumption) | (refine WR.fadr (v := ?_) rfl ?_ ?_; rotate_left; first | assumption | exact rfl) | (refine WR.r (v := ?_) rfl rfl (Ld.use (s0 := ?_) ?_ ?_) ?_; rotate_left; rotate_left; assumption; assumption) | (refine WR.bin (v := ?_) rfl rfl ?_ ?_; rotate_left; first | assumption | exact lss_nat _ _ | exact eql_nat _ _ | exact neq_nat _ _ | exact gtr_nat _ _ | exact geq_nat _ _ | exact leq_nat _ _ | exact eql_str _ _ | exact neq_str _ _ | (refine add_nat ?_; omega) | (refine sub_nat ?_ ?_; omega; omega)) | refine WR.pick rfl rfl rfl ?_ | refine WR.un rfl rfl ?_ | refine WR.ext rfl rfl ?_)
      refine WR.mkslc rfl rfl (Nat.le_refl _) (by simp [lim]; omega) ?_
      repeat (first | refine WR.nil ?_ | refine WR.guardY rfl ?_ | refine WR.guardN rfl ?_ | refine WR.guardT rfl ?_ | refine WR.mov rfl ?_ | (refine WR.len (v := ?_) rfl ?_ ?_; rotate_left; first | assumption | exact rfl) | (refine WR.iadr (v := ?_) rfl rfl ?_ ?_; rotate_left; assumption) | (refine WR.fadr (v := ?_) rfl ?_ ?_; rotate_left; first | assumption | exact rfl) | (refine WR.r (v := ?_) rfl rfl (Ld.use (s0 := ?_) ?_ ?_) ?_; rotate_left; rotate_left; assumption; assumption) | (refine WR.bin (v := ?_) rfl rfl ?_ ?_; rotate_left; first | assumption | exact lss_nat _ _ | exact eql_nat _ _ | exact neq_nat _ _ | exact gtr_nat _ _ | exact geq_nat _ _ | exact leq_nat _ _ | exact eql_str _ _ | exact neq_str _ _ | (refine add_nat ?_; omega) | (refine sub_nat ?_ ?_; omega; omega)) | refine WR.pick rfl rfl rfl ?_ | refine WR.un rfl rfl ?_ | refine WR.ext rfl rfl ?_)
      have hidT : s6.next + 1 + 1 < s7.next := by rw [hn7]; simp [r10_5]
      generalize hid2 : s6.next + 1 + 1 = idT at hidT ⊢
      generalize hs8 : St.put s7 _ _ = s8
      have n8 : s8.next = s7.next := by rw [← hs8]; rfl
      have n5 := hx5.next
      have n6 := hx6.next
      have hx8 : Ext s4 s8 := by rw [← hs8]; exact ((hx5.trans hx6).trans hx7).put (by omega) _
      have hT : TInv s4 s8 s8.next idT D.length .nilslc [] (List.replicate D.length 0) := by
        refine ⟨hx8, ⟨by omega, by omega, by omega⟩, ?_, by simp, Own.nil (Nat.le_refl _), fun i hi => ⟨0, by simp [hi], by omega, by simp⟩⟩
        rw [← hs8, get_put, if_pos rfl]
        congr 2
        generalize D.length = q
        induction q with
        | zero => rfl
        | succ q ih => simp only [rep, ints, List.replicate_succ, List.map_cons, List.singleton_append]; rw [← ints, ← ih]
      (repeat refine WC.seq ?_); refine WC.skip ?_
      (repeat refine WC.seq ?_); refine WC.blk (WC.loop ?_)
      refine WL.weak ?hw1 (WL.mono (loop10c (m := n + 2) hx hlen (fun d hd => (hneeds d hd).1) (fun d hd => by have := (hneeds d hd).2; omega) (by omega) D.length _ (n + 2) _ _ _ (by simp) (by omega) hT) ?_)
      case hw1 => exact ⟨rfl, rfl, rfl, rfl, trivial⟩
      rintro x l s9 (⟨rfl, ov', out', ts', k1, k2, k3⟩ | ⟨rfl, k1, k2, k3, k4⟩)
      · have hs9 := hs4'.trans k1.ext
        (repeat refine WC.seq ?_); refine WC.regX hs9 fun s10 hs10 hx10 ho10 hn10 => ?_
        refine WR.mov k3 ?_
        repeat (first | refine WR.nil ?_ | refine WR.guardY rfl ?_ | refine WR.guardN rfl ?_ | refine WR.guardT rfl ?_ | refine WR.mov rfl ?_ | (refine WR.len (v := ?_) rfl ?_ ?_; rotate_left; first | assumption | exact rfl) | (refine WR.iadr (v := ?_) rfl rfl ?_ ?_; rotate_left; assumption) | (refine WR.fadr (v := ?_) rfl ?_ ?_; rotate_left; first | assumption | exact rfl) | (refine WR.r (v := ?_) rfl rfl (Ld.use (s0 := ?_) ?_ ?_) ?_; rotate_left; rotate_left; assumption; assumption) | (refine WR.bin (v := ?_) rfl rfl ?_ ?_; rotate_left; first | assumption | exact lss_nat _ _ | exact eql_nat _ _ | exact neq_nat _ _ | exact gtr_nat _ _ | exact geq_nat _ _ | exact leq_nat _ _ | exact eql_str _ _ | exact neq_str _ _ | (refine add_nat ?_; omega) | (refine sub_nat ?_ ?_; omega; omega)) | refine WR.pick rfl rfl rfl ?_ | refine WR.un rfl rfl ?_ | refine WR.ext rfl rfl ?_)
        (repeat refine WC.seq ?_); refine WC.ret ?_
        exact ⟨.inr rfl, _, rfl, hs10, ov', out', 0, rfl, k1.own.slv.ext hx10, .inr (.inr (.inr ⟨h1, h2, k2, rfl⟩))⟩
      · exact ⟨.inr rfl, [.nilslc, .int .i64 (.ofNat 18)], by simp only [fn10, ressL, resL, k3, k4], hs4'.trans k1, .nilslc, [], 18, rfl, ⟨by simp [nats], rfl⟩, .inr (.inr (.inl ⟨h1, h2, k2, rfl, rfl⟩))⟩
end Go.Proofs.Ytbcnhellcpeecaa
