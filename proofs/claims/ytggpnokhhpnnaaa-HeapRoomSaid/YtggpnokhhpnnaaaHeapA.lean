/- A heap in a store; whether it is there, how much it uses, and how a place is taken. -/
import Derived.Test.YtggpnokhhpnnaaaHeapCode
set_option autoImplicit false
set_option maxRecDepth 100000
set_option linter.unusedVariables false
namespace Go.Proofs.Ytggpnokhhpnnaaa
open Go Go.Abs

noncomputable abbrev F0 : FuncId → Option AFunc := comp Try.prog
abbrev E15 : FuncId → Option (List AV → St → Option (AV × St)) := single 15 (closed (.bool true))

/-- A table. -/
structure Tb where
  id : Nat
  es : List Ent
  ck : Nat
/-- A heap. -/
structure HM where
  hid : Nat
  room : Nat
  used : Nat
  vt : AV
  vf : AV
  vc : AV
  tabs : List Tb
  fns : List (List AV)
  cells : List (List AV)
def HM.p (H : HM) : AV := .ptr H.hid 0 0 6
def HM.row (H : HM) : List AV := [.bool true, .int .i64 (.ofNat H.room), .int .i64 (.ofNat H.used), H.vt, H.vf, H.vc]
structure HeapAt (s : St) (lo : Nat) (H : HM) : Prop where
  obj : s.objs.get H.hid = some (.cells H.row 0 0 false)
  lt : H.hid < s.next
  low : lo ≤ H.hid
  tab : Own s lo 1 H.vt (H.tabs.map fun t => [.map t.id])
  fns : Own s lo 3 H.vf H.fns
  cel : Own s lo 3 H.vc H.cells
  maps : ∀ t, t ∈ H.tabs → lo ≤ t.id ∧ t.id < s.next ∧ s.objs.get t.id = some (.map (entsA t.es) t.ck)
  nodup : (H.tabs.map (·.id)).Nodup
  a1 : Apart H.vt H.vf
  a2 : Apart H.vt H.vc
  a3 : Apart H.vf H.vc
  o1 : offId H.vt H.hid
  o2 : offId H.vf H.hid
  o3 : offId H.vc H.hid
/-- What is used is what there is, and no more than there is room. -/
structure HeapOk (H : HM) : Prop where
  count : H.used = H.tabs.length + H.fns.length + (H.tabs.map fun t => t.es.length).sum
  fit : H.used ≤ H.room
  big : H.room ≤ 1000000
def Foot (H : HM) (id : Nat) : Prop := id = H.hid ∨ ¬ offId H.vt id ∨ ¬ offId H.vf id ∨ ¬ offId H.vc id ∨ ∃ t, t ∈ H.tabs ∧ t.id = id
/-- All that is not the heap's stays. -/
structure HFr (H H' : HM) (s s' : St) : Prop where
  next : s.next ≤ s'.next
  old : ∀ id, id < s.next → ¬ Foot H id → s'.objs.get id = s.objs.get id
  foot : ∀ id, id < s.next → Foot H' id → Foot H id
theorem HFr.ext {s s' : St} {H : HM} (h : Ext s s') : HFr H H s s' := ⟨h.next, fun id hi _ => h.old id hi, fun _ _ h => h⟩
theorem HFr.trans {s s1 s2 : St} {H H1 H2 : HM} (h : HFr H H1 s s1) (k : HFr H1 H2 s1 s2) : HFr H H2 s s2 :=
  ⟨Nat.le_trans h.next k.next, fun id hi hf => (k.old id (Nat.lt_of_lt_of_le hi h.next) (fun x => hf (h.foot id hi x))).trans (h.old id hi hf), fun id hi x => h.foot id hi (k.foot id (Nat.lt_of_lt_of_le hi h.next) x)⟩
theorem Own.offMap {s : St} {lo sz : Nat} {v : AV} {rows : List (List AV)} (h : Own s lo sz v rows) {id ck : Nat} {es : List (AV × AV × Nat)} (hm : s.objs.get id = some (.map es ck)) : offId v id := by
  obtain ⟨h1, h0, ⟨rfl, rfl⟩ | ⟨j, gen, rfl, h2, h3, h4⟩⟩ := h
  · trivial
  · simp only [offId]
    rintro rfl
    rw [hm] at h4; cases h4
theorem HeapAt.ext {s s' : St} {lo : Nat} {H : HM} (h : HeapAt s lo H) (k : Ext s s') : HeapAt s' lo H :=
  ⟨by rw [k.old _ h.lt]; exact h.obj, Nat.lt_of_lt_of_le h.lt k.next, h.low, h.tab.ext k, h.fns.ext k, h.cel.ext k,
    fun t ht => by obtain ⟨m1, m2, m3⟩ := h.maps t ht; exact ⟨m1, Nat.lt_of_lt_of_le m2 k.next, by rw [k.old _ m2]; exact m3⟩, h.nodup, h.a1, h.a2, h.a3, h.o1, h.o2, h.o3⟩
theorem HeapAt.foot {s : St} {lo : Nat} {H : HM} (h : HeapAt s lo H) {id : Nat} (hf : Foot H id) : lo ≤ id ∧ id < s.next := by
  have hl : ∀ v rows sz, Own s lo sz v rows → ¬ offId v id → lo ≤ id ∧ id < s.next := by
    intro v rows sz ho hn
    refine ⟨Nat.le_of_not_lt fun hi => hn (ho.offOld hi), ho.slv.lt hn⟩
  rcases hf with rfl | hf | hf | hf | ⟨t, ht, rfl⟩
  · exact ⟨h.low, h.lt⟩
  · exact hl _ _ _ h.tab hf
  · exact hl _ _ _ h.fns hf
  · exact hl _ _ _ h.cel hf
  · exact ⟨(h.maps t ht).1, (h.maps t ht).2.1⟩
/-- What stood ahead of the heap stays. -/
theorem HFr.low {s0 s s' : St} {lo : Nat} {H H' : HM} (h : HeapAt s lo H) (k : HFr H H' s s') (h0 : Ext s0 s) (hl : s0.next ≤ lo) : Ext s0 s' :=
  ⟨Nat.le_trans h0.next k.next, fun id hi => (k.old id (Nat.lt_of_lt_of_le hi h0.next) (fun hf => by have := (h.foot hf).1; omega)).trans (h0.old id hi)⟩
theorem HeapAt.ld {s : St} {lo : Nat} {H : HM} (h : HeapAt s lo H) {k : Nat} {v : AV} (hv : H.row[k]? = some v) : Ld s (.ptr H.hid 0 k 1) v := objLd h.obj h.lt hv
/-- The heap's own cells set anew. -/
theorem HeapAt.mapNe {s : St} {lo : Nat} {H : HM} (h : HeapAt s lo H) {t : Tb} (ht : t ∈ H.tabs) : t.id ≠ H.hid := by
  intro e
  have := (h.maps t ht).2.2
  rw [e, h.obj] at this; cases this
theorem HeapAt.putUsed {s : St} {lo : Nat} {H : HM} (h : HeapAt s lo H) (u : Nat) : HeapAt (s.put H.hid (.cells { H with used := u }.row 0 0 false)) lo { H with used := u } := by
  refine ⟨by rw [get_put, if_pos rfl], h.lt, h.low, h.tab.put h.o1 _, h.fns.put h.o2 _, h.cel.put h.o3 _, ?_, h.nodup, h.a1, h.a2, h.a3, h.o1, h.o2, h.o3⟩
  intro t ht
  obtain ⟨m1, m2, m3⟩ := h.maps t ht
  exact ⟨m1, m2, by rw [get_put, if_neg (h.mapNe ht)]; exact m3⟩
theorem HFr.putUsed {s : St} {H : HM} (u : Nat) (o : AObj) : HFr H { H with used := u } s (s.put H.hid o) :=
  ⟨Nat.le_refl _, fun id hi hf => by rw [get_put, if_neg (fun e => hf (.inl e))], fun _ _ h => h⟩

section
variable {s : St} {lo : Nat} {H : HM}
theorem there_ (n : Nat) (h : HeapAt s lo H) : ∃ s', acall F0 E15 (n + 1) 32 [H.p] s = some (.bool true, s') ∧ Ext s s' := by
  have l0 := h.ld (k := 0) rfl
  have : ∃ v s', acall F0 E15 (n + 1) 32 [H.p] s = some (v, s') ∧ (Ext s s' ∧ v = .bool true) := by
    refine acall_of rfl comp32 (Nat.le_of_ble_eq_true rfl) ?_
    (repeat refine WC.seq ?_); refine WC.regX (Ext.refl s) fun s1 hs1 hx1 ho1 hn1 => ?_
    repeat (first | refine WR.nil ?_ | refine WR.guardY rfl ?_ | refine WR.guardN rfl ?_ | refine WR.guardT rfl ?_ | refine WR.mov rfl ?_ | refine WR.nilchk rfl ?_ | (refine WR.len (v := ?_) rfl ?_ ?_; rotate_left; first | assumption | exact rfl) | (refine WR.iadr (v := ?_) rfl rfl ?_ ?_; rotate_left; assumption) | (refine WR.fadr (v := ?_) rfl ?_ ?_; rotate_left; first | assumption | exact rfl) | (refine WR.r (v := ?_) rfl rfl (Ld.use (s0 := ?_) ?_ ?_) ?_; rotate_left; rotate_left; assumption; assumption) | (refine WR.r (v := ?_) rfl rfl (Ldn.use (s0 := ?_) ?_ ?_) ?_; rotate_left; rotate_left; assumption; assumption) | (refine WR.bin (v := ?_) rfl rfl ?_ ?_; rotate_left; first | assumption | exact lss_nat _ _ | exact eql_nat _ _ | exact neq_nat _ _ | exact gtr_nat _ _ | exact geq_nat _ _ | exact leq_nat _ _ | exact eql_str _ _ | exact neq_str _ _ | (refine add_nat ?_; omega) | (refine sub_nat ?_ ?_; omega; omega)) | refine WR.pick rfl rfl rfl ?_ | refine WR.un rfl rfl ?_ | refine WR.ext rfl rfl ?_ | refine WR.eq rfl rfl rfl ?_ | refine WR.mkifc rfl ?_)
    (repeat refine WC.seq ?_); refine WC.regX hs1 fun s2 hs2 hx2 ho2 hn2 => ?_
    repeat (first | refine WR.nil ?_ | refine WR.guardY rfl ?_ | refine WR.guardN rfl ?_ | refine WR.guardT rfl ?_ | refine WR.mov rfl ?_ | refine WR.nilchk rfl ?_ | (refine WR.len (v := ?_) rfl ?_ ?_; rotate_left; first | assumption | exact rfl) | (refine WR.iadr (v := ?_) rfl rfl ?_ ?_; rotate_left; assumption) | (refine WR.fadr (v := ?_) rfl ?_ ?_; rotate_left; first | assumption | exact rfl) | (refine WR.r (v := ?_) rfl rfl (Ld.use (s0 := ?_) ?_ ?_) ?_; rotate_left; rotate_left; assumption; assumption) | (refine WR.r (v := ?_) rfl rfl (Ldn.use (s0 := ?_) ?_ ?_) ?_; rotate_left; rotate_left; assumption; assumption) | (refine WR.bin (v := ?_) rfl rfl ?_ ?_; rotate_left; first | assumption | exact lss_nat _ _ | exact eql_nat _ _ | exact neq_nat _ _ | exact gtr_nat _ _ | exact geq_nat _ _ | exact leq_nat _ _ | exact eql_str _ _ | exact neq_str _ _ | (refine add_nat ?_; omega) | (refine sub_nat ?_ ?_; omega; omega)) | refine WR.pick rfl rfl rfl ?_ | refine WR.un rfl rfl ?_ | refine WR.ext rfl rfl ?_ | refine WR.eq rfl rfl rfl ?_ | refine WR.mkifc rfl ?_)
    (repeat refine WC.seq ?_); refine WC.ret ?_
    exact ⟨.inr rfl, _, rfl, hs2, rfl⟩
  obtain ⟨_, s', e, k, rfl⟩ := this
  exact ⟨s', e, k⟩
theorem used_ (n : Nat) (h : HeapAt s lo H) : ∃ s', acall F0 E15 (n + 2) 11 [H.p] s = some (.int .i64 (.ofNat H.used), s') ∧ Ext s s' := by
  have l2 := h.ld (k := 2) rfl
  have : ∃ v s', acall F0 E15 (n + 2) 11 [H.p] s = some (v, s') ∧ (Ext s s' ∧ v = .int .i64 (.ofNat H.used)) := by
    refine acall_of rfl comp11 (Nat.le_of_ble_eq_true rfl) ?_
    (repeat refine WC.seq ?_); refine WC.regX (Ext.refl s) fun s1 hs1 hx1 ho1 hn1 => ?_
    repeat (first | refine WR.nil ?_ | refine WR.guardY rfl ?_ | refine WR.guardN rfl ?_ | refine WR.guardT rfl ?_ | refine WR.mov rfl ?_ | refine WR.nilchk rfl ?_ | (refine WR.len (v := ?_) rfl ?_ ?_; rotate_left; first | assumption | exact rfl) | (refine WR.iadr (v := ?_) rfl rfl ?_ ?_; rotate_left; assumption) | (refine WR.fadr (v := ?_) rfl ?_ ?_; rotate_left; first | assumption | exact rfl) | (refine WR.r (v := ?_) rfl rfl (Ld.use (s0 := ?_) ?_ ?_) ?_; rotate_left; rotate_left; assumption; assumption) | (refine WR.r (v := ?_) rfl rfl (Ldn.use (s0 := ?_) ?_ ?_) ?_; rotate_left; rotate_left; assumption; assumption) | (refine WR.bin (v := ?_) rfl rfl ?_ ?_; rotate_left; first | assumption | exact lss_nat _ _ | exact eql_nat _ _ | exact neq_nat _ _ | exact gtr_nat _ _ | exact geq_nat _ _ | exact leq_nat _ _ | exact eql_str _ _ | exact neq_str _ _ | (refine add_nat ?_; omega) | (refine sub_nat ?_ ?_; omega; omega)) | refine WR.pick rfl rfl rfl ?_ | refine WR.un rfl rfl ?_ | refine WR.ext rfl rfl ?_ | refine WR.eq rfl rfl rfl ?_ | refine WR.mkifc rfl ?_)
    (repeat refine WC.seq ?_); refine WC.regX hs1 fun s2 hs2 hx2 ho2 hn2 => ?_
    repeat (first | refine WR.nil ?_ | refine WR.guardY rfl ?_ | refine WR.guardN rfl ?_ | refine WR.guardT rfl ?_ | refine WR.mov rfl ?_ | refine WR.nilchk rfl ?_ | (refine WR.len (v := ?_) rfl ?_ ?_; rotate_left; first | assumption | exact rfl) | (refine WR.iadr (v := ?_) rfl rfl ?_ ?_; rotate_left; assumption) | (refine WR.fadr (v := ?_) rfl ?_ ?_; rotate_left; first | assumption | exact rfl) | (refine WR.r (v := ?_) rfl rfl (Ld.use (s0 := ?_) ?_ ?_) ?_; rotate_left; rotate_left; assumption; assumption) | (refine WR.r (v := ?_) rfl rfl (Ldn.use (s0 := ?_) ?_ ?_) ?_; rotate_left; rotate_left; assumption; assumption) | (refine WR.bin (v := ?_) rfl rfl ?_ ?_; rotate_left; first | assumption | exact lss_nat _ _ | exact eql_nat _ _ | exact neq_nat _ _ | exact gtr_nat _ _ | exact geq_nat _ _ | exact leq_nat _ _ | exact eql_str _ _ | exact neq_str _ _ | (refine add_nat ?_; omega) | (refine sub_nat ?_ ?_; omega; omega)) | refine WR.pick rfl rfl rfl ?_ | refine WR.un rfl rfl ?_ | refine WR.ext rfl rfl ?_ | refine WR.eq rfl rfl rfl ?_ | refine WR.mkifc rfl ?_)
    obtain ⟨s3, e3, k3⟩ := there_ n (h.ext hs2)
    refine WR.fn rfl e3 ?_
    repeat (first | refine WR.nil ?_ | refine WR.guardY rfl ?_ | refine WR.guardN rfl ?_ | refine WR.guardT rfl ?_ | refine WR.mov rfl ?_ | refine WR.nilchk rfl ?_ | (refine WR.len (v := ?_) rfl ?_ ?_; rotate_left; first | assumption | exact rfl) | (refine WR.iadr (v := ?_) rfl rfl ?_ ?_; rotate_left; assumption) | (refine WR.fadr (v := ?_) rfl ?_ ?_; rotate_left; first | assumption | exact rfl) | (refine WR.r (v := ?_) rfl rfl (Ld.use (s0 := ?_) ?_ ?_) ?_; rotate_left; rotate_left; assumption; assumption) | (refine WR.r (v := ?_) rfl rfl (Ldn.use (s0 := ?_) ?_ ?_) ?_; rotate_left; rotate_left; assumption; assumption) | (refine WR.bin (v := ?_) rfl rfl ?_ ?_; rotate_left; first | assumption | exact lss_nat _ _ | exact eql_nat _ _ | exact neq_nat _ _ | exact gtr_nat _ _ | exact geq_nat _ _ | exact leq_nat _ _ | exact eql_str _ _ | exact neq_str _ _ | (refine add_nat ?_; omega) | (refine sub_nat ?_ ?_; omega; omega)) | refine WR.pick rfl rfl rfl ?_ | refine WR.un rfl rfl ?_ | refine WR.ext rfl rfl ?_ | refine WR.eq rfl rfl rfl ?_ | refine WR.mkifc rfl ?_)
    have hs3 := hs2.trans k3
    (repeat refine WC.seq ?_); refine WC.cond rfl ?_ ?_
    · intro hh; cases hh
    · intro _
      (repeat refine WC.seq ?_); refine WC.skip ?_
      (repeat refine WC.seq ?_); refine WC.regX hs3 fun s4 hs4 hx4 ho4 hn4 => ?_
      repeat (first | refine WR.nil ?_ | refine WR.guardY rfl ?_ | refine WR.guardN rfl ?_ | refine WR.guardT rfl ?_ | refine WR.mov rfl ?_ | refine WR.nilchk rfl ?_ | (refine WR.len (v := ?_) rfl ?_ ?_; rotate_left; first | assumption | exact rfl) | (refine WR.iadr (v := ?_) rfl rfl ?_ ?_; rotate_left; assumption) | (refine WR.fadr (v := ?_) rfl ?_ ?_; rotate_left; first | assumption | exact rfl) | (refine WR.r (v := ?_) rfl rfl (Ld.use (s0 := ?_) ?_ ?_) ?_; rotate_left; rotate_left; assumption; assumption) | (refine WR.r (v := ?_) rfl rfl (Ldn.use (s0 := ?_) ?_ ?_) ?_; rotate_left; rotate_left; assumption; assumption) | (refine WR.bin (v := ?_) rfl rfl ?_ ?_; rotate_left; first | assumption | exact lss_nat _ _ | exact eql_nat _ _ | exact neq_nat _ _ | exact gtr_nat _ _ | exact geq_nat _ _ | exact leq_nat _ _ | exact eql_str _ _ | exact neq_str _ _ | (refine add_nat ?_; omega) | (refine sub_nat ?_ ?_; omega; omega)) | refine WR.pick rfl rfl rfl ?_ | refine WR.un rfl rfl ?_ | refine WR.ext rfl rfl ?_ | refine WR.eq rfl rfl rfl ?_ | refine WR.mkifc rfl ?_)
      (repeat refine WC.seq ?_); refine WC.ret ?_
      exact ⟨.inr rfl, _, rfl, hs4, rfl⟩
  obtain ⟨_, s', e, k, rfl⟩ := this
  exact ⟨s', e, k⟩
/-- A place is taken. -/
theorem take_ (n : Nat) (h : HeapAt s lo H) (ok : HeapOk H) :
    (H.used = H.room → ∃ s', acall F0 E15 (n + 2) 33 [H.p] s = some (.int .i64 (.ofNat 8), s') ∧ Ext s s') ∧
    (H.used < H.room → ∃ s', acall F0 E15 (n + 2) 33 [H.p] s = some (.int .i64 (.ofNat 0), s') ∧ HeapAt s' lo { H with used := H.used + 1 } ∧ HFr H { H with used := H.used + 1 } s s') := by
  have l1 := h.ld (k := 1) rfl
  have l2 := h.ld (k := 2) rfl
  have hb := ok.big
  have hf := ok.fit
  constructor
  · intro he
    have : ∃ v s', acall F0 E15 (n + 2) 33 [H.p] s = some (v, s') ∧ (Ext s s' ∧ v = .int .i64 (.ofNat 8)) := by
      refine acall_of rfl comp33 (Nat.le_of_ble_eq_true rfl) ?_
      (repeat refine WC.seq ?_); refine WC.regX (Ext.refl s) fun s1 hs1 hx1 ho1 hn1 => ?_
      repeat (first | refine WR.nil ?_ | refine WR.guardY rfl ?_ | refine WR.guardN rfl ?_ | refine WR.guardT rfl ?_ | refine WR.mov rfl ?_ | refine WR.nilchk rfl ?_ | (refine WR.len (v := ?_) rfl ?_ ?_; rotate_left; first | assumption | exact rfl) | (refine WR.iadr (v := ?_) rfl rfl ?_ ?_; rotate_left; assumption) | (refine WR.fadr (v := ?_) rfl ?_ ?_; rotate_left; first | assumption | exact rfl) | (refine WR.r (v := ?_) rfl rfl (Ld.use (s0 := ?_) ?_ ?_) ?_; rotate_left; rotate_left; assumption; assumption) | (refine WR.r (v := ?_) rfl rfl (Ldn.use (s0 := ?_) ?_ ?_) ?_; rotate_left; rotate_left; assumption; assumption) | (refine WR.bin (v := ?_) rfl rfl ?_ ?_; rotate_left; first | assumption | exact lss_nat _ _ | exact eql_nat _ _ | exact neq_nat _ _ | exact gtr_nat _ _ | exact geq_nat _ _ | exact leq_nat _ _ | exact eql_str _ _ | exact neq_str _ _ | (refine add_nat ?_; omega) | (refine sub_nat ?_ ?_; omega; omega)) | refine WR.pick rfl rfl rfl ?_ | refine WR.un rfl rfl ?_ | refine WR.ext rfl rfl ?_ | refine WR.eq rfl rfl rfl ?_ | refine WR.mkifc rfl ?_)
      (repeat refine WC.seq ?_); refine WC.blk ?_
      (repeat refine WC.seq ?_); refine WC.regX hs1 fun s2 hs2 hx2 ho2 hn2 => ?_
      repeat (first | refine WR.nil ?_ | refine WR.guardY rfl ?_ | refine WR.guardN rfl ?_ | refine WR.guardT rfl ?_ | refine WR.mov rfl ?_ | refine WR.nilchk rfl ?_ | (refine WR.len (v := ?_) rfl ?_ ?_; rotate_left; first | assumption | exact rfl) | (refine WR.iadr (v := ?_) rfl rfl ?_ ?_; rotate_left; assumption) | (refine WR.fadr (v := ?_) rfl ?_ ?_; rotate_left; first | assumption | exact rfl) | (refine WR.r (v := ?_) rfl rfl (Ld.use (s0 := ?_) ?_ ?_) ?_; rotate_left; rotate_left; assumption; assumption) | (refine WR.r (v := ?_) rfl rfl (Ldn.use (s0 := ?_) ?_ ?_) ?_; rotate_left; rotate_left; assumption; assumption) | (refine WR.bin (v := ?_) rfl rfl ?_ ?_; rotate_left; first | assumption | exact lss_nat _ _ | exact eql_nat _ _ | exact neq_nat _ _ | exact gtr_nat _ _ | exact geq_nat _ _ | exact leq_nat _ _ | exact eql_str _ _ | exact neq_str _ _ | (refine add_nat ?_; omega) | (refine sub_nat ?_ ?_; omega; omega)) | refine WR.pick rfl rfl rfl ?_ | refine WR.un rfl rfl ?_ | refine WR.ext rfl rfl ?_ | refine WR.eq rfl rfl rfl ?_ | refine WR.mkifc rfl ?_)
      obtain ⟨s3, e3, k3⟩ := there_ n (h.ext hs2)
      refine WR.fn rfl e3 ?_
      repeat (first | refine WR.nil ?_ | refine WR.guardY rfl ?_ | refine WR.guardN rfl ?_ | refine WR.guardT rfl ?_ | refine WR.mov rfl ?_ | refine WR.nilchk rfl ?_ | (refine WR.len (v := ?_) rfl ?_ ?_; rotate_left; first | assumption | exact rfl) | (refine WR.iadr (v := ?_) rfl rfl ?_ ?_; rotate_left; assumption) | (refine WR.fadr (v := ?_) rfl ?_ ?_; rotate_left; first | assumption | exact rfl) | (refine WR.r (v := ?_) rfl rfl (Ld.use (s0 := ?_) ?_ ?_) ?_; rotate_left; rotate_left; assumption; assumption) | (refine WR.r (v := ?_) rfl rfl (Ldn.use (s0 := ?_) ?_ ?_) ?_; rotate_left; rotate_left; assumption; assumption) | (refine WR.bin (v := ?_) rfl rfl ?_ ?_; rotate_left; first | assumption | exact lss_nat _ _ | exact eql_nat _ _ | exact neq_nat _ _ | exact gtr_nat _ _ | exact geq_nat _ _ | exact leq_nat _ _ | exact eql_str _ _ | exact neq_str _ _ | (refine add_nat ?_; omega) | (refine sub_nat ?_ ?_; omega; omega)) | refine WR.pick rfl rfl rfl ?_ | refine WR.un rfl rfl ?_ | refine WR.ext rfl rfl ?_ | refine WR.eq rfl rfl rfl ?_ | refine WR.mkifc rfl ?_)
      have hs3 := hs2.trans k3
      (repeat refine WC.seq ?_); refine WC.cond rfl ?_ ?_
      · intro hh; cases hh
      · intro _
        have q := eqlT he
        (repeat refine WC.seq ?_); refine WC.drawX hs3 fun s4 hs4 hx4 ho4 hn4 => ?_
        repeat (first | refine WD.nil ?_ | refine WD.guardY rfl ?_ | refine WD.guardN rfl ?_ | refine WD.guardT rfl ?_ | refine WD.mov rfl ?_ | refine WD.nilchk rfl ?_ | (refine WD.len (v := ?_) rfl ?_ ?_; rotate_left; first | assumption | exact rfl) | (refine WD.iadr (v := ?_) rfl rfl ?_ ?_; rotate_left; assumption) | (refine WD.fadr (v := ?_) rfl ?_ ?_; rotate_left; first | assumption | exact rfl) | (refine WD.r (v := ?_) rfl rfl (Ld.use (s0 := ?_) ?_ ?_) rfl ?_; rotate_left; rotate_left; assumption; assumption) | (refine WD.r (v := ?_) rfl rfl (Ldn.use (s0 := ?_) ?_ ?_) rfl ?_; rotate_left; rotate_left; assumption; assumption) | (refine WD.bin (v := ?_) rfl rfl ?_ ?_; rotate_left; first | assumption | exact lss_nat _ _ | exact eql_nat _ _ | exact neq_nat _ _ | exact gtr_nat _ _ | exact geq_nat _ _ | exact leq_nat _ _ | exact eql_str _ _ | exact neq_str _ _ | (refine add_nat ?_; omega) | (refine sub_nat ?_ ?_; omega; omega)) | refine WD.pick rfl rfl rfl ?_ | refine WD.un rfl rfl ?_)
        (repeat refine WC.seq ?_); refine WC.cond rfl ?_ ?_
        · intro _
          (repeat refine WC.seq ?_); refine WC.regX hs4 fun s5 hs5 hx5 ho5 hn5 => ?_
          repeat (first | refine WR.nil ?_ | refine WR.guardY rfl ?_ | refine WR.guardN rfl ?_ | refine WR.guardT rfl ?_ | refine WR.mov rfl ?_ | refine WR.nilchk rfl ?_ | (refine WR.len (v := ?_) rfl ?_ ?_; rotate_left; first | assumption | exact rfl) | (refine WR.iadr (v := ?_) rfl rfl ?_ ?_; rotate_left; assumption) | (refine WR.fadr (v := ?_) rfl ?_ ?_; rotate_left; first | assumption | exact rfl) | (refine WR.r (v := ?_) rfl rfl (Ld.use (s0 := ?_) ?_ ?_) ?_; rotate_left; rotate_left; assumption; assumption) | (refine WR.r (v := ?_) rfl rfl (Ldn.use (s0 := ?_) ?_ ?_) ?_; rotate_left; rotate_left; assumption; assumption) | (refine WR.bin (v := ?_) rfl rfl ?_ ?_; rotate_left; first | assumption | exact lss_nat _ _ | exact eql_nat _ _ | exact neq_nat _ _ | exact gtr_nat _ _ | exact geq_nat _ _ | exact leq_nat _ _ | exact eql_str _ _ | exact neq_str _ _ | (refine add_nat ?_; omega) | (refine sub_nat ?_ ?_; omega; omega)) | refine WR.pick rfl rfl rfl ?_ | refine WR.un rfl rfl ?_ | refine WR.ext rfl rfl ?_ | refine WR.eq rfl rfl rfl ?_ | refine WR.mkifc rfl ?_)
          (repeat refine WC.seq ?_); refine WC.ret ?_
          exact ⟨.inr rfl, _, rfl, hs5, rfl⟩
        · intro hh; cases hh
    obtain ⟨_, s', e, k, rfl⟩ := this
    exact ⟨s', e, k⟩
  · intro hlt
    have : ∃ v s', acall F0 E15 (n + 2) 33 [H.p] s = some (v, s') ∧ ((HeapAt s' lo { H with used := H.used + 1 } ∧ HFr H { H with used := H.used + 1 } s s') ∧ v = .int .i64 (.ofNat 0)) := by
      refine acall_of rfl comp33 (Nat.le_of_ble_eq_true rfl) ?_
      (repeat refine WC.seq ?_); refine WC.regX (Ext.refl s) fun s1 hs1 hx1 ho1 hn1 => ?_
      repeat (first | refine WR.nil ?_ | refine WR.guardY rfl ?_ | refine WR.guardN rfl ?_ | refine WR.guardT rfl ?_ | refine WR.mov rfl ?_ | refine WR.nilchk rfl ?_ | (refine WR.len (v := ?_) rfl ?_ ?_; rotate_left; first | assumption | exact rfl) | (refine WR.iadr (v := ?_) rfl rfl ?_ ?_; rotate_left; assumption) | (refine WR.fadr (v := ?_) rfl ?_ ?_; rotate_left; first | assumption | exact rfl) | (refine WR.r (v := ?_) rfl rfl (Ld.use (s0 := ?_) ?_ ?_) ?_; rotate_left; rotate_left; assumption; assumption) | (refine WR.r (v := ?_) rfl rfl (Ldn.use (s0 := ?_) ?_ ?_) ?_; rotate_left; rotate_left; assumption; assumption) | (refine WR.bin (v := ?_) rfl rfl ?_ ?_; rotate_left; first | assumption | exact lss_nat _ _ | exact eql_nat _ _ | exact neq_nat _ _ | exact gtr_nat _ _ | exact geq_nat _ _ | exact leq_nat _ _ | exact eql_str _ _ | exact neq_str _ _ | (refine add_nat ?_; omega) | (refine sub_nat ?_ ?_; omega; omega)) | refine WR.pick rfl rfl rfl ?_ | refine WR.un rfl rfl ?_ | refine WR.ext rfl rfl ?_ | refine WR.eq rfl rfl rfl ?_ | refine WR.mkifc rfl ?_)
      (repeat refine WC.seq ?_); refine WC.blk ?_
      (repeat refine WC.seq ?_); refine WC.regX hs1 fun s2 hs2 hx2 ho2 hn2 => ?_
      repeat (first | refine WR.nil ?_ | refine WR.guardY rfl ?_ | refine WR.guardN rfl ?_ | refine WR.guardT rfl ?_ | refine WR.mov rfl ?_ | refine WR.nilchk rfl ?_ | (refine WR.len (v := ?_) rfl ?_ ?_; rotate_left; first | assumption | exact rfl) | (refine WR.iadr (v := ?_) rfl rfl ?_ ?_; rotate_left; assumption) | (refine WR.fadr (v := ?_) rfl ?_ ?_; rotate_left; first | assumption | exact rfl) | (refine WR.r (v := ?_) rfl rfl (Ld.use (s0 := ?_) ?_ ?_) ?_; rotate_left; rotate_left; assumption; assumption) | (refine WR.r (v := ?_) rfl rfl (Ldn.use (s0 := ?_) ?_ ?_) ?_; rotate_left; rotate_left; assumption; assumption) | (refine WR.bin (v := ?_) rfl rfl ?_ ?_; rotate_left; first | assumption | exact lss_nat _ _ | exact eql_nat _ _ | exact neq_nat _ _ | exact gtr_nat _ _ | exact geq_nat _ _ | exact leq_nat _ _ | exact eql_str _ _ | exact neq_str _ _ | (refine add_nat ?_; omega) | (refine sub_nat ?_ ?_; omega; omega)) | refine WR.pick rfl rfl rfl ?_ | refine WR.un rfl rfl ?_ | refine WR.ext rfl rfl ?_ | refine WR.eq rfl rfl rfl ?_ | refine WR.mkifc rfl ?_)
      obtain ⟨s3, e3, k3⟩ := there_ n (h.ext hs2)
      refine WR.fn rfl e3 ?_
      repeat (first | refine WR.nil ?_ | refine WR.guardY rfl ?_ | refine WR.guardN rfl ?_ | refine WR.guardT rfl ?_ | refine WR.mov rfl ?_ | refine WR.nilchk rfl ?_ | (refine WR.len (v := ?_) rfl ?_ ?_; rotate_left; first | assumption | exact rfl) | (refine WR.iadr (v := ?_) rfl rfl ?_ ?_; rotate_left; assumption) | (refine WR.fadr (v := ?_) rfl ?_ ?_; rotate_left; first | assumption | exact rfl) | (refine WR.r (v := ?_) rfl rfl (Ld.use (s0 := ?_) ?_ ?_) ?_; rotate_left; rotate_left; assumption; assumption) | (refine WR.r (v := ?_) rfl rfl (Ldn.use (s0 := ?_) ?_ ?_) ?_; rotate_left; rotate_left; assumption; assumption) | (refine WR.bin (v := ?_) rfl rfl ?_ ?_; rotate_left; first | assumption | exact lss_nat _ _ | exact eql_nat _ _ | exact neq_nat _ _ | exact gtr_nat _ _ | exact geq_nat _ _ | exact leq_nat _ _ | exact eql_str _ _ | exact neq_str _ _ | (refine add_nat ?_; omega) | (refine sub_nat ?_ ?_; omega; omega)) | refine WR.pick rfl rfl rfl ?_ | refine WR.un rfl rfl ?_ | refine WR.ext rfl rfl ?_ | refine WR.eq rfl rfl rfl ?_ | refine WR.mkifc rfl ?_)
      have hs3 := hs2.trans k3
      (repeat refine WC.seq ?_); refine WC.cond rfl ?_ ?_
      · intro hh; cases hh
      · intro _
        have q := eqlF (a := H.used) (b := H.room) (by omega)
        (repeat refine WC.seq ?_); refine WC.drawX hs3 fun s4 hs4 hx4 ho4 hn4 => ?_
        repeat (first | refine WD.nil ?_ | refine WD.guardY rfl ?_ | refine WD.guardN rfl ?_ | refine WD.guardT rfl ?_ | refine WD.mov rfl ?_ | refine WD.nilchk rfl ?_ | (refine WD.len (v := ?_) rfl ?_ ?_; rotate_left; first | assumption | exact rfl) | (refine WD.iadr (v := ?_) rfl rfl ?_ ?_; rotate_left; assumption) | (refine WD.fadr (v := ?_) rfl ?_ ?_; rotate_left; first | assumption | exact rfl) | (refine WD.r (v := ?_) rfl rfl (Ld.use (s0 := ?_) ?_ ?_) rfl ?_; rotate_left; rotate_left; assumption; assumption) | (refine WD.r (v := ?_) rfl rfl (Ldn.use (s0 := ?_) ?_ ?_) rfl ?_; rotate_left; rotate_left; assumption; assumption) | (refine WD.bin (v := ?_) rfl rfl ?_ ?_; rotate_left; first | assumption | exact lss_nat _ _ | exact eql_nat _ _ | exact neq_nat _ _ | exact gtr_nat _ _ | exact geq_nat _ _ | exact leq_nat _ _ | exact eql_str _ _ | exact neq_str _ _ | (refine add_nat ?_; omega) | (refine sub_nat ?_ ?_; omega; omega)) | refine WD.pick rfl rfl rfl ?_ | refine WD.un rfl rfl ?_)
        (repeat refine WC.seq ?_); refine WC.cond rfl ?_ ?_
        · intro hh; cases hh
        · intro _
          (repeat refine WC.seq ?_); refine WC.skip ?_
          have hs4' : Ext s (flush s4 []) := hs4
          (repeat refine WC.seq ?_); refine WC.regX hs4' fun s5 hs5 hx5 ho5 hn5 => ?_
          repeat (first | refine WR.nil ?_ | refine WR.guardY rfl ?_ | refine WR.guardN rfl ?_ | refine WR.guardT rfl ?_ | refine WR.mov rfl ?_ | refine WR.nilchk rfl ?_ | (refine WR.len (v := ?_) rfl ?_ ?_; rotate_left; first | assumption | exact rfl) | (refine WR.iadr (v := ?_) rfl rfl ?_ ?_; rotate_left; assumption) | (refine WR.fadr (v := ?_) rfl ?_ ?_; rotate_left; first | assumption | exact rfl) | (refine WR.r (v := ?_) rfl rfl (Ld.use (s0 := ?_) ?_ ?_) ?_; rotate_left; rotate_left; assumption; assumption) | (refine WR.r (v := ?_) rfl rfl (Ldn.use (s0 := ?_) ?_ ?_) ?_; rotate_left; rotate_left; assumption; assumption) | (refine WR.bin (v := ?_) rfl rfl ?_ ?_; rotate_left; first | assumption | exact lss_nat _ _ | exact eql_nat _ _ | exact neq_nat _ _ | exact gtr_nat _ _ | exact geq_nat _ _ | exact leq_nat _ _ | exact eql_str _ _ | exact neq_str _ _ | (refine add_nat ?_; omega) | (refine sub_nat ?_ ?_; omega; omega)) | refine WR.pick rfl rfl rfl ?_ | refine WR.un rfl rfl ?_ | refine WR.ext rfl rfl ?_ | refine WR.eq rfl rfl rfl ?_ | refine WR.mkifc rfl ?_)
          have h5 := h.ext hs5
          refine WR.store rfl rfl rfl rfl (by decide) (wr_some h5.obj (Nat.le_of_ble_eq_true rfl)) ?_
          have h6 := h5.putUsed (H.used + 1)
          have f6 : HFr H { H with used := H.used + 1 } s (s5.put H.hid (.cells { H with used := H.used + 1 }.row 0 0 false)) := (HFr.ext hs5).trans (HFr.putUsed _ _)
          refine WR.nil ?_
          (repeat refine WC.seq ?_); refine WC.regX (Ext.refl _) fun s7 hs7 hx7 ho7 hn7 => ?_
          repeat (first | refine WR.nil ?_ | refine WR.guardY rfl ?_ | refine WR.guardN rfl ?_ | refine WR.guardT rfl ?_ | refine WR.mov rfl ?_ | refine WR.nilchk rfl ?_ | (refine WR.len (v := ?_) rfl ?_ ?_; rotate_left; first | assumption | exact rfl) | (refine WR.iadr (v := ?_) rfl rfl ?_ ?_; rotate_left; assumption) | (refine WR.fadr (v := ?_) rfl ?_ ?_; rotate_left; first | assumption | exact rfl) | (refine WR.r (v := ?_) rfl rfl (Ld.use (s0 := ?_) ?_ ?_) ?_; rotate_left; rotate_left; assumption; assumption) | (refine WR.r (v := ?_) rfl rfl (Ldn.use (s0 := ?_) ?_ ?_) ?_; rotate_left; rotate_left; assumption; assumption) | (refine WR.bin (v := ?_) rfl rfl ?_ ?_; rotate_left; first | assumption | exact lss_nat _ _ | exact eql_nat _ _ | exact neq_nat _ _ | exact gtr_nat _ _ | exact geq_nat _ _ | exact leq_nat _ _ | exact eql_str _ _ | exact neq_str _ _ | (refine add_nat ?_; omega) | (refine sub_nat ?_ ?_; omega; omega)) | refine WR.pick rfl rfl rfl ?_ | refine WR.un rfl rfl ?_ | refine WR.ext rfl rfl ?_ | refine WR.eq rfl rfl rfl ?_ | refine WR.mkifc rfl ?_)
          (repeat refine WC.seq ?_); refine WC.ret ?_
          exact ⟨.inr rfl, _, rfl, ⟨h6.ext hs7, f6.trans (HFr.ext hs7)⟩, rfl⟩
    obtain ⟨_, s', e, k, rfl⟩ := this
    exact ⟨s', e, k⟩
end
end Go.Proofs.Ytggpnokhhpnnaaa

namespace Go.Proofs.Ytggpnokhhpnnaaa
open Go Go.Abs

theorem Own.turn {s s' : St} {lo lo2 sz : Nat} {v w : AV} {rows : List (List AV)} (t : Turn lo v s s') (h : Own s lo2 sz w rows) (hd : Apart v w) : Own s' lo2 sz w rows := by
  obtain ⟨h1, h0, ⟨rfl, rfl⟩ | ⟨id, gen, rfl, h2, h3, h4⟩⟩ := h
  · exact ⟨h1, Nat.le_trans h0 t.next, .inl ⟨rfl, rfl⟩⟩
  · refine ⟨h1, Nat.le_trans h0 t.next, .inr ⟨id, gen, rfl, h2, Nat.lt_of_lt_of_le h3 t.next, ?_⟩⟩
    rw [t.old id h3 ((hd id).resolve_right (by simp [offId]))]; exact h4
section
variable {s sx s6 : St} {lo : Nat} {H : HM}
theorem HeapAt.addTab (h : HeapAt s lo H) (hx : Ext s sx) {M : Nat} {v : AV} (hM : s.next ≤ M) (hM2 : M < sx.next) (gM : sx.objs.get M = some (.map [] 0)) (own6 : Own s6 lo 1 v ((H.tabs.map fun t => [.map t.id]) ++ [[.map M]]))
    (t6 : Turn lo H.vt sx s6) (o6 : ∀ id, offId H.vt id → id < sx.next → offId v id) :
    HeapAt (s6.put H.hid (.cells { H with vt := v }.row 0 0 false)) lo { H with vt := v, tabs := H.tabs ++ [⟨M, [], 0⟩] } ∧ HFr H { H with vt := v, tabs := H.tabs ++ [⟨M, [], 0⟩] } s (s6.put H.hid (.cells { H with vt := v }.row 0 0 false)) := by
  have h5 := h.ext hx
  have gM6 : s6.objs.get M = some (.map [] 0) := by rw [t6.old M hM2 (h.tab.slv.offNew hM)]; exact gM
  have hne : M ≠ H.hid := by have := h.lt; omega
  have ov : offId v H.hid := o6 _ h.o1 h5.lt
  constructor
  · refine ⟨by rw [get_put, if_pos rfl]; rfl, Nat.lt_of_lt_of_le h5.lt t6.next, h.low, ?_, (Own.turn t6 h5.fns h.a1).put h.o2 _, (Own.turn t6 h5.cel h.a2).put h.o3 _, ?_, ?_, ?_, ?_, h.a3, ov, h.o2, h.o3⟩
    · have := own6.put ov (.cells { H with vt := v }.row 0 0 false)
      simpa using this
    · intro t ht
      rcases List.mem_append.1 ht with ht | ht
      · obtain ⟨m1, m2, m3⟩ := h5.maps t ht
        refine ⟨m1, Nat.lt_of_lt_of_le m2 t6.next, ?_⟩
        rw [get_put, if_neg (h.mapNe ht), t6.old _ m2 (Own.offMap h5.tab m3)]; exact m3
      · simp at ht
        subst ht
        exact ⟨Nat.le_trans h.low (by have := h.lt; simp only; omega), Nat.lt_of_lt_of_le hM2 t6.next, by rw [get_put, if_neg hne]; exact gM6⟩
    · rw [List.map_append, List.nodup_append]
      refine ⟨h.nodup, by simp, ?_⟩
      intro a ha b hb
      simp at hb
      subst hb
      obtain ⟨t, ht, rfl⟩ := List.mem_map.1 ha
      have := (h.maps t ht).2.1
      omega
    · exact apart_app h5.fns.slv h.a1 o6
    · exact apart_app h5.cel.slv h.a2 o6
  · refine ⟨Nat.le_trans hx.next t6.next, ?_, ?_⟩
    · intro id hi hf
      have hv : offId H.vt id := Classical.byContradiction fun x => hf (.inr (.inl x))
      rw [get_put, if_neg (fun e => hf (.inl e)), t6.old id (Nat.lt_of_lt_of_le hi hx.next) hv]
      exact hx.old id hi
    · intro id hi hf
      rcases hf with e | e | e | e | ⟨t, ht, e⟩
      · exact .inl e
      · exact .inr (.inl fun x => e (o6 id x (Nat.lt_of_lt_of_le hi hx.next)))
      · exact .inr (.inr (.inl e))
      · exact .inr (.inr (.inr (.inl e)))
      · rcases List.mem_append.1 ht with ht | ht
        · exact .inr (.inr (.inr (.inr ⟨t, ht, e⟩)))
        · simp at ht
          subst ht
          simp only at e
          omega
theorem HeapAt.addFn (h : HeapAt s lo H) (hx : Ext s sx) {r : List AV} {v : AV} (own6 : Own s6 lo 3 v (H.fns ++ [r]))
    (t6 : Turn lo H.vf sx s6) (o6 : ∀ id, offId H.vf id → id < sx.next → offId v id) :
    HeapAt (s6.put H.hid (.cells { H with vf := v }.row 0 0 false)) lo { H with vf := v, fns := H.fns ++ [r] } ∧ HFr H { H with vf := v, fns := H.fns ++ [r] } s (s6.put H.hid (.cells { H with vf := v }.row 0 0 false)) := by
  have h5 := h.ext hx
  have ov : offId v H.hid := o6 _ h.o2 h5.lt
  constructor
  · refine ⟨by rw [get_put, if_pos rfl]; rfl, Nat.lt_of_lt_of_le h5.lt t6.next, h.low, (Own.turn t6 h5.tab h.a1.symm).put h.o1 _, own6.put ov _, (Own.turn t6 h5.cel h.a3).put h.o3 _, ?_, h.nodup, ?_, h.a2, ?_, h.o1, ov, h.o3⟩
    · intro t ht
      obtain ⟨m1, m2, m3⟩ := h5.maps t ht
      refine ⟨m1, Nat.lt_of_lt_of_le m2 t6.next, ?_⟩
      rw [get_put, if_neg (h.mapNe ht), t6.old _ m2 (Own.offMap h5.fns m3)]; exact m3
    · exact (apart_app h5.tab.slv h.a1.symm o6).symm
    · exact apart_app h5.cel.slv h.a3 o6
  · refine ⟨Nat.le_trans hx.next t6.next, ?_, ?_⟩
    · intro id hi hf
      have hv : offId H.vf id := Classical.byContradiction fun x => hf (.inr (.inr (.inl x)))
      rw [get_put, if_neg (fun e => hf (.inl e)), t6.old id (Nat.lt_of_lt_of_le hi hx.next) hv]
      exact hx.old id hi
    · intro id hi hf
      rcases hf with e | e | e | e | ⟨t, ht, e⟩
      · exact .inl e
      · exact .inr (.inl e)
      · exact .inr (.inr (.inl fun x => e (o6 id x (Nat.lt_of_lt_of_le hi hx.next))))
      · exact .inr (.inr (.inr (.inl e)))
      · exact .inr (.inr (.inr (.inr ⟨t, ht, e⟩)))
theorem HeapAt.off (h : HeapAt s lo H) {id : Nat} (hf : ¬ Foot H id) (o : AObj) : HeapAt (s.put id o) lo H := by
  have f1 : offId H.vt id := Classical.byContradiction fun x => hf (.inr (.inl x))
  have f2 : offId H.vf id := Classical.byContradiction fun x => hf (.inr (.inr (.inl x)))
  have f3 : offId H.vc id := Classical.byContradiction fun x => hf (.inr (.inr (.inr (.inl x))))
  refine ⟨by rw [get_put, if_neg (fun e => hf (.inl e.symm))]; exact h.obj, h.lt, h.low, h.tab.put f1 _, h.fns.put f2 _, h.cel.put f3 _, ?_, h.nodup, h.a1, h.a2, h.a3, h.o1, h.o2, h.o3⟩
  intro t ht
  obtain ⟨m1, m2, m3⟩ := h.maps t ht
  exact ⟨m1, m2, by rw [get_put, if_neg (fun e => hf (.inr (.inr (.inr (.inr ⟨t, ht, e⟩)))))]; exact m3⟩
theorem HFr.put {H' : HM} (h : HFr H H' s sx) {id : Nat} (hi : s.next ≤ id) (o : AObj) : HFr H H' s (sx.put id o) :=
  ⟨h.next, fun j hj hf => by rw [get_put, if_neg (by omega)]; exact h.old j hj hf, h.foot⟩
theorem ressCT {l : SL} {a b n : Nat} {p v w : AV} (h1 : lkS l a = some p) (h2 : aread (.loadn n) p p s = some v) (h3 : lkS l b = some w) : ressL l s [.cn a n, .t b] = some [v, w] := by simp only [ressL, resL, h1, h2, h3]
theorem boxRd {v : Val} {id : Nat} (hi : id < s.next) : aread (.loadn 3) (.ptr id 0 0 3) (.ptr id 0 0 3) (s.put id (.cells (valR v) 0 0 false)) = some (valA v) :=
  (objLdn (s := s.put id (.cells (valR v) 0 0 false)) (id := id) (g := 0) (gr := false) (cs := valR v) (by rw [get_put, if_pos rfl]) hi (o := 0) (m := 3) (Nat.le_refl _)) _ _ (Ext.refl _)
/-- A table's entries set anew. -/
def HM.setT (H : HM) (id : Nat) (es : List Ent) (ck : Nat) : HM := { H with tabs := H.tabs.map fun t => if t.id = id then ⟨id, es, ck⟩ else t }
theorem setT_ids (H : HM) (id : Nat) (es : List Ent) (ck : Nat) : (H.setT id es ck).tabs.map (·.id) = H.tabs.map (·.id) := by
  simp only [HM.setT, List.map_map]
  congr 1
  funext t
  simp only [Function.comp]
  split
  · rename_i e; exact e.symm
  · rfl
theorem HeapAt.setTab (h : HeapAt s lo H) {t : Tb} (ht : t ∈ H.tabs) (es : List Ent) (ck : Nat) :
    HeapAt (s.put t.id (.map (entsA es) ck)) lo (H.setT t.id es ck) ∧ HFr H (H.setT t.id es ck) s (s.put t.id (.map (entsA es) ck)) := by
  obtain ⟨m1, m2, m3⟩ := h.maps t ht
  constructor
  · refine ⟨?_, h.lt, h.low, ?_, h.fns.put (Own.offMap h.fns m3) _, h.cel.put (Own.offMap h.cel m3) _, ?_, by rw [setT_ids]; exact h.nodup, h.a1, h.a2, h.a3, h.o1, h.o2, h.o3⟩
    · rw [get_put, if_neg (fun e => h.mapNe ht e.symm)]; exact h.obj
    · have e : ((H.setT t.id es ck).tabs.map fun t => [AV.map t.id]) = H.tabs.map fun t => [AV.map t.id] := by
        have := congrArg (List.map fun i => [AV.map i]) (setT_ids H t.id es ck)
        rw [List.map_map, List.map_map] at this; exact this
      rw [e]
      exact h.tab.put (Own.offMap h.tab m3) _
    · intro u hu
      obtain ⟨w, hw, rfl⟩ := List.mem_map.1 hu
      obtain ⟨k1, k2, k3⟩ := h.maps w hw
      by_cases e : w.id = t.id
      · rw [if_pos e]
        exact ⟨m1, m2, by rw [get_put, if_pos rfl]⟩
      · rw [if_neg e]
        exact ⟨k1, k2, by rw [get_put, if_neg e]; exact k3⟩
  · refine ⟨Nat.le_refl _, fun id hi hf => by rw [get_put, if_neg (fun e => hf (.inr (.inr (.inr (.inr ⟨t, ht, e.symm⟩)))))], ?_⟩
    intro id hi hf
    rcases hf with e | e | e | e | ⟨u, hu, e⟩
    · exact .inl e
    · exact .inr (.inl e)
    · exact .inr (.inr (.inl e))
    · exact .inr (.inr (.inr (.inl e)))
    · have : u.id ∈ (H.setT t.id es ck).tabs.map (·.id) := List.mem_map.2 ⟨u, hu, rfl⟩
      rw [setT_ids] at this
      obtain ⟨w, hw, e2⟩ := List.mem_map.1 this
      exact .inr (.inr (.inr (.inr ⟨w, hw, e2.trans e⟩)))
end
end Go.Proofs.Ytggpnokhhpnnaaa

namespace Go.Proofs.Ytggpnokhhpnnaaa
open Go Go.Abs
section
variable {call : CallF} {id n : Nat} {l : SL} {s : St}
theorem WR.store1 {x y : AO} {os : List AOper} {d : Option Nat} {pre : Nat} {id1 g o lm : Nat} {v : AV} {s' : St} {Q : SL → St → Prop} (hx : x.evL l = some (.ptr id1 g o lm)) (hy : y.evL l = some v)
    (h1 : OneC v) (h3 : 1 ≤ lm) (h : wr s id1 g o [v] = some s') (k : WR call (id + 1) os (putL l d (.tup [])) s' Q) :
    WR call id (⟨d, .e (.store 1 x y), none, pre⟩ :: os) l s Q := WR.store hx hy h1.1 (by rw [h1.2]; rfl) h3 (by rw [h1.2]; exact h) k
end
abbrev vA (k n : Nat) : Val := ⟨.ofNat k, .ofNat n, []⟩
section
variable {s : St} {lo : Nat} {H : HM}
/-- A table is made, if there is room. -/
theorem table_ (n : Nat) (h : HeapAt s lo H) (ok : HeapOk H) :
    (H.used = H.room → ∃ s', acall F0 E15 (n + 3) 12 [H.p] s = some (.tup [valA (vA 0 0), .int .i64 (.ofNat 8)], s') ∧ Ext s s') ∧
    (H.used < H.room → ∃ s' v M, acall F0 E15 (n + 3) 12 [H.p] s = some (.tup [valA (vA 3 H.tabs.length), .int .i64 (.ofNat 0)], s') ∧
      HeapAt s' lo { H with used := H.used + 1, vt := v, tabs := H.tabs ++ [⟨M, [], 0⟩] } ∧ HFr H { H with used := H.used + 1, vt := v, tabs := H.tabs ++ [⟨M, [], 0⟩] } s s') := by
  have hcnt := ok.count
  have hb := ok.big
  have hf := ok.fit
  constructor
  · intro he
    have : ∃ v s', acall F0 E15 (n + 3) 12 [H.p] s = some (v, s') ∧ (Ext s s' ∧ v = .tup [valA (vA 0 0), .int .i64 (.ofNat 8)]) := by
      refine acall_of rfl comp12 (Nat.le_of_ble_eq_true rfl) ?_
      (repeat refine WC.seq ?_); refine WC.regX (Ext.refl s) fun s1 hs1 hx1 ho1 hn1 => ?_
      refine WR.alloc ?_
      repeat (first | refine WR.nil ?_ | refine WR.guardY rfl ?_ | refine WR.guardN rfl ?_ | refine WR.guardT rfl ?_ | refine WR.mov rfl ?_ | refine WR.nilchk rfl ?_ | (refine WR.len (v := ?_) rfl ?_ ?_; rotate_left; first | assumption | exact rfl) | (refine WR.iadr (v := ?_) rfl rfl ?_ ?_; rotate_left; assumption) | (refine WR.fadr (v := ?_) rfl ?_ ?_; rotate_left; first | assumption | exact rfl) | (refine WR.r (v := ?_) rfl rfl (Ld.use (s0 := ?_) ?_ ?_) ?_; rotate_left; rotate_left; assumption; assumption) | (refine WR.r (v := ?_) rfl rfl (Ldn.use (s0 := ?_) ?_ ?_) ?_; rotate_left; rotate_left; assumption; assumption) | (refine WR.bin (v := ?_) rfl rfl ?_ ?_; rotate_left; first | assumption | exact lss_nat _ _ | exact eql_nat _ _ | exact neq_nat _ _ | exact gtr_nat _ _ | exact geq_nat _ _ | exact leq_nat _ _ | exact eql_str _ _ | exact neq_str _ _ | (refine add_nat ?_; omega) | (refine sub_nat ?_ ?_; omega; omega)) | refine WR.pick rfl rfl rfl ?_ | refine WR.un rfl rfl ?_ | refine WR.ext rfl rfl ?_ | refine WR.eq rfl rfl rfl ?_ | refine WR.mkifc rfl ?_)
      have x1 : Ext s (s1.put s.next (.cells [.int .i64 (.ofNat 0), .int .i64 (.ofNat 0), .str []] 0 0 false)) := hs1.put (Nat.le_refl _) _
      have g1 : (s1.put s.next (.cells [.int .i64 (.ofNat 0), .int .i64 (.ofNat 0), .str []] 0 0 false)).objs.get s.next = some (.cells [.int .i64 (.ofNat 0), .int .i64 (.ofNat 0), .str []] 0 0 false) := by rw [get_put, if_pos rfl]
      have n1 : s.next < (s1.put s.next (.cells [.int .i64 (.ofNat 0), .int .i64 (.ofNat 0), .str []] 0 0 false)).next := by rw [next_put, hn1]; exact Nat.lt_add_of_pos_right (by decide)
      generalize s1.put s.next (.cells [.int .i64 (.ofNat 0), .int .i64 (.ofNat 0), .str []] 0 0 false) = sa at x1 g1 n1 ⊢
      (repeat refine WC.seq ?_); refine WC.regX x1 fun s2 hs2 hx2 ho2 hn2 => ?_
      repeat (first | refine WR.nil ?_ | refine WR.guardY rfl ?_ | refine WR.guardN rfl ?_ | refine WR.guardT rfl ?_ | refine WR.mov rfl ?_ | refine WR.nilchk rfl ?_ | (refine WR.len (v := ?_) rfl ?_ ?_; rotate_left; first | assumption | exact rfl) | (refine WR.iadr (v := ?_) rfl rfl ?_ ?_; rotate_left; assumption) | (refine WR.fadr (v := ?_) rfl ?_ ?_; rotate_left; first | assumption | exact rfl) | (refine WR.r (v := ?_) rfl rfl (Ld.use (s0 := ?_) ?_ ?_) ?_; rotate_left; rotate_left; assumption; assumption) | (refine WR.r (v := ?_) rfl rfl (Ldn.use (s0 := ?_) ?_ ?_) ?_; rotate_left; rotate_left; assumption; assumption) | (refine WR.bin (v := ?_) rfl rfl ?_ ?_; rotate_left; first | assumption | exact lss_nat _ _ | exact eql_nat _ _ | exact neq_nat _ _ | exact gtr_nat _ _ | exact geq_nat _ _ | exact leq_nat _ _ | exact eql_str _ _ | exact neq_str _ _ | (refine add_nat ?_; omega) | (refine sub_nat ?_ ?_; omega; omega)) | refine WR.pick rfl rfl rfl ?_ | refine WR.un rfl rfl ?_ | refine WR.ext rfl rfl ?_ | refine WR.eq rfl rfl rfl ?_ | refine WR.mkifc rfl ?_)
      obtain ⟨s3, e3, k3⟩ := (take_ n (h.ext hs2) ok).1 he
      refine WR.fn rfl e3 ?_
      repeat (first | refine WR.nil ?_ | refine WR.guardY rfl ?_ | refine WR.guardN rfl ?_ | refine WR.guardT rfl ?_ | refine WR.mov rfl ?_ | refine WR.nilchk rfl ?_ | (refine WR.len (v := ?_) rfl ?_ ?_; rotate_left; first | assumption | exact rfl) | (refine WR.iadr (v := ?_) rfl rfl ?_ ?_; rotate_left; assumption) | (refine WR.fadr (v := ?_) rfl ?_ ?_; rotate_left; first | assumption | exact rfl) | (refine WR.r (v := ?_) rfl rfl (Ld.use (s0 := ?_) ?_ ?_) ?_; rotate_left; rotate_left; assumption; assumption) | (refine WR.r (v := ?_) rfl rfl (Ldn.use (s0 := ?_) ?_ ?_) ?_; rotate_left; rotate_left; assumption; assumption) | (refine WR.bin (v := ?_) rfl rfl ?_ ?_; rotate_left; first | assumption | exact lss_nat _ _ | exact eql_nat _ _ | exact neq_nat _ _ | exact gtr_nat _ _ | exact geq_nat _ _ | exact leq_nat _ _ | exact eql_str _ _ | exact neq_str _ _ | (refine add_nat ?_; omega) | (refine sub_nat ?_ ?_; omega; omega)) | refine WR.pick rfl rfl rfl ?_ | refine WR.un rfl rfl ?_ | refine WR.ext rfl rfl ?_ | refine WR.eq rfl rfl rfl ?_ | refine WR.mkifc rfl ?_)
      have hs3 := hs2.trans k3
      have q := neqT (a := 8) (b := 0) (by decide)
      (repeat refine WC.seq ?_); refine WC.regX hs3 fun s4 hs4 hx4 ho4 hn4 => ?_
      repeat (first | refine WR.nil ?_ | refine WR.guardY rfl ?_ | refine WR.guardN rfl ?_ | refine WR.guardT rfl ?_ | refine WR.mov rfl ?_ | refine WR.nilchk rfl ?_ | (refine WR.len (v := ?_) rfl ?_ ?_; rotate_left; first | assumption | exact rfl) | (refine WR.iadr (v := ?_) rfl rfl ?_ ?_; rotate_left; assumption) | (refine WR.fadr (v := ?_) rfl ?_ ?_; rotate_left; first | assumption | exact rfl) | (refine WR.r (v := ?_) rfl rfl (Ld.use (s0 := ?_) ?_ ?_) ?_; rotate_left; rotate_left; assumption; assumption) | (refine WR.r (v := ?_) rfl rfl (Ldn.use (s0 := ?_) ?_ ?_) ?_; rotate_left; rotate_left; assumption; assumption) | (refine WR.bin (v := ?_) rfl rfl ?_ ?_; rotate_left; first | assumption | exact lss_nat _ _ | exact eql_nat _ _ | exact neq_nat _ _ | exact gtr_nat _ _ | exact geq_nat _ _ | exact leq_nat _ _ | exact eql_str _ _ | exact neq_str _ _ | (refine add_nat ?_; omega) | (refine sub_nat ?_ ?_; omega; omega)) | refine WR.pick rfl rfl rfl ?_ | refine WR.un rfl rfl ?_ | refine WR.ext rfl rfl ?_ | refine WR.eq rfl rfl rfl ?_ | refine WR.mkifc rfl ?_)
      (repeat refine WC.seq ?_); refine WC.cond rfl ?_ ?_
      · intro _
        (repeat refine WC.seq ?_); refine WC.regX hs4 fun s5 hs5 hx5 ho5 hn5 => ?_
        refine WR.build (cs := valR (vA 0 0)) rfl ?_
        repeat (first | refine WR.nil ?_ | refine WR.guardY rfl ?_ | refine WR.guardN rfl ?_ | refine WR.guardT rfl ?_ | refine WR.mov rfl ?_ | refine WR.nilchk rfl ?_ | (refine WR.len (v := ?_) rfl ?_ ?_; rotate_left; first | assumption | exact rfl) | (refine WR.iadr (v := ?_) rfl rfl ?_ ?_; rotate_left; assumption) | (refine WR.fadr (v := ?_) rfl ?_ ?_; rotate_left; first | assumption | exact rfl) | (refine WR.r (v := ?_) rfl rfl (Ld.use (s0 := ?_) ?_ ?_) ?_; rotate_left; rotate_left; assumption; assumption) | (refine WR.r (v := ?_) rfl rfl (Ldn.use (s0 := ?_) ?_ ?_) ?_; rotate_left; rotate_left; assumption; assumption) | (refine WR.bin (v := ?_) rfl rfl ?_ ?_; rotate_left; first | assumption | exact lss_nat _ _ | exact eql_nat _ _ | exact neq_nat _ _ | exact gtr_nat _ _ | exact geq_nat _ _ | exact leq_nat _ _ | exact eql_str _ _ | exact neq_str _ _ | (refine add_nat ?_; omega) | (refine sub_nat ?_ ?_; omega; omega)) | refine WR.pick rfl rfl rfl ?_ | refine WR.un rfl rfl ?_ | refine WR.ext rfl rfl ?_ | refine WR.eq rfl rfl rfl ?_ | refine WR.mkifc rfl ?_)
        have g5 : s5.objs.get s.next = some (.cells [.int .i64 (.ofNat 0), .int .i64 (.ofNat 0), .str []] 0 0 false) := by
          rw [(hx2.trans (k3.trans (hx4.trans hx5))).old _ n1]; exact g1
        refine WR.store rfl rfl rfl rfl (Nat.le_refl _) (wr_some g5 (Nat.le_refl _)) ?_
        repeat (first | refine WR.nil ?_ | refine WR.guardY rfl ?_ | refine WR.guardN rfl ?_ | refine WR.guardT rfl ?_ | refine WR.mov rfl ?_ | refine WR.nilchk rfl ?_ | (refine WR.len (v := ?_) rfl ?_ ?_; rotate_left; first | assumption | exact rfl) | (refine WR.iadr (v := ?_) rfl rfl ?_ ?_; rotate_left; assumption) | (refine WR.fadr (v := ?_) rfl ?_ ?_; rotate_left; first | assumption | exact rfl) | (refine WR.r (v := ?_) rfl rfl (Ld.use (s0 := ?_) ?_ ?_) ?_; rotate_left; rotate_left; assumption; assumption) | (refine WR.r (v := ?_) rfl rfl (Ldn.use (s0 := ?_) ?_ ?_) ?_; rotate_left; rotate_left; assumption; assumption) | (refine WR.bin (v := ?_) rfl rfl ?_ ?_; rotate_left; first | assumption | exact lss_nat _ _ | exact eql_nat _ _ | exact neq_nat _ _ | exact gtr_nat _ _ | exact geq_nat _ _ | exact leq_nat _ _ | exact eql_str _ _ | exact neq_str _ _ | (refine add_nat ?_; omega) | (refine sub_nat ?_ ?_; omega; omega)) | refine WR.pick rfl rfl rfl ?_ | refine WR.un rfl rfl ?_ | refine WR.ext rfl rfl ?_ | refine WR.eq rfl rfl rfl ?_ | refine WR.mkifc rfl ?_)
        have n5 : s.next < s5.next := Nat.lt_of_lt_of_le n1 (hx2.trans (k3.trans (hx4.trans hx5))).next
        (repeat refine WC.seq ?_); refine WC.ret ?_
        refine ⟨.inr rfl, [valA (vA 0 0), .int .i64 (.ofNat 8)], ?_, hs5.put (Nat.le_refl _) _, rfl⟩
        exact ressCT rfl (boxRd n5) rfl
      · intro hh; cases hh
    obtain ⟨_, s', e, k, rfl⟩ := this
    exact ⟨s', e, k⟩
  · intro hlt
    have : ∃ v s', acall F0 E15 (n + 3) 12 [H.p] s = some (v, s') ∧ ((∃ v M, HeapAt s' lo { H with used := H.used + 1, vt := v, tabs := H.tabs ++ [⟨M, [], 0⟩] } ∧ HFr H { H with used := H.used + 1, vt := v, tabs := H.tabs ++ [⟨M, [], 0⟩] } s s') ∧ v = .tup [valA (vA 3 H.tabs.length), .int .i64 (.ofNat 0)]) := by
      refine acall_of rfl comp12 (Nat.le_of_ble_eq_true rfl) ?_
      (repeat refine WC.seq ?_); refine WC.regX (Ext.refl s) fun s1 hs1 hx1 ho1 hn1 => ?_
      refine WR.alloc ?_
      repeat (first | refine WR.nil ?_ | refine WR.guardY rfl ?_ | refine WR.guardN rfl ?_ | refine WR.guardT rfl ?_ | refine WR.mov rfl ?_ | refine WR.nilchk rfl ?_ | (refine WR.len (v := ?_) rfl ?_ ?_; rotate_left; first | assumption | exact rfl) | (refine WR.iadr (v := ?_) rfl rfl ?_ ?_; rotate_left; assumption) | (refine WR.fadr (v := ?_) rfl ?_ ?_; rotate_left; first | assumption | exact rfl) | (refine WR.r (v := ?_) rfl rfl (Ld.use (s0 := ?_) ?_ ?_) ?_; rotate_left; rotate_left; assumption; assumption) | (refine WR.r (v := ?_) rfl rfl (Ldn.use (s0 := ?_) ?_ ?_) ?_; rotate_left; rotate_left; assumption; assumption) | (refine WR.bin (v := ?_) rfl rfl ?_ ?_; rotate_left; first | assumption | exact lss_nat _ _ | exact eql_nat _ _ | exact neq_nat _ _ | exact gtr_nat _ _ | exact geq_nat _ _ | exact leq_nat _ _ | exact eql_str _ _ | exact neq_str _ _ | (refine add_nat ?_; omega) | (refine sub_nat ?_ ?_; omega; omega)) | refine WR.pick rfl rfl rfl ?_ | refine WR.un rfl rfl ?_ | refine WR.ext rfl rfl ?_ | refine WR.eq rfl rfl rfl ?_ | refine WR.mkifc rfl ?_)
      have x1 : Ext s (s1.put s.next (.cells [.int .i64 (.ofNat 0), .int .i64 (.ofNat 0), .str []] 0 0 false)) := hs1.put (Nat.le_refl _) _
      have g1 : (s1.put s.next (.cells [.int .i64 (.ofNat 0), .int .i64 (.ofNat 0), .str []] 0 0 false)).objs.get s.next = some (.cells [.int .i64 (.ofNat 0), .int .i64 (.ofNat 0), .str []] 0 0 false) := by rw [get_put, if_pos rfl]
      have n1 : s.next < (s1.put s.next (.cells [.int .i64 (.ofNat 0), .int .i64 (.ofNat 0), .str []] 0 0 false)).next := by rw [next_put, hn1]; exact Nat.lt_add_of_pos_right (by decide)
      generalize s1.put s.next (.cells [.int .i64 (.ofNat 0), .int .i64 (.ofNat 0), .str []] 0 0 false) = sa at x1 g1 n1 ⊢
      have nf : ∀ id, ¬ id < s.next → ¬ Foot H id := fun id hi hf => hi (h.foot hf).2
      (repeat refine WC.seq ?_); refine WC.regX x1 fun s2 hs2 hx2 ho2 hn2 => ?_
      repeat (first | refine WR.nil ?_ | refine WR.guardY rfl ?_ | refine WR.guardN rfl ?_ | refine WR.guardT rfl ?_ | refine WR.mov rfl ?_ | refine WR.nilchk rfl ?_ | (refine WR.len (v := ?_) rfl ?_ ?_; rotate_left; first | assumption | exact rfl) | (refine WR.iadr (v := ?_) rfl rfl ?_ ?_; rotate_left; assumption) | (refine WR.fadr (v := ?_) rfl ?_ ?_; rotate_left; first | assumption | exact rfl) | (refine WR.r (v := ?_) rfl rfl (Ld.use (s0 := ?_) ?_ ?_) ?_; rotate_left; rotate_left; assumption; assumption) | (refine WR.r (v := ?_) rfl rfl (Ldn.use (s0 := ?_) ?_ ?_) ?_; rotate_left; rotate_left; assumption; assumption) | (refine WR.bin (v := ?_) rfl rfl ?_ ?_; rotate_left; first | assumption | exact lss_nat _ _ | exact eql_nat _ _ | exact neq_nat _ _ | exact gtr_nat _ _ | exact geq_nat _ _ | exact leq_nat _ _ | exact eql_str _ _ | exact neq_str _ _ | (refine add_nat ?_; omega) | (refine sub_nat ?_ ?_; omega; omega)) | refine WR.pick rfl rfl rfl ?_ | refine WR.un rfl rfl ?_ | refine WR.ext rfl rfl ?_ | refine WR.eq rfl rfl rfl ?_ | refine WR.mkifc rfl ?_)
      obtain ⟨s3, e3, h3, f3⟩ := (take_ n (h.ext hs2) ok).2 hlt
      have n2 : s.next < s2.next := Nat.lt_of_lt_of_le n1 hx2.next
      have g3 : s3.objs.get s.next = some (.cells [.int .i64 (.ofNat 0), .int .i64 (.ofNat 0), .str []] 0 0 false) := by
        rw [f3.old _ n2 (nf _ (Nat.lt_irrefl _)), hx2.old _ n1]; exact g1
      have n3 : s.next < s3.next := Nat.lt_of_lt_of_le n2 f3.next
      refine WR.fn rfl e3 ?_
      repeat (first | refine WR.nil ?_ | refine WR.guardY rfl ?_ | refine WR.guardN rfl ?_ | refine WR.guardT rfl ?_ | refine WR.mov rfl ?_ | refine WR.nilchk rfl ?_ | (refine WR.len (v := ?_) rfl ?_ ?_; rotate_left; first | assumption | exact rfl) | (refine WR.iadr (v := ?_) rfl rfl ?_ ?_; rotate_left; assumption) | (refine WR.fadr (v := ?_) rfl ?_ ?_; rotate_left; first | assumption | exact rfl) | (refine WR.r (v := ?_) rfl rfl (Ld.use (s0 := ?_) ?_ ?_) ?_; rotate_left; rotate_left; assumption; assumption) | (refine WR.r (v := ?_) rfl rfl (Ldn.use (s0 := ?_) ?_ ?_) ?_; rotate_left; rotate_left; assumption; assumption) | (refine WR.bin (v := ?_) rfl rfl ?_ ?_; rotate_left; first | assumption | exact lss_nat _ _ | exact eql_nat _ _ | exact neq_nat _ _ | exact gtr_nat _ _ | exact geq_nat _ _ | exact leq_nat _ _ | exact eql_str _ _ | exact neq_str _ _ | (refine add_nat ?_; omega) | (refine sub_nat ?_ ?_; omega; omega)) | refine WR.pick rfl rfl rfl ?_ | refine WR.un rfl rfl ?_ | refine WR.ext rfl rfl ?_ | refine WR.eq rfl rfl rfl ?_ | refine WR.mkifc rfl ?_)
      have q := neqF (a := 0) (b := 0) rfl
      (repeat refine WC.seq ?_); refine WC.regX (Ext.refl s3) fun s4 hs4 hx4 ho4 hn4 => ?_
      repeat (first | refine WR.nil ?_ | refine WR.guardY rfl ?_ | refine WR.guardN rfl ?_ | refine WR.guardT rfl ?_ | refine WR.mov rfl ?_ | refine WR.nilchk rfl ?_ | (refine WR.len (v := ?_) rfl ?_ ?_; rotate_left; first | assumption | exact rfl) | (refine WR.iadr (v := ?_) rfl rfl ?_ ?_; rotate_left; assumption) | (refine WR.fadr (v := ?_) rfl ?_ ?_; rotate_left; first | assumption | exact rfl) | (refine WR.r (v := ?_) rfl rfl (Ld.use (s0 := ?_) ?_ ?_) ?_; rotate_left; rotate_left; assumption; assumption) | (refine WR.r (v := ?_) rfl rfl (Ldn.use (s0 := ?_) ?_ ?_) ?_; rotate_left; rotate_left; assumption; assumption) | (refine WR.bin (v := ?_) rfl rfl ?_ ?_; rotate_left; first | assumption | exact lss_nat _ _ | exact eql_nat _ _ | exact neq_nat _ _ | exact gtr_nat _ _ | exact geq_nat _ _ | exact leq_nat _ _ | exact eql_str _ _ | exact neq_str _ _ | (refine add_nat ?_; omega) | (refine sub_nat ?_ ?_; omega; omega)) | refine WR.pick rfl rfl rfl ?_ | refine WR.un rfl rfl ?_ | refine WR.ext rfl rfl ?_ | refine WR.eq rfl rfl rfl ?_ | refine WR.mkifc rfl ?_)
      (repeat refine WC.seq ?_); refine WC.cond rfl ?_ ?_
      · intro hh; cases hh
      · intro _
        (repeat refine WC.seq ?_); refine WC.skip ?_
        have l3 := h3.ld (k := 3) rfl
        (repeat refine WC.seq ?_); refine WC.regX hs4 fun s5 hs5 hx5 ho5 hn5 => ?_
        repeat (first | refine WR.nil ?_ | refine WR.guardY rfl ?_ | refine WR.guardN rfl ?_ | refine WR.guardT rfl ?_ | refine WR.mov rfl ?_ | refine WR.nilchk rfl ?_ | (refine WR.len (v := ?_) rfl ?_ ?_; rotate_left; first | assumption | exact rfl) | (refine WR.iadr (v := ?_) rfl rfl ?_ ?_; rotate_left; assumption) | (refine WR.fadr (v := ?_) rfl ?_ ?_; rotate_left; first | assumption | exact rfl) | (refine WR.r (v := ?_) rfl rfl (Ld.use (s0 := ?_) ?_ ?_) ?_; rotate_left; rotate_left; assumption; assumption) | (refine WR.r (v := ?_) rfl rfl (Ldn.use (s0 := ?_) ?_ ?_) ?_; rotate_left; rotate_left; assumption; assumption) | (refine WR.bin (v := ?_) rfl rfl ?_ ?_; rotate_left; first | assumption | exact lss_nat _ _ | exact eql_nat _ _ | exact neq_nat _ _ | exact gtr_nat _ _ | exact geq_nat _ _ | exact leq_nat _ _ | exact eql_str _ _ | exact neq_str _ _ | (refine add_nat ?_; omega) | (refine sub_nat ?_ ?_; omega; omega)) | refine WR.pick rfl rfl rfl ?_ | refine WR.un rfl rfl ?_ | refine WR.ext rfl rfl ?_ | refine WR.eq rfl rfl rfl ?_ | refine WR.mkifc rfl ?_)
        refine WR.mkmap ?_
        refine WR.lits (cs := [.map (s4.next + 1 + 1 + 1 + 1 + 1)]) (fillL1 rfl ⟨rfl, rfl⟩ (Nat.le_refl _) rfl) ?_
        have hlen : (H.tabs.length + 1) * (8 + 1) ≤ lim := by simp only [lim]; omega
        have xa : Ext s4 (s5.put (s4.next + 1 + 1 + 1 + 1 + 1) (.map [] 0)) := hx5.put (by omega) _
        have xb := xa.put (id := s4.next + 1 + 1 + 1 + 1 + 1 + 1) (by omega) (.cells [.map (s4.next + 1 + 1 + 1 + 1 + 1)] 0 0 false)
        have n5 : s5.next = s4.next + 11 := hn5
        have gM : ((s5.put (s4.next + 1 + 1 + 1 + 1 + 1) (.map [] 0)).put (s4.next + 1 + 1 + 1 + 1 + 1 + 1) (.cells [.map (s4.next + 1 + 1 + 1 + 1 + 1)] 0 0 false)).objs.get (s4.next + 1 + 1 + 1 + 1 + 1) = some (.map [] 0) := by
          rw [get_put, if_neg (by omega), get_put, if_pos rfl]
        have gL : ((s5.put (s4.next + 1 + 1 + 1 + 1 + 1) (.map [] 0)).put (s4.next + 1 + 1 + 1 + 1 + 1 + 1) (.cells [.map (s4.next + 1 + 1 + 1 + 1 + 1)] 0 0 false)).objs.get (s4.next + 1 + 1 + 1 + 1 + 1 + 1) = some (.cells [.map (s4.next + 1 + 1 + 1 + 1 + 1)] 0 0 false) := by
          rw [get_put, if_pos rfl]
        have nM : s4.next + 1 + 1 + 1 + 1 + 1 < ((s5.put (s4.next + 1 + 1 + 1 + 1 + 1) (.map [] 0)).put (s4.next + 1 + 1 + 1 + 1 + 1 + 1) (.cells [.map (s4.next + 1 + 1 + 1 + 1 + 1)] 0 0 false)).next := by
          rw [next_put, next_put]; omega
        have nL : s4.next + 1 + 1 + 1 + 1 + 1 + 1 < ((s5.put (s4.next + 1 + 1 + 1 + 1 + 1) (.map [] 0)).put (s4.next + 1 + 1 + 1 + 1 + 1 + 1) (.cells [.map (s4.next + 1 + 1 + 1 + 1 + 1)] 0 0 false)).next := by
          rw [next_put, next_put]; omega
        generalize (s5.put (s4.next + 1 + 1 + 1 + 1 + 1) (.map [] 0)).put (s4.next + 1 + 1 + 1 + 1 + 1 + 1) (.cells [.map (s4.next + 1 + 1 + 1 + 1 + 1)] 0 0 false) = sx at xb gM gL nM nL ⊢
        have n4M : s4.next ≤ s4.next + 1 + 1 + 1 + 1 + 1 := by omega
        generalize s4.next + 1 + 1 + 1 + 1 + 1 + 1 = L at gL nL ⊢
        generalize s4.next + 1 + 1 + 1 + 1 + 1 = M at gM gL nM n4M ⊢
        have h4 := h3.ext hs4
        have hsl : Slv sx 1 (.slc L 0 0 1 1 1) [[.map M]] := ⟨by simp, rfl, rfl, nL, _, by simp only [St.cells, gL]; rfl, rfl⟩
        obtain ⟨v, s6, e6, own6, t6, o6⟩ := (h4.ext xb).tab.app (bytes := 8) hsl (by simpa using hlen)
        refine WR.append rfl rfl e6 ?_
        repeat (first | refine WR.nil ?_ | refine WR.guardY rfl ?_ | refine WR.guardN rfl ?_ | refine WR.guardT rfl ?_ | refine WR.mov rfl ?_ | refine WR.nilchk rfl ?_ | (refine WR.len (v := ?_) rfl ?_ ?_; rotate_left; first | assumption | exact rfl) | (refine WR.iadr (v := ?_) rfl rfl ?_ ?_; rotate_left; assumption) | (refine WR.fadr (v := ?_) rfl ?_ ?_; rotate_left; first | assumption | exact rfl) | (refine WR.r (v := ?_) rfl rfl (Ld.use (s0 := ?_) ?_ ?_) ?_; rotate_left; rotate_left; assumption; assumption) | (refine WR.r (v := ?_) rfl rfl (Ldn.use (s0 := ?_) ?_ ?_) ?_; rotate_left; rotate_left; assumption; assumption) | (refine WR.bin (v := ?_) rfl rfl ?_ ?_; rotate_left; first | assumption | exact lss_nat _ _ | exact eql_nat _ _ | exact neq_nat _ _ | exact gtr_nat _ _ | exact geq_nat _ _ | exact leq_nat _ _ | exact eql_str _ _ | exact neq_str _ _ | (refine add_nat ?_; omega) | (refine sub_nat ?_ ?_; omega; omega)) | refine WR.pick rfl rfl rfl ?_ | refine WR.un rfl rfl ?_ | refine WR.ext rfl rfl ?_ | refine WR.eq rfl rfl rfl ?_ | refine WR.mkifc rfl ?_)
        obtain ⟨h7, f7⟩ := HeapAt.addTab h4 xb n4M nM gM own6 t6 o6
        have ob6 : s6.objs.get H.hid = some (.cells { H with used := H.used + 1 }.row 0 0 false) := by
          rw [t6.old _ (h4.ext xb).lt h4.o1]; exact (h4.ext xb).obj
        refine WR.store1 rfl rfl own6.slv.one (Nat.le_refl _) (wr_some ob6 (Nat.le_of_ble_eq_true rfl)) ?_
        refine WR.nil ?_
        have f37 := (HFr.ext (H := { H with used := H.used + 1 }) hs4).trans f7
        have g7 : (s6.put H.hid (.cells { H with used := H.used + 1, vt := v }.row 0 0 false)).objs.get s.next = some (.cells [.int .i64 (.ofNat 0), .int .i64 (.ofNat 0), .str []] 0 0 false) := by
          rw [f37.old _ n3 (nf _ (Nat.lt_irrefl _))]; exact g3
        have n7 := Nat.lt_of_lt_of_le n3 f37.next
        have l7 := h7.ld (k := 3) rfl
        have lv := h7.tab.slv.len' (m := H.tabs.length + 1) (by simp)
        have hsub := sub_nat (a := H.tabs.length + 1) (b := 1) (by omega) (by omega)
        rw [Nat.add_sub_cancel] at hsub
        (repeat refine WC.seq ?_); refine WC.regX (Ext.refl _) fun s8 hs8 hx8 ho8 hn8 => ?_
        repeat (first | refine WR.nil ?_ | refine WR.guardY rfl ?_ | refine WR.guardN rfl ?_ | refine WR.guardT rfl ?_ | refine WR.mov rfl ?_ | refine WR.nilchk rfl ?_ | (refine WR.len (v := ?_) rfl ?_ ?_; rotate_left; first | assumption | exact rfl) | (refine WR.iadr (v := ?_) rfl rfl ?_ ?_; rotate_left; assumption) | (refine WR.fadr (v := ?_) rfl ?_ ?_; rotate_left; first | assumption | exact rfl) | (refine WR.r (v := ?_) rfl rfl (Ld.use (s0 := ?_) ?_ ?_) ?_; rotate_left; rotate_left; assumption; assumption) | (refine WR.r (v := ?_) rfl rfl (Ldn.use (s0 := ?_) ?_ ?_) ?_; rotate_left; rotate_left; assumption; assumption) | (refine WR.bin (v := ?_) rfl rfl ?_ ?_; rotate_left; first | assumption | exact lss_nat _ _ | exact eql_nat _ _ | exact neq_nat _ _ | exact gtr_nat _ _ | exact geq_nat _ _ | exact leq_nat _ _ | exact eql_str _ _ | exact neq_str _ _ | (refine add_nat ?_; omega) | (refine sub_nat ?_ ?_; omega; omega)) | refine WR.pick rfl rfl rfl ?_ | refine WR.un rfl rfl ?_ | refine WR.ext rfl rfl ?_ | refine WR.eq rfl rfl rfl ?_ | refine WR.mkifc rfl ?_)
        refine WR.build (cs := valR (vA 3 H.tabs.length)) rfl ?_
        have g8 : s8.objs.get s.next = some (.cells [.int .i64 (.ofNat 0), .int .i64 (.ofNat 0), .str []] 0 0 false) := by rw [hs8.old _ n7]; exact g7
        have n8 := Nat.lt_of_lt_of_le n7 hs8.next
        refine WR.store rfl rfl rfl rfl (Nat.le_refl _) (wr_some g8 (Nat.le_refl _)) ?_
        repeat (first | refine WR.nil ?_ | refine WR.guardY rfl ?_ | refine WR.guardN rfl ?_ | refine WR.guardT rfl ?_ | refine WR.mov rfl ?_ | refine WR.nilchk rfl ?_ | (refine WR.len (v := ?_) rfl ?_ ?_; rotate_left; first | assumption | exact rfl) | (refine WR.iadr (v := ?_) rfl rfl ?_ ?_; rotate_left; assumption) | (refine WR.fadr (v := ?_) rfl ?_ ?_; rotate_left; first | assumption | exact rfl) | (refine WR.r (v := ?_) rfl rfl (Ld.use (s0 := ?_) ?_ ?_) ?_; rotate_left; rotate_left; assumption; assumption) | (refine WR.r (v := ?_) rfl rfl (Ldn.use (s0 := ?_) ?_ ?_) ?_; rotate_left; rotate_left; assumption; assumption) | (refine WR.bin (v := ?_) rfl rfl ?_ ?_; rotate_left; first | assumption | exact lss_nat _ _ | exact eql_nat _ _ | exact neq_nat _ _ | exact gtr_nat _ _ | exact geq_nat _ _ | exact leq_nat _ _ | exact eql_str _ _ | exact neq_str _ _ | (refine add_nat ?_; omega) | (refine sub_nat ?_ ?_; omega; omega)) | refine WR.pick rfl rfl rfl ?_ | refine WR.un rfl rfl ?_ | refine WR.ext rfl rfl ?_ | refine WR.eq rfl rfl rfl ?_ | refine WR.mkifc rfl ?_)
        (repeat refine WC.seq ?_); refine WC.ret ?_
        have nf7 : ¬ Foot { H with used := H.used + 1, vt := v, tabs := H.tabs ++ [⟨M, [], 0⟩] } s.next := fun hf => nf _ (Nat.lt_irrefl _) (f37.foot _ n3 hf)
        refine ⟨.inr rfl, [valA (vA 3 H.tabs.length), .int .i64 (.ofNat 0)], ressCT rfl (boxRd n8) rfl, ⟨v, M, (h7.ext hs8).off nf7 _, ?_⟩, rfl⟩
        exact (((((HFr.ext (hs2)).trans f3).trans f37).trans (HFr.ext hs8)).put (Nat.le_refl _) _)
    obtain ⟨_, s', e, ⟨v, M, k1, k2⟩, rfl⟩ := this
    exact ⟨s', v, M, e, k1, k2⟩
end
end Go.Proofs.Ytggpnokhhpnnaaa

namespace Go.Proofs.Ytggpnokhhpnnaaa
open Go Go.Abs
section
variable {s : St} {lo : Nat} {H : HM}
theorem HFr.slv {s s' : St} {H H' : HM} (f : HFr H H' s s') {sz : Nat} {v : AV} {rows : List (List AV)} (h : Slv s sz v rows) (hd : ∀ id, ¬ offId v id → ¬ Foot H id) : Slv s' sz v rows := by
  refine ⟨h.1, ?_⟩
  have h2 := h.2
  cases v <;> simp only at h2 ⊢ <;> try exact h2
  obtain ⟨h1, h2, h3, vs, h4, h5⟩ := h2
  refine ⟨h1, h2, Nat.lt_of_lt_of_le h3 f.next, vs, ?_, h5⟩
  simp only [St.cells] at h4 ⊢
  rw [f.old _ h3 (hd _ (by simp [offId]))]; exact h4
/-- A closure is made, if there is room; its cells are its own. -/
theorem fn_ (n : Nat) (h : HeapAt s lo H) (ok : HeapOk H) {u p : Int} {cv : AV} {crows : List (List AV)} (hc : Slv s 1 cv crows) (hcd : ∀ id, ¬ offId cv id → ¬ Foot H id) (hcl : crows.length ≤ 1000) :
    (H.used = H.room → ∃ s', acall F0 E15 (n + 3) 13 [H.p, .agg [.int .i64 u, .int .i64 p, cv]] s = some (.tup [valA (vA 0 0), .int .i64 (.ofNat 8)], s') ∧ Ext s s') ∧
    (H.used < H.room → ∃ s' v c, acall F0 E15 (n + 3) 13 [H.p, .agg [.int .i64 u, .int .i64 p, cv]] s = some (.tup [valA (vA 4 H.fns.length), .int .i64 (.ofNat 0)], s') ∧
      HeapAt s' lo { H with used := H.used + 1, vf := v, fns := H.fns ++ [[.int .i64 u, .int .i64 p, c]] } ∧ HFr H { H with used := H.used + 1, vf := v, fns := H.fns ++ [[.int .i64 u, .int .i64 p, c]] } s s' ∧
      Own s' s.next 1 c crows ∧ ∀ id, ¬ offId c id → ¬ Foot { H with used := H.used + 1, vf := v, fns := H.fns ++ [[.int .i64 u, .int .i64 p, c]] } id) := by
  have hcnt := ok.count
  have hb := ok.big
  have hf := ok.fit
  have nf : ∀ id, ¬ id < s.next → ¬ Foot H id := fun id hi hf => hi (h.foot hf).2
  have zA : AObj := .cells [.int .i64 (.ofNat 0), .int .i64 (.ofNat 0), .str []] 0 0 false
  constructor
  · intro he
    have : ∃ v s', acall F0 E15 (n + 3) 13 [H.p, .agg [.int .i64 u, .int .i64 p, cv]] s = some (v, s') ∧ (Ext s s' ∧ v = .tup [valA (vA 0 0), .int .i64 (.ofNat 8)]) := by
      refine acall_of rfl comp13 (Nat.le_of_ble_eq_true rfl) ?_
      (repeat refine WC.seq ?_); refine WC.regX (Ext.refl s) fun s1 hs1 hx1 ho1 hn1 => ?_
      refine WR.box rfl rfl ?_
      refine WR.alloc ?_
      repeat (first | refine WR.nil ?_ | refine WR.guardY rfl ?_ | refine WR.guardN rfl ?_ | refine WR.guardT rfl ?_ | refine WR.mov rfl ?_ | refine WR.nilchk rfl ?_ | (refine WR.len (v := ?_) rfl ?_ ?_; rotate_left; first | assumption | exact rfl) | (refine WR.iadr (v := ?_) rfl rfl ?_ ?_; rotate_left; assumption) | (refine WR.fadr (v := ?_) rfl ?_ ?_; rotate_left; first | assumption | exact rfl) | (refine WR.r (v := ?_) rfl rfl (Ld.use (s0 := ?_) ?_ ?_) ?_; rotate_left; rotate_left; assumption; assumption) | (refine WR.r (v := ?_) rfl rfl (Ldn.use (s0 := ?_) ?_ ?_) ?_; rotate_left; rotate_left; assumption; assumption) | (refine WR.bin (v := ?_) rfl rfl ?_ ?_; rotate_left; first | assumption | exact lss_nat _ _ | exact eql_nat _ _ | exact neq_nat _ _ | exact gtr_nat _ _ | exact geq_nat _ _ | exact leq_nat _ _ | exact eql_str _ _ | exact neq_str _ _ | (refine add_nat ?_; omega) | (refine sub_nat ?_ ?_; omega; omega)) | refine WR.pick rfl rfl rfl ?_ | refine WR.un rfl rfl ?_ | refine WR.ext rfl rfl ?_ | refine WR.eq rfl rfl rfl ?_ | refine WR.mkifc rfl ?_)
      have m1 : s1.next = s.next + 3 := hn1
      have x1 := (hs1.put (Nat.le_refl _) (.cells (cellsOf (.agg [.int .i64 u, .int .i64 p, cv])) 0 0 false)).put (id := s.next + 1) (by omega) (.cells [.int .i64 (.ofNat 0), .int .i64 (.ofNat 0), .str []] 0 0 false)
      have g1 : ((s1.put s.next (.cells (cellsOf (.agg [.int .i64 u, .int .i64 p, cv])) 0 0 false)).put (s.next + 1) (.cells [.int .i64 (.ofNat 0), .int .i64 (.ofNat 0), .str []] 0 0 false)).objs.get (s.next + 1) = some (.cells [.int .i64 (.ofNat 0), .int .i64 (.ofNat 0), .str []] 0 0 false) := by rw [get_put, if_pos rfl]
      have n1 : s.next + 1 < ((s1.put s.next (.cells (cellsOf (.agg [.int .i64 u, .int .i64 p, cv])) 0 0 false)).put (s.next + 1) (.cells [.int .i64 (.ofNat 0), .int .i64 (.ofNat 0), .str []] 0 0 false)).next := by rw [next_put, next_put]; omega
      generalize (s1.put s.next (.cells (cellsOf (.agg [.int .i64 u, .int .i64 p, cv])) 0 0 false)).put (s.next + 1) (.cells [.int .i64 (.ofNat 0), .int .i64 (.ofNat 0), .str []] 0 0 false) = sa at x1 g1 n1 ⊢
      (repeat refine WC.seq ?_); refine WC.regX x1 fun s2 hs2 hx2 ho2 hn2 => ?_
      repeat (first | refine WR.nil ?_ | refine WR.guardY rfl ?_ | refine WR.guardN rfl ?_ | refine WR.guardT rfl ?_ | refine WR.mov rfl ?_ | refine WR.nilchk rfl ?_ | (refine WR.len (v := ?_) rfl ?_ ?_; rotate_left; first | assumption | exact rfl) | (refine WR.iadr (v := ?_) rfl rfl ?_ ?_; rotate_left; assumption) | (refine WR.fadr (v := ?_) rfl ?_ ?_; rotate_left; first | assumption | exact rfl) | (refine WR.r (v := ?_) rfl rfl (Ld.use (s0 := ?_) ?_ ?_) ?_; rotate_left; rotate_left; assumption; assumption) | (refine WR.r (v := ?_) rfl rfl (Ldn.use (s0 := ?_) ?_ ?_) ?_; rotate_left; rotate_left; assumption; assumption) | (refine WR.bin (v := ?_) rfl rfl ?_ ?_; rotate_left; first | assumption | exact lss_nat _ _ | exact eql_nat _ _ | exact neq_nat _ _ | exact gtr_nat _ _ | exact geq_nat _ _ | exact leq_nat _ _ | exact eql_str _ _ | exact neq_str _ _ | (refine add_nat ?_; omega) | (refine sub_nat ?_ ?_; omega; omega)) | refine WR.pick rfl rfl rfl ?_ | refine WR.un rfl rfl ?_ | refine WR.ext rfl rfl ?_ | refine WR.eq rfl rfl rfl ?_ | refine WR.mkifc rfl ?_)
      obtain ⟨s3, e3, k3⟩ := (take_ n (h.ext hs2) ok).1 he
      refine WR.fn rfl e3 ?_
      repeat (first | refine WR.nil ?_ | refine WR.guardY rfl ?_ | refine WR.guardN rfl ?_ | refine WR.guardT rfl ?_ | refine WR.mov rfl ?_ | refine WR.nilchk rfl ?_ | (refine WR.len (v := ?_) rfl ?_ ?_; rotate_left; first | assumption | exact rfl) | (refine WR.iadr (v := ?_) rfl rfl ?_ ?_; rotate_left; assumption) | (refine WR.fadr (v := ?_) rfl ?_ ?_; rotate_left; first | assumption | exact rfl) | (refine WR.r (v := ?_) rfl rfl (Ld.use (s0 := ?_) ?_ ?_) ?_; rotate_left; rotate_left; assumption; assumption) | (refine WR.r (v := ?_) rfl rfl (Ldn.use (s0 := ?_) ?_ ?_) ?_; rotate_left; rotate_left; assumption; assumption) | (refine WR.bin (v := ?_) rfl rfl ?_ ?_; rotate_left; first | assumption | exact lss_nat _ _ | exact eql_nat _ _ | exact neq_nat _ _ | exact gtr_nat _ _ | exact geq_nat _ _ | exact leq_nat _ _ | exact eql_str _ _ | exact neq_str _ _ | (refine add_nat ?_; omega) | (refine sub_nat ?_ ?_; omega; omega)) | refine WR.pick rfl rfl rfl ?_ | refine WR.un rfl rfl ?_ | refine WR.ext rfl rfl ?_ | refine WR.eq rfl rfl rfl ?_ | refine WR.mkifc rfl ?_)
      have hs3 := hs2.trans k3
      have q := neqT (a := 8) (b := 0) (by decide)
      (repeat refine WC.seq ?_); refine WC.regX hs3 fun s4 hs4 hx4 ho4 hn4 => ?_
      repeat (first | refine WR.nil ?_ | refine WR.guardY rfl ?_ | refine WR.guardN rfl ?_ | refine WR.guardT rfl ?_ | refine WR.mov rfl ?_ | refine WR.nilchk rfl ?_ | (refine WR.len (v := ?_) rfl ?_ ?_; rotate_left; first | assumption | exact rfl) | (refine WR.iadr (v := ?_) rfl rfl ?_ ?_; rotate_left; assumption) | (refine WR.fadr (v := ?_) rfl ?_ ?_; rotate_left; first | assumption | exact rfl) | (refine WR.r (v := ?_) rfl rfl (Ld.use (s0 := ?_) ?_ ?_) ?_; rotate_left; rotate_left; assumption; assumption) | (refine WR.r (v := ?_) rfl rfl (Ldn.use (s0 := ?_) ?_ ?_) ?_; rotate_left; rotate_left; assumption; assumption) | (refine WR.bin (v := ?_) rfl rfl ?_ ?_; rotate_left; first | assumption | exact lss_nat _ _ | exact eql_nat _ _ | exact neq_nat _ _ | exact gtr_nat _ _ | exact geq_nat _ _ | exact leq_nat _ _ | exact eql_str _ _ | exact neq_str _ _ | (refine add_nat ?_; omega) | (refine sub_nat ?_ ?_; omega; omega)) | refine WR.pick rfl rfl rfl ?_ | refine WR.un rfl rfl ?_ | refine WR.ext rfl rfl ?_ | refine WR.eq rfl rfl rfl ?_ | refine WR.mkifc rfl ?_)
      (repeat refine WC.seq ?_); refine WC.cond rfl ?_ ?_
      · intro _
        (repeat refine WC.seq ?_); refine WC.regX hs4 fun s5 hs5 hx5 ho5 hn5 => ?_
        refine WR.build (cs := valR (vA 0 0)) rfl ?_
        repeat (first | refine WR.nil ?_ | refine WR.guardY rfl ?_ | refine WR.guardN rfl ?_ | refine WR.guardT rfl ?_ | refine WR.mov rfl ?_ | refine WR.nilchk rfl ?_ | (refine WR.len (v := ?_) rfl ?_ ?_; rotate_left; first | assumption | exact rfl) | (refine WR.iadr (v := ?_) rfl rfl ?_ ?_; rotate_left; assumption) | (refine WR.fadr (v := ?_) rfl ?_ ?_; rotate_left; first | assumption | exact rfl) | (refine WR.r (v := ?_) rfl rfl (Ld.use (s0 := ?_) ?_ ?_) ?_; rotate_left; rotate_left; assumption; assumption) | (refine WR.r (v := ?_) rfl rfl (Ldn.use (s0 := ?_) ?_ ?_) ?_; rotate_left; rotate_left; assumption; assumption) | (refine WR.bin (v := ?_) rfl rfl ?_ ?_; rotate_left; first | assumption | exact lss_nat _ _ | exact eql_nat _ _ | exact neq_nat _ _ | exact gtr_nat _ _ | exact geq_nat _ _ | exact leq_nat _ _ | exact eql_str _ _ | exact neq_str _ _ | (refine add_nat ?_; omega) | (refine sub_nat ?_ ?_; omega; omega)) | refine WR.pick rfl rfl rfl ?_ | refine WR.un rfl rfl ?_ | refine WR.ext rfl rfl ?_ | refine WR.eq rfl rfl rfl ?_ | refine WR.mkifc rfl ?_)
        have g5 : s5.objs.get (s.next + 1) = some (.cells [.int .i64 (.ofNat 0), .int .i64 (.ofNat 0), .str []] 0 0 false) := by
          rw [(hx2.trans (k3.trans (hx4.trans hx5))).old _ n1]; exact g1
        refine WR.store rfl rfl rfl rfl (Nat.le_refl _) (wr_some g5 (Nat.le_refl _)) ?_
        repeat (first | refine WR.nil ?_ | refine WR.guardY rfl ?_ | refine WR.guardN rfl ?_ | refine WR.guardT rfl ?_ | refine WR.mov rfl ?_ | refine WR.nilchk rfl ?_ | (refine WR.len (v := ?_) rfl ?_ ?_; rotate_left; first | assumption | exact rfl) | (refine WR.iadr (v := ?_) rfl rfl ?_ ?_; rotate_left; assumption) | (refine WR.fadr (v := ?_) rfl ?_ ?_; rotate_left; first | assumption | exact rfl) | (refine WR.r (v := ?_) rfl rfl (Ld.use (s0 := ?_) ?_ ?_) ?_; rotate_left; rotate_left; assumption; assumption) | (refine WR.r (v := ?_) rfl rfl (Ldn.use (s0 := ?_) ?_ ?_) ?_; rotate_left; rotate_left; assumption; assumption) | (refine WR.bin (v := ?_) rfl rfl ?_ ?_; rotate_left; first | assumption | exact lss_nat _ _ | exact eql_nat _ _ | exact neq_nat _ _ | exact gtr_nat _ _ | exact geq_nat _ _ | exact leq_nat _ _ | exact eql_str _ _ | exact neq_str _ _ | (refine add_nat ?_; omega) | (refine sub_nat ?_ ?_; omega; omega)) | refine WR.pick rfl rfl rfl ?_ | refine WR.un rfl rfl ?_ | refine WR.ext rfl rfl ?_ | refine WR.eq rfl rfl rfl ?_ | refine WR.mkifc rfl ?_)
        have n5 : s.next + 1 < s5.next := Nat.lt_of_lt_of_le n1 (hx2.trans (k3.trans (hx4.trans hx5))).next
        (repeat refine WC.seq ?_); refine WC.ret ?_
        exact ⟨.inr rfl, [valA (vA 0 0), .int .i64 (.ofNat 8)], ressCT rfl (boxRd n5) rfl, hs5.put (by omega) _, rfl⟩
      · intro hh; cases hh
    obtain ⟨_, s', e, k, rfl⟩ := this
    exact ⟨s', e, k⟩
  · intro hlt
    have : ∃ v s', acall F0 E15 (n + 3) 13 [H.p, .agg [.int .i64 u, .int .i64 p, cv]] s = some (v, s') ∧ ((∃ v c, HeapAt s' lo { H with used := H.used + 1, vf := v, fns := H.fns ++ [[.int .i64 u, .int .i64 p, c]] } ∧ HFr H { H with used := H.used + 1, vf := v, fns := H.fns ++ [[.int .i64 u, .int .i64 p, c]] } s s' ∧
        Own s' s.next 1 c crows ∧ ∀ id, ¬ offId c id → ¬ Foot { H with used := H.used + 1, vf := v, fns := H.fns ++ [[.int .i64 u, .int .i64 p, c]] } id) ∧ v = .tup [valA (vA 4 H.fns.length), .int .i64 (.ofNat 0)]) := by
      refine acall_of rfl comp13 (Nat.le_of_ble_eq_true rfl) ?_
      (repeat refine WC.seq ?_); refine WC.regX (Ext.refl s) fun s1 hs1 hx1 ho1 hn1 => ?_
      refine WR.box rfl rfl ?_
      refine WR.alloc ?_
      repeat (first | refine WR.nil ?_ | refine WR.guardY rfl ?_ | refine WR.guardN rfl ?_ | refine WR.guardT rfl ?_ | refine WR.mov rfl ?_ | refine WR.nilchk rfl ?_ | (refine WR.len (v := ?_) rfl ?_ ?_; rotate_left; first | assumption | exact rfl) | (refine WR.iadr (v := ?_) rfl rfl ?_ ?_; rotate_left; assumption) | (refine WR.fadr (v := ?_) rfl ?_ ?_; rotate_left; first | assumption | exact rfl) | (refine WR.r (v := ?_) rfl rfl (Ld.use (s0 := ?_) ?_ ?_) ?_; rotate_left; rotate_left; assumption; assumption) | (refine WR.r (v := ?_) rfl rfl (Ldn.use (s0 := ?_) ?_ ?_) ?_; rotate_left; rotate_left; assumption; assumption) | (refine WR.bin (v := ?_) rfl rfl ?_ ?_; rotate_left; first | assumption | exact lss_nat _ _ | exact eql_nat _ _ | exact neq_nat _ _ | exact gtr_nat _ _ | exact geq_nat _ _ | exact leq_nat _ _ | exact eql_str _ _ | exact neq_str _ _ | (refine add_nat ?_; omega) | (refine sub_nat ?_ ?_; omega; omega)) | refine WR.pick rfl rfl rfl ?_ | refine WR.un rfl rfl ?_ | refine WR.ext rfl rfl ?_ | refine WR.eq rfl rfl rfl ?_ | refine WR.mkifc rfl ?_)
      have m1 : s1.next = s.next + 3 := hn1
      have x1 := (hs1.put (Nat.le_refl _) (.cells (cellsOf (.agg [.int .i64 u, .int .i64 p, cv])) 0 0 false)).put (id := s.next + 1) (by omega) (.cells [.int .i64 (.ofNat 0), .int .i64 (.ofNat 0), .str []] 0 0 false)
      have g1 : ((s1.put s.next (.cells (cellsOf (.agg [.int .i64 u, .int .i64 p, cv])) 0 0 false)).put (s.next + 1) (.cells [.int .i64 (.ofNat 0), .int .i64 (.ofNat 0), .str []] 0 0 false)).objs.get (s.next + 1) = some (.cells [.int .i64 (.ofNat 0), .int .i64 (.ofNat 0), .str []] 0 0 false) := by rw [get_put, if_pos rfl]
      have b1 : ((s1.put s.next (.cells (cellsOf (.agg [.int .i64 u, .int .i64 p, cv])) 0 0 false)).put (s.next + 1) (.cells [.int .i64 (.ofNat 0), .int .i64 (.ofNat 0), .str []] 0 0 false)).objs.get s.next = some (.cells [.int .i64 u, .int .i64 p, cv] 0 0 false) := by rw [get_put, if_neg (by omega), get_put, if_pos rfl]; rfl
      have n1 : s.next + 1 < ((s1.put s.next (.cells (cellsOf (.agg [.int .i64 u, .int .i64 p, cv])) 0 0 false)).put (s.next + 1) (.cells [.int .i64 (.ofNat 0), .int .i64 (.ofNat 0), .str []] 0 0 false)).next := by rw [next_put, next_put]; omega
      generalize (s1.put s.next (.cells (cellsOf (.agg [.int .i64 u, .int .i64 p, cv])) 0 0 false)).put (s.next + 1) (.cells [.int .i64 (.ofNat 0), .int .i64 (.ofNat 0), .str []] 0 0 false) = sa at x1 g1 b1 n1 ⊢
      (repeat refine WC.seq ?_); refine WC.regX x1 fun s2 hs2 hx2 ho2 hn2 => ?_
      repeat (first | refine WR.nil ?_ | refine WR.guardY rfl ?_ | refine WR.guardN rfl ?_ | refine WR.guardT rfl ?_ | refine WR.mov rfl ?_ | refine WR.nilchk rfl ?_ | (refine WR.len (v := ?_) rfl ?_ ?_; rotate_left; first | assumption | exact rfl) | (refine WR.iadr (v := ?_) rfl rfl ?_ ?_; rotate_left; assumption) | (refine WR.fadr (v := ?_) rfl ?_ ?_; rotate_left; first | assumption | exact rfl) | (refine WR.r (v := ?_) rfl rfl (Ld.use (s0 := ?_) ?_ ?_) ?_; rotate_left; rotate_left; assumption; assumption) | (refine WR.r (v := ?_) rfl rfl (Ldn.use (s0 := ?_) ?_ ?_) ?_; rotate_left; rotate_left; assumption; assumption) | (refine WR.bin (v := ?_) rfl rfl ?_ ?_; rotate_left; first | assumption | exact lss_nat _ _ | exact eql_nat _ _ | exact neq_nat _ _ | exact gtr_nat _ _ | exact geq_nat _ _ | exact leq_nat _ _ | exact eql_str _ _ | exact neq_str _ _ | (refine add_nat ?_; omega) | (refine sub_nat ?_ ?_; omega; omega)) | refine WR.pick rfl rfl rfl ?_ | refine WR.un rfl rfl ?_ | refine WR.ext rfl rfl ?_ | refine WR.eq rfl rfl rfl ?_ | refine WR.mkifc rfl ?_)
      obtain ⟨s3, e3, h3, f3⟩ := (take_ n (h.ext hs2) ok).2 hlt
      have n2 : s.next + 1 < s2.next := Nat.lt_of_lt_of_le n1 hx2.next
      have g3 : s3.objs.get (s.next + 1) = some (.cells [.int .i64 (.ofNat 0), .int .i64 (.ofNat 0), .str []] 0 0 false) := by
        rw [f3.old _ n2 (nf _ (by omega)), hx2.old _ n1]; exact g1
      have b3 : s3.objs.get s.next = some (.cells [.int .i64 u, .int .i64 p, cv] 0 0 false) := by
        rw [f3.old _ (by omega) (nf _ (by omega)), hx2.old _ (by omega)]; exact b1
      have n3 : s.next + 1 < s3.next := Nat.lt_of_lt_of_le n2 f3.next
      have hc3 : Slv s3 1 cv crows := f3.slv (hc.ext hs2) hcd
      have f03 := (HFr.ext (H := H) hs2).trans f3
      refine WR.fn rfl e3 ?_
      repeat (first | refine WR.nil ?_ | refine WR.guardY rfl ?_ | refine WR.guardN rfl ?_ | refine WR.guardT rfl ?_ | refine WR.mov rfl ?_ | refine WR.nilchk rfl ?_ | (refine WR.len (v := ?_) rfl ?_ ?_; rotate_left; first | assumption | exact rfl) | (refine WR.iadr (v := ?_) rfl rfl ?_ ?_; rotate_left; assumption) | (refine WR.fadr (v := ?_) rfl ?_ ?_; rotate_left; first | assumption | exact rfl) | (refine WR.r (v := ?_) rfl rfl (Ld.use (s0 := ?_) ?_ ?_) ?_; rotate_left; rotate_left; assumption; assumption) | (refine WR.r (v := ?_) rfl rfl (Ldn.use (s0 := ?_) ?_ ?_) ?_; rotate_left; rotate_left; assumption; assumption) | (refine WR.bin (v := ?_) rfl rfl ?_ ?_; rotate_left; first | assumption | exact lss_nat _ _ | exact eql_nat _ _ | exact neq_nat _ _ | exact gtr_nat _ _ | exact geq_nat _ _ | exact leq_nat _ _ | exact eql_str _ _ | exact neq_str _ _ | (refine add_nat ?_; omega) | (refine sub_nat ?_ ?_; omega; omega)) | refine WR.pick rfl rfl rfl ?_ | refine WR.un rfl rfl ?_ | refine WR.ext rfl rfl ?_ | refine WR.eq rfl rfl rfl ?_ | refine WR.mkifc rfl ?_)
      have q := neqF (a := 0) (b := 0) rfl
      (repeat refine WC.seq ?_); refine WC.regX (Ext.refl s3) fun s4 hs4 hx4 ho4 hn4 => ?_
      repeat (first | refine WR.nil ?_ | refine WR.guardY rfl ?_ | refine WR.guardN rfl ?_ | refine WR.guardT rfl ?_ | refine WR.mov rfl ?_ | refine WR.nilchk rfl ?_ | (refine WR.len (v := ?_) rfl ?_ ?_; rotate_left; first | assumption | exact rfl) | (refine WR.iadr (v := ?_) rfl rfl ?_ ?_; rotate_left; assumption) | (refine WR.fadr (v := ?_) rfl ?_ ?_; rotate_left; first | assumption | exact rfl) | (refine WR.r (v := ?_) rfl rfl (Ld.use (s0 := ?_) ?_ ?_) ?_; rotate_left; rotate_left; assumption; assumption) | (refine WR.r (v := ?_) rfl rfl (Ldn.use (s0 := ?_) ?_ ?_) ?_; rotate_left; rotate_left; assumption; assumption) | (refine WR.bin (v := ?_) rfl rfl ?_ ?_; rotate_left; first | assumption | exact lss_nat _ _ | exact eql_nat _ _ | exact neq_nat _ _ | exact gtr_nat _ _ | exact geq_nat _ _ | exact leq_nat _ _ | exact eql_str _ _ | exact neq_str _ _ | (refine add_nat ?_; omega) | (refine sub_nat ?_ ?_; omega; omega)) | refine WR.pick rfl rfl rfl ?_ | refine WR.un rfl rfl ?_ | refine WR.ext rfl rfl ?_ | refine WR.eq rfl rfl rfl ?_ | refine WR.mkifc rfl ?_)
      (repeat refine WC.seq ?_); refine WC.cond rfl ?_ ?_
      · intro hh; cases hh
      · intro _
        (repeat refine WC.seq ?_); refine WC.skip ?_
        have lb := objLd b3 (by omega) (o := 2) (v := cv) rfl
        (repeat refine WC.seq ?_); refine WC.regX hs4 fun s5 hs5 hx5 ho5 hn5 => ?_
        repeat (first | refine WR.nil ?_ | refine WR.guardY rfl ?_ | refine WR.guardN rfl ?_ | refine WR.guardT rfl ?_ | refine WR.mov rfl ?_ | refine WR.nilchk rfl ?_ | (refine WR.len (v := ?_) rfl ?_ ?_; rotate_left; first | assumption | exact rfl) | (refine WR.iadr (v := ?_) rfl rfl ?_ ?_; rotate_left; assumption) | (refine WR.fadr (v := ?_) rfl ?_ ?_; rotate_left; first | assumption | exact rfl) | (refine WR.r (v := ?_) rfl rfl (Ld.use (s0 := ?_) ?_ ?_) ?_; rotate_left; rotate_left; assumption; assumption) | (refine WR.r (v := ?_) rfl rfl (Ldn.use (s0 := ?_) ?_ ?_) ?_; rotate_left; rotate_left; assumption; assumption) | (refine WR.bin (v := ?_) rfl rfl ?_ ?_; rotate_left; first | assumption | exact lss_nat _ _ | exact eql_nat _ _ | exact neq_nat _ _ | exact gtr_nat _ _ | exact geq_nat _ _ | exact leq_nat _ _ | exact eql_str _ _ | exact neq_str _ _ | (refine add_nat ?_; omega) | (refine sub_nat ?_ ?_; omega; omega)) | refine WR.pick rfl rfl rfl ?_ | refine WR.un rfl rfl ?_ | refine WR.ext rfl rfl ?_ | refine WR.eq rfl rfl rfl ?_ | refine WR.mkifc rfl ?_)
        have hlen : (0 + crows.length) * (8 + 1) ≤ lim := by simp only [lim]; omega
        obtain ⟨c, s6, e6, own6, t6, o6⟩ := (Own.nil (sz := 1) (Nat.le_refl s5.next)).app (bytes := 8) (hc3.ext hs5) (by simpa using hlen)
        rw [List.nil_append] at own6
        have x6 : Ext s3 s6 := Turn.ext hs5 t6 (fun _ _ => trivial)
        refine WR.append rfl rfl e6 ?_
        repeat (first | refine WR.nil ?_ | refine WR.guardY rfl ?_ | refine WR.guardN rfl ?_ | refine WR.guardT rfl ?_ | refine WR.mov rfl ?_ | refine WR.nilchk rfl ?_ | (refine WR.len (v := ?_) rfl ?_ ?_; rotate_left; first | assumption | exact rfl) | (refine WR.iadr (v := ?_) rfl rfl ?_ ?_; rotate_left; assumption) | (refine WR.fadr (v := ?_) rfl ?_ ?_; rotate_left; first | assumption | exact rfl) | (refine WR.r (v := ?_) rfl rfl (Ld.use (s0 := ?_) ?_ ?_) ?_; rotate_left; rotate_left; assumption; assumption) | (refine WR.r (v := ?_) rfl rfl (Ldn.use (s0 := ?_) ?_ ?_) ?_; rotate_left; rotate_left; assumption; assumption) | (refine WR.bin (v := ?_) rfl rfl ?_ ?_; rotate_left; first | assumption | exact lss_nat _ _ | exact eql_nat _ _ | exact neq_nat _ _ | exact gtr_nat _ _ | exact geq_nat _ _ | exact leq_nat _ _ | exact eql_str _ _ | exact neq_str _ _ | (refine add_nat ?_; omega) | (refine sub_nat ?_ ?_; omega; omega)) | refine WR.pick rfl rfl rfl ?_ | refine WR.un rfl rfl ?_ | refine WR.ext rfl rfl ?_ | refine WR.eq rfl rfl rfl ?_ | refine WR.mkifc rfl ?_)
        have b6 : s6.objs.get s.next = some (.cells [.int .i64 u, .int .i64 p, cv] 0 0 false) := by rw [x6.old _ (by omega)]; exact b3
        have g6 : s6.objs.get (s.next + 1) = some (.cells [.int .i64 (.ofNat 0), .int .i64 (.ofNat 0), .str []] 0 0 false) := by rw [x6.old _ n3]; exact g3
        refine WR.store1 rfl rfl own6.slv.one (Nat.le_refl _) (wr_some b6 (Nat.le_of_ble_eq_true rfl)) ?_
        refine WR.nil ?_
        have nf1 : ∀ id, ¬ id < s.next → ¬ Foot { H with used := H.used + 1 } id := fun id hi hf => nf id hi hf
        have h7 := ((h3.ext x6).off (nf1 s.next (by omega)) (.cells [.int .i64 u, .int .i64 p, c] 0 0 false))
        have f07 := (f03.trans (HFr.ext x6)).put (Nat.le_refl _) (.cells [.int .i64 u, .int .i64 p, c] 0 0 false)
        have lt5 : s3.next ≤ s5.next := hs5.next
        have own7 := own6.put (own6.offOld (id := s.next) (by omega)) (.cells [.int .i64 u, .int .i64 p, c] 0 0 false)
        have b7 : (s6.put s.next (.cells [.int .i64 u, .int .i64 p, c] 0 0 false)).objs.get s.next = some (.cells [.int .i64 u, .int .i64 p, c] 0 0 false) := by rw [get_put, if_pos rfl]
        have g7 : (s6.put s.next (.cells [.int .i64 u, .int .i64 p, c] 0 0 false)).objs.get (s.next + 1) = some (.cells [.int .i64 (.ofNat 0), .int .i64 (.ofNat 0), .str []] 0 0 false) := by rw [get_put, if_neg (by omega)]; exact g6
        have n7 : s.next + 1 < (s6.put s.next (.cells [.int .i64 u, .int .i64 p, c] 0 0 false)).next := Nat.lt_of_lt_of_le n3 x6.next
        have o7 : s5.next ≤ (s6.put s.next (.cells [.int .i64 u, .int .i64 p, c] 0 0 false)).next := t6.next
        have e7 : setSeg [.int .i64 u, .int .i64 p, cv] (0 + 2) [c] = [.int .i64 u, .int .i64 p, c] := rfl
        rw [e7]
        have hvf : Slv s5 3 H.vf H.fns := (h3.ext hs5).fns.slv
        have hft : ∀ id, Foot { H with used := H.used + 1 } id → id < s5.next := fun id hf => ((h3.ext hs5).foot hf).2
        generalize s6.put s.next (.cells [.int .i64 u, .int .i64 p, c] 0 0 false) = s7 at h7 f07 own7 b7 g7 n7 o7 ⊢
        have l4 := h7.ld (k := 4) rfl
        have ln := objLdn b7 (by omega) (o := 0) (m := 3) (Nat.le_refl _)
        (repeat refine WC.seq ?_); refine WC.drawX (Ext.refl s7) fun s8 hs8 hx8 ho8 hn8 => ?_
        repeat (first | refine WD.nil ?_ | refine WD.guardY rfl ?_ | refine WD.guardN rfl ?_ | refine WD.guardT rfl ?_ | refine WD.mov rfl ?_ | refine WD.nilchk rfl ?_ | (refine WD.len (v := ?_) rfl ?_ ?_; rotate_left; first | assumption | exact rfl) | (refine WD.iadr (v := ?_) rfl rfl ?_ ?_; rotate_left; assumption) | (refine WD.fadr (v := ?_) rfl ?_ ?_; rotate_left; first | assumption | exact rfl) | (refine WD.r (v := ?_) rfl rfl (Ld.use (s0 := ?_) ?_ ?_) rfl ?_; rotate_left; rotate_left; assumption; assumption) | (refine WD.r (v := ?_) rfl rfl (Ldn.use (s0 := ?_) ?_ ?_) rfl ?_; rotate_left; rotate_left; assumption; assumption) | (refine WD.bin (v := ?_) rfl rfl ?_ ?_; rotate_left; first | assumption | exact lss_nat _ _ | exact eql_nat _ _ | exact neq_nat _ _ | exact gtr_nat _ _ | exact geq_nat _ _ | exact leq_nat _ _ | exact eql_str _ _ | exact neq_str _ _ | (refine add_nat ?_; omega) | (refine sub_nat ?_ ?_; omega; omega)) | refine WD.pick rfl rfl rfl ?_ | refine WD.un rfl rfl ?_)
        refine WD.lits (cs := [.int .i64 u, .int .i64 p, c]) (fillLn (vs := [.int .i64 u, .int .i64 p, c]) rfl rfl (Nat.le_refl _) rfl) ?_
        have m8 : s8.next = s7.next + 11 := hn8
        have xb := hs8.put (id := s7.next + 1 + 1 + 1 + 1 + 1 + 1) (by omega) (.cells [.int .i64 u, .int .i64 p, c] 0 0 false)
        have gL : (s8.put (s7.next + 1 + 1 + 1 + 1 + 1 + 1) (.cells [.int .i64 u, .int .i64 p, c] 0 0 false)).objs.get (s7.next + 1 + 1 + 1 + 1 + 1 + 1) = some (.cells [.int .i64 u, .int .i64 p, c] 0 0 false) := by rw [get_put, if_pos rfl]
        have nL : s7.next + 1 + 1 + 1 + 1 + 1 + 1 < (s8.put (s7.next + 1 + 1 + 1 + 1 + 1 + 1) (.cells [.int .i64 u, .int .i64 p, c] 0 0 false)).next := by rw [next_put]; omega
        have hsl : Slv (s8.put (s7.next + 1 + 1 + 1 + 1 + 1 + 1) (.cells [.int .i64 u, .int .i64 p, c] 0 0 false)) 3 (.slc (s7.next + 1 + 1 + 1 + 1 + 1 + 1) 0 0 1 1 3) [[.int .i64 u, .int .i64 p, c]] := ⟨by simp, rfl, rfl, nL, _, by simp only [St.cells, gL]; rfl, rfl⟩
        have hlen2 : (H.fns.length + 1) * (40 + 1) ≤ lim := by simp only [lim]; omega
        obtain ⟨v, s9, e9, own9, t9, o9⟩ := (h7.ext xb).fns.app (bytes := 40) hsl (by simpa using hlen2)
        refine WD.append rfl rfl e9 (readsOk_bit (by decide) (readsOk_bit (by decide) rfl)) ?_
        repeat (first | refine WD.nil ?_ | refine WD.guardY rfl ?_ | refine WD.guardN rfl ?_ | refine WD.guardT rfl ?_ | refine WD.mov rfl ?_ | refine WD.nilchk rfl ?_ | (refine WD.len (v := ?_) rfl ?_ ?_; rotate_left; first | assumption | exact rfl) | (refine WD.iadr (v := ?_) rfl rfl ?_ ?_; rotate_left; assumption) | (refine WD.fadr (v := ?_) rfl ?_ ?_; rotate_left; first | assumption | exact rfl) | (refine WD.r (v := ?_) rfl rfl (Ld.use (s0 := ?_) ?_ ?_) rfl ?_; rotate_left; rotate_left; assumption; assumption) | (refine WD.r (v := ?_) rfl rfl (Ldn.use (s0 := ?_) ?_ ?_) rfl ?_; rotate_left; rotate_left; assumption; assumption) | (refine WD.bin (v := ?_) rfl rfl ?_ ?_; rotate_left; first | assumption | exact lss_nat _ _ | exact eql_nat _ _ | exact neq_nat _ _ | exact gtr_nat _ _ | exact geq_nat _ _ | exact leq_nat _ _ | exact eql_str _ _ | exact neq_str _ _ | (refine add_nat ?_; omega) | (refine sub_nat ?_ ?_; omega; omega)) | refine WD.pick rfl rfl rfl ?_ | refine WD.un rfl rfl ?_)
        obtain ⟨h10, f10⟩ := HeapAt.addFn h7 xb own9 t9 o9
        have ob9 : s9.objs.get H.hid = some (.cells { H with used := H.used + 1 }.row 0 0 false) := by
          rw [t9.old _ (h7.ext xb).lt h7.o2]; exact (h7.ext xb).obj
        refine WD.store (s' := s9.put H.hid (.cells { H with used := H.used + 1, vf := v }.row 0 0 false)) rfl rfl own9.slv.one.1 (by rw [own9.slv.one.2]; rfl) (Nat.le_refl _) (by rw [own9.slv.one.2]; exact wr_some ob9 (Nat.le_of_ble_eq_true rfl)) (readsOk_bit (by decide) (readsOk_bit (by decide) rfl)) ?_
        refine WD.nil ?_
        have g10 : (s9.put H.hid (.cells { H with used := H.used + 1, vf := v }.row 0 0 false)).objs.get (s.next + 1) = some (.cells [.int .i64 (.ofNat 0), .int .i64 (.ofNat 0), .str []] 0 0 false) := by
          rw [f10.old _ n7 (nf1 _ (by omega))]; exact g7
        have n10 := Nat.lt_of_lt_of_le n7 f10.next
        have a9 : Apart H.vf c := Own.apartNew hvf own6
        have own10 := (Own.turn t9 (own7.ext xb) a9).put (own6.offOld (Nat.lt_of_lt_of_le h3.lt hs5.next)) (.cells { H with used := H.used + 1, vf := v }.row 0 0 false)
        have f010 := f07.trans f10
        have nfc : ∀ id, ¬ offId c id → ¬ Foot { H with used := H.used + 1, vf := v, fns := H.fns ++ [[.int .i64 u, .int .i64 p, c]] } id := by
          intro id hi hf
          have q1 : s5.next ≤ id := Nat.le_of_not_lt fun hl => hi (own6.offOld hl)
          have q2 : id < s7.next := own7.slv.lt hi
          have := hft id (f10.foot id q2 hf)
          omega
        have hfl : flush (s9.put H.hid (.cells { H with used := H.used + 1, vf := v }.row 0 0 false)) [] = s9.put H.hid (.cells { H with used := H.used + 1, vf := v }.row 0 0 false) := rfl
        rw [hfl]
        generalize s9.put H.hid (.cells { H with used := H.used + 1, vf := v }.row 0 0 false) = s10 at h10 f10 f010 g10 n10 own10 ⊢
        have l10 := h10.ld (k := 4) rfl
        have lv := h10.fns.slv.len' (m := H.fns.length + 1) (by simp)
        have hsub := sub_nat (a := H.fns.length + 1) (b := 1) (by omega) (by omega)
        rw [Nat.add_sub_cancel] at hsub
        (repeat refine WC.seq ?_); refine WC.regX (Ext.refl _) fun s11 hs11 hx11 ho11 hn11 => ?_
        repeat (first | refine WR.nil ?_ | refine WR.guardY rfl ?_ | refine WR.guardN rfl ?_ | refine WR.guardT rfl ?_ | refine WR.mov rfl ?_ | refine WR.nilchk rfl ?_ | (refine WR.len (v := ?_) rfl ?_ ?_; rotate_left; first | assumption | exact rfl) | (refine WR.iadr (v := ?_) rfl rfl ?_ ?_; rotate_left; assumption) | (refine WR.fadr (v := ?_) rfl ?_ ?_; rotate_left; first | assumption | exact rfl) | (refine WR.r (v := ?_) rfl rfl (Ld.use (s0 := ?_) ?_ ?_) ?_; rotate_left; rotate_left; assumption; assumption) | (refine WR.r (v := ?_) rfl rfl (Ldn.use (s0 := ?_) ?_ ?_) ?_; rotate_left; rotate_left; assumption; assumption) | (refine WR.bin (v := ?_) rfl rfl ?_ ?_; rotate_left; first | assumption | exact lss_nat _ _ | exact eql_nat _ _ | exact neq_nat _ _ | exact gtr_nat _ _ | exact geq_nat _ _ | exact leq_nat _ _ | exact eql_str _ _ | exact neq_str _ _ | (refine add_nat ?_; omega) | (refine sub_nat ?_ ?_; omega; omega)) | refine WR.pick rfl rfl rfl ?_ | refine WR.un rfl rfl ?_ | refine WR.ext rfl rfl ?_ | refine WR.eq rfl rfl rfl ?_ | refine WR.mkifc rfl ?_)
        refine WR.build (cs := valR (vA 4 H.fns.length)) rfl ?_
        have g11 : s11.objs.get (s.next + 1) = some (.cells [.int .i64 (.ofNat 0), .int .i64 (.ofNat 0), .str []] 0 0 false) := by rw [hs11.old _ n10]; exact g10
        have n11 := Nat.lt_of_lt_of_le n10 hs11.next
        refine WR.store rfl rfl rfl rfl (Nat.le_refl _) (wr_some g11 (Nat.le_refl _)) ?_
        repeat (first | refine WR.nil ?_ | refine WR.guardY rfl ?_ | refine WR.guardN rfl ?_ | refine WR.guardT rfl ?_ | refine WR.mov rfl ?_ | refine WR.nilchk rfl ?_ | (refine WR.len (v := ?_) rfl ?_ ?_; rotate_left; first | assumption | exact rfl) | (refine WR.iadr (v := ?_) rfl rfl ?_ ?_; rotate_left; assumption) | (refine WR.fadr (v := ?_) rfl ?_ ?_; rotate_left; first | assumption | exact rfl) | (refine WR.r (v := ?_) rfl rfl (Ld.use (s0 := ?_) ?_ ?_) ?_; rotate_left; rotate_left; assumption; assumption) | (refine WR.r (v := ?_) rfl rfl (Ldn.use (s0 := ?_) ?_ ?_) ?_; rotate_left; rotate_left; assumption; assumption) | (refine WR.bin (v := ?_) rfl rfl ?_ ?_; rotate_left; first | assumption | exact lss_nat _ _ | exact eql_nat _ _ | exact neq_nat _ _ | exact gtr_nat _ _ | exact geq_nat _ _ | exact leq_nat _ _ | exact eql_str _ _ | exact neq_str _ _ | (refine add_nat ?_; omega) | (refine sub_nat ?_ ?_; omega; omega)) | refine WR.pick rfl rfl rfl ?_ | refine WR.un rfl rfl ?_ | refine WR.ext rfl rfl ?_ | refine WR.eq rfl rfl rfl ?_ | refine WR.mkifc rfl ?_)
        (repeat refine WC.seq ?_); refine WC.ret ?_
        have nfA : ¬ Foot { H with used := H.used + 1, vf := v, fns := H.fns ++ [[.int .i64 u, .int .i64 p, c]] } (s.next + 1) := fun hf => nf1 _ (by omega) (f10.foot _ n7 hf)
        have ofA : offId c (s.next + 1) := own6.offOld (by omega)
        refine ⟨.inr rfl, [valA (vA 4 H.fns.length), .int .i64 (.ofNat 0)], ressCT rfl (boxRd n11) rfl, ⟨v, c, (h10.ext hs11).off nfA _, (f010.trans (HFr.ext hs11)).put (by omega) _, ?_, nfc⟩, rfl⟩
        have := (own10.ext hs11).put ofA (.cells (valR (vA 4 H.fns.length)) 0 0 false)
        obtain ⟨w1, w0, w2 | ⟨j, gen, w2, w3, w4, w5⟩⟩ := this
        · exact ⟨w1, (by omega : s.next ≤ s11.next), .inl w2⟩
        · exact ⟨w1, (by omega : s.next ≤ s11.next), .inr ⟨j, gen, w2, by omega, w4, w5⟩⟩
    obtain ⟨_, s', e, ⟨v, c, k1, k2, k3⟩, rfl⟩ := this
    exact ⟨s', v, c, e, k1, k2, k3⟩
end
end Go.Proofs.Ytggpnokhhpnnaaa
