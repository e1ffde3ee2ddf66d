/- More rules: regions in a store that has grown, regions that draw, and what lists of names stand for. -/
import Derived.Test.YtlimjjilakldgaaAbsOwn
set_option autoImplicit false
set_option linter.unusedSimpArgs false
set_option linter.unusedVariables false
namespace Go.Abs
open Go

section
variable {call : CallF} {id n : Nat} {l : SL} {s : St}
theorem WC.regX {ops : List AOper} {Q : AX → SL → St → Prop} {s0 : St} (hs : Ext s0 s) (h : ∀ s1, Ext s0 s1 → Ext s s1 → s1.objs = s.objs → s1.next = s.next + ops.length → WR call s.next ops l s1 (fun l s => Q .nrm l s)) : WC call n (.reg ops) l s Q :=
  WC.reg (h _ (hs.more _) ((Ext.refl s).more _) rfl rfl)
/-- A guard that is no condition: the operation is passed by. -/
theorem WR.guardT {op : AOp} {os : List AOper} {d : Option Nat} {pre t : Nat} {w : Bool} {Q : SL → St → Prop} (ht : lkS l t = some (.tup []))
    (h : WR call (id + 1) os (putL l d (.tup [])) s Q) : WR call id (⟨d, op, some (t, w), pre⟩ :: os) l s Q := by
  intro fr hf
  have hg := hf t _ ht
  obtain ⟨fr', s', e, k⟩ := h _ (hf.put d (.tup []))
  refine ⟨fr', s', ?_, k⟩
  simp only [aregs, wants, hg]
  exact e
theorem WR.guardY {op : AOp} {os : List AOper} {d : Option Nat} {pre t : Nat} {w : Bool} {Q : SL → St → Prop} (ht : lkS l t = some (.bool w))
    (h : WR call id (⟨d, op, none, pre⟩ :: os) l s Q) : WR call id (⟨d, op, some (t, w), pre⟩ :: os) l s Q := WR.guard ht (fun _ => h) (fun e => by cases w <;> simp at e)
theorem WR.guardN {op : AOp} {os : List AOper} {d : Option Nat} {pre t : Nat} {w : Bool} {Q : SL → St → Prop} (ht : lkS l t = some (.bool !w))
    (h : WR call (id + 1) os (putL l d (.tup [])) s Q) : WR call id (⟨d, op, some (t, w), pre⟩ :: os) l s Q := WR.guard ht (fun e => by cases w <;> simp at e) (fun _ => h)

/-- Parts laid in, of a list of slots. -/
def fillL (l : SL) : List AV → List (Nat × Nat × AO) → Option (List AV)
  | cs, [] => some cs
  | cs, (off, size, x) :: rest =>
    match x.evL l with
    | none => none
    | some v => bif plainV v && Nat.beq (cellsOf v).length size && Nat.ble (off + size) cs.length then fillL l (setSeg cs off (cellsOf v)) rest else none
theorem fillL_eq (l : SL) : ∀ (cs : List AV) (parts : List (Nat × Nat × AO)), fillA (frL l) cs parts = fillL l cs parts
  | cs, [] => rfl
  | cs, (off, size, x) :: rest => by
    simp only [fillA, fillL, ev_frL]
    cases x.evL l with
    | none => rfl
    | some v => simp only [fillL_eq l _ rest]
/-- A value of one cell. -/
def OneC (v : AV) : Prop := plainV v = true ∧ cellsOf v = [v]
theorem fillL1 {off : Nat} {cs r : List AV} {x : AO} {v : AV} {rest : List (Nat × Nat × AO)} (hx : x.evL l = some v) (h1 : OneC v) (hl : off + 1 ≤ cs.length) (k : fillL l (setSeg cs off [v]) rest = some r) : fillL l cs ((off, 1, x) :: rest) = some r := by
  simp only [fillL, hx, h1.1, h1.2, List.length_singleton, Nat.ble_eq_true_of_le hl]
  exact k
theorem fillLn {off size : Nat} {cs vs r : List AV} {x : AO} {rest : List (Nat × Nat × AO)} (hx : x.evL l = some (.agg vs)) (h1 : vs.length = size) (hl : off + size ≤ cs.length) (k : fillL l (setSeg cs off vs) rest = some r) : fillL l cs ((off, size, x) :: rest) = some r := by
  subst h1
  simp only [fillL, hx, plainV, cellsOf, Nat.ble_eq_true_of_le hl]
  simp only [Nat.beq_refl, Bool.true_and, Bool.and_true, cond_true]
  exact k
theorem Slv.one {s : St} {sz : Nat} {v : AV} {rows : List (List AV)} (h : Slv s sz v rows) : OneC v := by
  have h2 := h.2
  cases v <;> simp only at h2 <;> first | exact h2.elim | exact ⟨rfl, rfl⟩
theorem WR.build {zs : List AV} {parts : List (Nat × Nat × AO)} {os : List AOper} {d : Option Nat} {pre : Nat} {cs : List AV} {Q : SL → St → Prop} (h : fillL l zs parts = some cs) (k : WR call (id + 1) os (putL l d (.agg cs)) s Q) :
    WR call id (⟨d, .p (.build zs parts), none, pre⟩ :: os) l s Q := WR.p (by simp only [apure, fillL_eq, h]) k
theorem WR.lits {len sz : Nat} {zs : List AV} {parts : List (Nat × Nat × AO)} {os : List AOper} {d : Option Nat} {pre : Nat} {cs : List AV} {Q : SL → St → Prop} (h : fillL l (rep zs len) parts = some cs) (k : WR call (id + 1) os (putL l d (.slc id 0 0 len len sz)) (s.put id (.cells cs 0 0 false)) Q) :
    WR call id (⟨d, .a (.lits len sz zs parts), none, pre⟩ :: os) l s Q := WR.a (by simp only [amake, fillL_eq, h]) k
theorem WR.mkslc {sz bytes : Nat} {zs : List AV} {x y : AO} {os : List AOper} {d : Option Nat} {pre : Nat} {kx ky : IntKind} {m c : Nat} {Q : SL → St → Prop} (hx : x.evL l = some (.int kx (.ofNat m))) (hy : y.evL l = some (.int ky (.ofNat c))) (h1 : m ≤ c) (h2 : c * (bytes + 1) ≤ lim)
    (k : WR call (id + 1) os (putL l d (.slc id 0 0 m c sz)) (s.put id (.cells (rep zs c) 0 0 false)) Q) :
    WR call id (⟨d, .a (.mkslc sz bytes zs x y), none, pre⟩ :: os) l s Q := WR.a (by
      simp only [amake, ev_frL, hx, hy, natOf]
      rw [show (Nat.ble m c && Nat.ble (c * (bytes + 1)) lim) = true by rw [Nat.ble_eq_true_of_le h1, Nat.ble_eq_true_of_le h2]; rfl]
      rfl) k

/-! Regions that draw. -/
def WD (call : CallF) (id i : Nat) (ops : List AOper) (l : SL) (s : St) (pend : List (Nat × AObj)) (effs : List (Nat × St)) (rds : List Rd) (Q : SL → St → Prop) : Prop :=
  ∀ fr, Has fr l → ∃ d, adraws call id i ops ⟨fr, s, pend, effs, rds⟩ = some d ∧ ∃ l', Has d.fr l' ∧ Q l' (flush d.s d.pend)
variable {i : Nat} {pend : List (Nat × AObj)} {effs : List (Nat × St)} {rds : List Rd}
theorem WD.nil {Q : SL → St → Prop} (h : Q l (flush s pend)) : WD call id i [] l s pend effs rds Q := fun fr hf => ⟨_, rfl, l, hf, h⟩
theorem WD.p {p : POp} {os : List AOper} {d : Option Nat} {pre : Nat} {v : AV} {Q : SL → St → Prop} (h : apure (frL l) p = some v) (k : WD call (id + 1) (i + 1) os (putL l d v) s pend effs rds Q) :
    WD call id i (⟨d, .p p, none, pre⟩ :: os) l s pend effs rds Q := by
  intro fr hf
  obtain ⟨d', e, k1⟩ := k _ (hf.put d v)
  refine ⟨d', ?_, k1⟩
  simp only [adraws, wants, adop, apure_mono hf.sub h]
  exact e
theorem WD.r {kk : RK} {x y : AO} {os : List AOper} {d : Option Nat} {pre : Nat} {a b v : AV} {Q : SL → St → Prop} (hx : x.evL l = some a) (hy : y.evL l = some b) (h : aread kk a b s = some v) (ho : effsOk pre kk a b v effs = true)
    (k : WD call (id + 1) (i + 1) os (putL l d v) s pend effs (⟨i, kk, a, b, v⟩ :: rds) Q) : WD call id i (⟨d, .r kk x y, none, pre⟩ :: os) l s pend effs rds Q := by
  intro fr hf
  obtain ⟨d', e, k1⟩ := k _ (hf.put d v)
  refine ⟨d', ?_, k1⟩
  simp only [adraws, wants, adop, evL_ev hf hx, evL_ev hf hy, h, ho, cond_true]
  exact e
theorem WD.a {o : LOp} {os : List AOper} {d : Option Nat} {pre : Nat} {ob : AObj} {v : AV} {Q : SL → St → Prop} (h : amake (frL l) id o = some (ob, v)) (k : WD call (id + 1) (i + 1) os (putL l d v) s ((id, ob) :: pend) effs rds Q) :
    WD call id i (⟨d, .a o, none, pre⟩ :: os) l s pend effs rds Q := by
  intro fr hf
  obtain ⟨d', e, k1⟩ := k _ (hf.put d v)
  refine ⟨d', ?_, k1⟩
  simp only [adraws, wants, adop, amake_mono hf.sub h]
  exact e
theorem WD.e {o : EOp} {os : List AOper} {d : Option Nat} {pre : Nat} {v : AV} {s' : St} {Q : SL → St → Prop} (h : aeff call (frL l) (flush s pend) o = some (v, s')) (ho : readsOk pre s' rds = true)
    (k : WD call (id + 1) (i + 1) os (putL l d v) s' [] ((i, s) :: effs) rds Q) : WD call id i (⟨d, .e o, none, pre⟩ :: os) l s pend effs rds Q := by
  intro fr hf
  obtain ⟨d', e, k1⟩ := k _ (hf.put d v)
  refine ⟨d', ?_, k1⟩
  simp only [adraws, wants, adop, aeff_mono hf.sub h, ho, cond_true]
  exact e
theorem WD.mov {x : AO} {os : List AOper} {d : Option Nat} {pre : Nat} {v : AV} {Q : SL → St → Prop} (h : x.evL l = some v) (k : WD call (id + 1) (i + 1) os (putL l d v) s pend effs rds Q) :
    WD call id i (⟨d, .p (.mov x), none, pre⟩ :: os) l s pend effs rds Q := WD.p (by simp only [apure, ev_frL, h]) k
theorem WD.bin {o : BinOp} {x y : AO} {os : List AOper} {d : Option Nat} {pre : Nat} {a b v : AV} {Q : SL → St → Prop} (hx : x.evL l = some a) (hy : y.evL l = some b) (h : abin o a b = some v) (k : WD call (id + 1) (i + 1) os (putL l d v) s pend effs rds Q) :
    WD call id i (⟨d, .p (.bin o x y), none, pre⟩ :: os) l s pend effs rds Q := WD.p (by simp only [apure, ev_frL, hx, hy, h]) k
theorem WD.fadr {o sz : Nat} {x : AO} {os : List AOper} {d : Option Nat} {pre : Nat} {a v : AV} {Q : SL → St → Prop} (hx : x.evL l = some a) (h : apure .e (.fadr o sz (.c a)) = some v) (k : WD call (id + 1) (i + 1) os (putL l d v) s pend effs rds Q) :
    WD call id i (⟨d, .p (.fadr o sz x), none, pre⟩ :: os) l s pend effs rds Q := WD.p (by rw [← h]; simp only [apure, ev_frL, hx, ev_c]) k
theorem WD.iadr {sz : Nat} {x y : AO} {os : List AOper} {d : Option Nat} {pre : Nat} {a b v : AV} {Q : SL → St → Prop} (hx : x.evL l = some a) (hy : y.evL l = some b) (h : apure .e (.iadr sz (.c a) (.c b)) = some v) (k : WD call (id + 1) (i + 1) os (putL l d v) s pend effs rds Q) :
    WD call id i (⟨d, .p (.iadr sz x y), none, pre⟩ :: os) l s pend effs rds Q := WD.p (by rw [← h]; simp only [apure, ev_frL, hx, hy, ev_c]) k
theorem WD.len {str : Bool} {x : AO} {os : List AOper} {d : Option Nat} {pre : Nat} {a v : AV} {Q : SL → St → Prop} (hx : x.evL l = some a) (h : apure .e (.len str (.c a)) = some v) (k : WD call (id + 1) (i + 1) os (putL l d v) s pend effs rds Q) :
    WD call id i (⟨d, .p (.len str x), none, pre⟩ :: os) l s pend effs rds Q := WD.p (by rw [← h]; simp only [apure, ev_frL, hx, ev_c]) k
theorem WD.un {o : UnOp} {x : AO} {os : List AOper} {d : Option Nat} {pre : Nat} {a v : AV} {Q : SL → St → Prop} (hx : x.evL l = some a) (h : apure .e (.un o (.c a)) = some v) (k : WD call (id + 1) (i + 1) os (putL l d v) s pend effs rds Q) :
    WD call id i (⟨d, .p (.un o x), none, pre⟩ :: os) l s pend effs rds Q := WD.p (by rw [← h]; simp only [apure, ev_frL, hx, ev_c]) k
theorem WD.pick {c x y : AO} {os : List AOper} {d : Option Nat} {pre : Nat} {b : Bool} {u v : AV} {Q : SL → St → Prop} (hc : c.evL l = some (.bool b)) (hx : x.evL l = some u) (hy : y.evL l = some v) (k : WD call (id + 1) (i + 1) os (putL l d (bif b then u else v)) s pend effs rds Q) :
    WD call id i (⟨d, .p (.pick c x y), none, pre⟩ :: os) l s pend effs rds Q := WD.p (by cases b <;> simp only [apure, ev_frL, hc, hx, hy, cond_true, cond_false]) k
theorem WD.guardT {op : AOp} {os : List AOper} {d : Option Nat} {pre t : Nat} {w : Bool} {Q : SL → St → Prop} (ht : lkS l t = some (.tup []))
    (h : WD call (id + 1) (i + 1) os (putL l d (.tup [])) s pend effs rds Q) : WD call id i (⟨d, op, some (t, w), pre⟩ :: os) l s pend effs rds Q := by
  intro fr hf
  have hg := hf t _ ht
  obtain ⟨d', e, k⟩ := h _ (hf.put d (.tup []))
  refine ⟨d', ?_, k⟩
  simp only [adraws, wants, hg]
  exact e
theorem WD.guardY {op : AOp} {os : List AOper} {d : Option Nat} {pre t : Nat} {w : Bool} {Q : SL → St → Prop} (ht : lkS l t = some (.bool w))
    (h : WD call id i (⟨d, op, none, pre⟩ :: os) l s pend effs rds Q) : WD call id i (⟨d, op, some (t, w), pre⟩ :: os) l s pend effs rds Q := by
  intro fr hf
  have hg := hf t _ ht
  obtain ⟨d', e, k⟩ := h fr hf
  refine ⟨d', ?_, k⟩
  simp only [adraws, wants, hg, beq_self_eq_true] at e ⊢
  exact e
theorem WD.guardN {op : AOp} {os : List AOper} {d : Option Nat} {pre t : Nat} {w : Bool} {Q : SL → St → Prop} (ht : lkS l t = some (.bool !w))
    (h : WD call (id + 1) (i + 1) os (putL l d (.tup [])) s pend effs rds Q) : WD call id i (⟨d, op, some (t, w), pre⟩ :: os) l s pend effs rds Q := by
  intro fr hf
  have hg := hf t _ ht
  obtain ⟨d', e, k⟩ := h _ (hf.put d (.tup []))
  refine ⟨d', ?_, k⟩
  simp only [adraws, wants, hg]
  have : ((!w) == w) = false := by cases w <;> rfl
  simp only [this]
  exact e
theorem WC.drawX {ops : List AOper} {Q : AX → SL → St → Prop} {s0 : St} (hs : Ext s0 s) (h : ∀ s1, Ext s0 s1 → Ext s s1 → s1.objs = s.objs → s1.next = s.next + ops.length → WD call s.next 0 ops l s1 [] [] [] (fun l s => Q .nrm l s)) : WC call n (.draw ops) l s Q := by
  intro fr hf
  obtain ⟨d, e, l', h1, h2⟩ := h { s with next := s.next + ops.length } (hs.more _) ((Ext.refl s).more _) rfl rfl fr hf
  exact ⟨.nrm, d.fr, flush d.s d.pend, by simp only [acode, adraw, e], l', h1, h2⟩
end

mutual
theorem same_refl : ∀ a : AV, AV.same a a = true
  | .bool b => by simp [AV.same]
  | .int k n => by
    have h1 : keq k k = true := by cases k <;> rfl
    have h2 : ieq n n = true := by cases n <;> simp [ieq]
    simp [AV.same, h1, h2]
  | .str s => by simp [AV.same, neq_dec]
  | .ptr a b c d => by simp [AV.same]
  | .iptr a => by simp [AV.same, sames_refl a]
  | .nilptr => rfl
  | .slc a b c d e f => by simp [AV.same]
  | .isl a m n => by simp [AV.same, sames_refl a]
  | .eslc => rfl
  | .nilslc => rfl
  | .map a => by simp [AV.same]
  | .nilmap => rfl
  | .fn f a b => by simp [AV.same, sames_refl a, sames_refl b]
  | .nilfn => rfl
  | .ifc t a => by simp [AV.same, same_refl a]
  | .nilifc => rfl
  | .agg a => by simp [AV.same, sames_refl a]
  | .tup a => by simp [AV.same, sames_refl a]
  | .it a => by simp [AV.same]
theorem sames_refl : ∀ a : List AV, AV.sames a a = true
  | [] => rfl
  | a :: x => by simp [AV.sames, same_refl a, sames_refl x]
end
theorem osame_refl {o : Option AV} {v : AV} (h : o = some v) : osame o v = true := by subst h; exact same_refl v
theorem readsOk_bit {pre j : Nat} {kk : RK} {x y v : AV} {s : St} {rs : List Rd} (h : Nat.testBit pre j = true) (k : readsOk pre s rs = true) : readsOk pre s (⟨j, kk, x, y, v⟩ :: rs) = true := by simp [readsOk, h, k]
theorem readsOk_re {pre : Nat} {s : St} {r : Rd} {rs : List Rd} (h : aread r.k r.x r.y s = some r.v) (k : readsOk pre s rs = true) : readsOk pre s (r :: rs) = true := by simp [readsOk, osame_refl h, k]
theorem effsOk_bit {pre : Nat} {kk : RK} {x y v : AV} {j : Nat} {s : St} {rs : List (Nat × St)} (h : Nat.testBit pre j = true) (k : effsOk pre kk x y v rs = true) : effsOk pre kk x y v ((j, s) :: rs) = true := by simp [effsOk, h, k]
theorem effsOk_re {pre : Nat} {kk : RK} {x y v : AV} {j : Nat} {s : St} {rs : List (Nat × St)} (h : aread kk x y s = some v) (k : effsOk pre kk x y v rs = true) : effsOk pre kk x y v ((j, s) :: rs) = true := by simp [effsOk, osame_refl h, k]
section
variable {call : CallF} {id n i : Nat} {l : SL} {s : St} {pend : List (Nat × AObj)} {effs : List (Nat × St)} {rds : List Rd}
theorem WD.append {sz bytes : Nat} {x y : AO} {os : List AOper} {d : Option Nat} {pre : Nat} {a b v : AV} {s' : St} {Q : SL → St → Prop} (hx : x.evL l = some a) (hy : y.evL l = some b) (h : aappend (flush s pend) sz bytes a b = some (v, s')) (ho : readsOk pre s' rds = true)
    (k : WD call (id + 1) (i + 1) os (putL l d v) s' [] ((i, s) :: effs) rds Q) : WD call id i (⟨d, .e (.append sz bytes x y), none, pre⟩ :: os) l s pend effs rds Q := WD.e (by simp only [aeff, ev_frL, hx, hy, h]) ho k
theorem WD.store {m : Nat} {x y : AO} {os : List AOper} {d : Option Nat} {pre : Nat} {id1 g o lm : Nat} {v : AV} {s' : St} {Q : SL → St → Prop} (hx : x.evL l = some (.ptr id1 g o lm)) (hy : y.evL l = some v)
    (h1 : plainV v = true) (h2 : (cellsOf v).length = m) (h3 : m ≤ lm) (h : wr (flush s pend) id1 g o (cellsOf v) = some s') (ho : readsOk pre s' rds = true)
    (k : WD call (id + 1) (i + 1) os (putL l d (.tup [])) s' [] ((i, s) :: effs) rds Q) : WD call id i (⟨d, .e (.store m x y), none, pre⟩ :: os) l s pend effs rds Q := by
  refine WD.e ?_ ho k
  have e2 : Nat.beq (cellsOf v).length m = true := by rw [h2]; simp
  have e3 : Nat.ble m lm = true := Nat.ble_eq_true_of_le h3
  simp only [aeff, ev_frL, hx, hy, h1, e2, e3, Bool.and_self, cond_true, h]
theorem WD.lits {len sz : Nat} {zs : List AV} {parts : List (Nat × Nat × AO)} {os : List AOper} {d : Option Nat} {pre : Nat} {cs : List AV} {Q : SL → St → Prop} (h : fillL l (rep zs len) parts = some cs) (k : WD call (id + 1) (i + 1) os (putL l d (.slc id 0 0 len len sz)) s ((id, .cells cs 0 0 false) :: pend) effs rds Q) :
    WD call id i (⟨d, .a (.lits len sz zs parts), none, pre⟩ :: os) l s pend effs rds Q := WD.a (by simp only [amake, fillL_eq, h]) k
theorem WD.fn {f : FuncId} {xs : List AO} {os : List AOper} {d : Option Nat} {pre : Nat} {vs : List AV} {v : AV} {s' : St} {Q : SL → St → Prop} (hx : evsL l xs = some vs) (h : call f vs (flush s pend) = some (v, s')) (ho : readsOk pre s' rds = true)
    (k : WD call (id + 1) (i + 1) os (putL l d v) s' [] ((i, s) :: effs) rds Q) : WD call id i (⟨d, .e (.call f xs), none, pre⟩ :: os) l s pend effs rds Q := by
  refine WD.e ?_ ho k
  have := evsL_evs (fr := frL l) (fun t v hv => by rw [frL_get]; exact hv) hx
  simp only [aeff, this, h]
end

theorem wr_some {s : St} {id g w off : Nat} {gr : Bool} {cs vs : List AV} (h : s.objs.get id = some (.cells cs g w gr)) (hl : off + vs.length ≤ cs.length) : wr s id g off vs = some (s.put id (.cells (setSeg cs off vs) g g gr)) := by
  simp only [wr, h]
  rw [show (Nat.beq g g && Nat.ble (off + vs.length) cs.length) = true by rw [Nat.ble_eq_true_of_le hl]; simp]
  rfl
theorem Pt.obj {s : St} {id g : Nat} {gr : Bool} {cs : List AV} (h : s.objs.get id = some (.cells cs g g gr)) (hi : id < s.next) : Pt s (.ptr id g 0 cs.length) cs := by
  refine ⟨rfl, hi, cs, by simp only [St.cells, h, Nat.ble_eq_true_of_le (Nat.le_refl _)]; simp, ?_⟩
  rw [seg_some]; simp
/-- Loads, wherever the store has grown to. -/
def Ld (s0 : St) (q v : AV) : Prop := ∀ s y, Ext s0 s → aread .load1 q y s = some v
theorem Pt.ld {s : St} {q v : AV} {cs : List AV} (h : Pt s q (v :: cs)) : Ld s q v := fun s1 y k => (h.ext k).load1 y

theorem Ld.use {s0 s : St} {q v y : AV} (h : Ld s0 q v) (k : Ext s0 s) : aread .load1 q y s = some v := h s y k

/-! Lists of names; numbers. -/
def strs (ns : List (List Nat)) : List (List AV) := ns.map fun a => [.str a]
def nats (ns : List Nat) : List (List AV) := ns.map fun a => [.int .i64 (.ofNat a)]
def bools (ns : List Bool) : List (List AV) := ns.map fun a => [.bool a]
theorem Slv.at1 {s0 : St} {v : AV} {rows : List (List AV)} (h : Slv s0 1 v rows) {i : Nat} {a : AV} (hi : rows[i]? = some [a]) : ∃ p, apure .e (.iadr 1 (.c v) (.c (.int .i64 (.ofNat i)))) = some p ∧ Ld s0 p a := by
  obtain ⟨p, h1, h2⟩ := h.iadr hi .i64
  exact ⟨p, h1, h2.ld⟩
theorem Slv.len' {s : St} {sz : Nat} {v : AV} {rows : List (List AV)} (h : Slv s sz v rows) {m : Nat} (hm : rows.length = m) : apure .e (.len false (.c v)) = some (.int .i64 (.ofNat m)) := by rw [← hm]; exact h.len
end Go.Abs
