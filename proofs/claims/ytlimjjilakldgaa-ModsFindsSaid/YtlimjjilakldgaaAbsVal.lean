/- Numbers with a sign; values of three cells, and maps of them. -/
import Derived.Test.YtlimjjilakldgaaAbsSym2
import Derived.Test.YtlimjjilakldgaaAbsOwn0
set_option autoImplicit false
set_option linter.unusedSimpArgs false
set_option linter.unusedVariables false
namespace Go.Abs
open Go

theorem ilt_dec (a b : Int) : ilt a b = decide (a < b) := by
  cases a with
  | ofNat a => cases b with
    | ofNat b => rw [ilt_nat]; simp
    | negSucc b => simp only [ilt]; rw [decide_eq_false]; simp only [Int.negSucc_eq, Int.ofNat_eq_natCast]; omega
  | negSucc a => cases b with
    | ofNat b => simp only [ilt]; rw [decide_eq_true]; simp only [Int.negSucc_eq, Int.ofNat_eq_natCast]; omega
    | negSucc b =>
      simp only [ilt]
      by_cases h : b < a
      · rw [show Nat.blt b a = true from Nat.ble_eq_true_of_le h, decide_eq_true (by omega)]
      · rw [decide_eq_false (by omega)]
        cases hb : Nat.blt b a with
        | false => rfl
        | true => exact absurd (Nat.le_of_ble_eq_true hb) h
theorem ieq_dec (a b : Int) : ieq a b = decide (a = b) := by
  cases a with
  | ofNat a => cases b with
    | ofNat b => rw [ieq_nat]; simp; omega
    | negSucc b => simp only [ieq]; rw [decide_eq_false]; simp only [Int.negSucc_eq, Int.ofNat_eq_natCast]; omega
  | negSucc a => cases b with
    | ofNat b => simp only [ieq]; rw [decide_eq_false]; simp only [Int.negSucc_eq, Int.ofNat_eq_natCast]; omega
    | negSucc b =>
      simp only [ieq]
      by_cases h : a = b
      · subst h; simp
      · rw [decide_eq_false (by omega)]
        cases hb : Nat.beq a b with
        | false => rfl
        | true => exact absurd (Nat.eq_of_beq_eq_true hb) h
theorem lss_int (a b : Int) : abin .lss (.int .i64 a) (.int .i64 b) = some (.bool (decide (a < b))) := by rw [← ilt_dec]; rfl
theorem eql_int (a b : Int) : abin .eql (.int .i64 a) (.int .i64 b) = some (.bool (decide (a = b))) := by rw [← ieq_dec]; rfl
theorem neq_int (a b : Int) : abin .neq (.int .i64 a) (.int .i64 b) = some (.bool (!decide (a = b))) := by rw [← ieq_dec]; rfl
theorem geq_int (a b : Int) : abin .geq (.int .i64 a) (.int .i64 b) = some (.bool (decide (b ≤ a))) := by
  have : abin .geq (.int .i64 a) (.int .i64 b) = some (.bool (!ilt a b)) := rfl
  rw [this, ilt_dec]
  congr 2
  by_cases h : a < b <;> simp [h] <;> omega
theorem leq_int (a b : Int) : abin .leq (.int .i64 a) (.int .i64 b) = some (.bool (decide (a ≤ b))) := by
  have : abin .leq (.int .i64 a) (.int .i64 b) = some (.bool (ilt a b || ieq a b)) := rfl
  rw [this, ilt_dec, ieq_dec]
  congr 2
  by_cases h : a < b <;> by_cases h2 : a = b <;> simp [h, h2] <;> omega
theorem gtr_int (a b : Int) : abin .gtr (.int .i64 a) (.int .i64 b) = some (.bool (decide (b < a))) := by
  have : abin .gtr (.int .i64 a) (.int .i64 b) = some (.bool (!(ilt a b || ieq a b))) := rfl
  rw [this, ilt_dec, ieq_dec]
  congr 2
  by_cases h : a < b <;> by_cases h2 : a = b <;> simp [h, h2] <;> omega
theorem rem_int (a : Int) {b : Int} (hb : b ≠ 0) : abin .rem (.int .i64 a) (.int .i64 b) = some (.int .i64 (a.tmod b)) := by
  have : abin .rem (.int .i64 a) (.int .i64 b) = bif ieq b 0 then none else some (.int .i64 (a.tmod b)) := rfl
  rw [this, ieq_dec, decide_eq_false hb]
  rfl
/-- Some answer, whichever. -/
theorem lss_some (a b : Int) : ∃ r, abin .lss (.int .i64 a) (.int .i64 b) = some (.bool r) := ⟨_, lss_int a b⟩
theorem geq_some (a b : Int) : ∃ r, abin .geq (.int .i64 a) (.int .i64 b) = some (.bool r) := ⟨_, geq_int a b⟩
theorem leq_some (a b : Int) : ∃ r, abin .leq (.int .i64 a) (.int .i64 b) = some (.bool r) := ⟨_, leq_int a b⟩
theorem eql_some (a b : Int) : ∃ r, abin .eql (.int .i64 a) (.int .i64 b) = some (.bool r) := ⟨_, eql_int a b⟩
theorem eqs_some (a b : List Nat) : ∃ r, abin .eql (.str a) (.str b) = some (.bool r) := ⟨_, eql_str a b⟩

/-! Loads of many cells. -/
def Ldn (s0 : St) (n : Nat) (q v : AV) : Prop := ∀ s y, Ext s0 s → aread (.loadn n) q y s = some v
theorem Ldn.use {s0 s : St} {n : Nat} {q v y : AV} (h : Ldn s0 n q v) (k : Ext s0 s) : aread (.loadn n) q y s = some v := h s y k
theorem Pt.ldn {s : St} {q : AV} {cs : List AV} {n : Nat} (h : Pt s q cs) (hn : n = cs.length) : Ldn s n q (.agg cs) := fun s1 y k => (h.ext k).loadn hn y
theorem Ld.ext {s s' : St} {q v : AV} (h : Ld s q v) (k : Ext s s') : Ld s' q v := fun t y e => h t y (k.trans e)
theorem Ldn.ext {s s' : St} {n : Nat} {q v : AV} (h : Ldn s n q v) (k : Ext s s') : Ldn s' n q v := fun t y e => h t y (k.trans e)
theorem objPt {s : St} {id g : Nat} {gr : Bool} {cs : List AV} (h : s.objs.get id = some (.cells cs g g gr)) (hi : id < s.next) {o m : Nat} (hm : o + m ≤ cs.length) : Pt s (.ptr id g o m) ((cs.drop o).take m) := by
  have hl : ((cs.drop o).take m).length = m := by simp; omega
  refine ⟨hl.symm, hi, cs, by simp only [St.cells, h, Nat.ble_eq_true_of_le (Nat.le_refl _)]; simp, ?_⟩
  rw [seg_some, hl]
  exact ⟨hm, rfl⟩
theorem objLd {s : St} {id g : Nat} {gr : Bool} {cs : List AV} (h : s.objs.get id = some (.cells cs g g gr)) (hi : id < s.next) {o : Nat} {v : AV} (hv : cs[o]? = some v) : Ld s (.ptr id g o 1) v := by
  have ho : o < cs.length := by rw [List.getElem?_eq_some_iff] at hv; exact hv.1
  have := objPt h hi (o := o) (m := 1) (by omega)
  have e : (cs.drop o).take 1 = [v] := by
    rw [List.getElem?_eq_some_iff] at hv
    obtain ⟨h1, h2⟩ := hv
    rw [List.drop_eq_getElem_cons h1, h2]; rfl
  rw [e] at this
  exact this.ld
theorem objLdn {s : St} {id g : Nat} {gr : Bool} {cs : List AV} (h : s.objs.get id = some (.cells cs g g gr)) (hi : id < s.next) {o m : Nat} (hm : o + m ≤ cs.length) : Ldn s m (.ptr id g o m) (.agg ((cs.drop o).take m)) :=
  (objPt h hi hm).ldn (by simp; omega)

/-! A value of three cells. -/
structure Val where
  k : Int
  n : Int
  s : List Nat
  deriving DecidableEq
def valR (v : Val) : List AV := [.int .i64 v.k, .int .i64 v.n, .str v.s]
def valA (v : Val) : AV := .agg (valR v)
abbrev ksV : List CK := [.i, .i, .s]
theorem keyVal (v : Val) : keyOk true ksV (valA v) = true := rfl
theorem flatVal (a b : Val) : flatEq true ksV (valA a) (valA b) = some (decide (a = b)) := by
  have : flatEq true ksV (valA a) (valA b) = ceqs ksV (valR a) (valR b) := rfl
  rw [this]
  cases a with | mk ak an as => cases b with | mk bk bn bs =>
  simp only [valR, ceqs, ceq, keq, ieq_dec, neq_dec, cond_true, Val.mk.injEq]
  by_cases h1 : ak = bk <;> by_cases h2 : an = bn <;> by_cases h3 : as = bs <;> simp [h1, h2, h3]
abbrev Ent := Val × Val × Nat
def entsA (es : List Ent) : List (AV × AV × Nat) := es.map fun e => (valA e.1, valA e.2.1, e.2.2)
/-- What stands under a key. -/
def under (k : Val) : List Ent → Option (Val × Nat)
  | [] => none
  | (a, v, n) :: r => if k = a then some (v, n) else under k r
def putE (k v : Val) (ck : Nat) : List Ent → List Ent
  | [] => [(k, v, ck)]
  | (a, x, n) :: r => if k = a then (k, v, n) :: r else (a, x, n) :: putE k v ck r
def putC (k : Val) (ck : Nat) : List Ent → Nat
  | [] => ck + 1
  | (a, x, n) :: r => if k = a then ck else putC k ck r
def delE (k : Val) : List Ent → List Ent
  | [] => []
  | (a, x, n) :: r => if k = a then r else (a, x, n) :: delE k r
theorem find_V (k : Val) : ∀ es : List Ent, find true ksV (valA k) (entsA es) = some ((under k es).map fun p => (valA p.1, p.2))
  | [] => rfl
  | (a, v, n) :: r => by
    simp only [entsA, List.map_cons, find, flatVal, under]
    by_cases h : k = a
    · simp [h, flatVal]
    · simp only [flatVal, h, decide_false, if_false]
      exact find_V k r
theorem mset_V (k v : Val) (ck : Nat) : ∀ es : List Ent, mset true ksV (valA k) (valA v) ck (entsA es) = some (entsA (putE k v ck es), putC k ck es)
  | [] => rfl
  | (a, x, n) :: r => by
    have ih := mset_V k v ck r
    simp only [entsA] at ih
    simp only [entsA, List.map_cons, mset, flatVal, putE, putC]
    by_cases h : k = a
    · simp [h, flatVal]
    · simp only [flatVal, h, decide_false, if_false, ih]
      rfl
theorem mdel_V (k : Val) : ∀ es : List Ent, mdel true ksV (valA k) (entsA es) = some (entsA (delE k es))
  | [] => rfl
  | (a, x, n) :: r => by
    have ih := mdel_V k r
    simp only [entsA] at ih
    simp only [entsA, List.map_cons, mdel, flatVal, delE]
    by_cases h : k = a
    · simp [h, flatVal]
    · simp only [flatVal, h, decide_false, if_false, ih]
      rfl
theorem putE_len (k v : Val) (ck : Nat) : ∀ es : List Ent, (putE k v ck es).length = es.length + (if under k es = none then 1 else 0)
  | [] => rfl
  | (a, x, n) :: r => by
    simp only [putE, under]
    by_cases h : k = a
    · simp [h]
    · simp only [h, if_false, List.length_cons, putE_len k v ck r]; omega
theorem delE_len (k : Val) : ∀ es : List Ent, (delE k es).length + (if under k es = none then 0 else 1) = es.length
  | [] => rfl
  | (a, x, n) :: r => by
    have := delE_len k r
    simp only [delE, under]
    by_cases h : k = a
    · simp [h]
    · simp only [h, if_false, List.length_cons]; omega

section
variable {call : CallF} {id n i : Nat} {l : SL} {s : St} {pend : List (Nat × AObj)} {effs : List (Nat × St)} {rds : List Rd}
theorem WR.nilchk {x : AO} {os : List AOper} {d : Option Nat} {pre : Nat} {a b c e : Nat} {Q : SL → St → Prop} (hx : x.evL l = some (.ptr a b c e)) (k : WR call (id + 1) os (putL l d (.ptr a b c e)) s Q) :
    WR call id (⟨d, .p (.nilchk x), none, pre⟩ :: os) l s Q := WR.p (by simp only [apure, ev_frL, hx]) k
theorem WD.nilchk {x : AO} {os : List AOper} {d : Option Nat} {pre : Nat} {a b c e : Nat} {Q : SL → St → Prop} (hx : x.evL l = some (.ptr a b c e)) (k : WD call (id + 1) (i + 1) os (putL l d (.ptr a b c e)) s pend effs rds Q) :
    WD call id i (⟨d, .p (.nilchk x), none, pre⟩ :: os) l s pend effs rds Q := WD.p (by simp only [apure, ev_frL, hx]) k
theorem WR.mkifc {t : TypeId} {x : AO} {os : List AOper} {d : Option Nat} {pre : Nat} {v : AV} {Q : SL → St → Prop} (hx : x.evL l = some v) (k : WR call (id + 1) os (putL l d (.ifc t v)) s Q) :
    WR call id (⟨d, .p (.mkifc t x), none, pre⟩ :: os) l s Q := WR.p (by simp only [apure, ev_frL, hx]) k
theorem WR.mkmap {os : List AOper} {d : Option Nat} {pre : Nat} {Q : SL → St → Prop} (k : WR call (id + 1) os (putL l d (.map id)) (s.put id (.map [] 0)) Q) :
    WR call id (⟨d, .a .mkmap, none, pre⟩ :: os) l s Q := WR.a rfl k
theorem WR.look {x y : AO} {os : List AOper} {d : Option Nat} {pre m ck : Nat} {es : List Ent} {k z : Val} {Q : SL → St → Prop} (hx : x.evL l = some (.map m)) (hy : y.evL l = some (valA k)) (h : s.objs.get m = some (.map (entsA es) ck))
    (kk : WR call (id + 1) os (putL l d (match under k es with | some p => .tup [valA p.1, .bool true] | none => .tup [valA z, .bool false])) s Q) :
    WR call id (⟨d, .r (.lookup true ksV (valA z) true) x y, none, pre⟩ :: os) l s Q := by
  refine WR.r hx hy ?_ kk
  simp only [aread, keyVal, cond_true, h, find_V]
  cases under k es with
  | none => rfl
  | some p => rfl
theorem WR.lookS {x y : AO} {os : List AOper} {d : Option Nat} {pre m ck j : Nat} {es : List Ent} {k z v : Val} {Q : SL → St → Prop} (hx : x.evL l = some (.map m)) (hy : y.evL l = some (valA k)) (h : s.objs.get m = some (.map (entsA es) ck)) (hu : under k es = some (v, j))
    (kk : WR call (id + 1) os (putL l d (.tup [valA v, .bool true])) s Q) : WR call id (⟨d, .r (.lookup true ksV (valA z) true) x y, none, pre⟩ :: os) l s Q := WR.look hx hy h (by rw [hu]; exact kk)
theorem WR.lookN {x y : AO} {os : List AOper} {d : Option Nat} {pre m ck : Nat} {es : List Ent} {k z : Val} {Q : SL → St → Prop} (hx : x.evL l = some (.map m)) (hy : y.evL l = some (valA k)) (h : s.objs.get m = some (.map (entsA es) ck)) (hu : under k es = none)
    (kk : WR call (id + 1) os (putL l d (.tup [valA z, .bool false])) s Q) : WR call id (⟨d, .r (.lookup true ksV (valA z) true) x y, none, pre⟩ :: os) l s Q := WR.look hx hy h (by rw [hu]; exact kk)
theorem WR.mupd {x y z : AO} {os : List AOper} {d : Option Nat} {pre m ck : Nat} {es : List Ent} {k v : Val} {Q : SL → St → Prop} (hx : x.evL l = some (.map m)) (hy : y.evL l = some (valA k)) (hz : z.evL l = some (valA v)) (h : s.objs.get m = some (.map (entsA es) ck))
    (kk : WR call (id + 1) os (putL l d (.tup [])) (s.put m (.map (entsA (putE k v ck es)) (putC k ck es))) Q) :
    WR call id (⟨d, .e (.mupd true ksV x y z), none, pre⟩ :: os) l s Q := by
  refine WR.op (op := .e (.mupd true ksV x y z)) (v := .tup []) ?_ kk
  simp only [aop, aeff, ev_frL, hx, hy, hz, keyVal, cond_true, h, mset_V]
theorem WR.mdel {x y : AO} {os : List AOper} {d : Option Nat} {pre m ck : Nat} {es : List Ent} {k : Val} {Q : SL → St → Prop} (hx : x.evL l = some (.map m)) (hy : y.evL l = some (valA k)) (h : s.objs.get m = some (.map (entsA es) ck))
    (kk : WR call (id + 1) os (putL l d (.tup [])) (s.put m (.map (entsA (delE k es)) ck)) Q) :
    WR call id (⟨d, .e (.mdel true ksV x y), none, pre⟩ :: os) l s Q := by
  refine WR.op (op := .e (.mdel true ksV x y)) (v := .tup []) ?_ kk
  simp only [aop, aeff, ev_frL, hx, hy, keyVal, cond_true, h, mdel_V]
end
end Go.Abs
