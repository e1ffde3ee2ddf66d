/- What slices and pointers stand for in a store, and what stays when a store grows. -/
import Derived.Test.YtlimjjilakldgaaAbsSym
set_option autoImplicit false
set_option linter.unusedSimpArgs false
set_option linter.unusedVariables false
namespace Go.Abs
open Go

/-- A store that has grown: what was there is there as it was. -/
structure Ext (s s' : St) : Prop where
  next : s.next ≤ s'.next
  old : ∀ id, id < s.next → s'.objs.get id = s.objs.get id
theorem Ext.refl (s : St) : Ext s s := ⟨Nat.le_refl _, fun _ _ => rfl⟩
theorem Ext.trans {a b c : St} (h : Ext a b) (k : Ext b c) : Ext a c := ⟨Nat.le_trans h.next k.next, fun id hi => (k.old id (Nat.lt_of_lt_of_le hi h.next)).trans (h.old id hi)⟩
theorem Ext.more {a b : St} (h : Ext a b) (m : Nat) : Ext a { b with next := b.next + m } := ⟨Nat.le_trans h.next (Nat.le_add_right _ _), h.old⟩
theorem Ext.put {a b : St} (h : Ext a b) {id : Nat} (hi : a.next ≤ id) (o : AObj) : Ext a (b.put id o) :=
  ⟨h.next, fun j hj => by simp only [St.put, Tr.get_set]; rw [if_neg (by omega)]; exact h.old j hj⟩
theorem get_put (s : St) (id : Nat) (o : AObj) (j : Nat) : (s.put id o).objs.get j = if j = id then some o else s.objs.get j := by simp only [St.put, Tr.get_set]
theorem next_put (s : St) (id : Nat) (o : AObj) : (s.put id o).next = s.next := rfl

/-- A pointer to cells that may be read. -/
def Pt (s : St) (p : AV) (cs : List AV) : Prop := match p with
  | .iptr c => c = cs
  | .ptr id g off lm => lm = cs.length ∧ id < s.next ∧ ∃ vs, s.cells id g = some vs ∧ seg vs off cs.length = some cs
  | _ => False
/-- A slice of rows of cells. -/
def Slv (s : St) (sz : Nat) (v : AV) (rows : List (List AV)) : Prop :=
  (∀ r, r ∈ rows → r.length = sz) ∧ match v with
  | .nilslc => rows = []
  | .eslc => rows = []
  | .isl cells len z => z = sz ∧ cells = rows.flatten ∧ len = rows.length
  | .slc id g off len _ z => z = sz ∧ len = rows.length ∧ id < s.next ∧ ∃ vs, s.cells id g = some vs ∧ seg vs off (len * sz) = some rows.flatten
  | _ => False

theorem cells_ext {s s' : St} (h : Ext s s') {id g : Nat} (hi : id < s.next) : s'.cells id g = s.cells id g := by simp only [St.cells, h.old id hi]
theorem Pt.ext {s s' : St} {p : AV} {cs : List AV} (h : Pt s p cs) (k : Ext s s') : Pt s' p cs := by
  cases p <;> simp only [Pt] at h ⊢ <;> try exact h
  obtain ⟨h1, h2, vs, h3, h4⟩ := h
  exact ⟨h1, Nat.lt_of_lt_of_le h2 k.next, vs, by rw [cells_ext k h2]; exact h3, h4⟩
theorem Slv.ext {s s' : St} {sz : Nat} {v : AV} {rows : List (List AV)} (h : Slv s sz v rows) (k : Ext s s') : Slv s' sz v rows := by
  refine ⟨h.1, ?_⟩
  have h2 := h.2
  cases v <;> simp only at h2 ⊢ <;> try exact h2
  obtain ⟨h1, h2, h3, vs, h4, h5⟩ := h2
  exact ⟨h1, h2, Nat.lt_of_lt_of_le h3 k.next, vs, by rw [cells_ext k h3]; exact h4, h5⟩

theorem seg_some {cs r : List AV} {off n : Nat} : seg cs off n = some r ↔ off + n ≤ cs.length ∧ r = (cs.drop off).take n := by
  unfold seg
  constructor
  · intro h
    cases hb : Nat.ble (off + n) cs.length with
    | false => rw [hb] at h; simp at h
    | true => rw [hb] at h; simp at h; exact ⟨Nat.le_of_ble_eq_true hb, h.symm⟩
  · rintro ⟨h, rfl⟩
    rw [Nat.ble_eq_true_of_le h]
    rfl
theorem seg_seg {cs r : List AV} {off n i m : Nat} (h : seg cs off n = some r) (hm : i + m ≤ n) : seg cs (off + i) m = some ((r.drop i).take m) := by
  rw [seg_some] at h ⊢
  obtain ⟨h1, rfl⟩ := h
  refine ⟨by omega, ?_⟩
  rw [List.drop_take, List.take_take, List.drop_drop, Nat.min_eq_left (by omega)]
theorem seg_length {cs r : List AV} {off n : Nat} (h : seg cs off n = some r) : r.length = n := by
  rw [seg_some] at h
  obtain ⟨h1, rfl⟩ := h
  simp; omega
theorem flatten_at {α : Type} {sz : Nat} : ∀ {rows : List (List α)} {k : Nat} {r : List α}, (∀ r, r ∈ rows → r.length = sz) → rows[k]? = some r → (rows.flatten.drop (k * sz)).take sz = r ∧ (k + 1) * sz ≤ rows.flatten.length
  | [], k, r, h, hk => by simp at hk
  | x :: rows, 0, r, h, hk => by
    simp at hk
    subst hk
    have := h x (by simp)
    simp [List.take_append, this]
  | x :: rows, k + 1, r, h, hk => by
    have hx := h x (by simp)
    have := flatten_at (rows := rows) (k := k) (r := r) (fun r hr => h r (by simp [hr])) (by simpa using hk)
    simp only [List.flatten_cons]
    constructor
    · rw [show (k + 1) * sz = x.length + k * sz by rw [hx, Nat.add_mul]; omega, ← List.drop_drop, List.drop_left]
      exact this.1
    · simp only [List.length_append, hx]
      have := this.2
      rw [show (k + 1 + 1) * sz = sz + (k + 1) * sz by rw [Nat.add_mul (k + 1) 1]; omega]
      omega
theorem flatten_len {α : Type} {sz : Nat} : ∀ {rows : List (List α)}, (∀ r, r ∈ rows → r.length = sz) → rows.flatten.length = rows.length * sz
  | [], _ => by simp
  | x :: rows, h => by
    have ih := flatten_len (rows := rows) (sz := sz) fun r hr => h r (List.mem_cons_of_mem _ hr)
    simp only [List.flatten_cons, List.length_append, List.length_cons, h x (by simp), ih, Nat.add_mul]
    omega

theorem Slv.len {s : St} {sz : Nat} {v : AV} {rows : List (List AV)} (h : Slv s sz v rows) : apure .e (.len false (.c v)) = some (.int .i64 (.ofNat rows.length)) := by
  have h2 := h.2
  cases v <;> simp only at h2 <;> try exact h2.elim
  · simp only [apure, AO.ev, h2.2.1]
  · simp only [apure, AO.ev, h2.2.2]
  · subst h2; rfl
  · subst h2; rfl
theorem Slv.iadr {s : St} {sz : Nat} {v : AV} {rows : List (List AV)} (h : Slv s sz v rows) {k : Nat} {r : List AV} (hk : rows[k]? = some r) (kk : IntKind) :
    ∃ p, apure .e (.iadr sz (.c v) (.c (.int kk (.ofNat k)))) = some p ∧ Pt s p r := by
  have h1 := h.1
  have h2 := h.2
  have hlt : k < rows.length := by rw [List.getElem?_eq_some_iff] at hk; exact hk.1
  obtain ⟨f1, f2⟩ := flatten_at h1 hk
  have hr : r.length = sz := h1 r (List.mem_of_getElem? hk)
  cases v <;> simp only at h2 <;> try exact h2.elim
  · obtain ⟨e0, e2, e3, vs, e4, e5⟩ := h2
    subst e0
    rename_i sz
    refine ⟨_, by simp only [apure, AO.ev]; rw [show (Nat.beq sz sz && Nat.blt k _) = true by rw [e2, Bool.and_eq_true]; exact ⟨by simp, Nat.ble_eq_true_of_le hlt⟩]; rfl, ?_⟩
    refine ⟨hr.symm, e3, vs, e4, ?_⟩
    rw [hr, seg_seg e5 (i := k * sz) (m := sz) (by rw [e2]; have := Nat.mul_le_mul_right sz hlt; rw [Nat.succ_mul] at this; exact this), f1]
  · obtain ⟨e0, e2, e3⟩ := h2
    subst e0
    rename_i sz
    refine ⟨_, by simp only [apure, AO.ev]; rw [show (Nat.beq sz sz && Nat.blt k _) = true by rw [e3, Bool.and_eq_true]; exact ⟨by simp, Nat.ble_eq_true_of_le hlt⟩]; rfl, ?_⟩
    simp only [Pt]
    rw [e2]; exact f1
  · subst h2; simp at hk
  · subst h2; simp at hk
theorem Pt.fadr {s : St} {p : AV} {cs : List AV} (h : Pt s p cs) {off size : Nat} (hs : off + size ≤ cs.length) :
    ∃ q, apure .e (.fadr off size (.c p)) = some q ∧ Pt s q ((cs.drop off).take size) := by
  have hl : ((cs.drop off).take size).length = size := by simp; omega
  cases p <;> simp only [Pt] at h <;> try exact h.elim
  · obtain ⟨e1, e2, vs, e3, e4⟩ := h
    refine ⟨_, by simp only [apure, AO.ev]; rw [Nat.ble_eq_true_of_le (by omega)]; rfl, ?_⟩
    refine ⟨hl.symm, e2, vs, e3, ?_⟩
    rw [hl]
    exact seg_seg e4 hs
  · subst h
    refine ⟨_, by simp only [apure, AO.ev]; rw [Nat.ble_eq_true_of_le hs]; rfl, ?_⟩
    simp only [Pt]
theorem Pt.load1 {s : St} {p : AV} {c : AV} {cs : List AV} (h : Pt s p (c :: cs)) (y : AV) : aread .load1 p y s = some c := by
  cases p <;> simp only [Pt] at h <;> try exact h.elim
  · obtain ⟨e1, e2, vs, e3, e4⟩ := h
    rename_i id g off lm
    simp only [aread, e3]
    rw [Nat.ble_eq_true_of_le (by rw [e1]; simp)]
    simp only [cond_true]
    rw [seg_some] at e4
    obtain ⟨e5, e6⟩ := e4
    have : (vs.drop off).take (c :: cs).length ≠ [] := by rw [← e6]; simp
    have h0 : ((vs.drop off).take (c :: cs).length)[0]? = some c := by rw [← e6]; rfl
    rw [List.getElem?_take_of_lt (by simp), List.getElem?_drop] at h0
    simpa using h0
  · subst h; rfl
theorem Pt.loadn {s : St} {p : AV} {cs : List AV} (h : Pt s p cs) {n : Nat} (hn : n = cs.length) (y : AV) : aread (.loadn n) p y s = some (.agg cs) := by
  subst hn
  cases p <;> simp only [Pt] at h <;> try exact h.elim
  · obtain ⟨e1, e2, vs, e3, e4⟩ := h
    simp only [aread, e3, e4]
    rw [Nat.ble_eq_true_of_le (by omega)]
    rfl
  · subst h
    simp only [aread]
    rw [Nat.ble_eq_true_of_le (Nat.le_refl _)]
    simp

/-! Numbers. -/
theorem add64 {a b : Nat} (h : a + b ≤ 9223372036854775807) : awrap .i64 (Int.ofNat a + Int.ofNat b) = Int.ofNat (a + b) := by
  show awrap .i64 (Int.ofNat (a + b)) = _
  simp only [awrap, top]
  rw [Nat.ble_eq_true_of_le h]
  rfl
theorem ilt_nat (a b : Nat) : ilt (.ofNat a) (.ofNat b) = decide (a < b) := by
  simp only [ilt]
  by_cases h : a < b
  · rw [show Nat.blt a b = true from Nat.ble_eq_true_of_le h, decide_eq_true h]
  · rw [decide_eq_false h]
    cases hb : Nat.blt a b with
    | false => rfl
    | true => exact absurd (Nat.le_of_ble_eq_true hb) h
theorem ieq_nat (a b : Nat) : ieq (.ofNat a) (.ofNat b) = decide (a = b) := by
  simp only [ieq]
  by_cases h : a = b
  · subst h; simp
  · rw [decide_eq_false h]
    cases hb : Nat.beq a b with
    | false => rfl
    | true => exact absurd (Nat.eq_of_beq_eq_true hb) h
theorem neq_dec : ∀ (a b : List Nat), neq a b = decide (a = b)
  | [], [] => by simp [neq]
  | [], b :: y => by simp [neq]
  | a :: x, [] => by simp [neq]
  | a :: x, b :: y => by
    simp only [neq, neq_dec x y]
    by_cases h : a = b
    · subst h; simp
    · have : Nat.beq a b = false := by
        cases hb : Nat.beq a b with
        | false => rfl
        | true => exact absurd (Nat.eq_of_beq_eq_true hb) h
      simp [this, h]
theorem lss_nat (a b : Nat) : abin .lss (.int .i64 (.ofNat a)) (.int .i64 (.ofNat b)) = some (.bool (decide (a < b))) := by rw [← ilt_nat]; rfl
theorem eql_nat (a b : Nat) : abin .eql (.int .i64 (.ofNat a)) (.int .i64 (.ofNat b)) = some (.bool (decide (a = b))) := by rw [← ieq_nat]; rfl
theorem neq_nat (a b : Nat) : abin .neq (.int .i64 (.ofNat a)) (.int .i64 (.ofNat b)) = some (.bool (!decide (a = b))) := by rw [← ieq_nat]; rfl
theorem gtr_nat (a b : Nat) : abin .gtr (.int .i64 (.ofNat a)) (.int .i64 (.ofNat b)) = some (.bool (decide (b < a))) := by
  have : abin .gtr (.int .i64 (.ofNat a)) (.int .i64 (.ofNat b)) = some (.bool (!(ilt (.ofNat a) (.ofNat b) || ieq (.ofNat a) (.ofNat b)))) := rfl
  rw [this, ilt_nat, ieq_nat]
  congr 2
  by_cases h : a < b <;> by_cases h2 : a = b <;> simp [h, h2] <;> omega
theorem leq_nat (a b : Nat) : abin .leq (.int .i64 (.ofNat a)) (.int .i64 (.ofNat b)) = some (.bool (decide (a ≤ b))) := by
  have : abin .leq (.int .i64 (.ofNat a)) (.int .i64 (.ofNat b)) = some (.bool (ilt (.ofNat a) (.ofNat b) || ieq (.ofNat a) (.ofNat b))) := rfl
  rw [this, ilt_nat, ieq_nat]
  congr 2
  by_cases h : a < b <;> by_cases h2 : a = b <;> simp [h, h2] <;> omega
theorem geq_nat (a b : Nat) : abin .geq (.int .i64 (.ofNat a)) (.int .i64 (.ofNat b)) = some (.bool (decide (b ≤ a))) := by
  have : abin .geq (.int .i64 (.ofNat a)) (.int .i64 (.ofNat b)) = some (.bool (!ilt (.ofNat a) (.ofNat b))) := rfl
  rw [this, ilt_nat]
  congr 2
  by_cases h : a < b <;> simp [h] <;> omega
theorem add_nat {a b : Nat} (h : a + b ≤ 9223372036854775807) : abin .add (.int .i64 (.ofNat a)) (.int .i64 (.ofNat b)) = some (.int .i64 (.ofNat (a + b))) := by
  rw [← add64 h]; rfl
theorem sub_nat {a b : Nat} (h : b ≤ a) (ha : a ≤ 9223372036854775807) : abin .sub (.int .i64 (.ofNat a)) (.int .i64 (.ofNat b)) = some (.int .i64 (.ofNat (a - b))) := by
  have : abin .sub (.int .i64 (.ofNat a)) (.int .i64 (.ofNat b)) = some (.int .i64 (awrap .i64 (Int.ofNat a - Int.ofNat b))) := rfl
  rw [this, show (Int.ofNat a - Int.ofNat b) = Int.ofNat (a - b) by simp; omega]
  simp only [awrap, top]
  rw [Nat.ble_eq_true_of_le (by omega)]
  rfl
theorem eql_str (a b : List Nat) : abin .eql (.str a) (.str b) = some (.bool (decide (a = b))) := by rw [← neq_dec]; rfl
theorem neq_str (a b : List Nat) : abin .neq (.str a) (.str b) = some (.bool (!decide (a = b))) := by rw [← neq_dec]; rfl
theorem lssT {a b : Nat} (h : a < b) : abin .lss (.int .i64 (.ofNat a)) (.int .i64 (.ofNat b)) = some (.bool true) := by rw [lss_nat, decide_eq_true h]
theorem lssF {a b : Nat} (h : ¬ a < b) : abin .lss (.int .i64 (.ofNat a)) (.int .i64 (.ofNat b)) = some (.bool false) := by rw [lss_nat, decide_eq_false h]
theorem leqT {a b : Nat} (h : a ≤ b) : abin .leq (.int .i64 (.ofNat a)) (.int .i64 (.ofNat b)) = some (.bool true) := by rw [leq_nat, decide_eq_true h]
theorem leqF {a b : Nat} (h : ¬ a ≤ b) : abin .leq (.int .i64 (.ofNat a)) (.int .i64 (.ofNat b)) = some (.bool false) := by rw [leq_nat, decide_eq_false h]
theorem gtrT {a b : Nat} (h : b < a) : abin .gtr (.int .i64 (.ofNat a)) (.int .i64 (.ofNat b)) = some (.bool true) := by rw [gtr_nat, decide_eq_true h]
theorem gtrF {a b : Nat} (h : ¬ b < a) : abin .gtr (.int .i64 (.ofNat a)) (.int .i64 (.ofNat b)) = some (.bool false) := by rw [gtr_nat, decide_eq_false h]
theorem geqT {a b : Nat} (h : b ≤ a) : abin .geq (.int .i64 (.ofNat a)) (.int .i64 (.ofNat b)) = some (.bool true) := by rw [geq_nat, decide_eq_true h]
theorem geqF {a b : Nat} (h : ¬ b ≤ a) : abin .geq (.int .i64 (.ofNat a)) (.int .i64 (.ofNat b)) = some (.bool false) := by rw [geq_nat, decide_eq_false h]
theorem eqlT {a b : Nat} (h : a = b) : abin .eql (.int .i64 (.ofNat a)) (.int .i64 (.ofNat b)) = some (.bool true) := by rw [eql_nat, decide_eq_true h]
theorem eqlF {a b : Nat} (h : ¬ a = b) : abin .eql (.int .i64 (.ofNat a)) (.int .i64 (.ofNat b)) = some (.bool false) := by rw [eql_nat, decide_eq_false h]
theorem neqT {a b : Nat} (h : a ≠ b) : abin .neq (.int .i64 (.ofNat a)) (.int .i64 (.ofNat b)) = some (.bool true) := by rw [neq_nat, decide_eq_false h]; rfl
theorem neqF {a b : Nat} (h : a = b) : abin .neq (.int .i64 (.ofNat a)) (.int .i64 (.ofNat b)) = some (.bool false) := by rw [neq_nat, decide_eq_true h]; rfl
end Go.Abs
