/- Fresh data as data of before: a contract of a function that only reads holds of what the caller has made, too. -/
import Derived.Test.YtlimjjilakldgaaGreatAbsU
set_option autoImplicit false
set_option linter.unusedVariables false
set_option linter.unusedSimpArgs false
namespace Go.Abs
open Go
def atomV : AV → Bool
 | .bool _ | .int _ _ | .str _ | .nilptr | .nilslc | .eslc | .nilmap | .nilfn | .nilifc => true
 | _ => false
def Fz2 (R : AV → AV → Prop) : List AV → List AV → Prop
 | [], ys => ys = []
 | x :: xs, ys => ∃ y r, ys = y :: r ∧ R x y ∧ Fz2 R xs r
theorem Fz2.length {R : AV → AV → Prop} : ∀ {xs ys : List AV}, Fz2 R xs ys → ys.length = xs.length
 | [], _, h => by simp only [Fz2] at h; subst h; rfl
 | x :: xs, _, h => by simp only [Fz2] at h; obtain ⟨y, r, rfl, _, h⟩ := h; simp [h.length]
def Frz (s : St) : Nat → AV → AV → Prop
 | 0, x, x' => atomV x = true ∧ x' = x
 | n + 1, x, x' => (atomV x = true ∧ x' = x) ∨ (∃ cs cs', x = .agg cs ∧ x' = .agg cs' ∧ Fz2 (Frz s n) cs cs') ∨ (∃ cs cs' len sz, x = .isl cs len sz ∧ x' = .isl cs' len sz ∧ Fz2 (Frz s n) cs cs') ∨
  (∃ id g off len cap sz vs cs cs', x = .slc id g off len cap sz ∧ x' = .isl cs' len sz ∧ s.cells id g = some vs ∧ seg vs off (len * sz) = some cs ∧ Fz2 (Frz s n) cs cs')
section
variable {s : St} {ι : IM} {w0 : World} {X : Nat → Option AObj} {nx : Nat} {w : World}
theorem relL_Fz {R : AV → AV → Prop} (h : ∀ x x' y, R x x' → rel ι w0 x y → rel ι0 w x' y) : ∀ {xs xs' : List AV} {ys : List Value}, Fz2 R xs xs' → relL ι w0 xs ys → relL ι0 w xs' ys
 | [], _, _, hf, hr => by simp only [Fz2] at hf; subst hf; simp only [relL] at hr ⊢; exact hr
 | x :: xs, _, _, hf, hr => by
  simp only [Fz2] at hf
  obtain ⟨x', r', rfl, h1, h2⟩ := hf
  simp only [relL] at hr ⊢
  obtain ⟨y, r, rfl, k1, k2⟩ := hr
  exact ⟨y, r, rfl, h _ _ _ h1 k1, relL_Fz h h2 k2⟩
theorem memL_vals {ι : IM} {w : World} : ∀ {cs : List AV} {ys : List Value} {a : Addr}, a.spot = none → relL ι w cs ys → one ys → (∀ j v, ys[j]? = some v → w.cell? ⟨a.block, a.off + j, none⟩ = some v) → memL ι w cs a
 | [], _, _, _, _, _, _ => by simp only [memL]
 | x :: xs, _, a, ha, hr, ho, hc => by
  simp only [relL] at hr
  obtain ⟨y, r, rfl, h1, h2⟩ := hr
  simp only [memL]
  refine ⟨⟨y, ?_, ho y (by simp), h1⟩, memL_vals (a := ⟨a.block, a.off + 1, none⟩) rfl h2 (fun v hv => ho v (List.mem_cons_of_mem _ hv)) ?_⟩
  ·have := hc 0 y rfl
   rw [Nat.add_zero] at this
   rw [← this]
   obtain ⟨b, o, sp⟩ := a
   simp only at ha
   subst ha
   rfl
  ·intro j v hv
   have := hc (j + 1) v (by simpa using hv)
   rw [show a.off + 1 + j = a.off + (j + 1) by omega]
   exact this
theorem frz_rel (hs : SR ι w0 (s.view X) nx w) : ∀ (n : Nat) (x x' : AV) (y : Value), Frz s n x x' → rel ι w0 x y → rel ι0 w x' y := by
 have atom : ∀ (x x' : AV) (y : Value), atomV x = true ∧ x' = x → rel ι w0 x y → rel ι0 w x' y := by
  rintro x x' y ⟨h, rfl⟩ hr
  cases x' <;> first | (simp only [rel] at hr ⊢; exact hr) | (simp [atomV] at h)
 intro n
 induction n with
 | zero => intro x x' y h; exact atom x x' y h
 | succ n ih =>
  intro x x' y h hr
  rcases h with h | ⟨cs, cs', rfl, rfl, h⟩ | ⟨cs, cs', len, sz, rfl, rfl, h⟩ | ⟨id, g, off, len, cap, sz, vs, cs, cs', rfl, rfl, h1, h2, h⟩
  ·exact atom x x' y h hr
  ·simp only [rel] at hr ⊢
   obtain ⟨vs, rfl, h1, h2⟩ := hr
   exact ⟨vs, rfl, relL_Fz (ih · · ·) h h1, h2⟩
  ·simp only [rel] at hr ⊢
   obtain ⟨a, c, rfl, h1, h2, h3, h4, h5⟩ := hr
   obtain ⟨ys, k1, k2, k3⟩ := mem_vals hs.low h5 h3
   refine ⟨a, c, rfl, h1, h2, Nat.lt_of_lt_of_le h3 hs.low.size, by rw [h.length]; exact h4, memL_vals h2 (relL_Fz (ih · · ·) h k1) k2 k3⟩
  ·simp only [rel] at hr ⊢
   obtain ⟨p, c, hp, ⟨e1, e2⟩, h3, h4, h5, h6, rfl⟩ := hr
   have hle : len * sz ≤ cap * sz := Nat.mul_le_mul_right _ h3
   obtain ⟨ys, k1, k2, k3, k4⟩ := seg_vals hs h1 hp h2 (by omega)
   have hl : cs.length = len * sz := by
    have := relL_length k1
    omega
   exact ⟨⟨p.block, p.shift + off, none⟩, c, rfl, by omega, rfl, (hs.blk id g p hp).2, by rw [h.length]; exact hl, memL_vals rfl (relL_Fz (ih · · ·) h k1) k2 k4⟩
theorem frzL_rel (hs : SR ι w0 (s.view X) nx w) {n : Nat} {xs xs' : List AV} {ys : List Value} (h : Fz2 (Frz s n) xs xs') (hr : relL ι w0 xs ys) : relL ι0 w xs' ys := relL_Fz (frz_rel hs n) h hr
end
def flatU : AV → Bool
 | .tup cs => cs.all flatV
 | v => flatV v
theorem flatU_rel {ι κ : IM} {w0 w1 : World} {v : AV} {y : Value} (hv : flatU v = true) (h : rel ι w0 v y) : rel κ w1 v y := by
 cases v <;> first | exact flat_rel hv h | skip
 simp only [rel] at h ⊢
 obtain ⟨vs, rfl, h⟩ := h
 exact ⟨vs, rfl, flat_relL hv h⟩
section
variable {P : Program} {nd : Bool}
theorem MDet.frz {f : FuncId} {args args' : List AV} {v : AV} {s : St} {n : Nat} (h : PT P false f args' v) (hv : flatU v = true) (hF : Fz2 (Frz s n) args args') : MDet P f args s v s := by
 obtain ⟨w, s1, h1, _, _, _, _, rfl⟩ := h ⟨.e, 0⟩ ⟨by simp [idsM], by simp⟩
 refine ⟨h1.1, Keeps.refl _ _, ?_⟩
 intro ι w0 X W ys hs hr
 refine (h1.2.2 ι0 W (fun _ => none) W ys (SR_start W) (frzL_rel hs hF hr)).mono ?_
 rintro e w2 ⟨v', κ, rfl, _, r1, r2⟩
 exact ⟨v', ι, rfl, IM.le_refl _, flatU_rel hv r1, SR_below hs r2.low⟩
theorem CT.frz {f : FuncId} {args args' : List AV} {v : AV} {K : Mem} (n : Nat) (h : PT P false f args' v) (hv : flatU v = true) (hF : ∀ s, Hd s K → Fz2 (Frz s n) args args') : CT P nd f args K fun w K' => K' = K ∧ w = v :=
 fun s hs => MX.of_det (MDet.frz h hv (hF s hs)) ⟨K, hs, Frm.refl _ _ _, rfl, rfl⟩
end
end Go.Abs
namespace Go.Abs
open Go
section
variable {P : Program} {nd : Bool} {l : SL} {K : Mem}
theorem beq_no {a b : Nat} (h : a ≠ b) : Nat.beq a b = false := by
 cases e : Nat.beq a b with
 | false => rfl
 | true => exact absurd (Nat.eq_of_beq_eq_true e) h
theorem ble_no {a b : Nat} (h : ¬ a ≤ b) : Nat.ble a b = false := by
 cases e : Nat.ble a b with
 | false => rfl
 | true => exact absurd (Nat.le_of_ble_eq_true e) h
def Rw (K : Mem) (sz : Nat) (v : AV) (cs : List AV) (n : Nat) : Prop := ∀ s, Hd s K → ilen v = some n ∧ s.row sz n v = some cs
theorem Rw.asl {sz : Nat} {v : AV} {rows : List (List AV)} (h : ASl sz v rows) : Rw K sz v rows.flatten rows.length := by
 intro s hs
 obtain ⟨h1, ⟨rfl, rfl⟩ | ⟨rfl, rfl⟩ | rfl⟩ := h
 ·exact ⟨rfl, rfl⟩
 ·exact ⟨rfl, rfl⟩
 ·have hl : rows.flatten.length = rows.length * sz := by
   clear hs
   induction rows with
   | nil => simp
   | cons r rs ih => simp [ih (fun r hr => h1 r (List.mem_cons_of_mem _ hr)), h1 r (by simp), Nat.add_mul]; omega
  refine ⟨rfl, ?_⟩
  simp only [St.row]
  rw [show (Nat.beq sz sz && Nat.ble rows.length rows.length) = true by simp, cond_true, List.take_of_length_le (by omega)]
theorem Rw.slc {id g w off n cap sz gen : Nat} {gr : Bool} {vs cs : List AV} (h : InK K id (.cells vs gen w gr)) (h1 : w ≤ g) (h2 : g ≤ gen) (hc : seg vs off (n * sz) = some cs) : Rw K sz (.slc id g off n cap sz) cs n := by
 intro s hs
 refine ⟨rfl, ?_⟩
 simp only [St.row]
 rw [show (Nat.beq sz sz && Nat.ble n n) = true by simp, cond_true]
 have : s.cells id g = some vs := by
  simp only [St.cells, (hs.got _ _ h).1]
  rw [Nat.ble_eq_true_of_le h1, Nat.ble_eq_true_of_le h2]; rfl
 rw [this]
 exact hc
theorem Ef.app0 {x y : AO} {sz bytes : Nat} {a b : AV} {cs : List AV} (hx : x.evL l = some a) (hy : y.evL l = some b) (hb : Rw K sz b cs 0) (ha : (match a with | .nilslc | .slc _ _ _ _ _ _ | .isl _ _ _ | .eslc => true | _ => false) = true) :
  Ef P l K (.append sz bytes x y) fun v K2 => v = a ∧ K2 = K := Ef.zero fun s hs => by
 obtain ⟨h1, h2⟩ := hb s hs
 simp only [aeff, ev_frL, hx, hy, aappend, h1, h2]
 cases a <;> first | rfl | cases ha
theorem Ef.appG {x y : AO} {sz bytes id g w len cap n : Nat} {b : AV} {vs cs : List AV} {K' : Mem} (hx : x.evL l = some (.slc id g 0 len cap sz)) (hy : y.evL l = some b) (hi : Upd K id (.cells vs g w true) (.cells (vs ++ cs) (g + 1) (g + 1) true) K') (hv : vs.length = len * sz)
  (hb : Rw K sz b cs n) (h0 : n ≠ 0) (hl : (len + n) * (bytes + 1) ≤ lim) :
  Ef P l K (.append sz bytes x y) fun v K2 => v = .slc id (g + 1) 0 (len + n) (len + n) sz ∧ K2 = K' := by
 intro fr s hf hd
 obtain ⟨h1, h2⟩ := hb s hd
 refine ⟨noCall, _, _, K', noCall_sound, aeff_mono hf.sub (?_ : aeff noCall (frL l) s _ = some (.slc id (g + 1) 0 (len + n) (len + n) sz, s.put id (.cells (vs ++ cs) (g + 1) (g + 1) true))), (hd.upd hi s.next).1, (hd.upd hi s.next).2, rfl, rfl⟩
 simp only [aeff, ev_frL, hx, hy, aappend, h1, h2, (hd.got _ _ hi.in).1]
 rw [beq_no h0, cond_false,
  show (Nat.beq sz sz && Nat.ble ((len + n) * (bytes + 1)) lim) = true by rw [Nat.ble_eq_true_of_le hl]; simp, cond_true, show Nat.beq g g = true by simp, cond_true]
 simp only [seg, Nat.zero_add, List.drop_zero, hv, Nat.ble_eq_true_of_le (Nat.le_refl (len * sz)), cond_true]
 rw [List.take_of_length_le (by omega)]
end
end Go.Abs
namespace Go.Abs
open Go
theorem rows_len {sz : Nat} : ∀ {rows : List (List AV)}, (∀ r, r ∈ rows → r.length = sz) → rows.flatten.length = rows.length * sz
 | [], _ => by simp
 | r :: rs, h => by
  rw [List.flatten_cons, List.length_append, rows_len fun r hr => h r (List.mem_cons_of_mem _ hr), h r (by simp), List.length_cons, Nat.add_mul]
  omega
section
variable {s : St}
theorem Frz.atom {n : Nat} {x : AV} (h : atomV x = true) : Frz s n x x := by
 cases n with
 | zero => exact ⟨h, rfl⟩
 | succ n => exact .inl ⟨h, rfl⟩
theorem Fz2.same {R : AV → AV → Prop} : ∀ {xs : List AV}, (∀ x, x ∈ xs → R x x) → Fz2 R xs xs
 | [], _ => by simp only [Fz2]
 | x :: xs, h => by
  simp only [Fz2]
  exact ⟨x, xs, rfl, h x (by simp), Fz2.same fun y hy => h y (List.mem_cons_of_mem _ hy)⟩
theorem Fz2.app {R : AV → AV → Prop} : ∀ {xs ys xs' ys' : List AV}, Fz2 R xs xs' → Fz2 R ys ys' → Fz2 R (xs ++ ys) (xs' ++ ys')
 | [], _, _, _, h, k => by simp only [Fz2] at h; subst h; exact k
 | x :: xs, _, _, _, h, k => by
  simp only [Fz2] at h
  obtain ⟨y, r, rfl, h1, h2⟩ := h
  simp only [List.cons_append, Fz2]
  exact ⟨y, _, rfl, h1, Fz2.app h2 k⟩
theorem Fz2.rows {R : AV → AV → Prop} : ∀ {rs rs' : List (List AV)}, rs'.length = rs.length → (∀ (i : Nat) (x x' : List AV), rs[i]? = some x → rs'[i]? = some x' → Fz2 R x x') → Fz2 R rs.flatten rs'.flatten
 | [], [], _, _ => by simp only [List.flatten_nil, Fz2]
 | [], _ :: _, h, _ => by simp at h
 | _ :: _, [], h, _ => by simp at h
 | x :: rs, x' :: rs', hl, h => by
  rw [List.flatten_cons, List.flatten_cons]
  exact Fz2.app (h 0 x x' rfl rfl) (Fz2.rows (by simpa using hl) fun i y y' h1 h2 => h (i + 1) y y' (by simpa using h1) (by simpa using h2))
theorem Frz.asl {n sz : Nat} {v : AV} {rows : List (List AV)} (h : ASl sz v rows) (ha : ∀ r, r ∈ rows → ∀ x, x ∈ r → atomV x = true) : Frz s (n + 1) v v := by
 obtain ⟨_, ⟨rfl, rfl⟩ | ⟨rfl, rfl⟩ | rfl⟩ := h
 ·exact Frz.atom rfl
 ·exact Frz.atom rfl
 ·refine .inr (.inr (.inl ⟨_, _, _, _, rfl, rfl, Fz2.same fun x hx => ?_⟩))
  obtain ⟨r, hr, hx⟩ := List.mem_flatten.1 hx
  exact Frz.atom (ha r hr x hx)
theorem Frz.slc {n id g w off len cap sz gen : Nat} {gr : Bool} {vs cs cs' : List AV} {K : Mem} (hs : Hd s K) (h : InK K id (.cells vs gen w gr)) (h1 : w ≤ g) (h2 : g ≤ gen) (hc : seg vs off (len * sz) = some cs) (hf : Fz2 (Frz s n) cs cs') :
  Frz s (n + 1) (.slc id g off len cap sz) (.isl cs' len sz) := by
 refine .inr (.inr (.inr ⟨id, g, off, len, cap, sz, vs, cs, cs', rfl, rfl, ?_, hc, hf⟩))
 simp only [St.cells, (hs.got _ _ h).1]
 rw [Nat.ble_eq_true_of_le h1, Nat.ble_eq_true_of_le h2]; rfl
theorem Frz.agg {n : Nat} {cs cs' : List AV} (h : Fz2 (Frz s n) cs cs') : Frz s (n + 1) (.agg cs) (.agg cs') := .inr (.inl ⟨cs, cs', rfl, rfl, h⟩)
end
end Go.Abs
namespace Go.Abs
open Go
structure OS where
 o : Option (Nat × Nat)
 rows : List (List AV)
def OS.v (x : OS) (sz : Nat) : AV := match x.o with
 | none => .nilslc
 | some (id, g) => .slc id g 0 x.rows.length x.rows.length sz
def OS.c (x : OS) : Chk := match x.o with
 | none => []
 | some (id, g) => [(id, .cells x.rows.flatten g g true)]
structure OS.ok (x : OS) (sz : Nat) : Prop where
 no : x.o = none → x.rows = []
 row : ∀ r, r ∈ x.rows → r.length = sz
theorem OS.ok.nil {sz : Nat} : OS.ok ⟨none, []⟩ sz := ⟨fun _ => rfl, fun _ h => by cases h⟩
theorem OS.ok.len {x : OS} {sz : Nat} (h : x.ok sz) : apure .e (.len false (.c (x.v sz))) = some (.int .i64 (.ofNat x.rows.length)) := by
 obtain ⟨o, rows⟩ := x
 cases o with
 | none => obtain rfl : rows = [] := h.no rfl; rfl
 | some p => rfl
theorem OS.ok.at {x : OS} {sz i : Nat} {r : List AV} (h : x.ok sz) (hi : x.rows[i]? = some r) : ∃ id g, x = ⟨some (id, g), x.rows⟩ := by
 obtain ⟨o, rows⟩ := x
 cases o with
 | none => obtain rfl : rows = [] := h.no rfl; simp at hi
 | some p => exact ⟨p.1, p.2, rfl⟩
theorem row_seg {sz i : Nat} {rows : List (List AV)} {r : List AV} (h : ∀ r, r ∈ rows → r.length = sz) (hi : rows[i]? = some r) : seg rows.flatten (0 + i * sz) sz = some r := by
 obtain ⟨h1, h2⟩ := flatten_at h hi
 simp only [seg]
 rw [Nat.zero_add, Nat.ble_eq_true_of_le (by rw [Nat.add_mul] at h2; omega), cond_true, h1]
theorem row_cell {sz i j : Nat} {rows : List (List AV)} {r : List AV} {v : AV} (h : ∀ r, r ∈ rows → r.length = sz) (hi : rows[i]? = some r) (hj : r[j]? = some v) : rows.flatten[0 + i * sz + j]? = some v := by
 obtain ⟨h1, h2⟩ := flatten_at h hi
 have hjl : j < r.length := (List.getElem?_eq_some_iff.1 hj).1
 rw [← h1, List.getElem?_take, List.getElem?_drop] at hj
 rw [Nat.zero_add]
 split at hj
 ·exact hj
 ·cases hj
theorem setSeg_rows {sz : Nat} : ∀ {rows : List (List AV)} {i : Nat} {r : List AV}, (∀ r, r ∈ rows → r.length = sz) → i < rows.length → r.length = sz → setSeg rows.flatten (0 + i * sz) r = (rows.set i r).flatten
 | [], i, r, _, hi, _ => by simp at hi
 | x :: rs, 0, r, h, _, hl => by
  have hx := h x (by simp)
  simp only [setSeg, List.flatten_cons, List.set_cons_zero, Nat.zero_mul, Nat.add_zero, List.take_zero, List.nil_append, Nat.zero_add]
  rw [hl, ← hx, List.drop_left]
 | x :: rs, i + 1, r, h, hi, hl => by
  have hx := h x (by simp)
  have ih := setSeg_rows (fun r hr => h r (List.mem_cons_of_mem _ hr)) (show i < rs.length by simpa using hi) hl
  rw [List.set_cons_succ, List.flatten_cons, List.flatten_cons, ← ih]
  simp only [setSeg]
  rw [show 0 + (i + 1) * sz = x.length + (0 + i * sz) by rw [hx, Nat.add_mul]; omega, Nat.add_assoc x.length, List.take_length_add_append, List.drop_length_add_append]
  simp [List.append_assoc]
section
variable {P : Program} {nd : Bool} {l : SL} {K : Mem}
theorem Rdk.row {id g i sz : Nat} {gr : Bool} {rows : List (List AV)} {r : List AV} {y : AV} (h : InK K id (.cells rows.flatten g g gr)) (hr : ∀ r, r ∈ rows → r.length = sz) (hi : rows[i]? = some r) : Rdk K (.loadn sz) (.ptr id g (0 + i * sz) sz) y (.agg r) :=
 Rdk.ldn h (Nat.le_refl _) (Nat.le_refl _) (Nat.le_refl _) (row_seg hr hi)
theorem Rdk.cel {id g i j sz lm : Nat} {gr : Bool} {rows : List (List AV)} {r : List AV} {v y : AV} (h : InK K id (.cells rows.flatten g g gr)) (hr : ∀ r, r ∈ rows → r.length = sz) (hi : rows[i]? = some r) (hj : r[j]? = some v) : Rdk K .load1 (.ptr id g (0 + i * sz + j) (lm + 1)) y v :=
 Rdk.ld1 h (Nat.le_refl _) (Nat.le_refl _) (Nat.le_add_left _ _) (row_cell hr hi hj)
theorem Rdk.cel0 {id g i sz lm : Nat} {gr : Bool} {rows : List (List AV)} {r : List AV} {v y : AV} (h : InK K id (.cells rows.flatten g g gr)) (hr : ∀ r, r ∈ rows → r.length = sz) (hi : rows[i]? = some r) (hj : r[0]? = some v) : Rdk K .load1 (.ptr id g (0 + i * sz) (lm + 1)) y v := Rdk.cel (j := 0) h hr hi hj
theorem Rw.os {x : OS} {sz : Nat} (h : x.ok sz) (hi : ∀ id o, (id, o) ∈ x.c → InK K id o) : Rw K sz (x.v sz) x.rows.flatten x.rows.length := by
 obtain ⟨o, rows⟩ := x
 cases o with
 | none => obtain rfl : rows = [] := h.no rfl; exact fun s hs => ⟨rfl, rfl⟩
 | some p => exact Rw.slc (gr := true) (hi p.1 _ (by simp only [OS.c]; exact List.mem_singleton.2 rfl)) (Nat.le_refl _) (Nat.le_refl _) (seg_all (rows_len h.row))
theorem Take.in {K K1 : Mem} {c : Chk} (h : Take K c K1) : ∀ id o, (id, o) ∈ c → InK K id o := by
 intro id o hi
 simp only [InK]
 exact h.perm.mem_iff.2 (List.mem_append_left _ hi)
theorem Ef.perm {e : EOp} {K2 : Mem} {R : AV → Mem → Prop} (hp : K.flatten.Perm K2.flatten) (h : Ef P l K2 e R) : Ef P l K e R := by
 intro fr s hf hd
 obtain ⟨c, v, s', K3, h1, h2, h3, h4, h5⟩ := h fr s hf (hd.perm hp)
 exact ⟨c, v, s', K3, h1, h2, h3, ⟨h4.next, fun id hi hn => h4.old id hi fun hm => hn ((ids_perm hp).mem_iff.2 hm), fun id hi => (h4.new id hi).imp_left fun h => (ids_perm hp).mem_iff.2 h⟩, h5⟩
theorem Ef.post {e : EOp} {R T : AV → Mem → Prop} (h : Ef P l K e R) (k : ∀ v K2, R v K2 → ∃ K3, K2.flatten.Perm K3.flatten ∧ T v K3) : Ef P l K e T := by
 intro fr s hf hd
 obtain ⟨c, v, s', K2, h1, h2, h3, h4, h5⟩ := h fr s hf hd
 obtain ⟨K3, hp, h6⟩ := k v K2 h5
 exact ⟨c, v, s', K3, h1, h2, h3.perm hp, ⟨h4.next, h4.old, fun id hi => h4.new id ((ids_perm hp).mem_iff.2 hi)⟩, h6⟩
theorem Ef.appO {x y : AO} {sz bytes n : Nat} {u : OS} {b : AV} {rs : List (List AV)} {K1 : Mem} (hx : x.evL l = some (u.v sz)) (hy : y.evL l = some b) (hu : u.ok sz) (hr : ∀ r, r ∈ rs → r.length = sz) (hK : Take K u.c K1) (hn : rs.length = n) (h0 : n ≠ 0) (hb : Rw (u.c :: K1) sz b rs.flatten n)
  (hl : (u.rows.length + n) * (bytes + 1) ≤ lim) : Ef P l K (.append sz bytes x y) fun v K2 => ∃ u' : OS, u'.ok sz ∧ u'.rows = u.rows ++ rs ∧ v = u'.v sz ∧ K2 = u'.c :: K1 := by
 have hrow : ∀ r, r ∈ u.rows ++ rs → r.length = sz := by
  intro r h
  rcases List.mem_append.1 h with h | h
  ·exact hu.row r h
  ·exact hr r h
 refine Ef.perm (K2 := u.c :: K1) (by rw [List.flatten_cons]; exact hK.perm) ?_
 obtain ⟨o, rows⟩ := u
 cases o with
 | none =>
  obtain rfl : rows = [] := hu.no rfl
  refine Ef.post (Ef.new (v := fun b' => .slc b' 0 0 n n sz) (o := .cells rs.flatten 0 0 true) fun s hs => ?_) ?_
  ·obtain ⟨h1, h2⟩ := hb s hs
   simp only [aeff, ev_frL, hx, hy, OS.v, aappend, h1, h2]
   rw [beq_no h0, cond_false, show Nat.ble (n * (bytes + 1)) lim = true from Nat.ble_eq_true_of_le (by simpa using hl), cond_true]
  ·rintro v K ⟨b', rfl, rfl⟩
   exact ⟨[(b', .cells rs.flatten 0 0 true)] :: K1, by simp [OS.c], ⟨some (b', 0), rs⟩, ⟨fun h => (nomatch h), hr⟩, by simp, by simp [OS.v, hn], by simp only [OS.c]⟩
 | some p =>
  obtain ⟨id, g⟩ := p
  refine Ef.mono (Ef.appG (vs := rows.flatten) (cs := rs.flatten) (K' := [(id, .cells (rows.flatten ++ rs.flatten) (g + 1) (g + 1) true)] :: K1) hx hy Upd.here (rows_len hu.row) hb h0 hl) ?_
  rintro v K ⟨rfl, rfl⟩
  exact ⟨⟨some (id, g + 1), rows ++ rs⟩, ⟨fun h => (nomatch h), hrow⟩, rfl, by simp [OS.v, hn], by simp [OS.c]⟩
theorem Ef.appI {x y : AO} {sz bytes n : Nat} {b : AV} {rs : List (List AV)} (hx : x.evL l = some .nilslc) (hy : y.evL l = some b) (hr : ∀ r, r ∈ rs → r.length = sz) (hn : rs.length = n) (hb : Rw K sz b rs.flatten n) (hl : n * (bytes + 1) ≤ lim) :
  Ef P l K (.append sz bytes x y) fun v K2 => ∃ u' : OS, u'.ok sz ∧ u'.rows = rs ∧ v = u'.v sz ∧ K2 = u'.c :: K := by
 by_cases h0 : n = 0
 ·subst h0
  refine Ef.post (Ef.app0 hx hy hb rfl) ?_
  rintro v K ⟨rfl, rfl⟩
  obtain rfl : rs = [] := List.length_eq_zero_iff.1 hn
  exact ⟨[] :: K, by simp, ⟨none, []⟩, OS.ok.nil, rfl, rfl, rfl⟩
 ·refine Ef.perm (K2 := [] :: K) (by simp) ?_
  exact Ef.mono (Ef.appO (u := ⟨none, []⟩) (K1 := K) hx hy OS.ok.nil hr .here hn h0 (fun s hs => hb s (hs.perm (by simp [OS.c]))) (by simpa using hl)) fun v K h => by simpa using h
theorem OS.one (x : OS) (sz : Nat) : OneC (x.v sz) := by
 obtain ⟨o, rows⟩ := x
 cases o <;> exact ⟨rfl, rfl⟩
theorem Ef.store1 {x y : AO} {b g w off lm : Nat} {gr : Bool} {cs : List AV} {v : AV} {K' : Mem} (hx : x.evL l = some (.ptr b g off (lm + 1))) (hy : y.evL l = some v) (hv : OneC v) (hK : Upd K b (.cells cs g w gr) (.cells (setSeg cs off [v]) g g gr) K') (h4 : off + 1 ≤ cs.length) :
  Ef P l K (.store 1 x y) fun v1 K2 => v1 = .tup [] ∧ K2 = K' := Ef.store hx hy (by rw [hv.2]; exact hK) hv.1 (by rw [hv.2]; rfl) (Nat.le_add_left _ _) h4
theorem Ef.storeR {x y : AO} {b g w i sz : Nat} {rows : List (List AV)} {r0 r : List AV} {K' : Mem} (hx : x.evL l = some (.ptr b g (0 + i * sz) sz)) (hy : y.evL l = some (.agg r)) (hr : ∀ r, r ∈ rows → r.length = sz) (hi : rows[i]? = some r0) (hl : r.length = sz)
  (hK : Upd K b (.cells rows.flatten g w true) (.cells (rows.set i r).flatten g g true) K') : Ef P l K (.store sz x y) fun v1 K2 => v1 = .tup [] ∧ K2 = K' := by
 have hil := (List.getElem?_eq_some_iff.1 hi).1
 refine Ef.store (g := g) (w := w) (gr := true) hx hy (cs := rows.flatten) ?_ rfl hl (Nat.le_refl _) ?_
 ·rw [show setSeg rows.flatten (0 + i * sz) (cellsOf (.agg r)) = (rows.set i r).flatten from setSeg_rows hr hil hl]
  exact hK
 ·rw [rows_len hr]
  have := Nat.mul_le_mul_right sz (show i + 1 ≤ rows.length from hil)
  rw [Nat.add_mul] at this
  omega
theorem Rdk.mlen {m ck : Nat} {es : List Ent} {y : AV} (h : InK K m (.map (entsA es) ck)) : Rdk K .mlen (.map m) y (.int .i64 (.ofNat es.length)) := by
 intro s hs
 simp only [aread, (hs.got _ _ h).1]
 simp [entsA]
theorem Ef.mupd {x y z : AO} {m ck : Nat} {es : List Ent} {k v : Val} {K' : Mem} (hx : x.evL l = some (.map m)) (hy : y.evL l = some (valA k)) (hz : z.evL l = some (valA v)) (hK : Upd K m (.map (entsA es) ck) (.map (entsA (putE k v ck es)) (putC k ck es)) K') :
  Ef P l K (.mupd true ksV x y z) fun w K2 => w = .tup [] ∧ K2 = K' := by
 refine Ef.put hK fun s hs => ?_
 simp only [aeff, ev_frL, hx, hy, hz, keyVal, cond_true, hs, mset_V]
theorem Ef.mdel {x y : AO} {m ck : Nat} {es : List Ent} {k : Val} {K' : Mem} (hx : x.evL l = some (.map m)) (hy : y.evL l = some (valA k)) (hK : Upd K m (.map (entsA es) ck) (.map (entsA (delE k es)) ck) K') :
  Ef P l K (.mdel true ksV x y) fun w K2 => w = .tup [] ∧ K2 = K' := by
 refine Ef.put hK fun s hs => ?_
 simp only [aeff, ev_frL, hx, hy, keyVal, cond_true, hs, mdel_V]
theorem Ef.rngM {x : AO} {m ck : Nat} {es : List (AV × AV × Nat)} (hx : x.evL l = some (.map m)) (h : InK K m (.map es ck)) : Ef P l K (.rng false x) fun v K2 => ∃ b, v = .it b ∧ K2 = [(b, .mit (some m) ck [] ck)] :: K := by
 refine Ef.new (v := fun b => .it b) fun s hs => ?_
 simp only [aeff, ev_frL, hx, (hs.got _ _ h).1]
theorem CT.enterS (hM : P.follows .mixedOrders = true) {f : FuncId} {fn : AFunc} {args : List AV} {Q : AV → Mem → Prop} (hc : comp P f = some fn) (hn : args.length ≤ fn.ntmps) (h : Cd P nd fn.body (args.zipIdx 0 |>.map fun p => (p.2, p.1)) K (DoneK fn.results fun w K' => ∃ m r, Sel K' m r ∧ Q w m)) : CT P nd f args K Q :=
 (CT.enter hM hc hn h).dropR fun _ _ h => h
theorem Sel.all : ∀ K : Mem, Sel K K []
 | [] => .nil
 | _ :: K => .cons .here (Sel.all K)
theorem Cd.perm {c : ACode} {K2 : Mem} {Q : AX → SL → Mem → Prop} (hp : K.flatten.Perm K2.flatten) (h : Cd P nd c l K2 Q) : Cd P nd c l K Q := by
 intro fr s hf hd
 refine awp_mono (h fr s hf (hd.perm hp)) ?_
 rintro x fr' s' ⟨l', K', h1, h2, h3, h4⟩
 exact ⟨l', K', h1, h2, ⟨h3.next, fun id hi hn => h3.old id hi fun hm => hn ((ids_perm hp).mem_iff.2 hm), fun id hi => (h3.new id hi).imp_left fun h => (ids_perm hp).mem_iff.2 h⟩, h4⟩
theorem Lp.perm {b : ACode} {k : Nat} {K2 : Mem} {Q : AX → SL → Mem → Prop} (hp : K.flatten.Perm K2.flatten) (h : Lp P nd b k l K2 Q) : Lp P nd b k l K Q := by
 intro fr s hf hd
 refine awlp_mono (h fr s hf (hd.perm hp)) ?_
 rintro x fr' s' ⟨l', K', h1, h2, h3, h4⟩
 exact ⟨l', K', h1, h2, ⟨h3.next, fun id hi hn => h3.old id hi fun hm => hn ((ids_perm hp).mem_iff.2 hm), fun id hi => (h3.new id hi).imp_left fun h => (ids_perm hp).mem_iff.2 h⟩, h4⟩
theorem OS.frz {x : OS} {sz : Nat} (h : x.ok sz) (ha : ∀ r, r ∈ x.rows → ∀ y, y ∈ r → atomV y = true) : ∃ v', ASl sz v' x.rows ∧ ∀ (K : Mem) (s : St) (n : Nat), Hd s K → (∀ id o, (id, o) ∈ x.c → InK K id o) → Frz s (n + 1) (x.v sz) v' := by
 obtain ⟨o, rows⟩ := x
 cases o with
 | none =>
  obtain rfl : rows = [] := h.no rfl
  exact ⟨.nilslc, ⟨h.row, .inl ⟨rfl, rfl⟩⟩, fun K s n hs hi => Frz.atom rfl⟩
 | some p =>
  refine ⟨.isl rows.flatten rows.length sz, ⟨h.row, .inr (.inr rfl)⟩, fun K s n hs hi => ?_⟩
  refine Frz.slc hs (hi p.1 _ (by simp only [OS.c]; exact List.mem_singleton.2 rfl)) (Nat.le_refl _) (Nat.le_refl _) (seg_all (rows_len h.row)) (Fz2.same fun y hy => Frz.atom ?_)
  obtain ⟨r, hr, hy⟩ := List.mem_flatten.1 hy
  exact ha r hr y hy
theorem rdsB {pre i : Nat} {kk : RK} {x y v : AV} {rs : List Rd} (h : Nat.testBit pre i = true) (k : rdsOkK pre K rs) : rdsOkK pre K (⟨i, kk, x, y, v⟩ :: rs) := ⟨.inl h, k⟩
theorem rdsR {pre i : Nat} {kk : RK} {x y v : AV} {rs : List Rd} (h : Rdk K kk x y v) (k : rdsOkK pre K rs) : rdsOkK pre K (⟨i, kk, x, y, v⟩ :: rs) := ⟨.inr h, k⟩
end
end Go.Abs
namespace Go.Abs
open Go
theorem flatten_take {sz : Nat} : ∀ {rows : List (List AV)} {i : Nat}, (∀ r, r ∈ rows → r.length = sz) → rows.flatten.take (i * sz) = (rows.take i).flatten
 | [], i, _ => by simp
 | x :: rs, 0, _ => by simp
 | x :: rs, i + 1, h => by
  have hx := h x (by simp)
  rw [List.flatten_cons, List.take_succ_cons, List.flatten_cons, ← flatten_take (i := i) (fun r hr => h r (List.mem_cons_of_mem _ hr)), Nat.add_mul, Nat.one_mul, Nat.add_comm, ← hx, List.take_length_add_append]
theorem flatten_drop {sz : Nat} : ∀ {rows : List (List AV)} {i : Nat}, (∀ r, r ∈ rows → r.length = sz) → rows.flatten.drop (i * sz) = (rows.drop i).flatten
 | [], i, _ => by simp
 | x :: rs, 0, _ => by simp
 | x :: rs, i + 1, h => by
  have hx := h x (by simp)
  rw [List.flatten_cons, List.drop_succ_cons, ← flatten_drop (i := i) (fun r hr => h r (List.mem_cons_of_mem _ hr)), Nat.add_mul, Nat.one_mul, Nat.add_comm, ← hx, List.drop_length_add_append]
theorem seg_rows {sz i m : Nat} {rows : List (List AV)} (h : ∀ r, r ∈ rows → r.length = sz) (hm : i + m ≤ rows.length) : seg rows.flatten (0 + i * sz) (m * sz) = some ((rows.drop i).take m).flatten := by
 simp only [seg]
 have hl := rows_len h
 have := Nat.mul_le_mul_right sz hm
 rw [Nat.add_mul] at this
 rw [Nat.zero_add, Nat.ble_eq_true_of_le (by omega), cond_true, flatten_drop h, flatten_take fun r hr => h r (List.mem_of_mem_drop hr)]
theorem setSeg_rowsN {sz i : Nat} {rows rs : List (List AV)} (h : ∀ r, r ∈ rows → r.length = sz) (hr : ∀ r, r ∈ rs → r.length = sz) : setSeg rows.flatten (0 + i * sz) rs.flatten = (rows.take i ++ rs ++ rows.drop (i + rs.length)).flatten := by
 simp only [setSeg]
 rw [Nat.zero_add, flatten_take h, rows_len hr, ← Nat.add_mul, flatten_drop h]
 simp
section
variable {P : Program} {nd : Bool} {l : SL} {K : Mem}
theorem aslice_from {sz id g n i : Nat} {k : IntKind} (h : i < n) : aslice sz (.slc id g 0 n n sz) (some (.int k (.ofNat i))) none none = some (.slc id g (0 + i * sz) (n - i) (n - i) sz) := by
 simp only [aslice, bnd]
 rw [show Nat.beq sz sz = true by simp, cond_true, Nat.ble_eq_true_of_le (Nat.le_of_lt h)]
 simp only [cond_true]
 rw [show Nat.blt i n = true from Nat.ble_eq_true_of_le h, cond_true]
theorem aslice_end {sz id g n : Nat} {k : IntKind} : aslice sz (.slc id g 0 n n sz) (some (.int k (.ofNat n))) none none = some .eslc := by
 simp only [aslice, bnd]
 rw [show Nat.beq sz sz = true by simp, cond_true, Nat.ble_eq_true_of_le (Nat.le_refl n)]
 simp only [cond_true]
 rw [show Nat.blt n n = false from ble_no (by omega), cond_false]
theorem Ef.copyS {x y : AO} {sz id g i j m k mc kc : Nat} {rows : List (List AV)} {K' : Mem} (hx : x.evL l = some (.slc id g (0 + j * sz) m mc sz)) (hy : y.evL l = some (.slc id g (0 + i * sz) k kc sz)) (h : ∀ r, r ∈ rows → r.length = sz) (hm : m ≤ k) (h0 : m ≠ 0) (hi : i + m ≤ rows.length) (hj : j + m ≤ rows.length)
  (hK : Upd K id (.cells rows.flatten g g true) (.cells (rows.take j ++ (rows.drop i).take m ++ rows.drop (j + m)).flatten g g true) K') : Ef P l K (.copy sz x y) fun v K2 => v = .int .i64 (.ofNat m) ∧ K2 = K' := by
 have hr : ∀ r, r ∈ (rows.drop i).take m → r.length = sz := fun r hr => h r (List.mem_of_mem_drop (List.mem_of_mem_take hr))
 have hml : ((rows.drop i).take m).length = m := by simp; omega
 have e1 := setSeg_rowsN (i := j) h hr
 rw [hml] at e1
 refine Ef.put hK fun s hs => ?_
 have hn : (bif Nat.ble k m then k else m) = m := by
  by_cases e : k ≤ m
  ·rw [Nat.ble_eq_true_of_le e]; simp; omega
  ·rw [ble_no e]; rfl
 have hrow : s.row sz m (.slc id g (0 + i * sz) k kc sz) = some ((rows.drop i).take m).flatten := by
  simp only [St.row]
  rw [show (Nat.beq sz sz && Nat.ble m k) = true by rw [Nat.ble_eq_true_of_le hm]; simp, cond_true]
  have : s.cells id g = some rows.flatten := by
   simp only [St.cells, hs]
   rw [Nat.ble_eq_true_of_le (Nat.le_refl g)]; rfl
  rw [this]
  exact seg_rows h hi
 have hw : wr s id g (0 + j * sz) ((rows.drop i).take m).flatten = some (s.put id (.cells (rows.take j ++ (rows.drop i).take m ++ rows.drop (j + m)).flatten g g true)) := by
  rw [wr_some hs, e1]
  rw [rows_len hr, hml, rows_len h, Nat.zero_add, ← Nat.add_mul]
  exact Nat.mul_le_mul_right sz hj
 simp only [aeff, ev_frL, hx, hy, acopy, slen, ilen, hn, hrow]
 rw [beq_no h0, cond_false]
 simp only [show Nat.beq sz sz = true by simp, cond_true, hw]
theorem Ef.copy0 {x y : AO} {sz id g i k kc : Nat} {rows : List (List AV)} (hx : x.evL l = some .eslc) (hy : y.evL l = some (.slc id g (0 + i * sz) k kc sz)) (h : ∀ r, r ∈ rows → r.length = sz) (hi : i ≤ rows.length)
  (hK : InK K id (.cells rows.flatten g g true)) : Ef P l K (.copy sz x y) fun v K2 => v = .int .i64 (.ofNat 0) ∧ K2 = K := by
 refine Ef.zero fun s hs => ?_
 have hn : (bif Nat.ble k 0 then k else 0) = 0 := by
  by_cases e : k ≤ 0
  ·rw [Nat.ble_eq_true_of_le e]; simp; omega
  ·rw [ble_no e]; rfl
 have hrow : s.row sz 0 (.slc id g (0 + i * sz) k kc sz) = some [] := by
  simp only [St.row]
  rw [show (Nat.beq sz sz && Nat.ble 0 k) = true by rw [Nat.ble_eq_true_of_le (Nat.zero_le k)]; simp, cond_true]
  have : s.cells id g = some rows.flatten := by
   simp only [St.cells, (hs.got _ _ hK).1]
   rw [Nat.ble_eq_true_of_le (Nat.le_refl g)]; rfl
  rw [this]
  have := seg_rows (i := i) (m := 0) h (by omega)
  rw [Nat.zero_mul] at this
  rw [Nat.zero_mul]
  simpa using this
 simp only [aeff, ev_frL, hx, hy, acopy, slen, ilen, hn, hrow]
 rfl
theorem byStamp_at : ∀ {es : List (AV × AV × Nat)} {a v : AV} {n : Nat}, (a, v, n) ∈ es → (es.map fun e => e.2.2).Nodup → byStamp n es = some (a, v)
 | [], _, _, _, h, _ => by cases h
 | (b, w, m) :: r, a, v, n, h, hn => by
  simp only [List.map_cons, List.nodup_cons] at hn
  simp only [byStamp]
  rcases List.mem_cons.1 h with e | h
  ·cases e
   rw [show Nat.beq m m = true by simp, cond_true]
  ·rw [beq_no (fun e => hn.1 (List.mem_map.2 ⟨(a, v, n), h, e.symm⟩)), cond_false]
   exact byStamp_at h hn.2
theorem Rdk.ment {id m since last : Nat} {seen : List Nat} {es : List (AV × AV × Nat)} {y a v : AV} {n : Nat} (h1 : InK K id (.mit (some m) since (seen ++ [n]) last)) (h2 : InK K m (.map es last)) (he : (a, v, n) ∈ es) (hn : (es.map fun e => e.2.2).Nodup) : Rdk K .ment (.it id) y (.tup [a, v]) := by
 intro s hs
 simp only [aread, (hs.got _ _ h1).1, (hs.got _ _ h2).1]
 rw [show Nat.beq last last = true by simp, cond_true]
 simp only [List.getLast?_append, List.getLast?_singleton, Option.some_or, byStamp_at he hn]
theorem cands_at {es : List (AV × AV × Nat)} {ck : Nat} {seen : List Nat} (hl : ∀ e, e ∈ es → e.2.2 < ck) : ∃ cs, cands es ck seen ck = some cs ∧ (∀ e, some e ∈ cs → e ∈ es ∧ e.2.2 ∉ seen) ∧ (none ∈ cs → ∀ e, e ∈ es → e.2.2 ∈ seen) := by
 have hc : (!seen.isEmpty && !es.isEmpty && es.all (fun e => Nat.ble ck e.2.2)) = false := by
  cases es with
  | nil => simp
  | cons e r =>
   have : Nat.ble ck e.2.2 = false := ble_no (by have := hl e (by simp); omega)
   simp [this]
 have hnew : (es.filter fun e => !seen.contains e.2.2).filter (fun e => !Nat.blt e.2.2 ck) = [] := by
  rw [List.filter_eq_nil_iff]
  intro e he
  have := hl e (List.mem_filter.1 he |>.1)
  rw [show Nat.blt e.2.2 ck = true from Nat.ble_eq_true_of_le this]
  simp
 have hold : (es.filter fun e => !seen.contains e.2.2).filter (fun e => Nat.blt e.2.2 ck) = es.filter fun e => !seen.contains e.2.2 := by
  rw [List.filter_eq_self]
  intro e he
  exact Nat.ble_eq_true_of_le (hl e (List.mem_filter.1 he |>.1))
 refine ⟨_, by simp only [cands, hc, cond_false]; rfl, ?_, ?_⟩
 ·intro e he
  rw [hnew, hold, List.append_nil] at he
  rcases List.mem_append.1 he with h | h
  ·cases hb : (es.filter fun e => !seen.contains e.2.2).isEmpty <;> rw [hb] at h <;> simp at h
  ·obtain ⟨x, hx, hxe⟩ := List.mem_map.1 h
   cases hxe
   obtain ⟨h1, h2⟩ := List.mem_filter.1 hx
   exact ⟨h1, by simpa using h2⟩
 ·intro hn e he
  rw [hnew, hold, List.append_nil] at hn
  rcases List.mem_append.1 hn with h | h
  ·cases hb : (es.filter fun e => !seen.contains e.2.2).isEmpty with
   | false => rw [hb] at h; simp at h
   | true =>
    rw [List.isEmpty_iff, List.filter_eq_nil_iff] at hb
    have := hb e he
    simpa using this
  ·obtain ⟨x, _, hx⟩ := List.mem_map.1 h
   cases hx
theorem Rg.nextF {x : AO} {os : List AOper} {d : Option Nat} {pre id m since last ck : Nat} {seen : List Nat} {es : List (AV × AV × Nat)} {cs : List (Option (AV × AV × Nat))} {F : Nat → Mem} {Q : SL → Mem → Prop}
  (hx : x.evL l = some (.it id)) (hu : ∀ n, Upd K id (.mit (some m) since seen last) (.mit (some m) since (seen ++ [n]) ck) (F n)) (h2 : InK K m (.map es ck)) (hc : cands es since seen last = some cs)
  (k : ∀ a v n, some (a, v, n) ∈ cs → Rg P true os (putL l d (.tup [.bool true, a, v])) (F n) Q)
  (ke : none ∈ cs → Rg P true os (putL l d (.tup [.bool false])) K Q) : Rg P true (⟨d, .e (.next false x), none, pre⟩ :: os) l K Q := by
 refine Rg.gen fun B i fr s hf hd hB hl hi => ?_
 refine .inr ⟨rfl, id, evL_ev hf hx, m, since, seen, last, es, ck, cs, (hd.got _ _ (hu 0).in).1, (hd.got _ _ h2).1, hc, fun c hcm => ?_⟩
 cases c with
 | none => exact ⟨K, hd, Frm.refl _ _ _, fun j _ _ hj => hj, ke hcm⟩
 | some c =>
  obtain ⟨a, v, n⟩ := c
  obtain ⟨f1, f2⟩ := hd.upd (hu n) B
  exact ⟨F n, f1, f2, fun j _ _ hj => by rw [(hu n).ids]; exact hj, k a v n hcm⟩
end
end Go.Abs
