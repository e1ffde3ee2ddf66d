/- What an abstract value, an abstract object and an abstract store stand for in a world. -/
import Derived.Test.YtiiajdfjnamfcaaGreatAbsComp
import Derived.Below
import Derived.Laws.Cells
import Derived.Laws.IdiomCopy
import Derived.ChangeKeysEq
set_option autoImplicit false
set_option linter.unusedSimpArgs false
set_option linter.unusedVariables false
namespace Go.Abs
open Go Go.RowKit
theorem Tr.get_set {α : Type} (t : Tr α) (k : Nat) (x : Option α) (j : Nat) : (t.set k x).get j = if j = k then x else t.get j :=
 Tr.get_setF x k k t j (Nat.le_refl _)
structure Place where
 block : Nat
 shift : Nat
 ext : Nat
 room : Nat
 exact : Bool
abbrev IM := Nat → Nat → Option Place
def IM.le (ι κ : IM) : Prop := ∀ id g p, ι id g = some p → κ id g = some p
theorem IM.le_refl (ι : IM) : ι.le ι := fun _ _ _ h => h
theorem IM.le_trans {a b c : IM} (h : a.le b) (k : b.le c) : a.le c := fun _ _ _ x => k _ _ _ (h _ _ _ x)
def natBytes (b : ByteArray) : List Nat := b.data.toList.map (·.toNat)
mutual
def rel (ι : IM) (w0 : World) : AV → Value → Prop
 | .bool b, y => y = .bool b
 | .int k n, y => y = .int k n
 | .str s, y => ∃ b : ByteArray, y = .string b ∧ natBytes b = s
 | .ptr id g off lm, y => ∃ p, ι id g = some p ∧ (off + lm ≤ p.ext ∧ p.ext ≤ p.room) ∧ y = .pointer (some ⟨p.block, p.shift + off, none⟩)
 | .iptr cs, y => ∃ a : Addr, y = .pointer (some a) ∧ a.spot = none ∧ a.block < w0.heap.size ∧ memL ι w0 cs a
 | .nilptr, y => y = .pointer none
 | .slc id g off len cap sz, y => ∃ p c, ι id g = some p ∧ (off + cap * sz ≤ p.ext ∧ p.ext ≤ p.room) ∧ len ≤ cap ∧ cap ≤ c ∧ off + c * sz ≤ p.room ∧ (p.exact = true → c = cap) ∧
   y = .slice (some ⟨p.block, p.shift + off, none⟩) len c
 | .isl cs len sz, y => ∃ a c, y = .slice (some a) len c ∧ len ≤ c ∧ a.spot = none ∧ a.block < w0.heap.size ∧ cs.length = len * sz ∧ memL ι w0 cs a
 | .eslc, y => ∃ a c, y = .slice (some a) 0 c
 | .nilslc, y => y = .slice none 0 0
 | .map id, y => ∃ p, ι id 0 = some p ∧ y = .map (some p.block)
 | .nilmap, y => y = .map none
 | .fn f a b, y => ∃ a' b', y = .func (.func f) a' b' ∧ relL ι w0 a a'.toList ∧ relL ι w0 b b'.toList
 | .nilfn, y => y = .nilFunc
 | .ifc t v, y => ∃ v', y = .iface t v' ∧ rel ι w0 v v'
 | .nilifc, y => y = .nilIface
 | .agg cs, y => ∃ vs, y = .agg vs ∧ relL ι w0 cs vs.toList ∧ ∀ v ∈ vs.toList, v.oneCell' = true
 | .tup cs, y => ∃ vs, y = .tuple vs ∧ relL ι w0 cs vs.toList
 | .it id, y => ∃ p, ι id 0 = some p ∧ y = .pointer (some ⟨p.block, 0, none⟩)
def relL (ι : IM) (w0 : World) : List AV → List Value → Prop
 | [], ys => ys = []
 | x :: xs, ys => ∃ y r, ys = y :: r ∧ rel ι w0 x y ∧ relL ι w0 xs r
def memL (ι : IM) (w0 : World) : List AV → Addr → Prop
 | [], _ => True
 | x :: xs, a => (∃ y, w0.cell? a = some y ∧ y.oneCell' = true ∧ rel ι w0 x y) ∧ memL ι w0 xs ⟨a.block, a.off + 1, none⟩
end
mutual
theorem rel_mono {ι κ : IM} (w0 : World) (h : ι.le κ) : ∀ (x : AV) (y : Value), rel ι w0 x y → rel κ w0 x y
 | .bool _, _, r => by simp only [rel] at r ⊢; exact r
 | .int _ _, _, r => by simp only [rel] at r ⊢; exact r
 | .str _, _, r => by simp only [rel] at r ⊢; exact r
 | .ptr .., _, r => by simp only [rel] at r ⊢; obtain ⟨p, a, b⟩ := r; exact ⟨p, h _ _ _ a, b⟩
 | .iptr cs, _, r => by simp only [rel] at r ⊢; obtain ⟨a, b, c, d, e⟩ := r; exact ⟨a, b, c, d, memL_mono w0 h cs a e⟩
 | .nilptr, _, r => by simp only [rel] at r ⊢; exact r
 | .slc .., _, r => by simp only [rel] at r ⊢; obtain ⟨p, c, a, b⟩ := r; exact ⟨p, c, h _ _ _ a, b⟩
 | .isl cs _ _, _, r => by simp only [rel] at r ⊢; obtain ⟨a, b, c, d, e, f, g, i⟩ := r; exact ⟨a, b, c, d, e, f, g, memL_mono w0 h cs a i⟩
 | .eslc, _, r => by simp only [rel] at r ⊢; exact r
 | .nilslc, _, r => by simp only [rel] at r ⊢; exact r
 | .map _, _, r => by simp only [rel] at r ⊢; obtain ⟨p, a, b⟩ := r; exact ⟨p, h _ _ _ a, b⟩
 | .nilmap, _, r => by simp only [rel] at r ⊢; exact r
 | .fn _ a b, _, r => by simp only [rel] at r ⊢; obtain ⟨a', b', e, f, g⟩ := r; exact ⟨a', b', e, relL_mono w0 h a _ f, relL_mono w0 h b _ g⟩
 | .nilfn, _, r => by simp only [rel] at r ⊢; exact r
 | .ifc _ v, _, r => by simp only [rel] at r ⊢; obtain ⟨v', e, f⟩ := r; exact ⟨v', e, rel_mono w0 h v _ f⟩
 | .nilifc, _, r => by simp only [rel] at r ⊢; exact r
 | .agg cs, _, r => by simp only [rel] at r ⊢; obtain ⟨vs, e, f, g⟩ := r; exact ⟨vs, e, relL_mono w0 h cs _ f, g⟩
 | .tup cs, _, r => by simp only [rel] at r ⊢; obtain ⟨vs, e, f⟩ := r; exact ⟨vs, e, relL_mono w0 h cs _ f⟩
 | .it _, _, r => by simp only [rel] at r ⊢; obtain ⟨p, a, b⟩ := r; exact ⟨p, h _ _ _ a, b⟩
theorem relL_mono {ι κ : IM} (w0 : World) (h : ι.le κ) : ∀ (x : List AV) (y : List Value), relL ι w0 x y → relL κ w0 x y
 | [], _, r => by simp only [relL] at r ⊢; exact r
 | x :: xs, _, r => by simp only [relL] at r ⊢; obtain ⟨y, t, e, f, g⟩ := r; exact ⟨y, t, e, rel_mono w0 h x _ f, relL_mono w0 h xs _ g⟩
theorem memL_mono {ι κ : IM} (w0 : World) (h : ι.le κ) : ∀ (x : List AV) (a : Addr), memL ι w0 x a → memL κ w0 x a
 | [], _, r => by simp only [memL]
 | x :: xs, a, r => by simp only [memL] at r ⊢; obtain ⟨⟨y, e, f, g⟩, i⟩ := r; exact ⟨⟨y, e, f, rel_mono w0 h x _ g⟩, memL_mono w0 h xs _ i⟩
end
section
variable {ι : IM} {w0 : World}
theorem relL_length : ∀ {xs : List AV} {ys : List Value}, relL ι w0 xs ys → xs.length = ys.length
 | [], ys, h => by simp only [relL] at h; simp [h]
 | x :: xs, ys, h => by
  simp only [relL] at h
  obtain ⟨y, r, rfl, _, h⟩ := h
  simp [relL_length h]
theorem relL_get : ∀ {xs : List AV} {ys : List Value}, relL ι w0 xs ys → ∀ {i : Nat} {x : AV}, xs[i]? = some x → ∃ y, ys[i]? = some y ∧ rel ι w0 x y
 | [], ys, h, i, x, hx => by simp at hx
 | x :: xs, ys, h, i, z, hx => by
  simp only [relL] at h
  obtain ⟨y, r, rfl, h1, h⟩ := h
  cases i with
  | zero => simp at hx; subst hx; exact ⟨y, by simp, h1⟩
  | succ i => simp at hx; obtain ⟨u, e, f⟩ := relL_get h hx; exact ⟨u, by simpa using e, f⟩
theorem relL_of_get : ∀ {xs : List AV} {ys : List Value}, xs.length = ys.length → (∀ (i : Nat) (x : AV) (y : Value), xs[i]? = some x → ys[i]? = some y → rel ι w0 x y) → relL ι w0 xs ys
 | [], ys, h, _ => by simp only [relL]; cases ys with
  | nil => rfl
  | cons => simp at h
 | x :: xs, [], h, _ => by simp at h
 | x :: xs, y :: ys, h, k => by
  simp only [relL]
  exact ⟨y, ys, rfl, k 0 x y (by simp) (by simp), relL_of_get (by simpa using h) fun i a b ha hb => k (i + 1) a b (by simpa using ha) (by simpa using hb)⟩
theorem relL_append : ∀ {xs xs' : List AV} {ys ys' : List Value}, relL ι w0 xs ys → relL ι w0 xs' ys' → relL ι w0 (xs ++ xs') (ys ++ ys')
 | [], _, ys, _, h, k => by simp only [relL] at h; subst h; simpa using k
 | x :: xs, _, ys, _, h, k => by
  simp only [relL] at h
  obtain ⟨y, r, rfl, h1, h⟩ := h
  simp only [List.cons_append, relL]
  exact ⟨y, r ++ _, rfl, h1, relL_append h k⟩
theorem relL_take : ∀ {xs : List AV} {ys : List Value} (n : Nat), relL ι w0 xs ys → relL ι w0 (xs.take n) (ys.take n)
 | [], ys, n, h => by simp only [relL] at h; subst h; simp [relL]
 | x :: xs, ys, 0, h => by simp [relL]
 | x :: xs, ys, n + 1, h => by
  simp only [relL] at h
  obtain ⟨y, r, rfl, h1, h⟩ := h
  simp only [List.take_succ_cons, relL]
  exact ⟨y, _, rfl, h1, relL_take n h⟩
theorem relL_drop : ∀ {xs : List AV} {ys : List Value} (n : Nat), relL ι w0 xs ys → relL ι w0 (xs.drop n) (ys.drop n)
 | [], ys, n, h => by simp only [relL] at h; subst h; simp [relL]
 | x :: xs, ys, 0, h => by simpa using h
 | x :: xs, ys, n + 1, h => by
  simp only [relL] at h
  obtain ⟨y, r, rfl, h1, h⟩ := h
  simpa using relL_drop n h
def one (ys : List Value) : Prop := ∀ v ∈ ys, v.oneCell' = true
theorem one_append {a b : List Value} (h : one a) (k : one b) : one (a ++ b) := fun v hv => (List.mem_append.1 hv).elim (h v) (k v)
theorem one_take {a : List Value} (n : Nat) (h : one a) : one (a.take n) := fun v hv => h v (List.mem_of_mem_take hv)
theorem one_drop {a : List Value} (n : Nat) (h : one a) : one (a.drop n) := fun v hv => h v (List.mem_of_mem_drop hv)
theorem one_of_agg {v : Value} (h : v.oneCell' = true) : v.cells = #[v] := by cases v <;> simp_all [Value.oneCell', Value.cells]
theorem rel_one {x : AV} {y : Value} (h : rel ι w0 x y) (hp : plainV x = true) (hx : ∀ cs, x ≠ .agg cs) : y.oneCell' = true := by
 cases x <;> simp only [rel] at h
 case bool => subst h; rfl
 case int => subst h; rfl
 case str => obtain ⟨_, rfl, _⟩ := h; rfl
 case ptr => obtain ⟨_, _, _, rfl⟩ := h; rfl
 case iptr => obtain ⟨_, rfl, _⟩ := h; rfl
 case nilptr => subst h; rfl
 case slc => obtain ⟨_, _, _, _, _, _, _, _, rfl⟩ := h; rfl
 case isl => obtain ⟨_, _, rfl, _⟩ := h; rfl
 case eslc => obtain ⟨_, _, rfl⟩ := h; rfl
 case nilslc => subst h; rfl
 case map => obtain ⟨_, _, rfl⟩ := h; rfl
 case nilmap => subst h; rfl
 case fn => obtain ⟨_, _, rfl, _⟩ := h; rfl
 case nilfn => subst h; rfl
 case ifc => obtain ⟨_, rfl, _⟩ := h; rfl
 case nilifc => subst h; rfl
 case agg cs => exact absurd rfl (hx cs)
 case tup => simp [plainV] at hp
 case it => obtain ⟨_, _, rfl⟩ := h; rfl
theorem rel_cells {x : AV} {y : Value} (h : rel ι w0 x y) (hp : plainV x = true) : relL ι w0 (cellsOf x) y.cells.toList ∧ one y.cells.toList := by
 by_cases hx : ∃ cs, x = .agg cs
 ·obtain ⟨cs, rfl⟩ := hx
  simp only [rel] at h
  obtain ⟨vs, rfl, h1, h2⟩ := h
  exact ⟨h1, h2⟩
 ·have hx' : ∀ cs, x ≠ .agg cs := fun cs e => hx ⟨cs, e⟩
  have h1 := rel_one h hp hx'
  have hc : cellsOf x = [x] := by cases x <;> simp_all [cellsOf]
  rw [one_of_agg h1, hc]
  refine ⟨by simp only [relL]; exact ⟨y, [], rfl, h, rfl⟩, ?_⟩
  intro v hv
  simp at hv
  subst hv
  exact h1
end
def relM (ι : IM) (w0 : World) : List (AV × AV × Nat) → List MapEntry → Prop
 | [], es => es = []
 | (k, v, n) :: r, es => ∃ e t, es = e :: t ∧ rel ι w0 k e.key ∧ rel ι w0 v e.val ∧ e.born = n ∧ relM ι w0 r t
theorem relM_mono {ι κ : IM} (w0 : World) (h : ι.le κ) : ∀ (x : List (AV × AV × Nat)) (y : List MapEntry), relM ι w0 x y → relM κ w0 x y
 | [], _, r => by simp only [relM] at r ⊢; exact r
 | (k, v, n) :: x, _, r => by
  simp only [relM] at r ⊢
  obtain ⟨e, t, a, b, c, d, f⟩ := r
  exact ⟨e, t, a, rel_mono w0 h _ _ b, rel_mono w0 h _ _ c, d, relM_mono w0 h x t f⟩
def gensOk (ι : IM) (w0 : World) (id : Nat) (vs : List AV) (gen wgen : Nat) (grown : Bool) (w : World) : Prop :=
 ∀ g, wgen ≤ g → g ≤ gen → ∃ p c el fr, ι id g = some p ∧ w.heap[p.block]? = some (.cells c el fr) ∧ (fr.1 < fr.2 → c.size ≤ fr.1) ∧ p.ext ≤ vs.length ∧
  (g = gen → p.ext = vs.length ∧ p.exact = !grown) ∧ p.ext ≤ p.room ∧ p.shift + p.room ≤ c.size ∧
  ∀ j x, j < p.ext → vs[j]? = some x → ∃ y, c[p.shift + j]? = some y ∧ y.oneCell' = true ∧ rel ι w0 x y
def OR (ι : IM) (w0 : World) (id : Nat) : AObj → World → Prop
 | .cells vs gen wgen grown, w => (∀ g, gen < g → ι id g = none) ∧ wgen ≤ gen ∧ gensOk ι w0 id vs gen wgen grown w
 | .map es ck, w => (∀ g, 0 < g → ι id g = none) ∧ ∃ p ces, ι id 0 = some p ∧ w.heap[p.block]? = some (.map ces ck) ∧ relM ι w0 es ces.toList
 | .sit s pos, w => (∀ g, 0 < g → ι id g = none) ∧ ∃ p b, ι id 0 = some p ∧ w.heap[p.block]? = some (.stringIter b pos) ∧ natBytes b = s
 | .mit m since seen last, w => (∀ g, 0 < g → ι id g = none) ∧ ∃ p mb, ι id 0 = some p ∧ w.heap[p.block]? = some (.mapIter mb since seen.toArray last) ∧
   match m with
   | none => mb = none
   | some m => ∃ q, ι m 0 = some q ∧ mb = some q.block
structure SR (ι : IM) (w0 : World) (H : Nat → Option AObj) (nx : Nat) (w : World) : Prop where
 low : Below w0.heap.size w0 w
 obj : ∀ id o, H id = some o → OR ι w0 id o w
 non : ∀ id, H id = none → ∀ g, ι id g = none
 sep : ∀ i j gi gj p q, ι i gi = some p → ι j gj = some q → p.block = q.block → i = j
 fresh : ∀ id, nx ≤ id → H id = none
 blk : ∀ id g p, ι id g = some p → w0.heap.size ≤ p.block ∧ p.block < w.heap.size
def FR (ι : IM) (w0 : World) (fr : Fr) (a : Act) : Prop := ∀ t v, fr.get t = some v → rel ι w0 v (a.tmps.getD t undef)
theorem FR_mono {ι κ : IM} {w0 : World} {fr : Fr} {a : Act} (h : ι.le κ) (f : FR ι w0 fr a) : FR κ w0 fr a := fun t v e => rel_mono w0 h _ _ (f t v e)
theorem FR_put {ι : IM} {w0 : World} {fr : Fr} {a : Act} {d : Option Nat} {v : AV} {v' : Value} (f : FR ι w0 fr a) (hv : rel ι w0 v v')
  (hd : ∀ t, d = some t → t < a.tmps.size) : FR ι w0 (putO fr d v) (a.put d v') := by
 intro t u e
 cases d with
 | none => exact f t u e
 | some d =>
  have hlt := hd d rfl
  simp only [putO, Tr.get_set] at e
  simp only [Act.put]
  by_cases h : t = d
  ·subst h
   rw [if_pos rfl] at e
   cases e
   simpa [Array.getD, hlt] using hv
  ·rw [if_neg h] at e
   have := f t u e
   have e2 : (a.tmps.setIfInBounds d v').getD t undef = a.tmps.getD t undef := by
    simp only [Array.getD_eq_getD_getElem?]
    rw [Array.getElem?_setIfInBounds]
    rw [if_neg (fun e => h e.symm)]
   rw [e2]; exact this
end Go.Abs
