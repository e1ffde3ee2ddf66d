/- A closed call that makes objects, told once, is told everywhere. -/
import Derived.Test.YtiiajdfjnamfcaaGreatAbsRow
set_option autoImplicit false
set_option linter.unusedSimpArgs false
set_option linter.unusedVariables false
namespace Go.Abs
open Go Go.RowKit
mutual
def ren (n : Nat) : AV → AV
 | .ptr id g off lm => .ptr (n + id) g off lm
 | .slc id g off len cap sz => .slc (n + id) g off len cap sz
 | .map id => .map (n + id)
 | .fn f a b => .fn f (renL n a) (renL n b)
 | .ifc t v => .ifc t (ren n v)
 | .agg cs => .agg (renL n cs)
 | .tup cs => .tup (renL n cs)
 | x => x
def renL (n : Nat) : List AV → List AV
 | [] => []
 | x :: xs => ren n x :: renL n xs
end
mutual
def okF (k : Nat → Bool) : AV → Bool
 | .bool _ | .int _ _ | .str _ | .nilptr | .eslc | .nilslc | .nilmap | .nilfn | .nilifc => true
 | .ptr id _ _ _ => k id
 | .slc id _ _ _ _ _ => k id
 | .map id => k id
 | .fn _ a b => okFL k a && okFL k b
 | .ifc _ v => okF k v
 | .agg cs => okFL k cs
 | .tup cs => okFL k cs
 | .iptr _ | .isl _ _ _ | .it _ => false
def okFL (k : Nat → Bool) : List AV → Bool
 | [] => true
 | x :: xs => okF k x && okFL k xs
end
def renO (n : Nat) : AObj → AObj
 | .cells vs gen wgen grown => .cells (renL n vs) gen wgen grown
 | .map es ck => .map (es.map fun e => (ren n e.1, ren n e.2.1, e.2.2)) ck
 | x => x
def okO (k : Nat → Bool) : AObj → Bool
 | .cells vs _ _ _ => okFL k vs
 | .map es _ => es.all fun e => okF k e.1 && okF k e.2.1
 | _ => false
section
variable {κ1 κ : IM} {w0 w1 : World} {k : Nat → Bool} {n : Nat}
mutual
theorem rel_ren (hk : ∀ id g, k id = true → κ (n + id) g = κ1 id g) : ∀ (x : AV) (y : Value), okF k x = true → rel κ1 w1 x y → rel κ w0 (ren n x) y
 | .bool _, _, _, r => by simp only [rel, ren] at r ⊢; exact r
 | .int _ _, _, _, r => by simp only [rel, ren] at r ⊢; exact r
 | .str _, _, _, r => by simp only [rel, ren] at r ⊢; exact r
 | .ptr .., _, o, r => by
  simp only [rel, ren, okF] at r o ⊢
  obtain ⟨p, a, b⟩ := r
  exact ⟨p, (hk _ _ o).trans a, b⟩
 | .iptr _, _, o, _ => by simp [okF] at o
 | .nilptr, _, _, r => by simp only [rel, ren] at r ⊢; exact r
 | .slc .., _, o, r => by
  simp only [rel, ren, okF] at r o ⊢
  obtain ⟨p, c, a, b⟩ := r
  exact ⟨p, c, (hk _ _ o).trans a, b⟩
 | .isl _ _ _, _, o, _ => by simp [okF] at o
 | .eslc, _, _, r => by simp only [rel, ren] at r ⊢; exact r
 | .nilslc, _, _, r => by simp only [rel, ren] at r ⊢; exact r
 | .map _, _, o, r => by
  simp only [rel, ren, okF] at r o ⊢
  obtain ⟨p, a, b⟩ := r
  exact ⟨p, (hk _ _ o).trans a, b⟩
 | .nilmap, _, _, r => by simp only [rel, ren] at r ⊢; exact r
 | .fn _ a b, _, o, r => by
  simp only [rel, ren, okF, Bool.and_eq_true] at r o ⊢
  obtain ⟨a', b', e, f, g⟩ := r
  exact ⟨a', b', e, relL_ren hk a _ o.1 f, relL_ren hk b _ o.2 g⟩
 | .nilfn, _, _, r => by simp only [rel, ren] at r ⊢; exact r
 | .ifc _ v, _, o, r => by
  simp only [rel, ren, okF] at r o ⊢
  obtain ⟨v', e, f⟩ := r
  exact ⟨v', e, rel_ren hk v _ o f⟩
 | .nilifc, _, _, r => by simp only [rel, ren] at r ⊢; exact r
 | .agg cs, _, o, r => by
  simp only [rel, ren, okF] at r o ⊢
  obtain ⟨vs, e, f, g⟩ := r
  exact ⟨vs, e, relL_ren hk cs _ o f, g⟩
 | .tup cs, _, o, r => by
  simp only [rel, ren, okF] at r o ⊢
  obtain ⟨vs, e, f⟩ := r
  exact ⟨vs, e, relL_ren hk cs _ o f⟩
 | .it _, _, o, _ => by simp [okF] at o
theorem relL_ren (hk : ∀ id g, k id = true → κ (n + id) g = κ1 id g) : ∀ (x : List AV) (y : List Value), okFL k x = true → relL κ1 w1 x y → relL κ w0 (renL n x) y
 | [], _, _, r => by simp only [relL, renL] at r ⊢; exact r
 | x :: xs, _, o, r => by
  simp only [relL, renL, okFL, Bool.and_eq_true] at r o ⊢
  obtain ⟨y, t, e, f, g⟩ := r
  exact ⟨y, t, e, rel_ren hk x _ o.1 f, relL_ren hk xs _ o.2 g⟩
end
theorem relM_ren (hk : ∀ id g, k id = true → κ (n + id) g = κ1 id g) : ∀ (x : List (AV × AV × Nat)) (y : List MapEntry), (x.all fun e => okF k e.1 && okF k e.2.1) = true → relM κ1 w1 x y → relM κ w0 (x.map fun e => (ren n e.1, ren n e.2.1, e.2.2)) y
 | [], _, _, r => by simp only [relM, List.map_nil] at r ⊢; exact r
 | (a, v, b) :: x, _, o, r => by
  simp only [relM, List.map_cons, List.all_cons, Bool.and_eq_true] at r o ⊢
  obtain ⟨e, t, h1, h2, h3, h4, h5⟩ := r
  exact ⟨e, t, h1, rel_ren hk a _ o.1.1 h2, rel_ren hk v _ o.1.2 h3, h4, relM_ren hk x t o.2 h5⟩
theorem renL_length : ∀ (xs : List AV), (renL n xs).length = xs.length
 | [] => rfl
 | x :: xs => by simp [renL, renL_length xs]
theorem renL_get : ∀ {xs : List AV} {j : Nat} {x : AV}, (renL n xs)[j]? = some x → ∃ y, xs[j]? = some y ∧ x = ren n y
 | [], j, x, h => by simp [renL] at h
 | y :: xs, 0, x, h => by simp [renL] at h; exact ⟨y, by simp, h.symm⟩
 | y :: xs, j + 1, x, h => by
  simp only [renL, List.getElem?_cons_succ] at h
  obtain ⟨z, h1, h2⟩ := renL_get h
  exact ⟨z, by simpa using h1, h2⟩
theorem okFL_get : ∀ {xs : List AV} {j : Nat} {y : AV}, okFL k xs = true → xs[j]? = some y → okF k y = true
 | [], j, y, _, h => by simp at h
 | x :: xs, 0, y, o, h => by simp only [okFL, Bool.and_eq_true] at o; simp at h; subst h; exact o.1
 | x :: xs, j + 1, y, o, h => by simp only [okFL, Bool.and_eq_true] at o; exact okFL_get o.2 (by simpa using h)
theorem OR_ren (hk : ∀ id g, k id = true → κ (n + id) g = κ1 id g) {id : Nat} {o : AObj} {w : World} (hid : k id = true) (ho : okO k o = true) (h : OR κ1 w1 id o w) : OR κ w0 (n + id) (renO n o) w := by
 cases o with
 | cells vs gen wgen grown =>
  simp only [OR, renO, okO] at h ho ⊢
  obtain ⟨h1, h2, h3⟩ := h
  refine ⟨fun g hg => (hk _ _ hid).trans (h1 g hg), h2, fun g hg1 hg2 => ?_⟩
  obtain ⟨p, c, el, fr, e1, e2, e3, e4, e5, e6, e7, e8⟩ := h3 g hg1 hg2
  refine ⟨p, c, el, fr, (hk _ _ hid).trans e1, e2, e3, by rw [renL_length]; exact e4, by rw [renL_length]; exact e5, e6, e7, fun j x hj hx => ?_⟩
  obtain ⟨y, hy, rfl⟩ := renL_get hx
  obtain ⟨z, z1, z2, z3⟩ := e8 j y hj hy
  exact ⟨z, z1, z2, rel_ren hk y _ (okFL_get ho hy) z3⟩
 | map es ck =>
  simp only [OR, renO, okO] at h ho ⊢
  obtain ⟨h1, p, ces, e1, e2, e3⟩ := h
  exact ⟨fun g hg => (hk _ _ hid).trans (h1 g hg), p, ces, (hk _ _ hid).trans e1, e2, relM_ren hk es _ ho e3⟩
 | sit s pos => simp [okO] at ho
 | mit m since seen last => simp [okO] at ho
end
noncomputable def addO (n : Nat) : List (Nat × AObj) → Tr AObj → Tr AObj
 | [], t => t
 | (id, o) :: r, t => addO n r (t.set (n + id) (some (renO n o)))
theorem addO_old {n : Nat} : ∀ {L : List (Nat × AObj)} {t : Tr AObj} {j : Nat}, j < n → (addO n L t).get j = t.get j
 | [], _, _, _ => rfl
 | (id, o) :: r, t, j, h => by
  simp only [addO]
  rw [addO_old h, Tr.get_set, if_neg (by omega)]
theorem addO_no {n : Nat} : ∀ {L : List (Nat × AObj)} {t : Tr AObj} {j : Nat}, (∀ p, p ∈ L → n + p.1 ≠ j) → (addO n L t).get j = t.get j
 | [], _, _, _ => rfl
 | (id, o) :: r, t, j, h => by
  simp only [addO]
  rw [addO_no fun p hp => h p (List.mem_cons_of_mem _ hp), Tr.get_set, if_neg fun e => h _ List.mem_cons_self e.symm]
theorem addO_new {n : Nat} : ∀ {L : List (Nat × AObj)} {t : Tr AObj} {id : Nat} {o : AObj}, (L.map fun p => p.1).Nodup → (id, o) ∈ L → (addO n L t).get (n + id) = some (renO n o)
 | [], _, _, _, _, h => by cases h
 | (i, x) :: r, t, id, o, hn, h => by
  simp only [List.map_cons, List.nodup_cons] at hn
  simp only [addO]
  rcases List.mem_cons.1 h with e | h
  ·cases e
   rw [addO_no, Tr.get_set, if_pos rfl]
   intro p hp e
   exact hn.1 (List.mem_map.2 ⟨p, hp, by omega⟩)
  ·exact addO_new hn.2 h
theorem addO_none {n : Nat} : ∀ {L : List (Nat × AObj)} {t : Tr AObj} {j : Nat}, (addO n L t).get j = none → t.get j = none
 | [], _, _, h => h
 | (id, o) :: r, t, j, h => by
  simp only [addO] at h
  have := addO_none h
  rw [Tr.get_set] at this
  split at this
  ·cases this
  ·exact this
def sameF : List AV → List AV → Bool
 | [], [] => true
 | .bool a :: r, .bool b :: t => (a == b) && sameF r t
 | .int k a :: r, .int j b :: t => (keq k j && ieq a b) && sameF r t
 | .str a :: r, .str b :: t => neq a b && sameF r t
 | _, _ => false
theorem sameF_eq : ∀ {a b : List AV}, sameF a b = true → a = b ∧ a.all flatV = true
 | [], [], _ => ⟨rfl, rfl⟩
 | .bool a :: r, .bool b :: t, h => by
  simp only [sameF, Bool.and_eq_true, beq_iff_eq] at h
  obtain ⟨e, k⟩ := sameF_eq h.2
  exact ⟨by rw [h.1, e], by simp [flatV, k]⟩
 | .int k a :: r, .int j b :: t, h => by
  simp only [sameF, Bool.and_eq_true] at h
  obtain ⟨e, q⟩ := sameF_eq h.2
  exact ⟨by rw [keq_eq2 h.1.1, ieq_eq2 h.1.2, e], by simp [flatV, q]⟩
 | .str a :: r, .str b :: t, h => by
  simp only [sameF, Bool.and_eq_true] at h
  obtain ⟨e, q⟩ := sameF_eq h.2
  exact ⟨by rw [neq_eq3 h.1, e], by simp [flatV, q]⟩
theorem flat_relL' {ι κ : IM} {w0 w1 : World} : ∀ {xs : List AV} {ys : List Value}, xs.all flatV = true → relL ι w0 xs ys → relL κ w1 xs ys
 | [], ys, _, h => by simp only [relL] at h ⊢; exact h
 | x :: xs, ys, ha, h => by
  simp only [List.all_cons, Bool.and_eq_true] at ha
  simp only [relL] at h ⊢
  obtain ⟨y, r, rfl, h1, h2⟩ := h
  exact ⟨y, r, rfl, flat_rel ha.1 h1, flat_relL' ha.2 h2⟩
noncomputable def standM (a0 : List AV) (v0 : AV) (L : List (Nat × AObj)) (N : Nat) : List AV → St → Option (AV × St) := fun args s => bif sameF a0 args then some (ren s.next v0, ⟨addO s.next L s.objs, s.next + N⟩) else none
def inL (L : List (Nat × AObj)) (id : Nat) : Bool := L.any fun p => Nat.beq p.1 id
theorem inL_iff {L : List (Nat × AObj)} {id : Nat} : inL L id = true ↔ ∃ o, (id, o) ∈ L := by
 simp only [inL, List.any_eq_true]
 constructor
 ·rintro ⟨⟨i, o⟩, h1, h2⟩
  exact ⟨o, by rw [← Nat.eq_of_beq_eq_true h2]; exact h1⟩
 ·rintro ⟨o, h⟩
  exact ⟨_, h, by simp⟩
def shutL (v0 : AV) (L : List (Nat × AObj)) (N : Nat) : Bool := okF (inL L) v0 && L.all (fun p => okO (inL L) p.2 && Nat.blt p.1 N)
theorem standM_sound {P : Program} {g : CallF} (hg : Sound P g) {f : FuncId} {a0 : List AV} {v0 : AV} {L : List (Nat × AObj)} {N : Nat}
  (h : (g f a0 ⟨.e, 0⟩).map (fun r => (r.1, L.map fun p => r.2.objs.get p.1)) = some (v0, L.map fun p => some p.2)) (hsh : shutL v0 L N = true) (hnd : (L.map fun p => p.1).Nodup) : SoundF P f (standM a0 v0 L N) := by
 cases hr : g f a0 ⟨.e, 0⟩ with
 | none => rw [hr] at h; cases h
 | some r =>
 obtain ⟨v1, s1⟩ := r
 rw [hr] at h
 simp only [Option.map_some, Option.some.injEq, Prod.mk.injEq] at h
 obtain ⟨rfl, hL⟩ := h
 have hobj : ∀ id o, (id, o) ∈ L → s1.objs.get id = some o := by
  clear hsh hnd hr
  induction L with
  | nil => intro id o h; cases h
  | cons p L ih =>
   simp only [List.map_cons, List.cons.injEq] at hL
   intro id o h
   rcases List.mem_cons.1 h with e | h
   ·rw [← e] at hL; exact hL.1
   ·exact ih hL.2 id o h
 simp only [shutL, Bool.and_eq_true, List.all_eq_true] at hsh
 intro args s v s' hs
 simp only [standM] at hs
 obtain ⟨hsame, hs⟩ := bif_some hs
 cases hs
 obtain ⟨rfl, hflat⟩ := sameF_eq hsame
 obtain ⟨k1, _, k3⟩ := hg f a0 _ v1 s1 hr
 refine ⟨k1, ⟨Nat.le_add_right _ _, fun j => ⟨fun hj hn => by rw [addO_old hj]; exact hn, addO_none⟩⟩, ?_⟩
 intro ι w0 X w args' hSR hrel
 refine (k3 ι0 w (fun _ => none) w args' (SR_start w) (flat_relL' hflat hrel)).mono ?_
 rintro e w' ⟨v', κ1, rfl, _, r1, r2⟩
 have hold : ∀ id g p, ι id g = some p → id < s.next := by
  intro id g p hp
  rcases Nat.lt_or_ge id s.next with h | h
  ·exact h
  ·rw [hSR.non id (hSR.fresh id h) g] at hp; cases hp
 have hX : ∀ id, s.next ≤ id → s.objs.get id = none ∧ X id = none := by
  intro id h
  have := hSR.fresh id h
  unfold St.view at this
  cases hs : s.objs.get id with
  | none => rw [hs] at this; exact ⟨rfl, this⟩
  | some o => rw [hs] at this; cases this
 let κ : IM := fun id g => if id < s.next then ι id g else if inL L (id - s.next) = true then κ1 (id - s.next) g else none
 have kold : ∀ id g, id < s.next → κ id g = ι id g := fun id g h => if_pos h
 have knew : ∀ id g, inL L id = true → κ (s.next + id) g = κ1 id g := fun id g h => by
  show (if s.next + id < s.next then _ else _) = _
  rw [if_neg (by omega), show s.next + id - s.next = id by omega, if_pos h]
 have kno : ∀ id g, s.next ≤ id → inL L (id - s.next) = false → κ id g = none := fun id g h1 h2 => by
  show (if id < s.next then _ else _) = _
  rw [if_neg (by omega), if_neg (by rw [h2]; simp)]
 have hle : ι.le κ := fun id g p h => (kold id g (hold id g p h)).trans h
 have hnew : ∀ id g p, s.next ≤ id → κ id g = some p → ∃ j, id = s.next + j ∧ inL L j = true ∧ κ1 j g = some p := by
  intro id g p h1 h2
  cases hi : inL L (id - s.next) with
  | true => exact ⟨id - s.next, by omega, hi, by rw [← knew _ _ hi, show s.next + (id - s.next) = id by omega]; exact h2⟩
  | false => rw [kno id g h1 hi] at h2; cases h2
 refine ⟨v', κ, rfl, hle, rel_ren knew v1 v' hsh.1 r1, ?_⟩
 refine ⟨hSR.low.trans (r2.low.mono hSR.low.size), ?_, ?_, ?_, ?_, ?_⟩
 ·intro id o ho
  rcases Nat.lt_or_ge id s.next with hi | hi
  ·have ho' : s.view X id = some o := by
    unfold St.view at ho ⊢
    rw [← ho]
    simp only [addO_old hi]
   exact OR_keep (hSR.obj id o ho') hle (fun g => kold id g hi) (fun g p hp => r2.low.block _ (hSR.blk _ _ _ hp).2)
  ·cases hin : inL L (id - s.next) with
   | true =>
    obtain ⟨o0, hm⟩ := inL_iff.1 hin
    have e : id = s.next + (id - s.next) := by omega
    have hget : (addO s.next L s.objs).get id = some (renO s.next o0) := by rw [e]; exact addO_new hnd hm
    unfold St.view at ho
    simp only [hget, Option.some.injEq] at ho
    rw [← ho, e]
    refine OR_ren knew hin (hsh.2 _ hm).1 (r2.obj _ _ ?_)
    unfold St.view
    rw [hobj _ _ hm]
   | false =>
    have hget : (addO s.next L s.objs).get id = none := by
     rw [addO_no, (hX id hi).1]
     intro p hp e
     have : inL L (id - s.next) = true := inL_iff.2 ⟨p.2, by rw [← e, show s.next + p.1 - s.next = p.1 by omega]; exact hp⟩
     rw [this] at hin; cases hin
    unfold St.view at ho
    simp only [hget, (hX id hi).2] at ho
    cases ho
 ·intro id ho g
  rcases Nat.lt_or_ge id s.next with hi | hi
  ·rw [kold id g hi]
   refine hSR.non id ?_ g
   unfold St.view at ho ⊢
   simp only [addO_old hi] at ho
   exact ho
  ·cases hin : inL L (id - s.next) with
   | true =>
    obtain ⟨o0, hm⟩ := inL_iff.1 hin
    have e : id = s.next + (id - s.next) := by omega
    have hget : (addO s.next L s.objs).get id = some (renO s.next o0) := by rw [e]; exact addO_new hnd hm
    unfold St.view at ho
    simp only [hget] at ho
    cases ho
   | false => exact kno id g hi hin
 ·intro i j gi gj p q hp hq hb
  rcases Nat.lt_or_ge i s.next with hi | hi
  ·rw [kold i gi hi] at hp
   rcases Nat.lt_or_ge j s.next with hj | hj
   ·rw [kold j gj hj] at hq
    exact hSR.sep i j gi gj p q hp hq hb
   ·obtain ⟨j', rfl, _, hq'⟩ := hnew j gj q hj hq
    have h1 := (hSR.blk _ _ _ hp).2
    have h2 := (r2.blk _ _ _ hq').1
    omega
  ·obtain ⟨i', rfl, _, hp'⟩ := hnew i gi p hi hp
   rcases Nat.lt_or_ge j s.next with hj | hj
   ·rw [kold j gj hj] at hq
    have h1 := (hSR.blk _ _ _ hq).2
    have h2 := (r2.blk _ _ _ hp').1
    omega
   ·obtain ⟨j', rfl, _, hq'⟩ := hnew j gj q hj hq
    rw [r2.sep i' j' gi gj p q hp' hq' hb]
 ·intro id hi
  have hi : s.next + N ≤ id := hi
  have hget : (addO s.next L s.objs).get id = none := by
   rw [addO_no, (hX id (by omega)).1]
   intro p hp e
   have := Nat.le_of_ble_eq_true (hsh.2 p hp).2
   omega
  unfold St.view
  simp only [hget, (hX id (by omega)).2]
 ·intro id g p hp
  rcases Nat.lt_or_ge id s.next with hi | hi
  ·rw [kold id g hi] at hp
   exact ⟨(hSR.blk _ _ _ hp).1, Nat.lt_of_lt_of_le (hSR.blk _ _ _ hp).2 r2.low.size⟩
  ·obtain ⟨j', rfl, _, hp'⟩ := hnew id g p hi hp
   exact ⟨Nat.le_trans hSR.low.size (r2.blk _ _ _ hp').1, (r2.blk _ _ _ hp').2⟩
end Go.Abs
namespace Go.Abs
open Go Go.RowKit
def pureT : List (List AV × AV) → List AV → St → Option (AV × St)
 | [], _, _ => none
 | (a, v) :: r, args, s => bif sameF a args then some (v, s) else pureT r args s
theorem pureT_sound {P : Program} {g : CallF} (hg : Sound P g) {f : FuncId} : ∀ {T : List (List AV × AV)}, (T.map fun p => ans (g f p.1 ⟨.e, 0⟩)) = (T.map fun p => some p.2) → (T.all fun p => flatV p.2) = true → SoundF P f (pureT T)
 | [], _, _ => fun args s v s' h => by simp [pureT] at h
 | (a, v0) :: r, h, hv => by
  simp only [List.map_cons, List.cons.injEq, List.all_cons, Bool.and_eq_true] at h hv
  intro args s v s' h'
  simp only [pureT] at h'
  cases hs : sameF a args with
  | false => rw [hs, cond_false] at h'; exact pureT_sound hg h.2 hv.2 args s v s' h'
  | true =>
   rw [hs, cond_true] at h'
   cases h'
   obtain ⟨rfl, hflat⟩ := sameF_eq hs
   obtain ⟨s1, h1⟩ := ans_some h.1
   obtain ⟨k1, _, _⟩ := hg f a _ v0 s1 h1
   refine ⟨k1, Keeps.refl _ _, ?_⟩
   intro ι w0 X w args' hSR hrel
   refine (start_calls (hg.at f) h1 (W := w) (args' := args') (flat_relL' hflat hrel)).mono ?_
   rintro e w' ⟨v', κ, rfl, r1, r2⟩
   exact ⟨v', ι, rfl, IM.le_refl _, flat_rel hv.1 r1, SR_below hSR r2⟩
def tab : List (FuncId × (List AV → St → Option (AV × St))) → FuncId → Option (List AV → St → Option (AV × St))
 | [], _ => none
 | (f, g) :: r, i => bif Nat.beq i f then some g else tab r i
theorem tab_nil {P : Program} : ∀ i k, tab [] i = some k → SoundF P i k := fun i k h => by cases h
theorem tab_cons {P : Program} {f : FuncId} {g : List AV → St → Option (AV × St)} {r : List (FuncId × (List AV → St → Option (AV × St)))} (h : SoundF P f g) (hr : ∀ i k, tab r i = some k → SoundF P i k) : ∀ i k, tab ((f, g) :: r) i = some k → SoundF P i k := by
 intro i k hk
 simp only [tab] at hk
 cases hb : Nat.beq i f with
 | true =>
  rw [hb] at hk
  cases hk
  rw [Nat.eq_of_beq_eq_true hb]
  exact h
 | false => rw [hb] at hk; exact hr i k hk
end Go.Abs
