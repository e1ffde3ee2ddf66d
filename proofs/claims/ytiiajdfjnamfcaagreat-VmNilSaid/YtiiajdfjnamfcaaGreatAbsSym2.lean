/- More rules: regions in a store that has grown, regions that draw, and what lists of names stand for. -/
import Derived.Test.YtiiajdfjnamfcaaGreatAbsOwn
set_option autoImplicit false
set_option linter.unusedSimpArgs false
set_option linter.unusedVariables false
namespace Go.Abs
open Go
section
variable {call : CallF} {id n : Nat} {l : SL} {s : St}
def fillL (l : SL) : List AV → List (Nat × Nat × AO) → Option (List AV)
 | cs, [] => some cs
 | cs, (off, size, x) :: rest =>
  match x.evL l with
  | none => none
  | some v => bif plainV v && Nat.beq (cellsOf v).length size && Nat.ble (off + size) cs.length then fillL l (setSeg cs off (cellsOf v)) rest else none
theorem fillL_eq (l : SL) : ∀ (cs : List AV) (parts : List (Nat × Nat × AO)), fillA (frL l) cs parts = fillL l cs parts
 | cs, [] => rfl
 | cs, (off, size, x) :: rest => by
  simp only [fillA, fillL, ev_frL]
  cases x.evL l with
  | none => rfl
  | some v => simp only [fillL_eq l _ rest]
variable {i : Nat} {pend : List (Nat × AObj)} {effs : List (Nat × St)} {rds : List Rd}
end
mutual
theorem same_refl : ∀ a : AV, AV.same a a = true
 | .bool b => by simp [AV.same]
 | .int k n => by
  have h1 : keq k k = true := by cases k <;> rfl
  have h2 : ieq n n = true := by cases n <;> simp [ieq]
  simp [AV.same, h1, h2]
 | .str s => by simp [AV.same, neq_dec]
 | .ptr a b c d => by simp [AV.same]
 | .iptr a => by simp [AV.same, sames_refl a]
 | .nilptr => rfl
 | .slc a b c d e f => by simp [AV.same]
 | .isl a m n => by simp [AV.same, sames_refl a]
 | .eslc => rfl
 | .nilslc => rfl
 | .map a => by simp [AV.same]
 | .nilmap => rfl
 | .fn f a b => by simp [AV.same, sames_refl a, sames_refl b]
 | .nilfn => rfl
 | .ifc t a => by simp [AV.same, same_refl a]
 | .nilifc => rfl
 | .agg a => by simp [AV.same, sames_refl a]
 | .tup a => by simp [AV.same, sames_refl a]
 | .it a => by simp [AV.same]
theorem sames_refl : ∀ a : List AV, AV.sames a a = true
 | [] => rfl
 | a :: x => by simp [AV.sames, same_refl a, sames_refl x]
end
theorem osame_refl {o : Option AV} {v : AV} (h : o = some v) : osame o v = true := by subst h; exact same_refl v
theorem readsOk_bit {pre j : Nat} {kk : RK} {x y v : AV} {s : St} {rs : List Rd} (h : Nat.testBit pre j = true) (k : readsOk pre s rs = true) : readsOk pre s (⟨j, kk, x, y, v⟩ :: rs) = true := by simp [readsOk, h, k]
theorem readsOk_re {pre : Nat} {s : St} {r : Rd} {rs : List Rd} (h : aread r.k r.x r.y s = some r.v) (k : readsOk pre s rs = true) : readsOk pre s (r :: rs) = true := by simp [readsOk, osame_refl h, k]
theorem effsOk_bit {pre : Nat} {kk : RK} {x y v : AV} {j : Nat} {s : St} {rs : List (Nat × St)} (h : Nat.testBit pre j = true) (k : effsOk pre kk x y v rs = true) : effsOk pre kk x y v ((j, s) :: rs) = true := by simp [effsOk, h, k]
theorem effsOk_re {pre : Nat} {kk : RK} {x y v : AV} {j : Nat} {s : St} {rs : List (Nat × St)} (h : aread kk x y s = some v) (k : effsOk pre kk x y v rs = true) : effsOk pre kk x y v ((j, s) :: rs) = true := by simp [effsOk, osame_refl h, k]
section
variable {call : CallF} {id n i : Nat} {l : SL} {s : St} {pend : List (Nat × AObj)} {effs : List (Nat × St)} {rds : List Rd}
end
theorem wr_some {s : St} {id g w off : Nat} {gr : Bool} {cs vs : List AV} (h : s.objs.get id = some (.cells cs g w gr)) (hl : off + vs.length ≤ cs.length) : wr s id g off vs = some (s.put id (.cells (setSeg cs off vs) g g gr)) := by
 simp only [wr, h]
 rw [show (Nat.beq g g && Nat.ble (off + vs.length) cs.length) = true by rw [Nat.ble_eq_true_of_le hl]; simp]
 rfl
end Go.Abs
