/- Each pure operation of the abstract evaluator is the model's: the rest. -/
import Derived.Test.YtiiajdfjnamfcaaGreatAbsOps
set_option autoImplicit false
set_option linter.unusedSimpArgs false
set_option linter.unusedVariables false
namespace Go.Abs
open Go Go.RowKit
section
variable {P : Program} {w : World} {ι : IM} {w0 : World} {fr : Fr} {a : Act}
theorem bnd_any (d d' y : Nat) (u : AV) : bnd d y (some u) = bnd d' y (some u) := by
 cases u <;> try rfl
 rename_i k n
 cases n <;> rfl
theorem bnd_cases {d y r : Nat} {u : Option AV} (h : bnd d y u = some r) : u = none ∧ r = d ∨ ∃ k, u = some (.int k (.ofNat r)) ∧ r ≤ y := by
 cases u with
 | none => simp [bnd] at h; exact .inl ⟨rfl, h.symm⟩
 | some u =>
  right
  cases u <;> simp [bnd] at h
  rename_i k n
  cases n with
  | negSucc => simp at h
  | ofNat i =>
   simp only at h
   cases hz : Nat.ble i y with
   | false => simp [hz] at h
   | true => simp [hz] at h; subst h; exact ⟨k, rfl, Nat.le_of_ble_eq_true hz⟩
theorem bnd_mk {d y r : Nat} {k : IntKind} (h : r ≤ y) : bnd d y (some (.int k (.ofNat r))) = some r := by
 simp only [bnd, Nat.ble_eq_true_of_le h, cond_true]
theorem bnd_le {d y r : Nat} {u : Option AV} (h : bnd d y u = some r) (hd : d ≤ y) : r ≤ y := by
 rcases bnd_cases h with ⟨_, rfl⟩ | ⟨k, _, hr⟩
 ·exact hd
 ·exact hr
theorem bnd_mono {d y y' r : Nat} {u : Option AV} (h : bnd d y u = some r) (hd : y ≤ y') : bnd d y' u = some r := by
 rcases bnd_cases h with ⟨rfl, rfl⟩ | ⟨k, rfl, hr⟩
 ·rfl
 ·exact bnd_mk (by omega)
theorem aslice_sim {sz len : Nat} {x : AV} {x' : Value} {lo hi mx : Option Operand} {vl vh vm : Option AV} {v : AV} {e : TypeId} {t : TypeId} (hu : P.underlying t = some (.slice e)) (hs : sizeT P e = some sz)
  (hx : rel ι w0 x x') (rl : lo = none ∧ vl = none ∨ ∃ o v, lo = some o ∧ vl = some v ∧ rel ι w0 v (a.eval o)) (rh : hi = none ∧ vh = none ∨ ∃ o v, hi = some o ∧ vh = some v ∧ rel ι w0 v (a.eval o))
  (rm : mx = none ∧ vm = none ∨ ∃ o v, mx = some o ∧ vm = some v ∧ rel ι w0 v (a.eval o)) (hmx : mx.isSome = true → hi.isSome = true) (h : aslice sz x vl vh vm = some v) :
  Gives P w ι w0 (Instr.slice t x' (lo.map a.eval) (hi.map a.eval) (mx.map a.eval)) v := by
 have go : ∀ (ad : Option Addr) (n cap m hh l : Nat), x' = .slice ad n cap → (Instr.sliceBounds true n cap (lo.map a.eval) (hi.map a.eval) (mx.map a.eval)).run P w = .ok (l, hh, m) w →
   (Instr.slice t x' (lo.map a.eval) (hi.map a.eval) (mx.map a.eval)).run P w = .ok (.slice (if m = l then ad else ad.map (·.add (l * sz))) (hh - l) (m - l)) w := by
  intro ad n cap m hh l e1 e2
  rw [e1]
  unfold Instr.slice
  simp only [Sem.run_bind, run_underlying hu, Result.andThen_ok, e2, sizeT_run hs, Sem.run_pure]
 cases x <;> simp only [aslice] at h <;> try (simp at h; done)
 case slc id g off len cap sz' =>
  cases hb : Nat.beq sz sz' with
  | false => simp [hb] at h
  | true =>
   have h1 := Nat.eq_of_beq_eq_true hb
   subst h1
   simp only [hb, cond_true] at h
   simp only [rel] at hx
   obtain ⟨p, c, hp, ⟨hext, hxr⟩, hlc, hcc, hroom, hex, ex⟩ := hx
   cases hm : bnd cap cap vm with
   | none => simp [hm] at h
   | some m =>
    cases hh : bnd len m vh with
    | none => simp [hm, hh] at h
    | some hh' =>
     cases hl : bnd 0 hh' vl with
     | none => simp [hm, hh, hl] at h
     | some l =>
      simp only [hm, hh, hl] at h
      have hmle := bnd_le hm (Nat.le_refl _)
      obtain ⟨m', hm', hmm, hmc⟩ : ∃ m', bnd c c vm = some m' ∧ m ≤ m' ∧ (vm = none → m' = c) ∧ True ∧ m' ≤ c ∧ (vm ≠ none → m' = m) := by
       cases vm with
       | none =>
        simp [bnd] at hm
        exact ⟨c, by simp [bnd], by omega, fun _ => rfl, trivial, Nat.le_refl _, by simp⟩
       | some u =>
        have : bnd c c (some u) = some m := by
         rw [bnd_any c cap]; exact bnd_mono hm hcc
        exact ⟨m, this, Nat.le_refl _, by simp, trivial, by omega, fun _ => rfl⟩
      obtain ⟨hmc1, _, hmc2, hmc3⟩ := hmc
      have hh2 := bnd_mono (y' := m') hh hmm
      have hlh : hh' ≤ m := by
       rcases bnd_cases hh with ⟨rfl, rfl⟩ | ⟨k, _, hr⟩
       ·rcases rm with ⟨_, rfl⟩ | ⟨o, u, e1, rfl, _⟩
        ·simp [bnd] at hm; omega
        ·rcases rh with ⟨rfl, _⟩ | ⟨_, _, _, e2, _⟩
         ·rw [e1] at hmx; simp at hmx
         ·simp at e2
       ·exact hr
      have hll := bnd_le hl (Nat.zero_le _)
      have hrun := bounds_run (P := P) (w := w) (isSlice := true) (len := len) (cap := c) hm' hh2 hl rl rh rm hmx
      have hgo := go _ _ _ _ _ _ ex hrun
      cases hb2 : Nat.blt l m with
      | true =>
       simp [hb2] at h
       subst h
       have hlm := blt_lt hb2
       refine ⟨_, hgo, ?_⟩
       have e1 : (l * sz + (hh' - l) * sz) = hh' * sz := by rw [← Nat.add_mul]; congr 1; omega
       have e2 : (l * sz + (m' - l) * sz) = m' * sz := by rw [← Nat.add_mul]; congr 1; omega
       have e3 : m' * sz ≤ c * sz := Nat.mul_le_mul_right sz hmc2
       have hlim : hh' * sz ≤ len * sz ∨ hh' * sz ≤ m * sz := .inr (Nat.mul_le_mul_right sz hlh)
       simp only [rel]
       rw [if_neg (by omega)]
       refine ⟨p, m' - l, hp, ⟨?_, hxr⟩, by omega, by omega, by omega, ?_, ?_⟩
       ·have := Nat.mul_le_mul_right sz hmle
        have e4 : (l * sz + (m - l) * sz) = m * sz := by rw [← Nat.add_mul]; congr 1; omega
        omega
       ·intro he
        have := hex he
        cases vm with
        | none => have := hmc1 rfl; simp [bnd] at hm; omega
        | some u => have := hmc3 (by simp); omega
       ·simp only [Option.map_some]
        rw [add_eq rfl]
        simp; omega
      | false =>
       simp [hb2] at h
       subst h
       refine ⟨_, hgo, ?_⟩
       have hnl : ¬ l < m := fun hh => by rw [Nat.blt_eq.mpr hh] at hb2; simp at hb2
       have : hh' - l = 0 := by omega
       rw [this]
       simp only [rel]
       split
       ·exact ⟨_, _, rfl⟩
       ·exact ⟨_, _, rfl⟩
 case isl cells len sz' =>
  cases hb : (Nat.beq sz sz' && vm.isNone) with
  | false => simp [hb] at h
  | true =>
   simp only [hb, cond_true] at h
   rw [Bool.and_eq_true] at hb
   have h1 := Nat.eq_of_beq_eq_true hb.1
   subst h1
   have hvm : vm = none := by simpa using hb.2
   subst hvm
   simp only [rel] at hx
   obtain ⟨ad, c, ex, hlc, hsp, hbl, hlen, hmem⟩ := hx
   cases hh : bnd len len vh with
   | none => simp [hh] at h
   | some hh' =>
    cases hl : bnd 0 hh' vl with
    | none => simp [hh, hl] at h
    | some l =>
     simp only [hh, hl] at h
     have hh2 := bnd_mono (y' := c) hh hlc
     have hhl := bnd_le hh (Nat.le_refl _)
     have hll := bnd_le hl (Nat.zero_le _)
     have hgo := go _ _ _ _ _ _ ex (bounds_run (P := P) (w := w) (isSlice := true) (len := len) (cap := c) (vm := none) (m := c) (by simp [bnd]) hh2 hl rl rh rm hmx)
     cases hb2 : Nat.blt l len with
     | true =>
      simp [hb2] at h
      subst h
      have hlm := blt_lt hb2
      refine ⟨_, hgo, ?_⟩
      simp only [rel]
      rw [if_neg (by omega)]
      refine ⟨ad.add (l * sz), c - l, rfl, by omega, ?_, ?_, ?_, ?_⟩
      ·rw [add_eq hsp]
      ·rw [add_eq hsp]; exact hbl
      ·have e1 : (l * sz + (hh' - l) * sz) = hh' * sz := by rw [← Nat.add_mul]; congr 1; omega
       have e2 : hh' * sz ≤ len * sz := Nat.mul_le_mul_right sz hhl
       simp; omega
      ·rw [add_eq hsp]; exact memL_take _ (memL_drop _ hmem)
     | false =>
      simp [hb2] at h
      subst h
      refine ⟨_, hgo, ?_⟩
      have hnl : ¬ l < len := fun hh => by rw [Nat.blt_eq.mpr hh] at hb2; simp at hb2
      have : hh' - l = 0 := by omega
      rw [this]
      simp only [rel]
      split
      ·exact ⟨_, _, rfl⟩
      ·exact ⟨_, _, rfl⟩
 case eslc =>
  simp only [rel] at hx
  obtain ⟨ad, c, ex⟩ := hx
  cases hm : bnd 0 0 vm with
  | none => simp [hm] at h
  | some m =>
   cases hh : bnd 0 0 vh with
   | none => simp [hm, hh] at h
   | some hh' =>
    cases hl : bnd 0 0 vl with
    | none => simp [hm, hh, hl] at h
    | some l =>
     simp [hm, hh, hl] at h
     subst h
     have hm0 : m = 0 := by have := bnd_le hm (Nat.le_refl _); omega
     have hh0 : hh' = 0 := by have := bnd_le hh (Nat.le_refl _); omega
     have hl0 : l = 0 := by have := bnd_le hl (Nat.le_refl _); omega
     subst hm0 hh0 hl0
     obtain ⟨m', hm'⟩ : ∃ m', bnd c c vm = some m' := by
      rcases bnd_cases hm with ⟨rfl, _⟩ | ⟨k, rfl, _⟩
      ·exact ⟨c, by simp [bnd]⟩
      ·exact ⟨0, bnd_mk (Nat.zero_le _)⟩
     have hgo := go _ _ _ _ _ _ ex (bounds_run (P := P) (w := w) (isSlice := true) (len := 0) (cap := c) hm' (bnd_mono hh (Nat.zero_le _)) hl rl rh rm hmx)
     refine ⟨_, hgo, ?_⟩
     simp only [rel]
     split
     ·exact ⟨_, _, rfl⟩
     ·exact ⟨_, _, rfl⟩
 case nilslc =>
  simp only [rel] at hx
  cases hm : bnd 0 0 vm with
  | none => simp [hm] at h
  | some m =>
   cases hh : bnd 0 0 vh with
   | none => simp [hm, hh] at h
   | some hh' =>
    cases hl : bnd 0 0 vl with
    | none => simp [hm, hh, hl] at h
    | some l =>
     simp [hm, hh, hl] at h
     subst h
     have hm0 : m = 0 := by have := bnd_le hm (Nat.le_refl _); omega
     have hh0 : hh' = 0 := by have := bnd_le hh (Nat.le_refl _); omega
     have hl0 : l = 0 := by have := bnd_le hl (Nat.le_refl _); omega
     subst hm0 hh0 hl0
     have hgo := go _ _ _ _ _ _ hx (bounds_run (P := P) (w := w) (isSlice := true) (len := 0) (cap := 0) hm hh hl rl rh rm hmx)
     refine ⟨_, hgo, ?_⟩
     simp [rel]
theorem sarr_sim {n sz : Nat} {x : AV} {x' : Value} {lo hi mx : Option Operand} {vl vh vm : Option AV} {v : AV} {e : TypeId} {t : TypeId} (hs : sizeT P e = some sz)
  (hx : rel ι w0 x x') (rl : lo = none ∧ vl = none ∨ ∃ o v, lo = some o ∧ vl = some v ∧ rel ι w0 v (a.eval o)) (rh : hi = none ∧ vh = none ∨ ∃ o v, hi = some o ∧ vh = some v ∧ rel ι w0 v (a.eval o))
  (rm : mx = none ∧ vm = none ∨ ∃ o v, mx = some o ∧ vm = some v ∧ rel ι w0 v (a.eval o)) (hmx : mx.isSome = true → hi.isSome = true) (h : sarr n sz x vl vh vm = some v) :
  (P.underlying t = some (.array n e) → Gives P w ι w0 (Instr.sliceAt t x' (lo.map a.eval) (hi.map a.eval) (mx.map a.eval)) v) ∧
  (∀ arr, P.underlying t = some (.pointer arr) → P.underlying arr = some (.array n e) → Gives P w ι w0 (Instr.sliceAt t x' (lo.map a.eval) (hi.map a.eval) (mx.map a.eval)) v) := by
 cases x <;> simp only [sarr] at h <;> try (simp at h; done)
 case ptr id g off lm =>
  cases hb : Nat.ble (n * sz) lm with
  | false => simp [hb] at h
  | true =>
   simp only [hb, cond_true] at h
   have hb := Nat.le_of_ble_eq_true hb
   simp only [rel] at hx
   obtain ⟨p, hp, hext, ex⟩ := hx
   cases hm : bnd n n vm with
   | none => simp [hm] at h
   | some m =>
    cases hh : bnd n m vh with
    | none => simp [hm, hh] at h
    | some hh' =>
     cases hl : bnd 0 hh' vl with
     | none => simp [hm, hh, hl] at h
     | some l =>
      simp only [hm, hh, hl] at h
      have hmn := bnd_le hm (Nat.le_refl _)
      have hlh : hh' ≤ m := by
       rcases bnd_cases hh with ⟨rfl, rfl⟩ | ⟨k, _, hr⟩
       ·rcases rm with ⟨_, rfl⟩ | ⟨o, u, e1, rfl, _⟩
        ·simp [bnd] at hm; omega
        ·rcases rh with ⟨rfl, _⟩ | ⟨_, _, _, e2, _⟩
         ·rw [e1] at hmx; simp at hmx
         ·simp at e2
       ·exact hr
      have hll := bnd_le hl (Nat.zero_le _)
      have hbr := bounds_run (P := P) (w := w) (isSlice := false) (len := n) (cap := n) hm hh hl rl rh rm hmx
      have fin : ∀ s : Sem Value, s.run P w = .ok (.slice (some (if m = l then (⟨p.block, p.shift + off, none⟩ : Addr) else (⟨p.block, p.shift + off, none⟩ : Addr).add (l * sz))) (hh' - l) (m - l)) w → Gives P w ι w0 s v := by
       intro s hs'
       cases hb2 : Nat.blt l m with
       | true =>
        simp [hb2] at h
        subst h
        have hlm := blt_lt hb2
        refine ⟨_, hs', ?_⟩
        have e1 : (l * sz + (m - l) * sz) = m * sz := by rw [← Nat.add_mul]; congr 1; omega
        have e3 : m * sz ≤ n * sz := Nat.mul_le_mul_right sz hmn
        simp only [rel]
        rw [if_neg (by omega), add_eq rfl]
        refine ⟨p, m - l, hp, ⟨by omega, hext.2⟩, by omega, Nat.le_refl _, by omega, fun _ => rfl, ?_⟩
        ·simp; omega
       | false =>
        simp [hb2] at h
        subst h
        have hnl : ¬ l < m := fun hh => by rw [Nat.blt_eq.mpr hh] at hb2; simp at hb2
        have : hh' - l = 0 := by omega
        refine ⟨_, hs', ?_⟩
        rw [this]
        simp only [rel]
        exact ⟨_, _, rfl⟩
      constructor
      ·intro hu
       apply fin
       rw [ex]
       unfold Instr.sliceAt
       simp only [Sem.run_bind, run_underlying hu, Result.andThen_ok, Instr.sureAddr, Sem.run_pure, hbr, sizeT_run hs]
      ·intro arr hu hu2
       apply fin
       rw [ex]
       unfold Instr.sliceAt
       simp only [Sem.run_bind, run_underlying hu, Result.andThen_ok]
       unfold Instr.slice
       simp only [Sem.run_bind, run_underlying hu, run_underlying hu2, Result.andThen_ok, asAddr, Sem.run_pure, hbr, sizeT_run hs]
end
end Go.Abs
