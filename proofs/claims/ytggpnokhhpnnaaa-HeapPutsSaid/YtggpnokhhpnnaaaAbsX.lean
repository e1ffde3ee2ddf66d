/- Copying within an owned slice; what the next step of a range over a map may be. -/
import Derived.Test.YtggpnokhhpnnaaaAbsW
set_option autoImplicit false
set_option linter.unusedVariables false
set_option linter.unusedSimpArgs false
namespace Go.Abs
open Go
theorem flatten_take {sz : Nat} : ∀ {rows : List (List AV)} {i : Nat}, (∀ r, r ∈ rows → r.length = sz) → rows.flatten.take (i * sz) = (rows.take i).flatten
  | [], i, _ => by simp
  | x :: rs, 0, _ => by simp
  | x :: rs, i + 1, h => by
    have hx := h x (by simp)
    rw [List.flatten_cons, List.take_succ_cons, List.flatten_cons, ← flatten_take (i := i) (fun r hr => h r (List.mem_cons_of_mem _ hr)), Nat.add_mul, Nat.one_mul, Nat.add_comm, ← hx, List.take_length_add_append]
theorem flatten_drop {sz : Nat} : ∀ {rows : List (List AV)} {i : Nat}, (∀ r, r ∈ rows → r.length = sz) → rows.flatten.drop (i * sz) = (rows.drop i).flatten
  | [], i, _ => by simp
  | x :: rs, 0, _ => by simp
  | x :: rs, i + 1, h => by
    have hx := h x (by simp)
    rw [List.flatten_cons, List.drop_succ_cons, ← flatten_drop (i := i) (fun r hr => h r (List.mem_cons_of_mem _ hr)), Nat.add_mul, Nat.one_mul, Nat.add_comm, ← hx, List.drop_length_add_append]
theorem seg_rows {sz i m : Nat} {rows : List (List AV)} (h : ∀ r, r ∈ rows → r.length = sz) (hm : i + m ≤ rows.length) : seg rows.flatten (0 + i * sz) (m * sz) = some ((rows.drop i).take m).flatten := by
  simp only [seg]
  have hl := rows_len h
  have := Nat.mul_le_mul_right sz hm
  rw [Nat.add_mul] at this
  rw [Nat.zero_add, Nat.ble_eq_true_of_le (by omega), cond_true, flatten_drop h, flatten_take fun r hr => h r (List.mem_of_mem_drop hr)]
theorem setSeg_rowsN {sz i : Nat} {rows rs : List (List AV)} (h : ∀ r, r ∈ rows → r.length = sz) (hr : ∀ r, r ∈ rs → r.length = sz) : setSeg rows.flatten (0 + i * sz) rs.flatten = (rows.take i ++ rs ++ rows.drop (i + rs.length)).flatten := by
  simp only [setSeg]
  rw [Nat.zero_add, flatten_take h, rows_len hr, ← Nat.add_mul, flatten_drop h]
  simp
section
variable {P : Program} {nd : Bool} {l : SL} {K : Mem}
theorem aslice_from {sz id g n i : Nat} {k : IntKind} (h : i < n) : aslice sz (.slc id g 0 n n sz) (some (.int k (.ofNat i))) none none = some (.slc id g (0 + i * sz) (n - i) (n - i) sz) := by
  simp only [aslice, bnd]
  rw [show Nat.beq sz sz = true by simp, cond_true, Nat.ble_eq_true_of_le (Nat.le_of_lt h)]
  simp only [cond_true]
  rw [show Nat.blt i n = true from Nat.ble_eq_true_of_le h, cond_true]
theorem aslice_end {sz id g n : Nat} {k : IntKind} : aslice sz (.slc id g 0 n n sz) (some (.int k (.ofNat n))) none none = some .eslc := by
  simp only [aslice, bnd]
  rw [show Nat.beq sz sz = true by simp, cond_true, Nat.ble_eq_true_of_le (Nat.le_refl n)]
  simp only [cond_true]
  rw [show Nat.blt n n = false from ble_no (by omega), cond_false]
theorem Ef.copyS {x y : AO} {sz id g i j m k mc kc : Nat} {rows : List (List AV)} {K' : Mem} (hx : x.evL l = some (.slc id g (0 + j * sz) m mc sz)) (hy : y.evL l = some (.slc id g (0 + i * sz) k kc sz)) (h : ∀ r, r ∈ rows → r.length = sz) (hm : m ≤ k) (h0 : m ≠ 0) (hi : i + m ≤ rows.length) (hj : j + m ≤ rows.length)
    (hK : Upd K id (.cells rows.flatten g g true) (.cells (rows.take j ++ (rows.drop i).take m ++ rows.drop (j + m)).flatten g g true) K') : Ef P l K (.copy sz x y) fun v K2 => v = .int .i64 (.ofNat m) ∧ K2 = K' := by
  have hr : ∀ r, r ∈ (rows.drop i).take m → r.length = sz := fun r hr => h r (List.mem_of_mem_drop (List.mem_of_mem_take hr))
  have hml : ((rows.drop i).take m).length = m := by simp; omega
  have e1 := setSeg_rowsN (i := j) h hr
  rw [hml] at e1
  refine Ef.put hK fun s hs => ?_
  have hn : (bif Nat.ble k m then k else m) = m := by
    by_cases e : k ≤ m
    · rw [Nat.ble_eq_true_of_le e]; simp; omega
    · rw [ble_no e]; rfl
  have hrow : s.row sz m (.slc id g (0 + i * sz) k kc sz) = some ((rows.drop i).take m).flatten := by
    simp only [St.row]
    rw [show (Nat.beq sz sz && Nat.ble m k) = true by rw [Nat.ble_eq_true_of_le hm]; simp, cond_true]
    have : s.cells id g = some rows.flatten := by
      simp only [St.cells, hs]
      rw [Nat.ble_eq_true_of_le (Nat.le_refl g)]; rfl
    rw [this]
    exact seg_rows h hi
  have hw : wr s id g (0 + j * sz) ((rows.drop i).take m).flatten = some (s.put id (.cells (rows.take j ++ (rows.drop i).take m ++ rows.drop (j + m)).flatten g g true)) := by
    rw [wr_some hs, e1]
    rw [rows_len hr, hml, rows_len h, Nat.zero_add, ← Nat.add_mul]
    exact Nat.mul_le_mul_right sz hj
  simp only [aeff, ev_frL, hx, hy, acopy, slen, ilen, hn, hrow]
  rw [beq_no h0, cond_false]
  simp only [show Nat.beq sz sz = true by simp, cond_true, hw]
theorem Ef.copy0 {x y : AO} {sz id g i k kc : Nat} {rows : List (List AV)} (hx : x.evL l = some .eslc) (hy : y.evL l = some (.slc id g (0 + i * sz) k kc sz)) (h : ∀ r, r ∈ rows → r.length = sz) (hi : i ≤ rows.length)
    (hK : InK K id (.cells rows.flatten g g true)) : Ef P l K (.copy sz x y) fun v K2 => v = .int .i64 (.ofNat 0) ∧ K2 = K := by
  refine Ef.zero fun s hs => ?_
  have hn : (bif Nat.ble k 0 then k else 0) = 0 := by
    by_cases e : k ≤ 0
    · rw [Nat.ble_eq_true_of_le e]; simp; omega
    · rw [ble_no e]; rfl
  have hrow : s.row sz 0 (.slc id g (0 + i * sz) k kc sz) = some [] := by
    simp only [St.row]
    rw [show (Nat.beq sz sz && Nat.ble 0 k) = true by rw [Nat.ble_eq_true_of_le (Nat.zero_le k)]; simp, cond_true]
    have : s.cells id g = some rows.flatten := by
      simp only [St.cells, (hs.got _ _ hK).1]
      rw [Nat.ble_eq_true_of_le (Nat.le_refl g)]; rfl
    rw [this]
    have := seg_rows (i := i) (m := 0) h (by omega)
    rw [Nat.zero_mul] at this
    rw [Nat.zero_mul]
    simpa using this
  simp only [aeff, ev_frL, hx, hy, acopy, slen, ilen, hn, hrow]
  rfl
theorem byStamp_at : ∀ {es : List (AV × AV × Nat)} {a v : AV} {n : Nat}, (a, v, n) ∈ es → (es.map fun e => e.2.2).Nodup → byStamp n es = some (a, v)
  | [], _, _, _, h, _ => by cases h
  | (b, w, m) :: r, a, v, n, h, hn => by
    simp only [List.map_cons, List.nodup_cons] at hn
    simp only [byStamp]
    rcases List.mem_cons.1 h with e | h
    · cases e
      rw [show Nat.beq m m = true by simp, cond_true]
    · rw [beq_no (fun e => hn.1 (List.mem_map.2 ⟨(a, v, n), h, e.symm⟩)), cond_false]
      exact byStamp_at h hn.2
theorem Rdk.ment {id m since last : Nat} {seen : List Nat} {es : List (AV × AV × Nat)} {y a v : AV} {n : Nat} (h1 : InK K id (.mit (some m) since (seen ++ [n]) last)) (h2 : InK K m (.map es last)) (he : (a, v, n) ∈ es) (hn : (es.map fun e => e.2.2).Nodup) : Rdk K .ment (.it id) y (.tup [a, v]) := by
  intro s hs
  simp only [aread, (hs.got _ _ h1).1, (hs.got _ _ h2).1]
  rw [show Nat.beq last last = true by simp, cond_true]
  simp only [List.getLast?_append, List.getLast?_singleton, Option.some_or, byStamp_at he hn]
/-- What may come next: an entry that was not yet, or the end when all have been. -/
theorem cands_at {es : List (AV × AV × Nat)} {ck : Nat} {seen : List Nat} (hl : ∀ e, e ∈ es → e.2.2 < ck) : ∃ cs, cands es ck seen ck = some cs ∧ (∀ e, some e ∈ cs → e ∈ es ∧ e.2.2 ∉ seen) ∧ (none ∈ cs → ∀ e, e ∈ es → e.2.2 ∈ seen) := by
  have hc : (!seen.isEmpty && !es.isEmpty && es.all (fun e => Nat.ble ck e.2.2)) = false := by
    cases es with
    | nil => simp
    | cons e r =>
      have : Nat.ble ck e.2.2 = false := ble_no (by have := hl e (by simp); omega)
      simp [this]
  have hnew : (es.filter fun e => !seen.contains e.2.2).filter (fun e => !Nat.blt e.2.2 ck) = [] := by
    rw [List.filter_eq_nil_iff]
    intro e he
    have := hl e (List.mem_filter.1 he |>.1)
    rw [show Nat.blt e.2.2 ck = true from Nat.ble_eq_true_of_le this]
    simp
  have hold : (es.filter fun e => !seen.contains e.2.2).filter (fun e => Nat.blt e.2.2 ck) = es.filter fun e => !seen.contains e.2.2 := by
    rw [List.filter_eq_self]
    intro e he
    exact Nat.ble_eq_true_of_le (hl e (List.mem_filter.1 he |>.1))
  refine ⟨_, by simp only [cands, hc, cond_false]; rfl, ?_, ?_⟩
  · intro e he
    rw [hnew, hold, List.append_nil] at he
    rcases List.mem_append.1 he with h | h
    · cases hb : (es.filter fun e => !seen.contains e.2.2).isEmpty <;> rw [hb] at h <;> simp at h
    · obtain ⟨x, hx, hxe⟩ := List.mem_map.1 h
      cases hxe
      obtain ⟨h1, h2⟩ := List.mem_filter.1 hx
      exact ⟨h1, by simpa using h2⟩
  · intro hn e he
    rw [hnew, hold, List.append_nil] at hn
    rcases List.mem_append.1 hn with h | h
    · cases hb : (es.filter fun e => !seen.contains e.2.2).isEmpty with
      | false => rw [hb] at h; simp at h
      | true =>
        rw [List.isEmpty_iff, List.filter_eq_nil_iff] at hb
        have := hb e he
        simpa using this
    · obtain ⟨x, _, hx⟩ := List.mem_map.1 h
      cases hx
/-- The next step of a range over a map, told by its number. -/
theorem Rg.nextF {x : AO} {os : List AOper} {d : Option Nat} {pre id m since last ck : Nat} {seen : List Nat} {es : List (AV × AV × Nat)} {cs : List (Option (AV × AV × Nat))} {F : Nat → Mem} {Q : SL → Mem → Prop}
    (hx : x.evL l = some (.it id)) (hu : ∀ n, Upd K id (.mit (some m) since seen last) (.mit (some m) since (seen ++ [n]) ck) (F n)) (h2 : InK K m (.map es ck)) (hc : cands es since seen last = some cs)
    (k : ∀ a v n, some (a, v, n) ∈ cs → Rg P true os (putL l d (.tup [.bool true, a, v])) (F n) Q)
    (ke : none ∈ cs → Rg P true os (putL l d (.tup [.bool false])) K Q) : Rg P true (⟨d, .e (.next false x), none, pre⟩ :: os) l K Q := by
  refine Rg.gen fun B i fr s hf hd hB hl hi => ?_
  refine .inr ⟨rfl, id, evL_ev hf hx, m, since, seen, last, es, ck, cs, (hd.got _ _ (hu 0).in).1, (hd.got _ _ h2).1, hc, fun c hcm => ?_⟩
  cases c with
  | none => exact ⟨K, hd, Frm.refl _ _ _, fun j _ _ hj => hj, ke hcm⟩
  | some c =>
    obtain ⟨a, v, n⟩ := c
    obtain ⟨f1, f2⟩ := hd.upd (hu n) B
    exact ⟨F n, f1, f2, fun j _ _ hj => by rw [(hu n).ids]; exact hj, k a v n hcm⟩
end
end Go.Abs
