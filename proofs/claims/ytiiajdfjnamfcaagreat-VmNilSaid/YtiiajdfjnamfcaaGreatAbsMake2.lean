/- Each operation that makes something. -/
import Derived.Test.YtiiajdfjnamfcaaGreatAbsMake
set_option autoImplicit false
set_option linter.unusedSimpArgs false
set_option linter.unusedVariables false
namespace Go.Abs
open Go Go.RowKit
section
variable {P : Program} {w : World} {ι : IM} {w0 : World} {H : Nat → Option AObj} {nx : Nat} {fr : Fr} {a : Act}
theorem makes_ok {s : Sem Value} {Q : Value → World → Prop} (h : ∃ v' w', s.run P w = .ok v' w' ∧ Q v' w') : ∃ v' w', (do let x ← s; pure (Next.value x) : Sem Next).run P w = .ok (.value v') w' ∧ Q v' w' := by
 obtain ⟨y, w', e, r⟩ := h
 exact ⟨y, w', by simp only [Sem.run_bind, e, Result.andThen_ok, Sem.run_pure], r⟩
theorem pushed_rfl (w : World) (o : Obj) : Pushed w { w with heap := w.heap.push o } o := ⟨rfl, rfl, rfl, rfl⟩
theorem newRow_run (e : TypeId) (c : Array Value) : (newRow e c).run P w = .ok ⟨w.heap.size, 0, none⟩ { w with heap := w.heap.push (.cells c e) } := by
 simp [newRow]
theorem bytesT_run {t : TypeId} {n : Nat} (h : bytesT P t = some n) : ∃ i, (typeInfo t).run P w = .ok i w ∧ i.bytes = n := by
 unfold bytesT at h
 cases hi : P.info? t with
 | none => rw [hi] at h; simp at h
 | some i => rw [hi] at h; simp at h; exact ⟨i, run_typeInfo w hi, h⟩
theorem zerosT_run {t : TypeId} {zs : List AV} (h : zerosT P t = some zs) : ∃ z n, (zeroValue t).run P w = .ok z w ∧ sizeT P t = some n ∧ zs.length = n ∧ relL ι w0 zs z.cells.toList ∧ one z.cells.toList := by
 unfold zerosT at h
 cases hz : zeroT P t with
 | none => simp [hz] at h
 | some z =>
  cases hs : sizeT P t with
  | none => simp [hz, hs] at h
  | some n =>
   simp only [hz, hs] at h
   split at h
   ·rename_i hl
    simp at h
    subst h
    obtain ⟨z', a1, a2, a3⟩ := zeroT_run (w := w) hz
    obtain ⟨a4, a5⟩ := rel_cells (constV_rel (ι := ι) (w0 := w0) a2) a3
    exact ⟨z', n, a1, rfl, hl, a4, a5⟩
   ·simp at h
theorem elemT_und {t e : TypeId} (h : elemT P t = some e) : P.underlying t = some (.slice e) := by
 unfold elemT at h
 split at h
 ·rename_i e' hu; simp at h; subst h; exact hu
 ·simp at h
theorem mark_run (w1 : World) (c : Array Value) (e : TypeId) :
  (markStringish ⟨w1.heap.size, 0, none⟩).run P { w1 with heap := w1.heap.push (.cells c e) } = .ok () { w1 with heap := w1.heap.push (.cells c e (c.size, c.size + 1)) } := by
 unfold markStringish
 have h1 : ({ w1 with heap := w1.heap.push (.cells c e) } : World).shape? w1.heap.size = some (e, c.size) := by simp [World.shape?]
 simp only [Sem.run_bind, run_shape, Result.andThen_ok, h1, run_freeze]
 congr 1
 unfold World.freeze
 simp only [Nat.one_ne_zero, if_false]
 congr 1
 apply Array.ext
 ·simp
 ·intro i hi1 hi2
  simp at hi1 hi2
  rw [Array.getElem_modify]
  by_cases hh : i = w1.heap.size
  ·subst hh
   simp
  ·simp [Array.getElem_push, hh, show i < w1.heap.size by omega, Ne.symm hh]
set_option maxHeartbeats 4000000 in
theorem amake_sim {o : Oper} {lo : LOp} {ob : AObj} {v : AV} {id : Nat} (hc : compOp P o.op = some (.a lo)) (hf : FR ι w0 fr a) (hs : SR ι w0 H nx w) (hn : H id = none) (hid : id < nx) (h : amake fr id lo = some (ob, v)) :
  ∃ v' w', (execOp a.eval o).run P w = .ok (.value v') w' ∧ ∃ κ, ι.le κ ∧ rel κ w0 v v' ∧ SR κ w0 (upd H id ob) nx w' := by
 have ex : ∀ (op : Op), o.op = op → execOp a.eval o = execOp a.eval { o with op := op } := fun op e => by rw [← e]
 cases ho : o.op <;> rw [ho] at hc <;> rw [ex _ ho]
 case alloc e =>
  obtain ⟨z, hz, hlo⟩ := map_some hc
  cases hlo
  simp [amake] at h
  obtain ⟨rfl, rfl⟩ := h
  obtain ⟨z', a1, a2, a3⟩ := zeroT_run (w := w) hz
  obtain ⟨a4, a5⟩ := rel_cells (constV_rel (ι := ι) (w0 := w0) a2) a3
  have hl := relL_length a4
  refine makes_ok (s := Instr.alloc e true (.tuple #[])) ⟨.pointer (some ⟨w.heap.size, 0, none⟩), { w with heap := w.heap.push (.cells z'.cells e) }, ?_, ?_⟩
  ·unfold Instr.alloc
   simp only [Sem.run_bind, a1, Result.andThen_ok]
   simp [newVar, newRow]
  ·obtain ⟨κ, p, b1, b2, b3, b4⟩ := SR_cells (vs := cellsOf z) (grown := false) (nx' := nx) hs hn hid (Nat.le_refl _) (pushed_rfl w (.cells z'.cells e)) (by simp) (by simp at hl; omega) (by rw [hl, List.take_length]; exact a4) a5
   refine ⟨κ, b1, ?_, b4⟩
   simp only [rel]
   subst b3
   exact ⟨_, b2, ⟨by simp, by simp at hl ⊢; omega⟩, by simp⟩
 case box e x =>
  obtain ⟨x1, hx, hlo⟩ := map_some hc
  cases hlo
  simp only [amake] at h
  cases hv : x1.ev fr with
  | none => simp [hv] at h
  | some u =>
   simp only [hv] at h
   cases hp : plainV u with
   | false => simp [hp] at h
   | true =>
    simp [hp] at h
    obtain ⟨rfl, rfl⟩ := h
    obtain ⟨a4, a5⟩ := rel_cells (ev_sim hx hf hv) hp
    have hl := relL_length a4
    refine makes_ok (s := Instr.box e (a.eval x)) ⟨.pointer (some ⟨w.heap.size, 0, none⟩), { w with heap := w.heap.push (.cells (a.eval x).cells e) }, ?_, ?_⟩
    ·unfold Instr.box
     simp [newVar, newRow]
    ·obtain ⟨κ, p, b1, b2, b3, b4⟩ := SR_cells (vs := cellsOf u) (grown := false) (nx' := nx) hs hn hid (Nat.le_refl _) (pushed_rfl w (.cells (a.eval x).cells e)) (by simp) (by simp at hl; omega) (by rw [hl, List.take_length]; exact a4) a5
     refine ⟨κ, b1, ?_, b4⟩
     simp only [rel]
     subst b3
     exact ⟨_, b2, ⟨by simp, by simp at hl ⊢; omega⟩, by simp⟩
 case buildSlice t len parts =>
  simp only [compOp] at hc
  cases he : elemT P t with
  | none => simp [he] at hc
  | some e =>
   simp only [he] at hc
   cases h1 : sizeT P e with
   | none => simp [h1] at hc
   | some n =>
    cases h2 : zerosT P e with
    | none => simp [h1, h2] at hc
    | some zs =>
     simp only [h1, h2] at hc
     split at hc
     ·simp at hc
     ·rename_i hcond
      obtain ⟨l, hl, hlo⟩ := map_some hc
      cases hlo
      simp only [amake] at h
      cases hfa : fillA fr (rep zs len) l with
      | none => simp [hfa] at h
      | some cs =>
       simp [hfa] at h
       obtain ⟨rfl, rfl⟩ := h
       obtain ⟨z, n', c1, c2, c3, c4, c5⟩ := zerosT_run (w := w) (ι := ι) (w0 := w0) h2
       rw [h1] at c2
       cases c2
       have hzl : z.cells.size = n := by have := relL_length c4; simp at this; omega
       have hn0 : n ≠ 0 := fun e => hcond (.inr e)
       have hle : ¬ (len * n > 2 ^ 24) := fun e => hcond (.inl (by simpa using e))
       obtain ⟨d1, d2⟩ := rep_rel (n := len) c4 c5 (by omega)
       rw [hzl] at d1 d2
       obtain ⟨cs', e1, e2, e3⟩ := fill_sim (place := fun i => some (i * n, n)) (partsA_forall hl) hf d1 d2 hfa
       have hcl : cs.length = len * n := by
        have f1 := relL_length e2
        have : ∀ (l : List (Nat × Nat × AO)) (zs cs : List AV), fillA fr zs l = some cs → cs.length = zs.length := by
         intro l
         induction l with
         | nil => intro zs cs hh; simp [fillA] at hh; rw [hh]
         | cons q l ih =>
          intro zs cs hh
          obtain ⟨off, size, y⟩ := q
          simp only [fillA] at hh
          cases hy : y.ev fr with
          | none => simp [hy] at hh
          | some u =>
           simp only [hy] at hh
           cases hb : (plainV u && Nat.beq (cellsOf u).length size && Nat.ble (off + size) zs.length) with
           | false => simp [hb] at hh
           | true =>
            simp only [hb, cond_true] at hh
            rw [Bool.and_eq_true, Bool.and_eq_true] at hb
            have q1 := Nat.eq_of_beq_eq_true hb.1.2
            have q2 := Nat.le_of_ble_eq_true hb.2
            rw [ih _ _ hh, setSeg_length (by omega)]
        rw [this l _ _ hfa, rep_length, c3]
       have hcs : cs'.size = len * n := by have := relL_length e2; simp at this; omega
       have hparts : (parts.map fun (x : Nat × Operand) => (x.1, a.eval x.2)).toList = parts.toList.map fun (x : Nat × Operand) => (x.1, a.eval x.2) := by simp
       refine makes_ok (s := Instr.buildSlice t len (parts.map fun (i, x) => (i, a.eval x))) ⟨.slice (some ⟨w.heap.size, 0, none⟩) len len, { w with heap := w.heap.push (.cells cs' e) }, ?_, ?_⟩
       ·unfold Instr.buildSlice
        simp only [Sem.run_bind, run_underlying (elemT_und he), Result.andThen_ok, sizeT_run h1]
        rw [if_neg hle]
        by_cases h0 : len * n = 0
        ·have hl0 : len = 0 := by
          rcases Nat.mul_eq_zero.1 h0 with q | q
          ·exact q
          ·exact absurd q hn0
         subst hl0
         simp only [h0, if_true, Sem.run_pure, Sem.run_bind, Result.andThen_ok, hparts]
         have : (Array.map (fun x => (#[] : Array Value)[x % (#[] : Array Value).size]!) (Array.range 0)) = Array.map (fun x => z.cells[x % n]!) (Array.range (0 * n)) := by simp
         rw [this, e1]
         simp [newRow]
        ·simp only [h0, if_false, Sem.run_bind, c1, Result.andThen_ok, Sem.run_pure, hparts, hzl, e1]
         simp [newRow]
       ·obtain ⟨κ, p, b1, b2, b3, b4⟩ := SR_cells (vs := cs) (grown := false) (nx' := nx) hs hn hid (Nat.le_refl _) (pushed_rfl w (.cells cs' e)) (by simp) (by omega) (by rw [hcl, ← hcs, List.take_of_length_le (by simp)]; exact e2) e3
        refine ⟨κ, b1, ?_, b4⟩
        simp only [rel]
        subst b3
        exact ⟨_, len, b2, ⟨by simp; omega, by simp; omega⟩, Nat.le_refl _, Nat.le_refl _, by simp; omega, fun _ => rfl, by simp⟩
 case makeMap t r =>
  cases r with
  | some r => simp [compOp] at hc
  | none =>
   simp [compOp] at hc
   subst hc
   simp [amake] at h
   obtain ⟨rfl, rfl⟩ := h
   refine makes_ok (s := Instr.makeMap t none) ⟨.map (some w.heap.size), { w with heap := w.heap.push (.map #[] 0) }, ?_, ?_⟩
   ·unfold Instr.makeMap
    simp
   ·obtain ⟨κ, p, b1, b2, b3, b4⟩ := SR_other (o := .map [] 0) (nx' := nx) hs hn hid (Nat.le_refl _) (pushed_rfl w (.map #[] 0)) (by
     intro κ hk hg ⟨q, hq, hq2⟩ hw
     exact ⟨hg, q, #[], hq2, by rw [hq]; exact hw, by simp [relM]⟩)
    refine ⟨κ, b1, ?_, b4⟩
    simp only [rel]
    subst b3
    exact ⟨_, b2, rfl⟩
 case makeSlice t l c =>
  simp only [compOp] at hc
  cases he : elemT P t with
  | none => simp [he] at hc
  | some e =>
   cases hl : compO l with
   | none => simp [he, hl] at hc
   | some l1 =>
    cases hcc : compO c with
    | none => simp [he, hl, hcc] at hc
    | some c1 =>
     simp only [he, hl, hcc] at hc
     cases h1 : sizeT P e with
     | none => simp [h1] at hc
     | some n =>
      cases h3 : bytesT P e with
      | none => simp [h1, h3] at hc
      | some by' =>
       cases h2 : zerosT P e with
       | none => simp [h1, h2, h3] at hc
       | some zs =>
        simp only [h1, h2, h3] at hc
        split at hc
        ·simp at hc
        ·rename_i hn0
         simp at hc
         subst hc
         simp only [amake] at h
         have nat : ∀ (u : Option AV) (m : Nat), natOf u = some m → ∃ k, u = some (.int k (.ofNat m)) := by
          intro u m hu
          unfold natOf at hu
          split at hu
          ·simp at hu; subst hu; exact ⟨_, rfl⟩
          ·simp at hu
         cases q1 : natOf (l1.ev fr) with
         | none => simp [q1] at h
         | some L =>
          cases q2 : natOf (c1.ev fr) with
          | none => simp [q1, q2] at h
          | some C =>
           simp only [q1, q2] at h
           cases hb : (Nat.ble L C && Nat.ble (C * (by' + 1)) lim) with
           | false => simp [hb] at h
           | true =>
            simp [hb] at h
            obtain ⟨rfl, rfl⟩ := h
            rw [Bool.and_eq_true] at hb
            have hLC := Nat.le_of_ble_eq_true hb.1
            have hCb := Nat.le_of_ble_eq_true hb.2
            obtain ⟨k1, e1⟩ := nat _ _ q1
            obtain ⟨k2, e2⟩ := nat _ _ q2
            have r1 := int_ofNat (ev_sim hl hf e1)
            have r2 := int_ofNat (ev_sim hcc hf e2)
            obtain ⟨z, n', c1', c2, c3, c4, c5⟩ := zerosT_run (w := w) (ι := ι) (w0 := w0) h2
            rw [h1] at c2
            cases c2
            obtain ⟨inf, i1, i2⟩ := bytesT_run (w := w) h3
            have hzl : z.cells.size = n := by have := relL_length c4; simp at this; omega
            obtain ⟨d1, d2⟩ := rep_rel (n := C) c4 c5 (by omega)
            rw [hzl] at d1 d2
            have hrl : (rep zs C).length = C * n := by rw [rep_length, c3]
            have hCl : C ≤ lim := Nat.le_trans (Nat.le_mul_of_pos_right C (by omega)) hCb
            have hw1 : IntKind.i64.wrap (L : Int) = L := wrap_nat (k := .i64) (by simp [top, lim] at *; omega)
            have hw2 : IntKind.i64.wrap (C : Int) = C := wrap_nat (k := .i64) (by simp [top, lim] at *; omega)
            have hCb2 : by' * C ≤ lim := by rw [Nat.mul_comm]; exact Nat.le_trans (Nat.mul_le_mul_left C (by omega)) hCb
            refine makes_ok (s := Instr.makeSlice t (a.eval l) (a.eval c)) ⟨.slice (some ⟨w.heap.size, 0, none⟩) L C, { w with heap := w.heap.push (.cells ((Array.range (C * n)).map (z.cells[· % n]!)) e) }, ?_, ?_⟩
            ·rw [r1, r2]
             unfold Instr.makeSlice
             simp only [Sem.run_bind, run_underlying (elemT_und he), Result.andThen_ok, asInt, asIntOf, Sem.run_pure, i1, i2, hw1, hw2]
             have t1 : ¬ ((by' : Int) * (C : Int) > 2 ^ 48) := by
              have : ((by' * C : Nat) : Int) ≤ (lim : Int) := by exact_mod_cast hCb2
              simp [lim] at this ⊢
              omega
             have t2 : ¬ ((C : Int) < 0) := by omega
             have t3 : ¬ ((L : Int) < 0) := by omega
             have t4 : ¬ ((L : Int) > (C : Int)) := by omega
             simp only [t1, t2, t3, t4, decide_false, Bool.or_false, Bool.false_eq_true, if_false]
             simp only [Sem.run_bind, run_askRoom, Result.andThen_ok, sizeT_run h1, Int.toNat_natCast]
             by_cases h0 : C * n = 0
             ·simp only [h0, if_true, Sem.run_pure, Sem.run_bind, Result.andThen_ok]
              have hr0 : Array.range 0 = #[] := rfl
              simp [newRow, hr0]
             ·simp only [h0, if_false, Sem.run_bind, c1', Result.andThen_ok, Sem.run_pure, hzl]
              simp [newRow]
            ·obtain ⟨κ, p, b1, b2, b3, b4⟩ := SR_cells (vs := rep zs C) (grown := false) (nx' := nx) hs hn hid (Nat.le_refl _) (pushed_rfl w (.cells ((Array.range (C * n)).map (z.cells[· % n]!)) e)) (by simp) (by simp; omega)
              (by rw [List.take_of_length_le (by simp; omega)]; exact d1) d2
             refine ⟨κ, b1, ?_, b4⟩
             simp only [rel]
             subst b3
             exact ⟨_, C, b2, ⟨by simp; omega, by simp; omega⟩, hLC, Nat.le_refl _, by simp, fun _ => rfl, by simp⟩
 case convert sT dT x =>
  simp only [compOp, compConv] at hc
  cases hx : compO x with
  | none => simp [hx] at hc
  | some x1 =>
   simp only [hx] at hc
   split at hc <;> try (simp at hc; done)
   ·split at hc <;> simp at hc
   ·rename_i e h2 h3
    split at hc
    ·rename_i h4
     split at hc
     ·rename_i h5
      simp at hc
      subst hc
      simp only [amake] at h
      split at h
      ·rename_i s hv
       cases hb : Nat.ble s.length lim with
       | false => simp [hb] at h
       | true =>
        simp [hb] at h
        obtain ⟨rfl, rfl⟩ := h
        have r := ev_sim hx hf hv
        simp only [rel] at r
        obtain ⟨b, er, rfl⟩ := r
        refine makes_ok (s := convert sT dT (a.eval x)) ?_
        rw [er]
        have hconv : (convert sT dT (.string b)).run P w = (Conv.stringToBytes e b).run P w := by
         unfold convert
         simp only [Sem.run_bind, run_underlying h2, run_underlying h3, Result.andThen_ok, run_underlying h4]
        rw [hconv]
        unfold Conv.stringToBytes
        have hch : ∃ C, b.size ≤ C ∧ ∃ w1 : World, (choose (.appendCap b.size 0 e)).run P w = .ok C w1 ∧ w1.heap = w.heap ∧ w1.os = w.os ∧ w1.tape = w.tape ∧ w1.output = w.output := by
         refine ⟨b.size + w.tape w.drawn (.appendCap b.size 0 e) % (2 ^ 63 - b.size), by omega, { w with drawn := w.drawn + 1 }, ?_, rfl, rfl, rfl, rfl⟩
         rw [run_choose]
         simp [Question.forced, Question.cut]
        obtain ⟨C, hC, w1, g1, g2, g3, g4, g5⟩ := hch
        simp only [Sem.run_bind, g1, Result.andThen_ok]
        rw [newRow_run]
        simp only [Result.andThen_ok, mark_run, Sem.run_pure]
        refine ⟨_, _, rfl, ?_⟩
        have hsz : (b.data.map (fun c => Value.int .u8 (c.toNat : Int)) ++ Array.replicate (C - b.size) (Value.int .u8 0)).size = C := by
         have : b.data.size = b.size := rfl
         simp; omega
        obtain ⟨κ, p, b1, b2, b3, b4⟩ := SR_cells (vs := (natBytes b).map fun c => .int .u8 (.ofNat c)) (grown := true) (nx' := nx) hs hn hid (Nat.le_refl _)
         (w' := { w1 with heap := w1.heap.push (.cells (b.data.map (fun c => Value.int .u8 (c.toNat : Int)) ++ Array.replicate (C - b.size) (Value.int .u8 0)) e
          ((b.data.map (fun c => Value.int .u8 (c.toNat : Int)) ++ Array.replicate (C - b.size) (Value.int .u8 0)).size, (b.data.map (fun c => Value.int .u8 (c.toNat : Int)) ++ Array.replicate (C - b.size) (Value.int .u8 0)).size + 1)) })
         ⟨by rw [g2], g3, g4, g5⟩ (by simp) (by rw [hsz, List.length_map, natBytes_length]; exact hC) (by
          have e0 : (b.data.map (fun c => Value.int .u8 (c.toNat : Int)) ++ Array.replicate (C - b.size) (Value.int .u8 0)).toList.take ((natBytes b).map fun c => AV.int .u8 (.ofNat c)).length = b.data.toList.map fun c => Value.int .u8 (c.toNat : Int) := by
           rw [List.length_map, natBytes_length, Array.toList_append, List.take_append_of_le_length (by simp), List.take_of_length_le (by simp)]
           simp
          rw [e0]
          apply relL_of_get
          ·simp [natBytes]
          ·intro i x y hx hy
           simp only [natBytes, List.map_map, List.getElem?_map] at hx hy
           cases hz : b.data.toList[i]? with
           | none => rw [hz] at hx; simp at hx
           | some q =>
            rw [hz] at hx hy
            simp at hx hy
            subst hx hy
            simp only [rel]) (by
          intro v hv
          simp at hv
          rcases hv with ⟨q, _, rfl⟩ | ⟨_, rfl⟩ <;> rfl)
        refine ⟨κ, b1, ?_, b4⟩
        simp only [rel]
        subst b3
        rw [g2, List.length_map] at *
        have hnl := natBytes_length b
        exact ⟨_, C, b2, ⟨by simp, by simp only [hsz]; omega⟩, Nat.le_refl _, by omega, by simp only [hsz]; omega, fun hh => by simp at hh, by rw [hnl]⟩
      ·simp at h
     ·simp at hc
    ·simp at hc
 case makeFunc f b c =>
  cases f <;> simp only [compOp] at hc <;> try (simp at hc; done)
  repeat' split at hc
  all_goals simp at hc
 case binOp op t x2 y2 yt =>
  have : (∃ p, compOp P (.binOp op t x2 y2 yt) = some (.p p)) ∨ compOp P (.binOp op t x2 y2 yt) = none := by
   by_cases h1 : op = .eql
   ·subst h1
    cases hq : compEq P false t x2 y2 with
    | none => exact .inr hq
    | some ao => obtain ⟨p, rfl⟩ := compEq_np hq; exact .inl ⟨p, hq⟩
   ·by_cases h2 : op = .neq
    ·subst h2
     cases hq : compEq P true t x2 y2 with
     | none => exact .inr hq
     | some ao => obtain ⟨p, rfl⟩ := compEq_np hq; exact .inl ⟨p, hq⟩
    ·cases op <;> first
      | exact absurd rfl h1
      | exact absurd rfl h2
      | (
        simp only [compOp]
        split
        ·exact .inl ⟨_, rfl⟩
        ·exact .inr rfl)
  rcases this with ⟨p, e⟩ | e <;> rw [e] at hc <;> simp at hc
 case call c =>
  simp only [compOp, compCall] at hc
  split at hc
  ·unfold compBuiltin at hc
   repeat' split at hc
   all_goals simp at hc
  ·simp at hc
  ·obtain ⟨_, _, hpo⟩ := map_some hc
   simp at hpo
  ·split at hc <;> simp at hc
 all_goals first
  | (simp [compOp] at hc; done)
  | (
    simp only [compOp] at hc; repeat' split at hc
    all_goals first | (simp at hc; done) | (obtain ⟨_, _, hpo⟩ := map_some hc; simp at hpo; done))
  | (
    simp only [compOp, compSlice] at hc; repeat' split at hc
    all_goals first | (simp at hc; done) | (obtain ⟨_, _, hpo⟩ := map_some hc; simp at hpo; done))
end
end Go.Abs
