/- Each pure operation of the abstract evaluator is the model's. -/
import Derived.Test.YtiiajdfjnamfcaaGreatAbsPure
set_option autoImplicit false
set_option linter.unusedSimpArgs false
set_option linter.unusedVariables false
namespace Go.Abs
open Go Go.RowKit
section
variable {P : Program} {w : World} {ι : IM} {w0 : World} {fr : Fr} {a : Act}
theorem gives_ok {s : Sem Value} {v : AV} (h : Gives P w ι w0 s v) : ∃ v', (do let x ← s; pure (Next.value x) : Sem Next).run P w = .ok (.value v') w ∧ rel ι w0 v v' := by
 obtain ⟨y, e, r⟩ := h
 exact ⟨y, by simp only [Sem.run_bind, e, Result.andThen_ok, Sem.run_pure], r⟩
theorem map_some {α β : Type} {o : Option α} {f : α → β} {b : β} (h : o.map f = some b) : ∃ x, o = some x ∧ f x = b := by
 cases o with
 | none => simp at h
 | some x => exact ⟨x, rfl, by simpa using h⟩
theorem cell_nospot {w : World} {ad : Addr} {y : Value} (e : w.cell? ad = some y) : w.cell? ⟨ad.block, ad.off, none⟩ = w.cell? ad := by
 cases ad with
 | mk b o s =>
  cases s with
  | none => rfl
  | some s =>
   unfold World.cell? at e
   split at e <;> simp at e
theorem memL_drop : ∀ {cs : List AV} {ad : Addr} (n : Nat), memL ι w0 cs ad → memL ι w0 (cs.drop n) ⟨ad.block, ad.off + n, none⟩
 | [], ad, n, h => by simp [memL]
 | c :: cs, ad, 0, h => by
  simp only [memL] at h
  simp only [List.drop_zero, memL, Nat.add_zero]
  obtain ⟨⟨y, e, f⟩, g⟩ := h
  refine ⟨⟨y, ?_, f⟩, g⟩
  rw [← e]
  exact cell_nospot e
 | c :: cs, ad, n + 1, h => by
  simp only [memL] at h
  have := memL_drop n h.2
  simp only [List.drop_succ_cons]
  rw [show ad.off + (n + 1) = ad.off + 1 + n by omega]
  exact this
theorem memL_take : ∀ {cs : List AV} {ad : Addr} (n : Nat), memL ι w0 cs ad → memL ι w0 (cs.take n) ad
 | [], ad, n, h => by simp [memL]
 | c :: cs, ad, 0, h => by simp [memL]
 | c :: cs, ad, n + 1, h => by
  simp only [memL] at h
  simp only [List.take_succ_cons, memL]
  exact ⟨h.1, memL_take n h.2⟩
theorem g_build {t : TypeId} {parts : Array (Nat × Operand)} {po : POp} {v : AV} (hc : compOp P (.build t parts) = some (.p po)) (hf : FR ι w0 fr a) (h : apure fr po = some v) :
  Gives P w ι w0 (Instr.build t (parts.map fun (i, x) => (i, a.eval x))) v := by
 simp only [compOp] at hc
 cases hz : zeroT P t with
 | none => simp [hz] at hc
 | some z =>
  obtain ⟨z', hz1, hz2, hpz⟩ := zeroT_run (w := w) hz
  have hzr := constV_rel (ι := ι) (w0 := w0) hz2
  obtain ⟨hz3, hz4⟩ := rel_cells hzr hpz
  cases hu : P.underlying t with
  | none => simp [hz, hu] at hc
  | some ty =>
   have hparts : (parts.map fun (x : Nat × Operand) => (x.1, a.eval x.2)).toList = parts.toList.map fun (x : Nat × Operand) => (x.1, a.eval x.2) := by simp
   cases ty <;> simp only [hz, hu] at hc <;> try (simp at hc; done)
   case struct fs =>
    split at hc
    ·rename_i hso
     obtain ⟨l, hl, hpo⟩ := map_some hc
     cases hpo
     simp only [apure] at h
     cases hfa : fillA fr (cellsOf z) l with
     | none => simp [hfa] at h
     | some cs =>
      simp [hfa] at h
      subst h
      obtain ⟨cs', e, f, g⟩ := fill_sim (place := fun i => (fs.map fun f => (f.offset, P.cellsOf f.type))[i]?) (forall_mono (fun p q hq => by
        obtain ⟨⟨f, hf1, hf2, hf3⟩, hq2⟩ := hq
        refine ⟨?_, hq2⟩
        unfold sizeT at hf3
        simp [hf1, hf2, Program.cellsOf, hf3]) (partsS_forall hl)) hf hz3 hz4 hfa
      refine ⟨.agg cs', ?_, by simp only [rel]; exact ⟨cs', rfl, f, g⟩⟩
      unfold Instr.build
      simp only [Sem.run_bind, hz1, Result.andThen_ok, run_underlying hu]
      have hpl := places_run (P := P) (w := w) fs.toList hso
      rw [show (fs.mapM (fun f => do pure (f.offset, ← sizeOf f.type)) : Sem (Array (Nat × Nat))) = List.toArray <$> (fs.toList.mapM (fun f => do pure (f.offset, ← sizeOf f.type))) from Array.mapM_eq_mapM_toList]
      simp only [Sem.run_map, hpl, Result.andThen_ok, hparts]
      have e2 : (List.map (fun f => (f.offset, P.cellsOf f.type)) fs.toList).toArray = fs.map fun f => (f.offset, P.cellsOf f.type) := by
       apply Array.ext'; simp
      rw [e2]
      simp only [e, Sem.run_pure]
    ·simp at hc
   case array n e =>
    cases hs : sizeT P e with
    | none => simp [hs] at hc
    | some sz =>
     simp only [hs] at hc
     obtain ⟨l, hl, hpo⟩ := map_some hc
     cases hpo
     simp only [apure] at h
     cases hfa : fillA fr (cellsOf z) l with
     | none => simp [hfa] at h
     | some cs =>
      simp [hfa] at h
      subst h
      obtain ⟨cs', e', f, g⟩ := fill_sim (place := fun i => some (i * sz, sz)) (partsA_forall hl) hf hz3 hz4 hfa
      refine ⟨.agg cs', ?_, by simp only [rel]; exact ⟨cs', rfl, f, g⟩⟩
      unfold Instr.build
      simp only [Sem.run_bind, hz1, Result.andThen_ok, run_underlying hu, sizeT_run hs, hparts, e', Sem.run_pure]
theorem blt_lt {m n : Nat} (h : Nat.blt m n = true) : m < n := by rwa [Nat.blt_eq] at h
theorem int_ofNat {k : IntKind} {i : Nat} {y : Value} (h : rel ι w0 (.int k (.ofNat i)) y) : y = .int k (i : Int) := by
 simp only [rel] at h
 exact h
theorem g_iadr {t : TypeId} {x i : Operand} {po : POp} {v : AV} (hc : compOp P (.indexAddr t x i) = some (.p po)) (hf : FR ι w0 fr a) (h : apure fr po = some v) :
  Gives P w ι w0 (Instr.indexAt t (a.eval x) (a.eval i)) v := by
 simp only [compOp] at hc
 cases hx : compO x with
 | none => simp [hx] at hc
 | some x1 =>
  cases hi : compO i with
  | none => simp [hx, hi] at hc
  | some i1 =>
   cases hu : P.underlying t with
   | none => simp [hx, hi, hu] at hc
   | some ty =>
    cases ty <;> simp only [hx, hi, hu] at hc <;> try (simp at hc; done)
    case slice e =>
     cases hs : sizeT P e with
     | none => simp [hs] at hc
     | some n =>
      simp only [hs] at hc
      split at hc
      ·simp at hc
      ·simp at hc
       subst hc
       simp only [apure] at h
       split at h
       ·rename_i id g off len cap sz' k j hvx hvi
        have rx := ev_sim hx hf hvx
        have ri := int_ofNat (ev_sim hi hf hvi)
        simp only [rel] at rx
        obtain ⟨p, c, hp, ⟨hext, hroom⟩, hlc, _, _, _, ex⟩ := rx
        cases hb : (Nat.beq n sz' && Nat.blt j len) with
        | false => simp [hb] at h
        | true =>
         simp [hb] at h
         subst h
         rw [Bool.and_eq_true] at hb
         have h1 := Nat.eq_of_beq_eq_true hb.1
         have h2 : j < len := blt_lt hb.2
         subst h1
         refine ⟨.pointer (some ((⟨p.block, p.shift + off, none⟩ : Addr).add (j * n))), ?_, ?_⟩
         ·rw [ex, ri]
          unfold Instr.indexAt
          simp only [Sem.run_bind, asIntOf, Sem.run_pure, Result.andThen_ok, run_underlying hu]
          rw [if_pos ⟨by simp, by simpa using h2⟩]
          simp only [Sem.run_bind, sizeT_run hs, Result.andThen_ok, Sem.run_pure, Int.toNat_natCast]
         ·simp only [rel]
          refine ⟨p, hp, ⟨?_, hroom⟩, ?_⟩
          ·have : (j + 1) * n ≤ len * n := Nat.mul_le_mul_right n h2
           have e : (j + 1) * n = j * n + n := Nat.succ_mul j n
           have := Nat.mul_le_mul_right n hlc
           omega
          ·unfold Addr.add
           split
           ·rename_i hz; simp [hz]
           ·simp; omega
       ·rename_i cells len sz' k j hvx hvi
        have rx := ev_sim hx hf hvx
        have ri := int_ofNat (ev_sim hi hf hvi)
        simp only [rel] at rx
        obtain ⟨ad, c, ex, hlc, hsp, hbl, hlen, hmem⟩ := rx
        cases hb : (Nat.beq n sz' && Nat.blt j len) with
        | false => simp [hb] at h
        | true =>
         simp [hb] at h
         subst h
         rw [Bool.and_eq_true] at hb
         have h1 := Nat.eq_of_beq_eq_true hb.1
         have h2 : j < len := blt_lt hb.2
         subst h1
         refine ⟨.pointer (some (ad.add (j * n))), ?_, ?_⟩
         ·rw [ex, ri]
          unfold Instr.indexAt
          simp only [Sem.run_bind, asIntOf, Sem.run_pure, Result.andThen_ok, run_underlying hu]
          rw [if_pos ⟨by simp, by simpa using h2⟩]
          simp only [Sem.run_bind, sizeT_run hs, Result.andThen_ok, Sem.run_pure, Int.toNat_natCast]
         ·simp only [rel]
          refine ⟨_, rfl, ?_, ?_, ?_⟩
          ·unfold Addr.add; split
           ·exact hsp
           ·rfl
          ·unfold Addr.add; split <;> exact hbl
          ·have := memL_take n (memL_drop (j * n) hmem)
           have ea : (ad.add (j * n)) = ⟨ad.block, ad.off + j * n, none⟩ := by
            unfold Addr.add
            split
            ·rename_i hz
             cases ad
             simp at hsp
             simp [hz, hsp]
            ·rfl
           rw [ea]
           exact this
       ·simp at h
    case array len e =>
     cases hs : sizeT P e with
     | none => simp [hs] at hc
     | some n =>
      simp only [hs] at hc
      split at hc
      ·simp at hc
      ·simp at hc
       subst hc
       simp only [apure] at h
       split at h
       ·rename_i id g off lm k j hvx hvi
        have rx := ev_sim hx hf hvx
        have ri := int_ofNat (ev_sim hi hf hvi)
        simp only [rel] at rx
        obtain ⟨p, hp, hext, ex⟩ := rx
        cases hb : (Nat.ble (len * n) lm && Nat.blt j len) with
        | false => simp [hb] at h
        | true =>
         simp [hb] at h
         subst h
         rw [Bool.and_eq_true] at hb
         have h1 := Nat.le_of_ble_eq_true hb.1
         have h2 : j < len := blt_lt hb.2
         refine ⟨.pointer (some ((⟨p.block, p.shift + off, none⟩ : Addr).add (j * n))), ?_, ?_⟩
         ·rw [ex, ri]
          unfold Instr.indexAt
          simp only [Sem.run_bind, asIntOf, Sem.run_pure, Result.andThen_ok, run_underlying hu, Instr.sureAddr]
          rw [if_pos ⟨by simp, by simpa using h2⟩]
          simp only [Sem.run_bind, sizeT_run hs, Result.andThen_ok, Sem.run_pure, Int.toNat_natCast]
         ·simp only [rel]
          refine ⟨p, hp, ⟨?_, hext.2⟩, ?_⟩
          ·have : (j + 1) * n ≤ len * n := Nat.mul_le_mul_right n h2
           have e : (j + 1) * n = j * n + n := Nat.succ_mul j n
           omega
          ·unfold Addr.add
           split
           ·rename_i hz; simp [hz]
           ·simp; omega
       ·rename_i cells k j hvx hvi
        have rx := ev_sim hx hf hvx
        have ri := int_ofNat (ev_sim hi hf hvi)
        simp only [rel] at rx
        obtain ⟨ad, ex, hsp, hbl, hmem⟩ := rx
        cases hb : (Nat.ble (len * n) cells.length && Nat.blt j len) with
        | false => simp [hb] at h
        | true =>
         simp [hb] at h
         subst h
         rw [Bool.and_eq_true] at hb
         have h2 : j < len := blt_lt hb.2
         refine ⟨.pointer (some (ad.add (j * n))), ?_, ?_⟩
         ·rw [ex, ri]
          unfold Instr.indexAt
          simp only [Sem.run_bind, asIntOf, Sem.run_pure, Result.andThen_ok, run_underlying hu, Instr.sureAddr]
          rw [if_pos ⟨by simp, by simpa using h2⟩]
          simp only [Sem.run_bind, sizeT_run hs, Result.andThen_ok, Sem.run_pure, Int.toNat_natCast]
         ·simp only [rel]
          refine ⟨_, rfl, ?_, ?_, ?_⟩
          ·unfold Addr.add; split
           ·exact hsp
           ·rfl
          ·unfold Addr.add; split <;> exact hbl
          ·have := memL_take n (memL_drop (j * n) hmem)
           have ea : (ad.add (j * n)) = ⟨ad.block, ad.off + j * n, none⟩ := by
            unfold Addr.add
            split
            ·rename_i hz
             cases ad
             simp at hsp
             simp [hz, hsp]
            ·rfl
           rw [ea]
           exact this
       ·simp at h
theorem fieldPlace_run {ad : Addr} {f : Field} {n : Nat} (hs : sizeT P f.type = some n) (hn : n ≠ 0) : (fieldPlace ad f).run P w = .ok (ad.add f.offset) w := by
 simp only [fieldPlace, Sem.run_bind, sizeT_run hs, Result.andThen_ok, hn, if_false, Sem.run_pure]
theorem add_eq {ad : Addr} {n : Nat} (h : ad.spot = none) : ad.add n = ⟨ad.block, ad.off + n, none⟩ := by
 unfold Addr.add
 split
 ·rename_i hz
  cases ad
  simp at h
  simp [hz, h]
 ·rfl
theorem g_fadr {t : TypeId} {x : Operand} {f : Nat} {po : POp} {v : AV} (hc : compOp P (.fieldAddr t x f) = some (.p po)) (hf : FR ι w0 fr a) (h : apure fr po = some v) :
  Gives P w ι w0 (Instr.fieldAt t (a.eval x) f) v := by
 simp only [compOp] at hc
 cases hx : compO x with
 | none => simp [hx] at hc
 | some x1 =>
  cases hu : P.underlying t with
  | none => simp [hx, hu] at hc
  | some ty =>
   cases ty <;> simp only [hx, hu] at hc <;> try (simp at hc; done)
   case struct fs =>
    cases hfd : fs[f]? with
    | none => simp [hfd] at hc
    | some fd =>
     simp only [hfd] at hc
     cases hs : sizeT P fd.type with
     | none => simp [hs] at hc
     | some n =>
      simp only [hs] at hc
      split at hc
      ·simp at hc
      ·rename_i hn
       simp at hc
       subst hc
       simp only [apure] at h
       split at h
       ·rename_i id g o lm hvx
        have rx := ev_sim hx hf hvx
        simp only [rel] at rx
        obtain ⟨p, hp, hext, ex⟩ := rx
        cases hb : Nat.ble (fd.offset + n) lm with
        | false => simp [hb] at h
        | true =>
         simp [hb] at h
         subst h
         have hb := Nat.le_of_ble_eq_true hb
         refine ⟨.pointer (some ((⟨p.block, p.shift + o, none⟩ : Addr).add fd.offset)), ?_, ?_⟩
         ·rw [ex]
          unfold Instr.fieldAt
          simp only [Sem.run_bind, run_underlying hu, Result.andThen_ok, hfd, Instr.sureAddr, Sem.run_pure, fieldPlace_run hs hn]
         ·simp only [rel]
          refine ⟨p, hp, ⟨by omega, by omega⟩, ?_⟩
          rw [add_eq rfl]
          simp; omega
       ·rename_i cs hvx
        have rx := ev_sim hx hf hvx
        simp only [rel] at rx
        obtain ⟨ad, ex, hsp, hbl, hmem⟩ := rx
        cases hb : Nat.ble (fd.offset + n) cs.length with
        | false => simp [hb] at h
        | true =>
         simp [hb] at h
         subst h
         refine ⟨.pointer (some (ad.add fd.offset)), ?_, ?_⟩
         ·rw [ex]
          unfold Instr.fieldAt
          simp only [Sem.run_bind, run_underlying hu, Result.andThen_ok, hfd, Instr.sureAddr, Sem.run_pure, fieldPlace_run hs hn]
         ·simp only [rel]
          rw [add_eq hsp]
          exact ⟨_, rfl, rfl, hbl, memL_take n (memL_drop fd.offset hmem)⟩
       ·simp at h
theorem partA_sim {t : TypeId} {ag : Bool} {n off : Nat} {cs : List AV} {cs' : Array Value} {v : AV} (hs : sizeT P t = some n) (ha : aggT P t = some ag) (hr : relL ι w0 cs cs'.toList) (h1 : one cs'.toList)
  (h : partA ag off n cs = some v) : Gives P w ι w0 (part t cs' off) v := by
 have hl := relL_length hr
 cases ag with
 | true =>
  simp only [partA] at h
  cases hb : Nat.ble (off + n) cs.length with
  | false => simp [hb] at h
  | true =>
   simp [hb] at h
   subst h
   refine ⟨_, part_run (off := off) (cs := cs') hs ha (by simp), ?_⟩
   simp only [if_true, formV, rel]
   exact ⟨_, rfl, by simpa using relL_take n (relL_drop off hr), by
    have := one_take n (one_drop off h1)
    unfold one at this
    simpa using this⟩
 | false =>
  simp only [partA] at h
  have hlt : off < cs.length := by
   rcases Nat.lt_or_ge off cs.length with h2 | h2
   ·exact h2
   ·rw [List.getElem?_eq_none h2] at h; simp at h
  refine ⟨_, part_run (off := off) (cs := cs') hs ha (fun _ => by simp at hl; omega), ?_⟩
  obtain ⟨y, hy, ry⟩ := relL_get hr h
  simp only [Bool.false_eq_true, if_false, formV]
  have : ((cs'.toList.drop off).take 1).headD undef = y := by
   rw [List.getElem?_eq_some_iff] at hy
   obtain ⟨hlt2, hy⟩ := hy
   rw [List.drop_eq_getElem_cons hlt2]
   simpa using hy
  rw [this]
  exact ry
theorem g_field {t : TypeId} {x : Operand} {f : Nat} {po : POp} {v : AV} (hc : compOp P (.field t x f) = some (.p po)) (hf : FR ι w0 fr a) (h : apure fr po = some v) :
  Gives P w ι w0 (Instr.field t (a.eval x) f) v := by
 simp only [compOp] at hc
 cases hx : compO x with
 | none => simp [hx] at hc
 | some x1 =>
  cases hu : P.underlying t with
  | none => simp [hx, hu] at hc
  | some ty =>
   cases ty <;> simp only [hx, hu] at hc <;> try (simp at hc; done)
   case struct fs =>
    cases hfd : fs[f]? with
    | none => simp [hfd] at hc
    | some fd =>
     simp only [hfd] at hc
     cases hs : sizeT P fd.type with
     | none => simp [hs] at hc
     | some n =>
      cases hg : aggT P fd.type with
      | none => simp [hs, hg] at hc
      | some g =>
       simp [hs, hg] at hc
       subst hc
       simp only [apure] at h
       split at h
       ·rename_i cs hvx
        have rx := ev_sim hx hf hvx
        simp only [rel] at rx
        obtain ⟨vs, ex, h1, h2⟩ := rx
        obtain ⟨y, e, r⟩ := partA_sim (w := w) hs hg h1 h2 h
        refine ⟨y, ?_, r⟩
        rw [ex]
        unfold Instr.field
        simp only [Sem.run_bind, run_underlying hu, Result.andThen_ok, hfd, asAgg, Sem.run_pure, e]
       ·simp at h
theorem g_index {t : TypeId} {x i : Operand} {po : POp} {v : AV} (hc : compOp P (.index t x i) = some (.p po)) (hf : FR ι w0 fr a) (h : apure fr po = some v) :
  Gives P w ι w0 (Instr.index t (a.eval x) (a.eval i)) v := by
 simp only [compOp] at hc
 cases hx : compO x with
 | none => simp [hx] at hc
 | some x1 =>
  cases hi : compO i with
  | none => simp [hx, hi] at hc
  | some i1 =>
   cases hu : P.underlying t with
   | none => simp [hx, hi, hu] at hc
   | some ty =>
    cases ty <;> simp only [hx, hi, hu] at hc <;> try (simp at hc; done)
    case string =>
     simp at hc
     subst hc
     simp only [apure] at h
     split at h
     ·rename_i s k j hvx hvi
      have rx := ev_sim hx hf hvx
      have ri := int_ofNat (ev_sim hi hf hvi)
      simp only [rel] at rx
      obtain ⟨b, ex, rfl⟩ := rx
      cases hb : (natBytes b)[j]? with
      | none => simp [hb] at h
      | some c =>
       simp [hb] at h
       subst h
       rw [natBytes_get] at hb
       obtain ⟨d, hd, hdc⟩ := map_some hb
       subst hdc
       refine ⟨.int .u8 d.toNat, ?_, by simp only [rel]⟩
       rw [ex, ri]
       unfold Instr.index
       simp only [Sem.run_bind, asIntOf, Sem.run_pure, Result.andThen_ok, run_underlying hu]
       rw [if_pos (by simp)]
       simp only [Int.toNat_natCast, hd]
       rfl
     ·simp at h
    case array len e =>
     cases hs : sizeT P e with
     | none => simp [hs] at hc
     | some n =>
      cases hg : aggT P e with
      | none => simp [hs, hg] at hc
      | some g =>
       simp [hs, hg] at hc
       subst hc
       simp only [apure] at h
       split at h
       ·rename_i cs k j hvx hvi
        have rx := ev_sim hx hf hvx
        have ri := int_ofNat (ev_sim hi hf hvi)
        simp only [rel] at rx
        obtain ⟨vs, ex, h1, h2⟩ := rx
        cases hb : Nat.blt j len with
        | false => simp [hb] at h
        | true =>
         simp only [hb, cond_true] at h
         have hb : j < len := blt_lt hb
         obtain ⟨y, e', r⟩ := partA_sim (w := w) hs hg h1 h2 h
         refine ⟨y, ?_, r⟩
         rw [ex, ri]
         unfold Instr.index
         simp only [Sem.run_bind, asIntOf, Sem.run_pure, Result.andThen_ok, run_underlying hu]
         rw [if_pos ⟨by simp, by simpa using hb⟩]
         simp only [Sem.run_bind, sizeT_run hs, Result.andThen_ok, Int.toNat_natCast, e']
       ·simp at h
end
end Go.Abs
