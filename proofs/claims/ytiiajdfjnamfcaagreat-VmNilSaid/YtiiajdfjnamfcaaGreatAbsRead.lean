/- Reads of memory. -/
import Derived.Test.YtiiajdfjnamfcaaGreatAbsOps5
set_option autoImplicit false
set_option linter.unusedSimpArgs false
set_option linter.unusedVariables false
namespace Go.Abs
open Go Go.RowKit
noncomputable def St.view (s : St) (X : Nat → Option AObj) : Nat → Option AObj := fun id => match s.objs.get id with
 | some o => some o
 | none => X id
theorem view_get {s : St} {X : Nat → Option AObj} {id : Nat} {o : AObj} (h : s.objs.get id = some o) : s.view X id = some o := by simp [St.view, h]
section
variable {P : Program} {w : World} {ι : IM} {w0 : World} {X : Nat → Option AObj} {s : St} {nx : Nat}
theorem cells_gens (hs : SR ι w0 (s.view X) nx w) {id g : Nat} {vs : List AV} (h : s.cells id g = some vs) :
  ∃ p c el fr, ι id g = some p ∧ w.heap[p.block]? = some (.cells c el fr) ∧ p.ext ≤ vs.length ∧ p.ext ≤ p.room ∧ p.shift + p.room ≤ c.size ∧
   ∀ j x, j < p.ext → vs[j]? = some x → ∃ y, c[p.shift + j]? = some y ∧ y.oneCell' = true ∧ rel ι w0 x y := by
 unfold St.cells at h
 split at h
 ·rename_i vs' gen wgen grown hg
  cases hb : (Nat.ble wgen g && Nat.ble g gen) with
  | false => simp [hb] at h
  | true =>
   simp [hb] at h
   subst h
   rw [Bool.and_eq_true] at hb
   obtain ⟨_, _, ho⟩ := hs.obj id _ (view_get hg)
   obtain ⟨p, c, el, fr, h1, h2, _, h3, _, h4, h5, h6⟩ := ho g (Nat.le_of_ble_eq_true hb.1) (Nat.le_of_ble_eq_true hb.2)
   exact ⟨p, c, el, fr, h1, h2, h3, h4, h5, h6⟩
 ·simp at h
theorem cell_of {b o : Nat} {c : Array Value} {el : TypeId} {fr : Nat × Nat} (h : w.heap[b]? = some (.cells c el fr)) : w.cell? ⟨b, o, none⟩ = c[o]? := by
 simp [World.cell?, h]
theorem seg_vals (hs : SR ι w0 (s.view X) nx w) {id g off n : Nat} {vs cs : List AV} {p : Place} (h : s.cells id g = some vs) (hp : ι id g = some p) (hc : seg vs off n = some cs) (hb : off + n ≤ p.ext) :
  ∃ ys : List Value, relL ι w0 cs ys ∧ one ys ∧ ys.length = n ∧ ∀ j v, ys[j]? = some v → w.cell? ⟨p.block, p.shift + off + j, none⟩ = some v := by
 obtain ⟨p', c, el, fr, h1, h2, h3, h4, h5, h6⟩ := cells_gens hs h
 rw [h1] at hp
 cases hp
 unfold seg at hc
 cases hbb : Nat.ble (off + n) vs.length with
 | false => simp [hbb] at hc
 | true =>
  simp [hbb] at hc
  subst hc
  have key : ∀ j, j < n → ∃ x y, vs[off + j]? = some x ∧ c[p.shift + off + j]? = some y ∧ y.oneCell' = true ∧ rel ι w0 x y := by
   intro j hj
   have hlt : off + j < vs.length := by omega
   obtain ⟨y, e, f, r⟩ := h6 (off + j) (vs[off + j]) (by omega) (List.getElem?_eq_getElem hlt)
   exact ⟨_, y, List.getElem?_eq_getElem hlt, by rw [Nat.add_assoc]; exact e, f, r⟩
  refine ⟨(List.range n).map fun j => (c[p.shift + off + j]?).getD undef, ?_, ?_, by simp, ?_⟩
  ·apply relL_of_get
   ·simp; omega
   ·intro i x y hx hy
    simp only [List.getElem?_take, List.getElem?_drop] at hx
    split at hx
    ·rename_i hi
     obtain ⟨x', y', e1, e2, _, r⟩ := key i hi
     rw [e1] at hx
     cases hx
     simp [hi, e2] at hy
     subst hy
     exact r
    ·simp at hx
  ·intro v hv
   simp at hv
   obtain ⟨j, hj, rfl⟩ := hv
   obtain ⟨x', y', e1, e2, o, _⟩ := key j hj
   simp [e2, o]
  ·intro j v hv
   rw [cell_of h2]
   have hj : j < n := by have := (List.getElem?_eq_some_iff.1 hv).1; simpa using this
   obtain ⟨x', y', e1, e2, o, _⟩ := key j hj
   simp [hj, e2] at hv
   rw [e2, hv]
theorem mem_vals (hl : Below w0.heap.size w0 w) : ∀ {cs : List AV} {ad : Addr}, memL ι w0 cs ad → ad.block < w0.heap.size →
  ∃ ys : List Value, relL ι w0 cs ys ∧ one ys ∧ ∀ j v, ys[j]? = some v → w.cell? ⟨ad.block, ad.off + j, none⟩ = some v
 | [], ad, h, hb => ⟨[], by simp [relL], fun v hv => by simp at hv, fun j v hv => by simp at hv⟩
 | c :: cs, ad, h, hb => by
  simp only [memL] at h
  obtain ⟨⟨y, e, f, r⟩, h⟩ := h
  obtain ⟨ys, h1, h2, h3⟩ := mem_vals hl h hb
  refine ⟨y :: ys, by simp only [relL]; exact ⟨_, _, rfl, r, h1⟩, ?_, ?_⟩
  ·intro v hv
   rcases List.mem_cons.1 hv with rfl | hv
   ·exact f
   ·exact h2 v hv
  ·intro j v hv
   cases j with
   | zero =>
    simp at hv
    subst hv
    have hq := hl.cell (p := ⟨ad.block, ad.off, none⟩) hb
    rw [Nat.add_zero, hq, cell_nospot e, e]
   | succ j =>
    simp at hv
    have := h3 j v hv
    simp only at this
    rw [show ad.off + (j + 1) = ad.off + 1 + j by omega]
    exact this
theorem load_cells {ad : Addr} {ys : List Value} (hsp : ad.spot = none) (h : ∀ j v, ys[j]? = some v → w.cell? ⟨ad.block, ad.off + j, none⟩ = some v) : (loadCells ad ys.length).run P w = .ok ys.toArray w := by
 apply run_loadCells_list
 intro j v hv
 rw [add_eq hsp]
 exact h j v hv
theorem row_run (hs : SR ι w0 (s.view X) nx w) {sz n : Nat} {v : AV} {v' : Value} {cs : List AV} (h : s.row sz n v = some cs) (hr : rel ι w0 v v') :
  ∃ ys : List Value, relL ι w0 cs ys ∧ one ys ∧ ∀ w1 : World, w1.heap = w.heap → (Builtin.firstCells sz n v').run P w1 = .ok ys.toArray w1 := by
 have hcell : ∀ w1 : World, w1.heap = w.heap → ∀ ad, w1.cell? ad = w.cell? ad := by intro w1 hw ad; simp [World.cell?, hw]
 cases v <;> simp only [St.row] at h <;> try (simp at h; done)
 case slc id g off len cap sz' =>
  cases hb : (Nat.beq sz sz' && Nat.ble n len) with
  | false => simp [hb] at h
  | true =>
   simp only [hb, cond_true] at h
   rw [Bool.and_eq_true] at hb
   have h1 := Nat.eq_of_beq_eq_true hb.1
   have h2 := Nat.le_of_ble_eq_true hb.2
   subst h1
   cases hc : s.cells id g with
   | none => simp [hc] at h
   | some vs =>
    simp only [hc] at h
    simp only [rel] at hr
    obtain ⟨p, c, hp, ⟨he, _⟩, hlc, _, _, _, ex⟩ := hr
    have : n * sz ≤ cap * sz := Nat.mul_le_mul_right sz (by omega)
    obtain ⟨ys, a1, a2, a3, a4⟩ := seg_vals hs hc hp h (by omega)
    refine ⟨ys, a1, a2, ?_⟩
    intro w1 hw
    rw [ex]
    unfold Builtin.firstCells
    rw [← a3]
    exact load_cells rfl (fun j v hv => by rw [hcell w1 hw]; exact a4 j v hv)
 case isl cells len sz' =>
  cases hb : (Nat.beq sz sz' && Nat.ble n len) with
  | false => simp [hb] at h
  | true =>
   simp [hb] at h
   subst h
   rw [Bool.and_eq_true] at hb
   have h1 := Nat.eq_of_beq_eq_true hb.1
   have h2 := Nat.le_of_ble_eq_true hb.2
   subst h1
   simp only [rel] at hr
   obtain ⟨ad, c, ex, _, hsp, hbl, hlen, hmem⟩ := hr
   obtain ⟨ys, a1, a2, a3⟩ := mem_vals hs.low (memL_take (n * sz) hmem) hbl
   refine ⟨ys, a1, a2, ?_⟩
   intro w1 hw
   have hl := relL_length a1
   have : n * sz ≤ len * sz := Nat.mul_le_mul_right sz h2
   have e : n * sz = ys.length := by rw [← hl, List.length_take]; omega
   rw [ex]
   unfold Builtin.firstCells
   rw [e]
   exact load_cells hsp (fun j v hv => by rw [hcell w1 hw]; exact a3 j v hv)
 case eslc =>
  cases hb : Nat.beq n 0 with
  | false => simp [hb] at h
  | true =>
   have h0 := Nat.eq_of_beq_eq_true hb
   subst h0
   simp [hb] at h
   subst h
   simp only [rel] at hr
   obtain ⟨ad, c, ex⟩ := hr
   refine ⟨[], by simp [relL], fun v hv => by simp at hv, ?_⟩
   intro w1 hw
   rw [ex]
   unfold Builtin.firstCells
   simp [loadCells, loadCellsFrom]
 case nilslc =>
  cases hb : Nat.beq n 0 with
  | false => simp [hb] at h
  | true =>
   simp [hb] at h
   subst h
   simp only [rel] at hr
   refine ⟨[], by simp [relL], fun v hv => by simp at hv, ?_⟩
   intro w1 hw
   rw [hr]
   rfl
 case str b =>
  cases hb : (Nat.beq sz 1 && Nat.ble n b.length) with
  | false => simp [hb] at h
  | true =>
   simp [hb] at h
   subst h
   rw [Bool.and_eq_true] at hb
   have h2 := Nat.le_of_ble_eq_true hb.2
   simp only [rel] at hr
   obtain ⟨b', ex, rfl⟩ := hr
   refine ⟨((b'.extract 0 n).data.map fun c => Value.int .u8 (c.toNat : Int)).toList, ?_, ?_, ?_⟩
   ·apply relL_of_get
    ·simp [natBytes, ByteArray.data_extract]
    ·intro i x y hx hy
     have e0 : (b'.extract 0 n).data.toList = b'.data.toList.take n := by simp [ByteArray.data_extract, Array.toList_extract, List.extract_eq_take_drop]
     simp only [Array.toList_map, e0, natBytes, ← List.map_take, List.map_map, List.getElem?_map] at hx hy
     cases hz : (b'.data.toList.take n)[i]? with
     | none => rw [hz] at hx; simp at hx
     | some z =>
      rw [hz] at hx hy
      simp at hx hy
      subst hx hy
      simp only [rel]
   ·intro v hv
    rw [Array.toList_map, List.mem_map] at hv
    obtain ⟨z, _, rfl⟩ := hv
    rfl
   ·intro w1 hw
    rw [ex]
    unfold Builtin.firstCells
    rfl
theorem kinds_ceqs : ∀ (ks1 ks2 : List CK) (xs : List AV), kindsOk (ks1 ++ ks2) xs = true → ks1.length ≤ xs.length ∧ kindsOk ks1 (xs.take ks1.length) = true ∧ kindsOk ks2 (xs.drop ks1.length) = true
 | [], ks2, xs, h => ⟨by simp, by simp [kindsOk], by simpa using h⟩
 | k :: ks1, ks2, [], h => by cases k <;> simp [kindsOk] at h
 | k :: ks1, ks2, x :: xs, h => by
  have : kindsOk (ks1 ++ ks2) xs = true ∧ kindsOk [k] [x] = true := by
   cases k <;> cases x <;> simp [kindsOk] at h ⊢ <;> exact h
  obtain ⟨a, b, c⟩ := kinds_ceqs ks1 ks2 xs this.1
  refine ⟨by simp; omega, ?_, by simpa using c⟩
  simp only [List.length_cons, List.take_succ_cons]
  cases k <;> cases x <;> simp [kindsOk] at h this ⊢ <;> exact b
theorem check_run : ∀ (d : Nat) (t : TypeId) (ks : List CK) (ag : Bool), flatT P d t = some ks → aggT P t = some ag → ∀ (em : Bool) (D : Nat) (w : World) (xs : List AV) (xs' : List Value), d ≤ D →
  relL ι w0 xs xs' → kindsOk ks xs = true → (Instr.checkKey em D t (formV ag xs')).run P w = .ok () w
 | 0, t, ks, ag, h, _, _, _, _, _, _, _, _, _ => by simp [flatT] at h
 | d + 1, t, ks, ag, h, ha, em, D, w, xs, xs', hD, hx, hc => by
  obtain ⟨D, rfl⟩ : ∃ m, D = m + 1 := ⟨D - 1, by omega⟩
  unfold flatT at h
  cases hu : P.underlying t with
  | none => rw [hu] at h; simp at h
  | some ty =>
   rw [hu] at h
   have hag : ag = aggD ty := by
    unfold aggT at ha
    rw [hu] at ha
    cases ty <;> simp at ha <;> (subst ha; rfl)
   cases ty <;> simp only at h <;> try (simp at h; done)
   case bool => unfold Instr.checkKey; simp only [Sem.run_bind, run_underlying hu, Result.andThen_ok, Sem.run_pure]
   case int q => unfold Instr.checkKey; simp only [Sem.run_bind, run_underlying hu, Result.andThen_ok, Sem.run_pure]
   case string => unfold Instr.checkKey; simp only [Sem.run_bind, run_underlying hu, Result.andThen_ok, Sem.run_pure]
   case struct fs =>
    simp only [aggD] at hag
    subst hag
    cases hst : P.stoodInHeld t with
    | true => rw [hst] at h; simp at h
    | false =>
     rw [hst] at h
     simp only [Bool.false_eq_true, if_false] at h
     simp only [formV, if_true]
     unfold Instr.checkKey
     simp only [Sem.run_bind, run_underlying hu, Result.andThen_ok]
     rw [← Array.forIn_toList]
     have key : ∀ (l : List Field) (off : Nat) (ks : List CK) (w : World), flatFs P (flatT P d) l off = some ks → kindsOk ks (xs.drop off) = true →
       (forIn l PUnit.unit (fun f _ => if f.name ≠ "_" then (do
         let x ← part f.type xs'.toArray f.offset
         Instr.checkKey em D f.type x
         pure (ForInStep.yield PUnit.unit)) else pure (ForInStep.yield PUnit.unit)) : Sem PUnit).run P w = .ok PUnit.unit w := by
      intro l
      induction l with
      | nil => intro off ks w hl hc; simp
      | cons f l ih =>
       intro off ks w hl hc
       simp only [flatFs] at hl
       by_cases hn : f.name = "_"
       ·simp [hn] at hl
       ·by_cases ho : f.offset = off
        ·simp only [hn, if_false, ho, ne_eq, not_true_eq_false] at hl
         cases hk1 : flatT P d f.type with
         | none => rw [hk1] at hl; simp at hl
         | some ks1 =>
          cases hs : sizeT P f.type with
          | none => rw [hk1, hs] at hl; simp at hl
          | some n =>
           rw [hk1, hs] at hl
           simp only at hl
           by_cases hlen : ks1.length = n
           ·simp only [hlen, ne_eq, not_true_eq_false, if_false] at hl
            cases hr : flatFs P (flatT P d) l (off + n) with
            | none => rw [hr] at hl; simp at hl
            | some ks2 =>
             rw [hr] at hl
             simp only [Option.some.injEq] at hl
             subst hl
             obtain ⟨g, hg, hg1⟩ : ∃ g, aggT P f.type = some g ∧ (g = false → ks1.length = 1) := by
              cases d with
              | zero => simp [flatT] at hk1
              | succ d =>
               unfold flatT at hk1
               unfold aggT
               cases hu2 : P.underlying f.type with
               | none => rw [hu2] at hk1; simp at hk1
               | some ty2 =>
                rw [hu2] at hk1
                cases ty2 <;> simp at hk1 <;> first
                 | exact ⟨false, rfl, fun _ => by subst hk1; rfl⟩
                 | exact ⟨true, rfl, fun h => by simp at h⟩
             obtain ⟨q1, q2, q3⟩ := kinds_ceqs ks1 ks2 _ hc
             have hlx' : xs'.length = xs.length := (relL_length hx).symm
             have px := part_run (P := P) (w := w) (cs := xs'.toArray) (off := off) hs hg (fun e => by
              have := hg1 e; simp at q1 ⊢; omega)
             have hm : (if g then n else 1) = ks1.length := by
              cases g with
              | true => simp [hlen]
              | false => simp [hg1 rfl]
             rw [hm] at px
             have ck := check_run d f.type ks1 g hk1 hg em D w _ _ (by omega) (relL_take ks1.length (relL_drop off hx)) q2
             simp only [List.forIn_cons, Sem.run_bind, hn, ne_eq, not_false_eq_true, if_true, ho, px, Result.andThen_ok, ck, Sem.run_pure]
             refine ih (off + n) ks2 w hr ?_
             rw [List.drop_drop, hlen] at q3
             exact q3
           ·simp [hlen] at hl
        ·simp [hn, ho] at hl
     rw [key fs.toList 0 ks w h (by simpa using hc)]
     rfl
theorem keyOk_run {t : TypeId} {ks : List CK} {ag : Bool} {k : AV} {k' : Value} {em : Bool} (hf : flatT P 4 t = some ks) (ha : aggT P t = some ag) (h : keyOk ag ks k = true) (hk : rel ι w0 k k') :
  (Instr.checkKey em 10000 t k').run P w = .ok () w := by
 unfold keyOk at h
 rw [Bool.and_eq_true, beq_iff_eq] at h
 have hp : plainV k = true := by
  cases k <;> simp [plainV]
  have := h.2
  cases ks with
  | nil => simp [cellsOf, kindsOk] at this
  | cons c ks => cases c <;> simp [cellsOf, kindsOk] at this
 rw [form_cells hk hp h.1]
 exact check_run 4 t ks ag hf ha em 10000 w _ _ (by omega) (rel_cells hk hp).1 h.2
end
end Go.Abs
