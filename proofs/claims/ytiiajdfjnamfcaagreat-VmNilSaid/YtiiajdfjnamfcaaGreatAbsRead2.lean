/- Reads of memory: maps, and all together. -/
import Derived.Test.YtiiajdfjnamfcaaGreatAbsRead
set_option autoImplicit false
set_option linter.unusedSimpArgs false
set_option linter.unusedVariables false
namespace Go.Abs
open Go Go.RowKit
section
variable {P : Program} {w : World} {ι : IM} {w0 : World} {X : Nat → Option AObj} {s : St} {nx : Nat} {a : Act}
theorem ceq_true {k : CK} {x y : AV} (h : ceq k x y = some true) {x' y' : Value} (hx : rel ι w0 x x') (hy : rel ι w0 y y') : x' = y' ∧ ∀ n, Instr.sameBits n y' x' = true := by
 cases k <;> cases x <;> cases y <;> simp [ceq] at h <;> simp only [rel] at hx hy
 ·subst h hx hy
  exact ⟨rfl, fun n => by cases n <;> simp [Instr.sameBits]⟩
 ·rename_i j m k n
  obtain ⟨h1, h2⟩ : j = k ∧ m = n := by
   rw [keq_eq, ieq_eq] at h
   by_cases e : j = k
   ·simp [e] at h; exact ⟨e, h⟩
   ·simp [e] at h
  subst h1 h2 hx hy
  exact ⟨rfl, fun n => by cases n <;> simp [Instr.sameBits]⟩
 ·obtain ⟨b, rfl, rfl⟩ := hx
  obtain ⟨c, rfl, e⟩ := hy
  subst e
  rw [neq_eq] at h
  have := natBytes_inj (of_decide_eq_true h)
  subst this
  refine ⟨rfl, fun n => ?_⟩
  have hb : (b == b) = true := by
   have h2 : (b == b) = (b.data == b.data) := rfl
   rw [h2]; simp
  cases n <;> simp [Instr.sameBits, hb]
theorem ceqs_true : ∀ {ks : List CK} {xs ys : List AV} {xs' ys' : List Value}, ceqs ks xs ys = some true → relL ι w0 xs xs' → relL ι w0 ys ys' → xs' = ys' ∧ ∀ n, (ys'.zip xs').all (fun p => Instr.sameBits n p.1 p.2) = true
 | [], [], [], xs', ys', h, hx, hy => by simp only [relL] at hx hy; subst hx hy; simp
 | [], [], _ :: _, _, _, h, _, _ => by simp [ceqs] at h
 | [], _ :: _, _, _, _, h, _, _ => by simp [ceqs] at h
 | _ :: _, [], _, _, _, h, _, _ => by simp [ceqs] at h
 | _ :: _, _ :: _, [], _, _, h, _, _ => by simp [ceqs] at h
 | k :: ks, x :: xs, y :: ys, xs', ys', h, hx, hy => by
  obtain ⟨x', xr, rfl, hx1, hx2⟩ := relL_cons hx
  obtain ⟨y', yr, rfl, hy1, hy2⟩ := relL_cons hy
  simp only [ceqs] at h
  cases hc : ceq k x y with
  | none => simp [hc] at h
  | some b =>
   cases b with
   | false => simp [hc] at h
   | true =>
    simp only [hc] at h
    obtain ⟨e1, e2⟩ := ceq_true hc hx1 hy1
    obtain ⟨e3, e4⟩ := ceqs_true h hx2 hy2
    refine ⟨by rw [e1, e3], fun n => ?_⟩
    rw [List.zip_cons_cons, List.all_cons, e2 n, e4 n]; rfl
theorem flatEq_true {ag : Bool} {ks : List CK} {x y : AV} {x' y' : Value} (h : flatEq ag ks x y = some true) (hx : rel ι w0 x x') (hy : rel ι w0 y y') : x' = y' ∧ ∀ n, Instr.sameBits (n + 1) y' x' = true := by
 unfold flatEq at h
 cases hc : (isAg x == ag && isAg y == ag) with
 | false => rw [hc] at h; simp at h
 | true =>
  rw [hc] at h
  simp only [cond_true] at h
  rw [Bool.and_eq_true, beq_iff_eq, beq_iff_eq] at hc
  cases ag with
  | true =>
   cases x <;> simp [isAg] at hc
   cases y <;> simp [isAg] at hc
   simp only [rel] at hx hy
   obtain ⟨xs, rfl, hx, _⟩ := hx
   obtain ⟨ys, rfl, hy, _⟩ := hy
   obtain ⟨e1, e2⟩ := ceqs_true h hx hy
   have : xs = ys := Array.ext' e1
   subst this
   refine ⟨rfl, fun n => ?_⟩
   simp only [Instr.sameBits, BEq.rfl, Bool.true_and]
   exact e2 n
  | false =>
   have hc1 : cellsOf x = [x] := by cases x <;> simp_all [isAg, cellsOf]
   have hc2 : cellsOf y = [y] := by cases y <;> simp_all [isAg, cellsOf]
   rw [hc1, hc2] at h
   cases ks with
   | nil => simp [ceqs] at h
   | cons k ks =>
    simp only [ceqs] at h
    cases hq : ceq k x y with
    | none => simp [hq] at h
    | some b =>
     cases b with
     | false => simp [hq] at h
     | true =>
      obtain ⟨e1, e2⟩ := ceq_true hq hx hy
      exact ⟨e1, fun n => e2 _⟩
def FirstAt (ag : Bool) (ks : List CK) (k : AV) (es : List (AV × AV × Nat)) (j : Nat) : Prop :=
 (∃ a v n, es[j]? = some (a, v, n) ∧ flatEq ag ks k a = some true) ∧ ∀ i a v n, i < j → es[i]? = some (a, v, n) → flatEq ag ks k a = some false
theorem first_cons {ag : Bool} {ks : List CK} {k : AV} {es : List (AV × AV × Nat)} {j : Nat} {b x : AV} {m : Nat} (h : FirstAt ag ks k es j) (h0 : flatEq ag ks k b = some false) : FirstAt ag ks k ((b, x, m) :: es) (j + 1) := by
 obtain ⟨⟨a', v', n', e1, e2⟩, e3⟩ := h
 refine ⟨⟨a', v', n', by simpa using e1, e2⟩, ?_⟩
 intro i u v n hi hb
 cases i with
 | zero => simp at hb; obtain ⟨rfl, rfl, rfl⟩ := hb; exact h0
 | succ i => exact e3 i u v n (by omega) (by simpa using hb)
theorem first_zero {ag : Bool} {ks : List CK} {k : AV} {es : List (AV × AV × Nat)} {b x : AV} {m : Nat} (h0 : flatEq ag ks k b = some true) : FirstAt ag ks k ((b, x, m) :: es) 0 :=
 ⟨⟨b, x, m, by simp, h0⟩, fun i _ _ _ hi => by omega⟩
def Found (ι : IM) (w0 : World) (ag : Bool) (ks : List CK) (k : AV) (es : List (AV × AV × Nat)) (k' : Value) (ces : List MapEntry) (i0 : Nat) : Option (AV × Nat) → Option (Nat × Value) → Prop
 | none, r => r = none
 | some (v, n), r => ∃ j e, r = some (i0 + j, e.val) ∧ ces[j]? = some e ∧ rel ι w0 v e.val ∧ e.born = n ∧ e.key = k' ∧ (∀ m, Instr.sameBits (m + 1) e.key k' = true) ∧ FirstAt ag ks k es j
theorem find_asking {t : TypeId} {ks : List CK} {ag : Bool} {k : AV} {k' : Value} (hf : flatT P 4 t = some ks) (ha : aggT P t = some ag) (hk : rel ι w0 k k') :
  ∀ (es : List (AV × AV × Nat)) (ces : List MapEntry) (i : Nat) (r : Option (AV × Nat)), relM ι w0 es ces → find ag ks k es = some r →
   ∃ r', (Instr.findAsking t k' ces i).run P w = .ok r' w ∧ Found ι w0 ag ks k es k' ces i r r'
 | [], ces, i, r, hm, h => by
  simp only [relM] at hm
  subst hm
  simp [find] at h
  subst h
  exact ⟨none, rfl, rfl⟩
 | (x, v, n) :: es, ces, i, r, hm, h => by
  simp only [relM] at hm
  obtain ⟨e, ct, rfl, hx, hv, hn, hm⟩ := hm
  simp only [find] at h
  cases hq : flatEq ag ks k x with
  | none => simp [hq] at h
  | some b =>
   have he := flatEq_run (P := P) (w := w) (D := 10000) hf ha hq hk hx (by omega)
   have he' : (Op.equal t k' e.key).run P w = .ok b w := he
   cases b with
   | true =>
    simp [hq] at h
    subst h
    obtain ⟨e1, e2⟩ := flatEq_true hq hk hx
    refine ⟨some (i, e.val), ?_, 0, e, by simp, by simp, hv, hn, e1.symm, e2, first_zero hq⟩
    simp only [Instr.findAsking, Sem.run_bind, he', Result.andThen_ok, if_true, Sem.run_pure]
   | false =>
    simp only [hq] at h
    obtain ⟨r', e3, e4⟩ := find_asking hf ha hk es ct (i + 1) r hm h
    refine ⟨r', ?_, ?_⟩
    ·simp only [Instr.findAsking, Sem.run_bind, he', Result.andThen_ok, Bool.false_eq_true, if_false, e3]
    ·cases r with
     | none => exact e4
     | some p =>
      obtain ⟨j, e', f1, f2, f3, f4, f5, f6, f7⟩ := e4
      exact ⟨j + 1, e', by rw [f1]; congr 2; omega, by simpa using f2, f3, f4, f5, f6, first_cons f7 hq⟩
theorem find_now {ty : TypeDesc} {c : CK} {k : AV} {k' : Value} (hty : c = .b ∧ ty = .bool ∨ c = .i ∧ (∃ q, ty = .int q) ∨ c = .s ∧ ty = .string) (hk : rel ι w0 k k') (hok : keyOk false [c] k = true) :
  ∀ (es : List (AV × AV × Nat)) (ces : List MapEntry) (i : Nat) (r : Option (AV × Nat)), relM ι w0 es ces → find false [c] k es = some r →
   (∃ r', Instr.findNow ty k' ces i = some r' ∧ Found ι w0 false [c] k es k' ces i r r') ∨ Instr.findNow ty k' ces i = none
 | [], ces, i, r, hm, h => by
  simp only [relM] at hm
  subst hm
  simp [find] at h
  subst h
  exact .inl ⟨none, rfl, rfl⟩
 | (x, v, n) :: es, ces, i, r, hm, h => by
  simp only [relM] at hm
  obtain ⟨e, ct, rfl, hx, hv, hn, hm⟩ := hm
  simp only [find] at h
  cases hq : flatEq false [c] k x with
  | none => simp [hq] at h
  | some b =>
   have hsn : Instr.sameNow ty k' e.key = some b ∨ Instr.sameNow ty k' e.key = none := by
    unfold flatEq at hq
    cases hc : (isAg k == false && isAg x == false) with
    | false => rw [hc] at hq; simp at hq
    | true =>
     rw [hc] at hq
     simp only [cond_true] at hq
     rw [Bool.and_eq_true, beq_iff_eq, beq_iff_eq] at hc
     have hc1 : cellsOf k = [k] := by cases k <;> simp_all [isAg, cellsOf]
     have hc2 : cellsOf x = [x] := by cases x <;> simp_all [isAg, cellsOf]
     rw [hc1, hc2] at hq
     obtain ⟨_, _, _, _, q1, q2, hq', hq3⟩ := ceqs_one hq
     cases q1
     cases q2
     clear hq hq3
     have hq := hq'
     clear hq'
     rcases hty with ⟨rfl, rfl⟩ | ⟨rfl, q, rfl⟩ | ⟨rfl, rfl⟩
     ·cases k <;> cases x <;> simp [ceq] at hq
      simp only [rel] at hk hx
      rw [hk, hx]
      left
      simpa [Instr.sameNow] using hq
     ·cases k <;> cases x <;> simp [ceq] at hq
      rename_i j m j2 m2
      simp only [rel] at hk hx
      rw [hk, hx]
      left
      rw [keq_eq, ieq_eq] at hq
      by_cases e : j = j2
      ·subst e
       simp at hq
       rw [← hq]
       simp [Instr.sameNow]
       rw [Bool.eq_iff_iff]; simp
      ·simp [e] at hq
     ·cases k <;> cases x <;> simp [ceq] at hq
      simp only [rel] at hk hx
      obtain ⟨k2, rfl, e1⟩ := hk
      obtain ⟨x2, hx2, e2⟩ := hx
      rw [hx2]
      left
      subst e1 e2
      rw [neq_bytes'] at hq
      simp only [Instr.sameNow]
      cases hz : (k2 == x2) <;> rw [hz] at hq <;> simp at hq <;> rw [hq]
   simp only [Instr.findNow]
   rcases hsn with hsn | hsn
   ·rw [hsn]
    cases b with
    | true =>
     simp [hq] at h
     subst h
     obtain ⟨e1, e2⟩ := flatEq_true hq hk hx
     exact .inl ⟨some (i, e.val), rfl, 0, e, by simp, by simp, hv, hn, e1.symm, e2, first_zero hq⟩
    | false =>
     simp only [hq] at h
     rcases find_now hty hk hok es ct (i + 1) r hm h with ⟨r', e3, e4⟩ | e3
     ·refine .inl ⟨r', e3, ?_⟩
      cases r with
      | none => exact e4
      | some p =>
       obtain ⟨j, e', f1, f2, f3, f4, f5, f6, f7⟩ := e4
       exact ⟨j + 1, e', by rw [f1]; congr 2; omega, by simpa using f2, f3, f4, f5, f6, first_cons f7 hq⟩
     ·exact .inr e3
   ·rw [hsn]
    exact .inr rfl
theorem findKey_run {t : TypeId} {ks : List CK} {ag : Bool} {k : AV} {k' : Value} (hf : flatT P 4 t = some ks) (ha : aggT P t = some ag) (hk : rel ι w0 k k') (hok : keyOk ag ks k = true)
  {es : List (AV × AV × Nat)} {ces : List MapEntry} {r : Option (AV × Nat)} (hm : relM ι w0 es ces) (h : find ag ks k es = some r) :
  ∃ r', (Instr.findKey t k' ces).run P w = .ok r' w ∧ Found ι w0 ag ks k es k' ces 0 r r' := by
 obtain ⟨ra, ea, fa⟩ := find_asking (P := P) (w := w) hf ha hk es ces 0 r hm h
 have fin : ∀ ty, P.underlying t = some ty → ((∃ r', Instr.findNow ty k' ces 0 = some r' ∧ Found ι w0 ag ks k es k' ces 0 r r') ∨ Instr.findNow ty k' ces 0 = none) → ∃ r', (Instr.findKey t k' ces).run P w = .ok r' w ∧ Found ι w0 ag ks k es k' ces 0 r r' := by
  intro ty hu hn
  unfold Instr.findKey
  simp only [Sem.run_bind, run_underlying hu, Result.andThen_ok]
  rcases hn with ⟨r', e, f⟩ | e
  ·rw [e]; exact ⟨r', rfl, f⟩
  ·rw [e]; exact ⟨ra, ea, fa⟩
 unfold flatT at hf
 cases hu : P.underlying t with
 | none => simp [hu] at hf
 | some ty =>
  have hag : ag = aggD ty := by
   unfold aggT at ha
   rw [hu] at ha
   cases ty <;> simp at ha <;> (subst ha; rfl)
  simp only [hu] at hf
  cases ty <;> simp only at hf <;> try (simp at hf; done)
  case bool => simp at hf; subst hf; subst hag; exact fin _ hu (find_now (.inl ⟨rfl, rfl⟩) hk hok es ces 0 r hm h)
  case int q => simp at hf; subst hf; subst hag; exact fin _ hu (find_now (.inr (.inl ⟨rfl, q, rfl⟩)) hk hok es ces 0 r hm h)
  case string => simp at hf; subst hf; subst hag; exact fin _ hu (find_now (.inr (.inr ⟨rfl, rfl⟩)) hk hok es ces 0 r hm h)
  case struct fs =>
   refine fin _ hu ?_
   cases ces with
   | nil =>
    left
    cases es with
    | nil => simp [find] at h; subst h; exact ⟨none, rfl, rfl⟩
    | cons e es => obtain ⟨x, v, n⟩ := e; simp only [relM] at hm; obtain ⟨_, _, e, _⟩ := hm; simp at e
   | cons e ces =>
    right
    simp [Instr.findNow, Instr.sameNow]
theorem getObj_run {r : Nat} {o : Obj} (h : w.heap[r]? = some o) (hc : ∀ c e f, o ≠ .cells c e f) : (getObj r).run P w = .ok o w := by
 cases o <;> first
  | exact absurd rfl (hc _ _ _)
  | simp [getObj, Sem.run, h]
theorem map_obj (hs : SR ι w0 (s.view X) nx w) {id : Nat} {es : List (AV × AV × Nat)} {ck : Nat} (h : s.objs.get id = some (.map es ck)) {v' : Value} (hr : rel ι w0 (.map id) v') :
  ∃ p ces, ι id 0 = some p ∧ v' = .map (some p.block) ∧ (getObj p.block).run P w = .ok (.map ces ck) w ∧ w.heap[p.block]? = some (.map ces ck) ∧ relM ι w0 es ces.toList := by
 obtain ⟨_, p, ces, hp, hw, hm⟩ := hs.obj id _ (view_get h)
 simp only [rel] at hr
 obtain ⟨p', hp', hv⟩ := hr
 rw [hp] at hp'
 cases hp'
 exact ⟨p, ces, hp, hv, getObj_run hw (by simp), hw, hm⟩
theorem relM_length : ∀ {es : List (AV × AV × Nat)} {ces : List MapEntry}, relM ι w0 es ces → es.length = ces.length
 | [], ces, h => by simp only [relM] at h; subst h; rfl
 | (_, _, _) :: es, ces, h => by simp only [relM] at h; obtain ⟨e, t, rfl, _, _, _, h⟩ := h; simp [relM_length h]
theorem relM_stamp : ∀ {es : List (AV × AV × Nat)} {ces : List MapEntry} {n : Nat} {k v : AV}, relM ι w0 es ces → byStamp n es = some (k, v) → ∃ e, ces.find? (·.born == n) = some e ∧ rel ι w0 k e.key ∧ rel ι w0 v e.val
 | [], ces, n, k, v, h, hb => by simp [byStamp] at hb
 | (x, y, m) :: es, ces, n, k, v, h, hb => by
  simp only [relM] at h
  obtain ⟨e, t, rfl, hx, hy, hm, h⟩ := h
  simp only [byStamp] at hb
  cases hc : Nat.beq m n with
  | true =>
   simp [hc] at hb
   obtain ⟨rfl, rfl⟩ := hb
   refine ⟨e, ?_, hx, hy⟩
   rw [List.find?_cons_of_pos]
   rw [hm]; simpa using Nat.eq_of_beq_eq_true hc
  | false =>
   simp only [hc, cond_false] at hb
   obtain ⟨e', a1, a2, a3⟩ := relM_stamp h hb
   refine ⟨e', ?_, a2, a3⟩
   rw [List.find?_cons_of_neg]
   ·exact a1
   ·rw [hm]; intro hh; simp at hh; subst hh; simp at hc
theorem rel_tup2 {x y : AV} {x' y' : Value} (hx : rel ι w0 x x') (hy : rel ι w0 y y') : rel ι w0 (.tup [x, y]) (.tuple #[x', y']) := by
 simp only [rel]
 exact ⟨_, rfl, by simp only [relL]; exact ⟨_, _, rfl, hx, _, _, rfl, hy, rfl⟩⟩
theorem bytes_run : ∀ (cs : List AV) (ys : List Value) (b : List Nat) (acc : ByteArray), bytesOf cs = some b → relL ι w0 cs ys →
  ∃ r : ByteArray, (forIn ys acc (fun (c : Value) (s : ByteArray) => match c with
   | .int .u8 n => (pure (ForInStep.yield (s.push (UInt8.ofNat n.toNat))) : Sem (ForInStep ByteArray))
   | _ => do
    (stuck "bytesToString: byte expected" : Sem PUnit)
    pure (ForInStep.yield s))).run P w = .ok r w ∧ natBytes r = natBytes acc ++ b
 | [], ys, b, acc, h, hr => by
  simp only [relL] at hr
  subst hr
  simp [bytesOf] at h
  subst h
  exact ⟨acc, by simp, by simp⟩
 | c :: cs, ys, b, acc, h, hr => by
  obtain ⟨y, r, rfl, hy, hr2⟩ := relL_cons hr
  have hx : ∃ n b', c = .int .u8 (.ofNat n) ∧ bytesOf cs = some b' ∧ n < 256 ∧ b = n :: b' := by
   unfold bytesOf at h
   split at h
   ·rename_i e; simp at e
   ·rename_i n r' e
    cases e
    split at h
    ·rename_i b' hb
     cases hlt : Nat.blt n 256 with
     | false => simp [hlt] at h
     | true => simp [hlt] at h; exact ⟨n, b', rfl, hb, blt_lt hlt, h.symm⟩
    ·simp at h
   ·simp at h
  obtain ⟨n, b', rfl, hb, hlt, rfl⟩ := hx
  simp only [rel] at hy
  subst hy
  obtain ⟨r', e1, e2⟩ := bytes_run cs r b' (acc.push (UInt8.ofNat n)) hb hr2
  refine ⟨r', ?_, ?_⟩
  ·simp only [List.forIn_cons, Sem.run_bind, Sem.run_pure, Result.andThen_ok]
   exact e1
  ·rw [e2]
   have : natBytes (acc.push (UInt8.ofNat n)) = natBytes acc ++ [n] := by
    simp only [natBytes, ByteArray.push, Array.toList_push, List.map_append, List.map_cons, List.map_nil]
    congr 2
    simp [Nat.mod_eq_of_lt hlt]
   rw [this]
   simp
theorem aread_sim {o : Oper} {k : RK} {x y : AO} {xv yv v : AV} (hc : compOp P o.op = some (.r k x y)) (hs : SR ι w0 (s.view X) nx w)
  (hx : ∀ Z, compO Z = some x → rel ι w0 xv (a.eval Z)) (hy : ∀ Z, compO Z = some y → rel ι w0 yv (a.eval Z)) (h : aread k xv yv s = some v) :
  ∃ v', (execOp a.eval o).run P w = .ok (.value v') w ∧ rel ι w0 v v' := by
 have ex : ∀ (op : Op), o.op = op → execOp a.eval o = execOp a.eval { o with op := op } := fun op e => by rw [← e]
 cases ho : o.op <;> rw [ho] at hc <;> rw [ex _ ho]
 case load t ad =>
  simp only [compOp] at hc
  cases h1 : compO ad with
  | none => simp [h1] at hc
  | some x1 =>
   cases h2 : aggT P t with
   | none => simp [h1, h2] at hc
   | some g =>
    have fin : ∀ (p : Addr), a.eval ad = .pointer (some p) → ∀ y', (loadVar t p).run P w = .ok y' w → rel ι w0 v y' → ∃ v', (execOp a.eval { o with op := .load t ad }).run P w = .ok (.value v') w ∧ rel ι w0 v v' := by
     intro p e y' e2 r
     refine gives_ok (s := Instr.loadAt t (a.eval ad)) ⟨y', ?_, r⟩
     rw [e]
     unfold Instr.loadAt
     simp only [Sem.run_bind, Instr.sureAddr, Sem.run_pure, Result.andThen_ok, e2]
    cases g with
    | true =>
     cases h3 : sizeT P t with
     | none => simp [h1, h2, h3] at hc
     | some n =>
      simp [h1, h2, h3] at hc
      obtain ⟨rfl, rfl, rfl⟩ := hc
      have r := hx ad h1
      have lv : ∀ (p : Addr) (ys : List Value), p.spot = none → ys.length = n → (∀ j v, ys[j]? = some v → w.cell? ⟨p.block, p.off + j, none⟩ = some v) → (loadVar t p).run P w = .ok (.agg ys.toArray) w := by
       intro p ys hsp hlen hv
       unfold loadVar
       simp only [Sem.run_bind, aggT_run h2, Result.andThen_ok, if_true, sizeT_run h3, Sem.run_pure]
       rw [← hlen, load_cells hsp hv]
       rfl
      cases xv <;> simp only [aread] at h <;> try (simp at h; done)
      case ptr id g off lm =>
       cases hb : Nat.ble n lm with
       | false => simp [hb] at h
       | true =>
        simp only [hb, cond_true] at h
        have hb := Nat.le_of_ble_eq_true hb
        cases hcl : s.cells id g with
        | none => simp [hcl] at h
        | some vs =>
         simp only [hcl] at h
         cases hsg : seg vs off n with
         | none => simp [hsg] at h
         | some cs =>
          simp [hsg] at h
          subst h
          simp only [rel] at r
          obtain ⟨p, hp, ⟨he, _⟩, e⟩ := r
          obtain ⟨ys, a1, a2, a3, a4⟩ := seg_vals hs hcl hp hsg (by omega)
          refine fin _ e _ (lv _ ys rfl a3 a4) ?_
          simp only [rel]
          exact ⟨_, rfl, by simpa using a1, by simpa [one] using a2⟩
      case iptr cs =>
       cases hb : Nat.ble n cs.length with
       | false => simp [hb] at h
       | true =>
        simp [hb] at h
        subst h
        have hb := Nat.le_of_ble_eq_true hb
        simp only [rel] at r
        obtain ⟨p, e, hsp, hbl, hm⟩ := r
        obtain ⟨ys, a1, a2, a3⟩ := mem_vals hs.low (memL_take n hm) hbl
        refine fin _ e _ (lv _ ys hsp (by rw [← relL_length a1, List.length_take]; omega) a3) ?_
        simp only [rel]
        exact ⟨_, rfl, by simpa using a1, by simpa [one] using a2⟩
    | false =>
     cases h3 : sizeT P t <;> simp [h1, h2, h3] at hc <;> (
      obtain ⟨rfl, rfl, rfl⟩ := hc
      have r := hx ad h1
      have lv : ∀ (p : Addr) (y' : Value), w.cell? p = some y' → (loadVar t p).run P w = .ok y' w := by
       intro p y' hv
       unfold loadVar
       simp only [Sem.run_bind, aggT_run h2, Result.andThen_ok, Bool.false_eq_true, if_false, run_load, hv]
      cases xv <;> simp only [aread] at h <;> try (simp at h; done)
      case ptr id g off lm =>
       cases hb : Nat.ble 1 lm with
       | false => simp [hb] at h
       | true =>
        simp only [hb, cond_true] at h
        have hb := Nat.le_of_ble_eq_true hb
        cases hcl : s.cells id g with
        | none => simp [hcl] at h
        | some vs =>
         simp only [hcl] at h
         simp only [rel] at r
         obtain ⟨p, hp, ⟨he, _⟩, e⟩ := r
         obtain ⟨p', c, el, fr, g1, g2, g3, g4, g5, g6⟩ := cells_gens hs hcl
         rw [hp] at g1
         cases g1
         obtain ⟨y', f1, f2, f3⟩ := g6 off v (by omega) h
         exact fin _ e y' (lv _ _ (by rw [cell_of g2]; exact f1)) f3
      case iptr cs =>
       cases cs with
       | nil => simp at h
       | cons c cs =>
        simp at h
        subst h
        simp only [rel] at r
        obtain ⟨p, e, hsp, hbl, hm⟩ := r
        simp only [memL] at hm
        obtain ⟨⟨y', f1, f2, f3⟩, _⟩ := hm
        exact fin _ e y' (lv _ _ (by rw [hs.low.cell hbl]; exact f1)) f3)
 case lookup t m i ok =>
  simp only [compOp] at hc
  cases h1 : compO m with
  | none => simp [h1] at hc
  | some x1 =>
   cases h2 : compO i with
   | none => simp [h1, h2] at hc
   | some y1 =>
    cases hu : P.underlying t with
    | none => simp [h1, h2, hu] at hc
    | some ty =>
     cases ty <;> simp only [h1, h2, hu] at hc <;> try (simp at hc; done)
     case map kt et =>
      cases h3 : flatT P 4 kt with
      | none => simp [h3] at hc
      | some ks =>
       cases h4 : aggT P kt with
       | none => simp [h3, h4] at hc
       | some ag =>
        cases h5 : zeroT P et with
        | none => simp [h3, h4, h5] at hc
        | some z =>
         simp [h3, h4, h5] at hc
         obtain ⟨rfl, rfl, rfl⟩ := hc
         have rm := hx m h1
         have rk := hy i h2
         obtain ⟨z', hz1, hz2, _⟩ := zeroT_run (w := w) h5
         have hzr := constV_rel (ι := ι) (w0 := w0) hz2
         simp only [aread] at h
         cases hko : keyOk ag ks yv with
         | false => simp [hko] at h
         | true =>
          simp only [hko, cond_true] at h
          have ck := fun em => keyOk_run (P := P) (w := w) (em := em) h3 h4 hko rk
          cases xv <;> simp only at h <;> try (simp at h; done)
          case nilmap =>
           simp at h
           subst h
           simp only [rel] at rm
           obtain ⟨r', e1, e2⟩ := findKey_run (P := P) (w := w) (es := []) (ces := []) (r := none) h3 h4 rk hko (by simp [relM]) (by simp [find])
           simp only [Found] at e2
           subst e2
           refine gives_ok (s := Instr.lookup t (a.eval m) (a.eval i) ok) ⟨if ok then .tuple #[z', .bool false] else z', ?_, ?_⟩
           ·rw [rm]
            unfold Instr.lookup
            simp only [Sem.run_bind, run_underlying hu, Result.andThen_ok, Sem.run_pure, ck, List.toList_toArray, e1, hz1]
           ·cases ok with
            | true => simpa using rel_tup2 hzr (by simp only [rel])
            | false => simpa using hzr
          case map id =>
           split at h
           ·rename_i es ckk hob
            obtain ⟨p, ces, hp, hv, ho, _, hmm⟩ := map_obj (P := P) hs hob rm
            cases hfd : find ag ks yv es with
            | none => simp [hfd] at h
            | some r =>
             obtain ⟨r', e1, e2⟩ := findKey_run (P := P) (w := w) h3 h4 rk hko hmm hfd
             cases r with
             | none =>
              simp only [Found] at e2
              subst e2
              simp [hfd] at h
              subst h
              refine gives_ok (s := Instr.lookup t (a.eval m) (a.eval i) ok) ⟨if ok then .tuple #[z', .bool false] else z', ?_, ?_⟩
              ·rw [hv]
               unfold Instr.lookup
               simp only [Sem.run_bind, run_underlying hu, Result.andThen_ok, ho, Sem.run_pure, ck, e1, hz1]
              ·cases ok with
               | true => simpa using rel_tup2 hzr (by simp only [rel])
               | false => simpa using hzr
             | some q =>
              obtain ⟨u, n⟩ := q
              obtain ⟨j, e, f1, f2, f3, _⟩ := e2
              subst f1
              simp [hfd] at h
              subst h
              refine gives_ok (s := Instr.lookup t (a.eval m) (a.eval i) ok) ⟨if ok then .tuple #[e.val, .bool true] else e.val, ?_, ?_⟩
              ·rw [hv]
               unfold Instr.lookup
               simp only [Sem.run_bind, run_underlying hu, Result.andThen_ok, ho, Sem.run_pure, ck, e1]
              ·cases ok with
               | true => simpa using rel_tup2 f3 (by simp only [rel])
               | false => simpa using f3
           ·simp at h
 case entry it =>
  obtain ⟨x1, h1, hpo⟩ := map_some hc
  cases hpo
  have r := hx it h1
  cases xv <;> simp only [aread] at h <;> try (simp at h; done)
  case it id =>
   split at h <;> try (simp at h; done)
   rename_i m since seen last hob
   split at h <;> try (simp at h; done)
   rename_i es ck hob2
   cases hb : Nat.beq ck last with
   | false => simp [hb] at h
   | true =>
    have hb := Nat.eq_of_beq_eq_true hb
    subst hb
    simp at h
    cases hl : seen.getLast? with
    | none => simp [hl] at h
    | some n =>
     simp only [hl] at h
     cases hst : byStamp n es with
     | none => simp [hst] at h
     | some q =>
      obtain ⟨k1, v1⟩ := q
      simp [hst] at h
      subst h
      obtain ⟨_, p, mb, hp, hw, q, hq, rfl⟩ := hs.obj id _ (view_get hob)
      obtain ⟨p2, ces, hp2, _, ho2, _, hmm⟩ := map_obj (P := P) (v' := .map (some q.block)) hs hob2 (by simp only [rel]; exact ⟨q, hq, rfl⟩)
      rw [hq] at hp2
      cases hp2
      simp only [rel] at r
      obtain ⟨p', hp', e⟩ := r
      rw [hp] at hp'
      cases hp'
      obtain ⟨en, f1, f2, f3⟩ := relM_stamp hmm hst
      refine gives_ok (s := Instr.entry (a.eval it)) ⟨.tuple #[en.key, en.val], ?_, rel_tup2 f2 f3⟩
      rw [e]
      unfold Instr.entry
      have hbk : seen.toArray.back? = some n := by rw [← hl]; simp
      have hfe : ces.find? (fun x => x.born == n) = some en := by rw [← Array.find?_toList]; exact f1
      simp only [Sem.run_bind, getObj_run hw (by simp), Result.andThen_ok, hbk, ho2, bne_self_eq_false, Bool.false_eq_true, if_false, hfe, Sem.run_pure]
 case convert sT dT z =>
  simp only [compOp, compConv] at hc
  cases h1 : compO z with
  | none => simp [h1] at hc
  | some x1 =>
   simp only [h1] at hc
   split at hc <;> try (simp at hc; done)
   ·rename_i e h2 h3
    split at hc
    ·rename_i h4
     simp at hc
     obtain ⟨rfl, rfl, rfl⟩ := hc
     have r := hx z h1
     simp only [aread] at h
     cases hl : slen xv with
     | none => simp [hl] at h
     | some n =>
      simp only [hl] at h
      cases hrow : s.row 1 n xv with
      | none => simp [hrow] at h
      | some cs =>
       simp only [hrow] at h
       cases hby : bytesOf cs with
       | none => simp [hby] at h
       | some b =>
        simp [hby] at h
        subst h
        obtain ⟨ys, g1, g2, g3'⟩ := row_run (P := P) hs hrow r
        have g3 := g3' w rfl
        refine gives_ok (s := convert sT dT (a.eval z)) ?_
        have hsl : ∃ ad c, a.eval z = .slice ad n c ∧ (ad = none → b = []) := by
         cases xv <;> simp [slen] at hl <;> simp only [rel] at r
         ·obtain ⟨_, _, _, _, _, _, _, _, e⟩ := r; subst hl; exact ⟨_, _, e, by simp⟩
         ·obtain ⟨_, _, e, _⟩ := r; subst hl; exact ⟨_, _, e, by simp⟩
         ·obtain ⟨_, _, e⟩ := r; subst hl; exact ⟨_, _, e, by simp⟩
         ·subst hl
          refine ⟨none, 0, r, fun _ => ?_⟩
          simp [St.row] at hrow
          subst hrow
          simp [bytesOf] at hby
          exact hby
        obtain ⟨ad, c, ez, hnone⟩ := hsl
        rw [ez] at g3
        have hconv : (convert sT dT (.slice ad n c)).run P w = (Conv.bytesToString (.slice ad n c)).run P w := by
         unfold convert
         simp only [Sem.run_bind, run_underlying h2, run_underlying h3, Result.andThen_ok, run_underlying h4]
        unfold Gives
        rw [ez, hconv]
        unfold Conv.bytesToString
        cases ad with
        | none =>
         refine ⟨.string .empty, rfl, ?_⟩
         simp only [rel]
         exact ⟨_, rfl, by rw [hnone rfl]; rfl⟩
        | some ad =>
         unfold Builtin.firstCells at g3
         rw [Nat.mul_one] at g3
         obtain ⟨r', f1, f2⟩ := bytes_run (P := P) (w := w) cs ys b ByteArray.empty hby g1
         refine ⟨.string r', ?_, ?_⟩
         ·simp only [Sem.run_bind, g3, Result.andThen_ok]
          rw [← Array.forIn_toList]
          have e2 : ys.toArray.toList = ys := by simp
          rw [e2]
          exact congrArg (fun r : Result ByteArray => r.andThen fun a w' => Result.ok (Value.string a) w') f1
         ·simp only [rel]
          exact ⟨_, rfl, by rw [f2]; rfl⟩
    ·simp at hc
   ·split at hc <;> simp at hc
 case call c =>
  simp only [compOp, compCall] at hc
  split at hc
  ·rename_i b hb
   unfold compBuiltin at hc
   cases ha : compOs c.args.toList with
   | none => simp [ha] at hc
   | some as =>
    simp only [ha] at hc
    split at hc
    ·rename_i z t ht
     cases hu : P.underlying t with
     | none => simp [hu] at hc
     | some ty =>
      cases ty <;> simp only [hu] at hc <;> try (simp at hc; done)
      case pointer arr => split at hc <;> simp at hc
      case map kt et =>
       simp at hc
       obtain ⟨rfl, rfl, rfl⟩ := hc
       obtain ⟨x0, hx0, hxx⟩ : ∃ x0, c.args.toList = [x0] ∧ compO x0 = some z := by
        cases hl : c.args.toList with
        | nil => rw [hl] at ha; simp [compOs] at ha
        | cons x0 r =>
         rw [hl] at ha
         simp only [compOs] at ha
         cases h1 : compO x0 with
         | none => simp [h1] at ha
         | some y0 =>
          cases h2 : compOs r with
          | none => simp [h1, h2] at ha
          | some ys =>
           simp [h1, h2] at ha
           obtain ⟨rfl, rfl⟩ := ha
           cases r with
           | nil => exact ⟨x0, rfl, h1⟩
           | cons r0 r1 =>
            simp only [compOs] at h2
            cases h3 : compO r0 <;> cases h4 : compOs r1 <;> simp [h3, h4] at h2
       have hargs : c.args.map a.eval = #[a.eval x0] := by rw [toList_one hx0]; simp
       have r := hx x0 hxx
       refine builtin_ok (s := Builtin.len_ c.argTypes o.type (c.args.map a.eval)) hb (fun k => rfl) ?_
       simp only [aread] at h
       cases xv <;> simp only at h <;> try (simp at h; done)
       case nilmap =>
        simp at h
        subst h
        simp only [rel] at r
        refine ⟨goInt 0, ?_, by simp only [rel, goInt]⟩
        rw [hargs, r]
        unfold Builtin.len_
        rw [ht]
        simp only [List.getElem?_toArray, List.getElem?_cons_zero, Sem.run_bind, run_underlying hu, Result.andThen_ok, Sem.run_pure]
       case map id =>
        split at h
        ·rename_i es ck hob
         simp at h
         subst h
         obtain ⟨p, ces, hp, hv, ho2, _, hmm⟩ := map_obj (P := P) hs hob r
         refine ⟨goInt ces.size, ?_, ?_⟩
         ·rw [hargs, hv]
          unfold Builtin.len_
          rw [ht]
          simp only [List.getElem?_toArray, List.getElem?_cons_zero, Sem.run_bind, run_underlying hu, Result.andThen_ok, ho2, Sem.run_pure]
         ·simp only [rel, goInt]
          rw [relM_length hmm]
          rfl
        ·simp at h
    all_goals (repeat' split at hc)
    all_goals simp at hc
  ·simp at hc
  ·obtain ⟨_, _, hpo⟩ := map_some hc
   simp at hpo
  ·split at hc <;> simp at hc
 case makeMap t r => cases r <;> simp [compOp] at hc
 case makeFunc f b c =>
  cases f <;> simp only [compOp] at hc <;> try (simp at hc; done)
  repeat' split at hc
  all_goals simp at hc
 case binOp op t x2 y2 yt =>
  have : (∃ p, compOp P (.binOp op t x2 y2 yt) = some (.p p)) ∨ compOp P (.binOp op t x2 y2 yt) = none := by
   by_cases h1 : op = .eql
   ·subst h1
    cases hq : compEq P false t x2 y2 with
    | none => exact .inr hq
    | some ao => obtain ⟨p, rfl⟩ := compEq_np hq; exact .inl ⟨p, hq⟩
   ·by_cases h2 : op = .neq
    ·subst h2
     cases hq : compEq P true t x2 y2 with
     | none => exact .inr hq
     | some ao => obtain ⟨p, rfl⟩ := compEq_np hq; exact .inl ⟨p, hq⟩
    ·cases op <;> first
      | exact absurd rfl h1
      | exact absurd rfl h2
      | (
        simp only [compOp]
        split
        ·exact .inl ⟨_, rfl⟩
        ·exact .inr rfl)
  rcases this with ⟨p, e⟩ | e <;> rw [e] at hc <;> simp at hc
 all_goals first
  | (simp [compOp] at hc; done)
  | (
    simp only [compOp] at hc; repeat' split at hc
    all_goals first | (simp at hc; done) | (obtain ⟨_, _, hpo⟩ := map_some hc; simp at hpo; done))
  | (
    simp only [compOp, compSlice] at hc; repeat' split at hc
    all_goals first | (simp at hc; done) | (obtain ⟨_, _, hpo⟩ := map_some hc; simp at hpo; done))
end
end Go.Abs
