/- Operators: where the abstract evaluator gives a value, the model gives the one that it stands for. -/
import Derived.Test.YtiiajdfjnamfcaaGreatAbsBase
set_option autoImplicit false
set_option linter.unusedSimpArgs false
set_option linter.unusedVariables false
namespace Go.Abs
open Go Go.RowKit
section
variable {P : Program} {w : World} {ι : IM} {w0 : World}
def Gives (P : Program) (w : World) (ι : IM) (w0 : World) (s : Sem Value) (v : AV) : Prop := ∃ y, s.run P w = .ok y w ∧ rel ι w0 v y
theorem Gives.mk {s : Sem Value} {v : AV} {y : Value} (h : s.run P w = .ok y w) (r : rel ι w0 v y) : Gives P w ι w0 s v := ⟨y, h, r⟩
theorem acmp_sim {op : BinOp} {lt eq : Bool} {r : AV} (h : acmp op lt eq = some r) :
  ∃ b, r = .bool b ∧ (op = .eql ∧ b = eq ∨ op = .neq ∧ b = !eq ∨ op = .lss ∧ b = lt ∨ op = .leq ∧ b = (lt || eq) ∨ op = .gtr ∧ b = !(lt || eq) ∨ op = .geq ∧ b = !lt) := by
 cases op <;> simp [acmp] at h <;> subst h <;> simp
theorem eqGuard_int (op : BinOp) (T : TypeId) (X Y : Operand) (j k : IntKind) (a b : Int) : (eqGuard op T X Y (.int j a) (.int k b)).run P w = .ok () w := by
 cases op <;> rfl
theorem eqGuard_str (op : BinOp) (T : TypeId) (X Y : Operand) (a b : ByteArray) : (eqGuard op T X Y (.string a) (.string b)).run P w = .ok () w := by
 cases op <;> rfl
theorem cmp_int {op : BinOp} {a b : Int} {r : AV} (h : acmp op (ilt a b) (ieq a b) = some r) : ∃ r', (Op.intCmp op a b).run P w = .ok r' w ∧ rel ι w0 r r' := by
 have h' := acmp_sim h
 clear h
 obtain ⟨c, rfl, h'⟩ := h'
 rw [ilt_eq, ieq_eq] at h'
 rcases h' with ⟨rfl, rfl⟩ | ⟨rfl, rfl⟩ | ⟨rfl, rfl⟩ | ⟨rfl, rfl⟩ | ⟨rfl, rfl⟩ | ⟨rfl, rfl⟩
 ·exact ⟨_, rfl, by simp only [rel]; rfl⟩
 ·exact ⟨_, rfl, by simp only [rel]; rfl⟩
 ·exact ⟨_, rfl, by simp only [rel]⟩
 ·refine ⟨_, rfl, ?_⟩
  simp only [rel]
  congr 1
  rw [Bool.eq_iff_iff]; simp; omega
 ·refine ⟨_, rfl, ?_⟩
  simp only [rel]
  congr 1
  rw [Bool.eq_iff_iff]; simp; omega
 ·refine ⟨_, rfl, ?_⟩
  simp only [rel]
  congr 1
  rw [Bool.eq_iff_iff]; simp
theorem cmp_str {op : BinOp} {a b : ByteArray} {r : AV} (h : acmp op (nless (natBytes a) (natBytes b)) (neq (natBytes a) (natBytes b)) = some r) :
  ∃ r', (Op.stringOp op a b).run P w = .ok r' w ∧ rel ι w0 r r' := by
 have h' := acmp_sim h
 clear h
 obtain ⟨c, rfl, h'⟩ := h'
 rw [nless_bytes, neq_bytes] at h'
 rcases h' with ⟨rfl, rfl⟩ | ⟨rfl, rfl⟩ | ⟨rfl, rfl⟩ | ⟨rfl, rfl⟩ | ⟨rfl, rfl⟩ | ⟨rfl, rfl⟩ <;> exact ⟨_, rfl, by simp only [rel]⟩
theorem top_lt (k : IntKind) : top k < 2 ^ k.bits := by cases k <;> simp [top, IntKind.bits]
theorem wrap_nat {k : IntKind} {n : Nat} (h : n ≤ top k) : k.wrap (n : Int) = n := by
 rw [← awrap_eq]
 show (bif Nat.ble n (top k) then Int.ofNat n else _) = _
 rw [Nat.ble_eq_true_of_le h]
 rfl
theorem bits_nat {k : IntKind} {x : Nat} (h : x ≤ top k) : (BitVec.ofInt k.bits (x : Int)).toNat = x := by
 have := top_lt k
 rw [BitVec.toNat_ofInt]
 have e : ((x : Int) % ((2 ^ k.bits : Nat) : Int)) = (x : Int) := Int.emod_eq_of_lt (by omega) (by omega)
 rw [e]; rfl
theorem or_top {k : IntKind} {x y : Nat} (hx : x ≤ top k) (hy : y ≤ top k) : x ||| y ≤ top k := by
 have : ∃ n, top k = 2 ^ n - 1 := by
  cases k
  ·exact ⟨7, rfl⟩
  ·exact ⟨15, rfl⟩
  ·exact ⟨31, rfl⟩
  ·exact ⟨63, rfl⟩
  ·exact ⟨8, rfl⟩
  ·exact ⟨16, rfl⟩
  ·exact ⟨32, rfl⟩
  ·exact ⟨64, rfl⟩
 obtain ⟨n, hn⟩ := this
 have hp : 0 < 2 ^ n := Nat.two_pow_pos n
 have := Nat.or_lt_two_pow (x := x) (y := y) (n := n) (by omega) (by omega)
 omega
theorem xor_top {k : IntKind} {x y : Nat} (hx : x ≤ top k) (hy : y ≤ top k) : x ^^^ y ≤ top k := by
 have : ∃ n, top k = 2 ^ n - 1 := by
  cases k
  ·exact ⟨7, rfl⟩
  ·exact ⟨15, rfl⟩
  ·exact ⟨31, rfl⟩
  ·exact ⟨63, rfl⟩
  ·exact ⟨8, rfl⟩
  ·exact ⟨16, rfl⟩
  ·exact ⟨32, rfl⟩
  ·exact ⟨64, rfl⟩
 obtain ⟨n, hn⟩ := this
 have hp : 0 < 2 ^ n := Nat.two_pow_pos n
 have := Nat.xor_lt_two_pow (x := x) (y := y) (n := n) (by omega) (by omega)
 omega
theorem abits_sim {op : BinOp} {k : IntKind} {a b n : Int} (h : abits k op a b = some n) : (Op.intBits op k a b).run P w = .ok (.int k n) w := by
 cases op <;> simp [abits] at h <;> subst h <;> simp [Op.intBits]
theorem aint_sim {op : BinOp} {k : IntKind} {a b : Int} {r : AV} (h : aint op k a b = some r) (T : TypeId) (h1 : op ≠ .shl) (h2 : op ≠ .shr) :
  ∃ r', (binOp op T (.int k a) (.int k b)).run P w = .ok r' w ∧ rel ι w0 r r' := by
 have bits : ∀ (c : Op.intBits op k a b = binOp op T (.int k a) (.int k b)), (abits k op a b).map (AV.int k ·) = some r → ∃ r', (binOp op T (.int k a) (.int k b)).run P w = .ok r' w ∧ rel ι w0 r r' := by
  intro c h
  cases hb : abits k op a b with
  | none => rw [hb] at h; simp at h
  | some n =>
   rw [hb] at h
   simp at h
   subst h
   rw [← c]
   exact ⟨_, abits_sim hb, by simp only [rel]⟩
 have bits2 : ∀ (c : Op.intBits op k a b = binOp op T (.int k a) (.int k b)) (x y : Nat), a = x → b = y → x ≤ top k → y ≤ top k → ∀ n : Nat,
   (op = .and ∧ n = x &&& y ∨ op = .or ∧ n = x ||| y ∨ op = .xor ∧ n = x ^^^ y) → r = .int k (.ofNat n) → ∃ r', (binOp op T (.int k a) (.int k b)).run P w = .ok r' w ∧ rel ι w0 r r' := by
  intro c x y ea eb hx hy n hn hr
  subst ea eb
  rw [← c]
  rcases hn with ⟨rfl, rfl⟩ | ⟨rfl, rfl⟩ | ⟨rfl, rfl⟩
  ·refine ⟨_, rfl, ?_⟩
   subst hr
   simp only [rel]
   rw [BitVec.toNat_and, bits_nat hx, bits_nat hy, wrap_nat (Nat.le_trans Nat.and_le_left hx)]
   rfl
  ·refine ⟨_, rfl, ?_⟩
   subst hr
   simp only [rel]
   rw [BitVec.toNat_or, bits_nat hx, bits_nat hy, wrap_nat (or_top hx hy)]
   rfl
  ·refine ⟨_, rfl, ?_⟩
   subst hr
   simp only [rel]
   rw [BitVec.toNat_xor, bits_nat hx, bits_nat hy, wrap_nat (xor_top hx hy)]
   rfl
 have bits3 : ∀ (c : Op.intBits op k a b = binOp op T (.int k a) (.int k b)) (f : Nat → Nat → Nat), (∀ x y, op = .and ∧ f x y = x &&& y ∨ op = .or ∧ f x y = x ||| y ∨ op = .xor ∧ f x y = x ^^^ y) →
   abitw op k f a b = some r → ∃ r', (binOp op T (.int k a) (.int k b)).run P w = .ok r' w ∧ rel ι w0 r r' := by
  intro c f hf h
  cases a with
  | negSucc x => exact bits c h
  | ofNat x =>
   cases b with
   | negSucc y => exact bits c h
   | ofNat y =>
    simp only [abitw] at h
    cases hc : Nat.ble x (top k) && Nat.ble y (top k) with
    | false => rw [hc] at h; exact bits c h
    | true =>
     rw [hc] at h
     rw [Bool.and_eq_true] at hc
     exact bits2 c x y rfl rfl (Nat.le_of_ble_eq_true hc.1) (Nat.le_of_ble_eq_true hc.2) (f x y) (hf x y) (by simpa using h.symm)
 cases op with
 | shl => exact absurd rfl h1
 | shr => exact absurd rfl h2
 | add => simp only [aint] at h; cases h; exact ⟨.int k (k.wrap (a + b)), by simp [binOp, Op.intArith], by simp only [rel]; rw [awrap_eq]⟩
 | sub => simp only [aint] at h; cases h; exact ⟨.int k (k.wrap (a - b)), by simp [binOp, Op.intArith], by simp only [rel]; rw [awrap_eq]⟩
 | mul => simp only [aint] at h; cases h; exact ⟨.int k (k.wrap (a * b)), by simp [binOp, Op.intArith], by simp only [rel]; rw [awrap_eq]⟩
 | quo =>
  simp only [aint] at h
  cases hb : ieq b 0 with
  | true => rw [hb] at h; simp at h
  | false =>
   rw [hb] at h
   rw [ieq_eq, decide_eq_false_iff_not] at hb
   simp only [cond_false] at h
   cases h
   exact ⟨.int k (k.wrap (a.tdiv b)), by simp [binOp, Op.intDiv, hb], by simp only [rel]; rw [awrap_eq]⟩
 | rem =>
  simp only [aint] at h
  cases hb : ieq b 0 with
  | true => rw [hb] at h; simp at h
  | false =>
   rw [hb] at h
   rw [ieq_eq, decide_eq_false_iff_not] at hb
   simp only [cond_false] at h
   cases h
   exact ⟨.int k (a.tmod b), by simp [binOp, Op.intDiv, hb], by simp only [rel]⟩
 | and => exact bits3 (by simp [binOp]) (· &&& ·) (fun _ _ => .inl ⟨rfl, rfl⟩) h
 | or => exact bits3 (by simp [binOp]) (· ||| ·) (fun _ _ => .inr (.inl ⟨rfl, rfl⟩)) h
 | xor => exact bits3 (by simp [binOp]) (· ^^^ ·) (fun _ _ => .inr (.inr ⟨rfl, rfl⟩)) h
 | andNot => exact bits (by simp [binOp]) h
 | eql => obtain ⟨r', e, f⟩ := cmp_int (P := P) (w := w) (ι := ι) (w0 := w0) (show acmp .eql (ilt a b) (ieq a b) = some r from h); exact ⟨r', by simpa [binOp] using e, f⟩
 | neq => obtain ⟨r', e, f⟩ := cmp_int (P := P) (w := w) (ι := ι) (w0 := w0) (show acmp .neq (ilt a b) (ieq a b) = some r from h); exact ⟨r', by simpa [binOp] using e, f⟩
 | lss => obtain ⟨r', e, f⟩ := cmp_int (P := P) (w := w) (ι := ι) (w0 := w0) (show acmp .lss (ilt a b) (ieq a b) = some r from h); exact ⟨r', by simpa [binOp] using e, f⟩
 | leq => obtain ⟨r', e, f⟩ := cmp_int (P := P) (w := w) (ι := ι) (w0 := w0) (show acmp .leq (ilt a b) (ieq a b) = some r from h); exact ⟨r', by simpa [binOp] using e, f⟩
 | gtr => obtain ⟨r', e, f⟩ := cmp_int (P := P) (w := w) (ι := ι) (w0 := w0) (show acmp .gtr (ilt a b) (ieq a b) = some r from h); exact ⟨r', by simpa [binOp] using e, f⟩
 | geq => obtain ⟨r', e, f⟩ := cmp_int (P := P) (w := w) (ι := ι) (w0 := w0) (show acmp .geq (ilt a b) (ieq a b) = some r from h); exact ⟨r', by simpa [binOp] using e, f⟩
theorem ashift_sim {left : Bool} {k : IntKind} {a b : Int} {r : AV} (h : ashift left k a b = some r) (j : IntKind) :
  ∃ r', (Op.shift (if left then .shl else .shr) k a j b).run P w = .ok r' w ∧ rel ι w0 r r' := by
 cases b with
 | negSucc m => simp [ashift] at h
 | ofNat m =>
  have hn : (bif Nat.ble m (nbits k) then m else nbits k) = min m k.bits := by
   rw [nbits_eq]
   cases hc : Nat.ble m k.bits with
   | true => have := Nat.le_of_ble_eq_true hc; simp only [cond_true]; omega
   | false =>
         have : ¬ m ≤ k.bits := fun h => by rw [Nat.ble_eq_true_of_le h] at hc; simp at hc
         simp only [cond_false]; omega
  simp only [ashift, hn] at h
  have h0 : ¬ ((Int.ofNat m) < 0) := by simp
  have e0 : (Int.ofNat m).toNat = m := rfl
  have hpw : ((2 ^ (min m k.bits) : Nat) : Int) = (2 : Int) ^ (min m k.bits) := by simp
  cases left with
  | true =>
   cases a with
   | ofNat x =>
    simp only at h
    cases h
    refine ⟨.int k (k.wrap (Int.ofNat x * 2 ^ (min m k.bits))), by simp only [Op.shift, if_true, h0, if_false, e0]; rfl, ?_⟩
    simp only [rel, awrap_eq]
    congr 2
   | negSucc x =>
    simp only at h
    cases h
    refine ⟨.int k (k.wrap (Int.negSucc x * 2 ^ (min m k.bits))), by simp only [Op.shift, if_true, h0, if_false, e0]; rfl, ?_⟩
    simp only [rel, awrap_eq]
    rw [hpw]
  | false =>
   cases a with
   | ofNat x =>
    simp only at h
    cases h
    refine ⟨.int k ((Int.ofNat x).fdiv (2 ^ (min m k.bits))), by simp only [Op.shift, h0, if_false, e0]; rfl, ?_⟩
    simp only [rel]
    congr 1
    rw [← hpw]
    show (x : Int).fdiv _ = _
    rw [Int.fdiv_eq_ediv_of_nonneg _ (Int.natCast_nonneg _)]
    rfl
   | negSucc x =>
    simp only at h
    cases h
    refine ⟨.int k ((Int.negSucc x).fdiv (2 ^ (min m k.bits))), by simp only [Op.shift, h0, if_false, e0]; rfl, ?_⟩
    simp only [rel]
    rw [hpw]
theorem abin_sim {op : BinOp} {x y r : AV} {x' y' : Value} (h : abin op x y = some r) (hx : rel ι w0 x x') (hy : rel ι w0 y y') (T : TypeId) (X Y : Operand) :
  Gives P w ι w0 (do eqGuard op T X Y x' y'; binOp op T x' y') r := by
 cases x with
 | int k a =>
  cases y with
  | int j b =>
   simp only [rel] at hx hy
   subst hx hy
   simp only [Gives, Sem.run_bind, eqGuard_int, Result.andThen_ok]
   simp only [abin] at h
   by_cases h1 : op = .shl
   ·subst h1
    obtain ⟨r', e, f⟩ := ashift_sim (P := P) (w := w) (ι := ι) (w0 := w0) h j
    exact ⟨r', by simpa [binOp] using e, f⟩
   ·by_cases h2 : op = .shr
    ·subst h2
     obtain ⟨r', e, f⟩ := ashift_sim (P := P) (w := w) (ι := ι) (w0 := w0) h j
     exact ⟨r', by simpa [binOp] using e, f⟩
    ·have h3 : (bif keq k j then aint op k a b else none) = some r := by
      cases op <;> first | exact absurd rfl h1 | exact absurd rfl h2 | exact h
     rw [keq_eq] at h3
     by_cases hk : k = j
     ·subst hk
      simp at h3
      exact aint_sim h3 T h1 h2
     ·simp [hk] at h3
  | _ => simp [abin] at h
 | str a =>
  cases y with
  | str b =>
   simp only [rel] at hx hy
   obtain ⟨a', rfl, rfl⟩ := hx
   obtain ⟨b', rfl, rfl⟩ := hy
   simp only [Gives, Sem.run_bind, eqGuard_str, Result.andThen_ok]
   simp only [abin] at h
   by_cases h1 : op = .add
   ·subst h1
    simp only at h
    cases hc : Nat.ble ((natBytes a').length + (natBytes b').length) lim with
    | false => rw [hc] at h; simp at h
    | true =>
     rw [hc] at h
     simp only [cond_true] at h
     cases h
     have hl := Nat.le_of_ble_eq_true hc
     rw [natBytes_length, natBytes_length] at hl
     have : ¬ (((a'.size + b'.size : Nat) : Int) > IntKind.i64.max) := by
      simp only [IntKind.max, IntKind.signed, IntKind.bits, lim] at hl ⊢
      simp
      omega
     exact ⟨.string (a' ++ b'), by simp only [binOp, Op.stringOp, this, if_false]; rfl, by simp only [rel]; exact ⟨_, rfl, natBytes_append _ _⟩⟩
   ·have h3 : acmp op (nless (natBytes a') (natBytes b')) (neq (natBytes a') (natBytes b')) = some r := by
     cases op <;> first | exact absurd rfl h1 | exact h
    obtain ⟨r', e, f⟩ := cmp_str (P := P) (w := w) (ι := ι) (w0 := w0) h3
    refine ⟨r', ?_, f⟩
    rw [← e]
    cases op <;> first | exact absurd rfl h1 | (simp [acmp] at h3; done) | (simp [binOp]; done) | rfl
  | _ => simp [abin] at h
 | _ => simp [abin] at h
end
end Go.Abs
