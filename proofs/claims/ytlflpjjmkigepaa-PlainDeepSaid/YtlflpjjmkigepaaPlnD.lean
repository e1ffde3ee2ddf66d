/- Plain values in bytes, plain laws: numbers, scalars, what is written and what is read. -/
import Derived.Test.YtlflpjjmkigepaaPlnC
set_option autoImplicit false
set_option linter.unusedVariables false
set_option linter.unusedSimpArgs false
set_option maxRecDepth 100000
set_option maxHeartbeats 4000000
namespace Go.Proofs.Ytlflpjjmkigepaa
open Go Go.Abs
/-- A number's byte. -/
def byt (n : Int) (i : Nat) : Nat := (n / (256 ^ i : Nat) % 256).toNat
def leB (n : Int) (w : Nat) : List Nat := (List.range w).map fun i => byt n i
def deB : List Nat → Nat | [] => 0 | a :: r => a + 256 * deB r
def i64 (u : Nat) : Int := if u < 9223372036854775808 then (u : Int) else (u : Int) - 18446744073709551616
def rng (n : Int) : Prop := -9223372036854775808 ≤ n ∧ n < 9223372036854775808
theorem byt_lt (n : Int) (i : Nat) : byt n i < 256 := by unfold byt; omega
theorem byt_succ (n : Int) (i : Nat) : byt n (i + 1) = byt (n / 256) i := by
  unfold byt
  rw [Int.ediv_ediv_of_nonneg (by omega)]
  congr 3
  rw [Nat.pow_succ, Nat.mul_comm]; rfl
theorem leB_len (n : Int) (w : Nat) : (leB n w).length = w := by simp [leB]
theorem leB_succ (n : Int) (w : Nat) : leB n (w + 1) = (n % 256).toNat :: leB (n / 256) w := by
  simp only [leB, List.range_succ_eq_map, List.map_cons, List.map_map]
  congr 1
  · simp [byt]
  · apply List.map_congr_left; intro i _; exact byt_succ n i
theorem leB_lt {n : Int} {w : Nat} : ∀ x, x ∈ leB n w → x < 256 := by
  intro x hx
  obtain ⟨i, _, rfl⟩ := List.mem_map.1 hx
  exact byt_lt n i
theorem leB_mod {n m : Int} : ∀ {w : Nat}, (n - m) % (256 ^ w : Nat) = 0 → leB n w = leB m w
  | 0, _ => rfl
  | w + 1, h => by
    rw [leB_succ, leB_succ]
    obtain ⟨k, hk⟩ := Int.dvd_of_emod_eq_zero h
    have e : n = m + 256 * ((256 ^ w : Nat) * k) := by
      have : (((256 ^ (w + 1) : Nat) : Int)) = 256 * (256 ^ w : Nat) := by rw [Nat.pow_succ, Nat.mul_comm]; simp
      rw [this, Int.mul_assoc] at hk
      omega
    have e1 : n / 256 = m / 256 + (256 ^ w : Nat) * k := by omega
    rw [leB_mod (n := n / 256) (m := m / 256) (by rw [e1, Int.add_comm, Int.add_sub_cancel]; exact Int.mul_emod_right _ _)]
    congr 1
    omega
theorem leB_deB : ∀ {bs : List Nat}, (∀ x, x ∈ bs → x < 256) → leB (deB bs) bs.length = bs
  | [], _ => rfl
  | a :: r, h => by
    have ha := h a (by simp)
    rw [List.length_cons, leB_succ, deB]
    have e1 : ((a + 256 * deB r : Nat) : Int) % 256 = a := by omega
    have e2 : ((a + 256 * deB r : Nat) : Int) / 256 = deB r := by omega
    rw [e1, e2, leB_deB fun x hx => h x (List.mem_cons_of_mem _ hx)]
    rfl
theorem deB_lt : ∀ {bs : List Nat}, (∀ x, x ∈ bs → x < 256) → deB bs < 256 ^ bs.length
  | [], _ => by simp [deB]
  | a :: r, h => by
    have ha := h a (by simp)
    have ih := deB_lt fun x hx => h x (List.mem_cons_of_mem a hx)
    rw [deB, List.length_cons, Nat.pow_succ]
    omega
theorem deB_leB : ∀ {w : Nat} {n : Int}, (deB (leB n w) : Int) = n % (256 ^ w : Nat)
  | 0, n => by simp [leB, deB, Int.emod_one]
  | w + 1, n => by
    rw [leB_succ, deB]
    have ih := deB_leB (w := w) (n := n / 256)
    have e : (((256 ^ (w + 1) : Nat) : Int)) = 256 * (256 ^ w : Nat) := by rw [Nat.pow_succ, Nat.mul_comm]; simp
    rw [e]
    have hp : (0 : Int) < (256 ^ w : Nat) := by exact_mod_cast Nat.pow_pos (by omega)
    have h1 : n % (256 * ((256 ^ w : Nat) : Int)) = n % 256 + 256 * (n / 256 % (256 ^ w : Nat)) := by
      have a1 := Int.emod_add_mul_ediv n 256
      have a2 := Int.emod_add_mul_ediv (n / 256) (256 ^ w : Nat)
      have b1 := Int.emod_lt_of_pos n (b := 256) (by omega)
      have b2 := Int.emod_nonneg n (b := 256) (by omega)
      have b3 := Int.emod_lt_of_pos (n / 256) hp
      have b4 := Int.emod_nonneg (n / 256) (b := (256 ^ w : Nat)) (by omega)
      have e3 : n = (n % 256 + 256 * (n / 256 % (256 ^ w : Nat))) + (256 * ((256 ^ w : Nat) : Int)) * (n / 256 / (256 ^ w : Nat)) := by
        rw [Int.mul_assoc]; omega
      rw [e3, Int.add_mul_emod_self_left, ← e3]
      rw [Int.emod_eq_of_lt] <;> omega
    rw [h1, ← ih]
    simp only [Int.natCast_add, Int.natCast_mul]
    omega
theorem i64_rng {u : Nat} (h : u < 18446744073709551616) : rng (i64 u) := by unfold rng i64; split <;> omega
theorem leB_i64 {u : Nat} : leB (i64 u) 8 = leB u 8 := by
  refine leB_mod ?_
  unfold i64
  split
  · simp
  · have : ((u : Int) - 18446744073709551616 - u) = -18446744073709551616 := by omega
    rw [this]; decide
theorem i64_leB {n : Int} (h : rng n) : i64 (deB (leB n 8)) = n := by
  have e := deB_leB (w := 8) (n := n)
  have e2 : ((256 ^ 8 : Nat) : Int) = 18446744073709551616 := by decide
  rw [e2] at e
  unfold rng at h
  unfold i64
  split <;> omega
/-! Parts of a text. -/
def sgm (s : List Nat) (a b : Nat) : List Nat := (s.drop a).take (b - a)
theorem seg_app {s : List Nat} {a b c : Nat} (h1 : a ≤ b) (h2 : b ≤ c) : sgm s a b ++ sgm s b c = sgm s a c := by
  unfold sgm
  have e : s.drop b = (s.drop a).drop (b - a) := by rw [List.drop_drop]; congr 1; omega
  rw [e, show c - a = (b - a) + (c - b) by omega, List.take_add]
theorem seg_len {s : List Nat} {a b : Nat} (h2 : b ≤ s.length) : (sgm s a b).length = b - a := by
  unfold sgm; rw [List.length_take, List.length_drop]; omega
theorem seg_lt {s : List Nat} {a b : Nat} (h : ∀ x, x ∈ s → x < 256) : ∀ x, x ∈ sgm s a b → x < 256 := fun x hx => h x (List.mem_of_mem_drop (List.mem_of_mem_take hx))
theorem seg_one {s : List Nat} {a x : Nat} (h : s[a]? = some x) : sgm s a (a + 1) = [x] := by
  unfold sgm
  rw [show a + 1 - a = 1 by omega]
  obtain ⟨ha, rfl⟩ := List.getElem?_eq_some_iff.1 h
  rw [List.drop_eq_getElem_cons ha]
  rfl
theorem seg_mid {p t q : List Nat} {a b : Nat} (ha : a = p.length) (hb : b = p.length + t.length) : sgm (p ++ (t ++ q)) a b = t := by
  subst ha hb
  unfold sgm
  rw [List.drop_left, show p.length + t.length - p.length = t.length by omega, List.take_left]
/-- The bytes of a value that is no table. -/
def sc (v : Val) : List Nat := if v.k = 1 then 1 :: leB v.n 8 else if v.k = 2 then 2 :: (leB v.s.length 4 ++ v.s) else [0]
def rdS (s : List Nat) (at_ : Nat) : Option (Val × Nat) := match s[at_]? with
  | some 0 => some (v0, at_ + 1)
  | some 1 => if at_ + 9 ≤ s.length then some (⟨1, i64 (deB (sgm s (at_ + 1) (at_ + 9))), []⟩, at_ + 9) else none
  | some 2 => if at_ + 5 ≤ s.length then
      if at_ + 5 + deB (sgm s (at_ + 1) (at_ + 5)) ≤ s.length ∧ deB (sgm s (at_ + 1) (at_ + 5)) ≤ 1024 then
        some (⟨2, 0, sgm s (at_ + 5) (at_ + 5 + deB (sgm s (at_ + 1) (at_ + 5)))⟩, at_ + 5 + deB (sgm s (at_ + 1) (at_ + 5))) else none
    else none
  | _ => none
/-- A value that is no table, as it should be. -/
def ScOk (v : Val) : Prop := v = v0 ∨ v.k = 1 ∧ v.s = [] ∧ rng v.n ∨ v.k = 2 ∧ v.n = 0 ∧ v.s.length ≤ 1024 ∧ ∀ x, x ∈ v.s → x < 256
theorem rdS_sc {s : List Nat} {a b : Nat} {v : Val} (hs : ∀ x, x ∈ s → x < 256) (h : rdS s a = some (v, b)) : sc v = sgm s a b ∧ a < b ∧ b ≤ s.length ∧ ScOk v := by
  unfold rdS at h
  split at h
  · rename_i h0
    cases h
    refine ⟨by rw [seg_one h0]; rfl, by omega, ?_, .inl rfl⟩
    obtain ⟨ha, _⟩ := List.getElem?_eq_some_iff.1 h0
    omega
  · rename_i h0
    split at h
    · rename_i hl
      cases h
      have hb := seg_lt (a := a + 1) (b := a + 9) hs
      have hlen := seg_len (s := s) (a := a + 1) (b := a + 9) hl
      have h8 := leB_deB hb
      rw [hlen, show a + 9 - (a + 1) = 8 by omega] at h8
      have hlt := deB_lt hb
      rw [hlen, show a + 9 - (a + 1) = 8 by omega] at hlt
      refine ⟨?_, by omega, hl, .inr (.inl ⟨rfl, rfl, i64_rng hlt⟩)⟩
      simp only [sc, if_pos]
      rw [leB_i64, h8, ← seg_app (s := s) (a := a) (b := a + 1) (c := a + 9) (by omega) (by omega), seg_one h0]
      rfl
    · cases h
  · rename_i h0
    split at h
    · rename_i hl
      split at h
      · rename_i hn
        cases h
        have hb := seg_lt (a := a + 1) (b := a + 5) hs
        have hlen := seg_len (s := s) (a := a + 1) (b := a + 5) hl
        have h4 := leB_deB hb
        rw [hlen, show a + 5 - (a + 1) = 4 by omega] at h4
        have hl2 := seg_len (s := s) (a := a + 5) (b := a + 5 + deB (sgm s (a + 1) (a + 5))) hn.1
        refine ⟨?_, by omega, hn.1, .inr (.inr ⟨rfl, rfl, by rw [hl2]; omega, seg_lt hs⟩)⟩
        have e : ∀ t, sc ⟨2, 0, t⟩ = 2 :: (leB t.length 4 ++ t) := fun _ => rfl
        generalize hg : deB (sgm s (a + 1) (a + 5)) = g at *
        rw [e, hl2, show a + 5 + g - (a + 5) = g by omega, h4, seg_app (by omega) (by omega), ← seg_app (s := s) (a := a) (b := a + 1) (c := a + 5 + g) (by omega) (by omega), seg_one h0]
        rfl
      · cases h
    · cases h
  · cases h
theorem get_mid {p t q : List Nat} {x : Nat} : (p ++ (x :: t ++ q))[p.length]? = some x := by
  rw [List.getElem?_append_right (Nat.le_refl _)]; simp
theorem sc_rdS {v : Val} (hv : ScOk v) (p q : List Nat) : rdS (p ++ (sc v ++ q)) p.length = some (v, p.length + (sc v).length) := by
  rcases hv with rfl | ⟨h1, h2, h3⟩ | ⟨h1, h2, h3, _⟩
  · have e : sc v0 = [0] := rfl
    rw [e]
    simp [rdS]
  · obtain ⟨k, n, s⟩ := v
    simp only at h1 h2 h3; subst h1; subst h2
    have e : sc ⟨1, n, []⟩ = 1 :: leB n 8 := rfl
    rw [e]
    unfold rdS
    rw [get_mid]
    have hl : (p ++ (1 :: leB n 8 ++ q)).length = p.length + 9 + q.length := by simp [leB_len]; omega
    simp only [hl]
    rw [if_pos (by omega)]
    have hseg : sgm (p ++ (1 :: leB n 8 ++ q)) (p.length + 1) (p.length + 9) = leB n 8 := by
      have := seg_mid (p := p ++ [1]) (t := leB n 8) (q := q) (a := p.length + 1) (b := p.length + 9) (by simp) (by simp [leB_len])
      simpa using this
    rw [hseg, i64_leB h3]
    simp [leB_len]
  · obtain ⟨k, n, s⟩ := v
    simp only at h1 h2 h3; subst h1; subst h2
    have e : sc ⟨2, 0, s⟩ = 2 :: (leB s.length 4 ++ s) := rfl
    rw [e]
    unfold rdS
    rw [get_mid]
    have hl : (p ++ (2 :: (leB s.length 4 ++ s) ++ q)).length = p.length + 5 + s.length + q.length := by simp [leB_len]; omega
    have hseg : sgm (p ++ (2 :: (leB s.length 4 ++ s) ++ q)) (p.length + 1) (p.length + 5) = leB s.length 4 := by
      have := seg_mid (p := p ++ [2]) (t := leB s.length 4) (q := s ++ q) (a := p.length + 1) (b := p.length + 5) (by simp) (by simp [leB_len])
      simpa using this
    have hd : deB (leB s.length 4) = s.length := by
      have e := deB_leB (w := 4) (n := s.length)
      have e2 : ((256 ^ 4 : Nat) : Int) = 4294967296 := by decide
      rw [e2] at e
      omega
    have hseg2 : sgm (p ++ (2 :: (leB s.length 4 ++ s) ++ q)) (p.length + 5) (p.length + 5 + s.length) = s := by
      have := seg_mid (p := p ++ 2 :: leB s.length 4) (t := s) (q := q) (a := p.length + 5) (b := p.length + 5 + s.length) (by simp [leB_len]) (by simp [leB_len])
      simpa using this
    simp only [hl, hseg, hd, hseg2]
    rw [if_pos (by omega), if_pos (by omega)]
    simp [leB_len]
    omega
end Go.Proofs.Ytlflpjjmkigepaa

namespace Go.Proofs.Ytlflpjjmkigepaa
open Go Go.Abs
attribute [local irreducible] Cmp Rg Dw Cd Lp Ev Rdk CT Upd InK
theorem shr_int {n : Int} {m : Nat} (hm : m ≤ 64) : abin .shr (.int .i64 n) (.int .u64 (.ofNat m)) = some (.int .i64 (n / (2 ^ m : Nat))) := by
  have e : abin .shr (.int .i64 n) (.int .u64 (.ofNat m)) = ashift false .i64 n (.ofNat m) := rfl
  rw [e]
  have hb : Nat.ble m (nbits .i64) = true := Nat.ble_eq_true_of_le hm
  cases n with
  | ofNat a =>
    simp only [ashift, hb, cond_true]
    rfl
  | negSucc a =>
    simp only [ashift, hb, cond_true]
    rw [Int.fdiv_eq_ediv_of_nonneg _ (Int.natCast_nonneg _)]
theorem to_u8 {x : Int} : apure .e (.toInt .u8 (.c (.int .i64 x))) = some (.int .u8 (.ofNat (x % 256).toNat)) := by
  have e : apure .e (.toInt .u8 (.c (.int .i64 x))) = some (.int .u8 (awrap .u8 x)) := rfl
  rw [e, awrap_eq]
  congr 2
  simp only [IntKind.wrap, IntKind.bits, IntKind.signed]
  simp
  omega
theorem to_u64 {n : Nat} (h : n < 18446744073709551616) : apure .e (.toInt .u64 (.c (.int .i64 (.ofNat n)))) = some (.int .u64 (.ofNat n)) := by
  have e : apure .e (.toInt .u64 (.c (.int .i64 (.ofNat n)))) = some (.int .u64 (awrap .u64 (.ofNat n))) := rfl
  rw [e, awrap_eq]
  congr 2
  simp only [IntKind.wrap, IntKind.bits, IntKind.signed]
  simp
  omega
theorem shr_u0 {n m : Nat} (hm : m ≤ 64) (h : n < 2 ^ m) : abin .shr (.int .u64 (.ofNat n)) (.int .u64 (.ofNat m)) = some (.int .u64 (.ofNat 0)) := by
  have e : abin .shr (.int .u64 (.ofNat n)) (.int .u64 (.ofNat m)) = ashift false .u64 (.ofNat n) (.ofNat m) := rfl
  rw [e]
  have hb : Nat.ble m (nbits .u64) = true := Nat.ble_eq_true_of_le hm
  simp only [ashift, hb, cond_true]
  have : n / 2 ^ m = 0 := Nat.div_eq_of_lt h
  simp [this]
def byC (bs : List Nat) : List AV := bs.map fun c => .int .u8 (.ofNat c)
theorem bytes_of : ∀ {bs : List Nat}, (∀ x, x ∈ bs → x < 256) → bytesOf (byC bs) = some bs
  | [], _ => rfl
  | a :: r, h => by
    have ha : Nat.blt a 256 = true := Nat.ble_eq_true_of_le (h a (by simp))
    have ih := bytes_of fun x hx => h x (List.mem_cons_of_mem a hx)
    simp only [byC] at ih
    simp only [byC, List.map_cons, bytesOf, ih, ha, cond_true]
theorem _root_.Go.Abs.Rdk.b2s {K : Mem} {v y : AV} {bs : List Nat} (hs : slen v = some bs.length) (h : Rw K 1 v (byC bs) bs.length) (hb : ∀ x, x ∈ bs → x < 256) : Rdk K .b2s v y (.str bs) := by
  unfold Rdk
  intro s hd
  obtain ⟨_, h2⟩ := h s hd
  simp only [aread, hs, h2, bytes_of hb]
theorem wide68 : PT Try.prog false 68 [.int .i64 (.ofNat 8)] (.bool true) := PT.run plain0 (by kernel_rfl) rfl rfl
theorem wide68d : PT Try.prog false 68 [.int .i64 (.ofNat 4)] (.bool true) := PT.run plain0 (by kernel_rfl) rfl rfl
theorem wide68b : PT Try.prog false 68 [.int .i64 (.ofNat 2)] (.bool true) := PT.run plain0 (by kernel_rfl) rfl rfl
/-- The bytes that are written so far. -/
def byP (n : Int) (w i : Nat) : List Nat := (List.range w).map fun j => if j < i then byt n j else 0
theorem byP_end {n : Int} {w : Nat} : byP n w w = leB n w := by
  refine List.map_congr_left fun j hj => ?_
  rw [if_pos (List.mem_range.1 hj)]
theorem byP_set {n : Int} {w i : Nat} (hi : i < w) : setSeg (byC (byP n w i)) (0 + i * 1) [.int .u8 (.ofNat (byt n i))] = byC (byP n w (i + 1)) := by
  have hl : (byC (byP n w i)).length = w := by simp [byC, byP]
  have e : setSeg (byC (byP n w i)) (0 + i * 1) [.int .u8 (.ofNat (byt n i))] = (byC (byP n w i)).set i (.int .u8 (.ofNat (byt n i))) := by
    rw [List.set_eq_take_append_cons_drop, if_pos (by omega), Nat.zero_add, Nat.mul_one]
    simp [setSeg]
  rw [e]
  refine List.ext_getElem? fun j => ?_
  rw [List.getElem?_set]
  simp only [byC, byP, List.getElem?_map, List.length_map, List.length_range]
  by_cases hj : i = j
  · subst hj
    rw [if_pos rfl, if_pos hi, List.getElem?_range hi]
    simp
  · rw [if_neg hj]
    by_cases hjw : j < w
    · rw [List.getElem?_range hjw]
      simp only [Option.map_some]
      by_cases h1 : j < i
      · rw [if_pos h1, if_pos (by omega)]
      · rw [if_neg h1, if_neg (by omega)]
    · rw [List.getElem?_eq_none (by simp; omega)]
      rfl
theorem put56_loop {n : Int} {b w : Nat} {K : Mem} {Q : AX → SL → Mem → Prop} (hw : w ≤ 8) (hend : ∀ l', lkS l' 6 = some (.slc b 0 0 w w 1) → Q (.ext 0) l' ([(b, .cells (byC (leB n w)) 0 0 false)] :: K)) :
    ∀ (f i : Nat), w < i + f → i ≤ w → Lp Try.prog false b56_0 f [(0, .int .i64 n), (6, .slc b 0 0 w w 1), (27, .int .i64 (.ofNat w)), (28, .int .i64 (.ofNat i))] ([(b, .cells (byC (byP n w i)) 0 0 false)] :: K) Q := by
  intro f
  induction f with
  | zero => intro i h1 h2; omega
  | succ f ih =>
    intro i h1 h2
    refine Lp.round ?_
    by_cases hi : i < w
    · have q1 := iadr_slc (sz := 1) (b := b) (g := 0) (off := 0) (len := w) (cap := w) (i := i) (k := .i64) hi
      have p1 : abin .mul (.int .i64 (.ofNat 8)) (.int .i64 (.ofNat i)) = some (.int .i64 (.ofNat (8 * i))) := by
        have e : abin .mul (.int .i64 (.ofNat 8)) (.int .i64 (.ofNat i)) = some (.int .i64 (awrap .i64 (.ofNat (8 * i)))) := rfl
        rw [e, awrap_eq]
        congr 2
        simp only [IntKind.wrap, IntKind.bits, IntKind.signed]
        simp
        omega
      have p2 := to_u64 (n := 8 * i) (by omega)
      have p3 := shr_int (n := n) (m := 8 * i) (by omega)
      have p4 := to_u8 (x := n / (2 ^ (8 * i) : Nat))
      have e4 : (n / (2 ^ (8 * i) : Nat) % 256).toNat = byt n i := by rw [byt, Nat.pow_mul]
      rw [e4] at p4
      repeat' (first|(refine zz ?_ (by refine iPb (a:=?_) (b:=?_) (v:=?_) ?_ ?_ ?_; rotate_left 3; exact rfl; exact rfl; first | exact p3 | exact p1))|(refine zz ?_ (by refine iP (v:=?_) ?_; rotate_left; refine Ev.toInt rfl ?_; first | exact p2 | exact p4))|(refine zz ?_ (by refine iP (v:=?_) ?_; rotate_left; refine Ev.iadr rfl rfl ?_; exact to_u64 q.two))|refine zz ?_|(refine zw ?_;refine And.intro ?_ ?_<;>intro hc)|(refine zv ?_;intro cv hv)|(refine za ?_;intro _)|refine zc ?_|(refine zd ?_;refine And.intro ?_ ?_<;>(intro e;(try simp only [Bool.not_eq_true',Bool.not_eq_false'] at e);subst e;try contradiction)))
      refine Rg.e (Ef.store1 rfl rfl ⟨rfl, rfl⟩ .here (by simp [byC, byP]; omega)) ?_
      rintro _ _ ⟨rfl, rfl⟩
      rw [byP_set hi]
      repeat' (first|refine zz ?_|(refine zw ?_;refine And.intro ?_ ?_<;>intro hc)|(refine zv ?_;intro cv hv)|(refine za ?_;intro _)|refine zc ?_|(refine zd ?_;refine And.intro ?_ ?_<;>(intro e;(try simp only [Bool.not_eq_true',Bool.not_eq_false'] at e);subst e;try contradiction)))
      refine Lp.weak ?hw (ih (i + 1) (by omega) hi)
      case hw => exact ⟨rfl, rfl, rfl, rfl, trivial⟩
    · obtain rfl : i = w := by omega
      rw [byP_end]
      repeat' (first|refine zz ?_|(refine zw ?_;refine And.intro ?_ ?_<;>intro hc)|(refine zv ?_;intro cv hv)|(refine za ?_;intro _)|refine zc ?_|(refine zd ?_;refine And.intro ?_ ?_<;>(intro e;(try simp only [Bool.not_eq_true',Bool.not_eq_false'] at e);subst e;try contradiction)))
      exact hend _ rfl
theorem seg_all (l : List AV) {n : Nat} (h : l.length = n) : Go.Abs.seg l 0 (n * 1) = some l := by
  subst h
  simp only [Go.Abs.seg]
  rw [Nat.ble_eq_true_of_le (by omega), cond_true, Nat.mul_one, List.drop_zero, List.take_length]
structure Lo (m k : Nat) : Prop where
  lt : m < 2 ^ k
  two : m < 18446744073709551616
theorem put56 {n : Int} {w : Nat} (hw : w = 8 ∨ (w = 2 ∨ w = 4) ∧ 0 ≤ n ∧ n < (256 ^ w : Nat)) : PT Try.prog false 56 [.int .i64 n, .int .i64 (.ofNat w)] (.tup [.str (leB n w), .int .i64 (.ofNat 0)]) := by
  have h8 : w ≤ 8 := by omega
  have h0 : w = 8 ∨ w = 2 ∨ w = 4 := by omega
  have k68 : PT Try.prog false 68 [.int .i64 (.ofNat w)] (.bool true) := by
    rcases h0 with rfl | rfl | rfl
    · exact wide68
    · exact wide68b
    · exact wide68d
  have hd : ∀ b, Rdk [[(b, AObj.cells (byC (leB n w)) 0 0 false)]] .b2s (.slc b 0 0 w w 1) (.slc b 0 0 w w 1) (.str (leB n w)) := fun b => by
    refine Rdk.b2s (by simp [slen, leB_len]) ?_ leB_lt
    rw [leB_len]
    exact Rw.slc .here (Nat.le_refl _) (Nat.le_refl _) (seg_all _ (by simp [byC, leB_len]))
  refine PT.of (CT.enter mixed comp56 (Nat.le_of_ble_eq_true rfl) ?_)
  by_cases h : w = 8
  · subst h
    repeat' (first|(refine Rg.a (Mk.mkslc rfl rfl (Nat.le_refl _) (Nat.le_of_ble_eq_true rfl)) fun b => ?_)|refine zz ?_|(refine zw ?_;refine And.intro ?_ ?_<;>intro hc)|(refine zv ?_;intro cv hv)|(refine za ?_;intro _)|refine zc ?_|(refine zd ?_;refine And.intro ?_ ?_<;>(intro e;(try simp only [Bool.not_eq_true',Bool.not_eq_false'] at e);subst e;try contradiction)))
    refine Cd.loop (k := 9) (Lp.weak (l2 := [(0, .int .i64 n), (6, .slc b 0 0 8 8 1), (27, .int .i64 (.ofNat 8)), (28, .int .i64 (.ofNat 0))]) ⟨rfl, rfl, rfl, rfl, trivial⟩ (put56_loop (w := 8) (K := []) (Nat.le_refl _) ?_ 9 0 (by omega) (by omega)))
    intro l' h6
    show Cd _ _ _ _ _ _
    refine Cd.weak (l2 := [(6, .slc b 0 0 8 8 1)]) (And.intro h6 trivial) ?_
    repeat' (first|(refine Rg.r rfl rfl (hd b) ?_)|refine zz ?_|(refine zw ?_;refine And.intro ?_ ?_<;>intro hc)|(refine zv ?_;intro cv hv)|(refine za ?_;intro _)|refine zc ?_|(refine zd ?_;refine And.intro ?_ ?_<;>(intro e;(try simp only [Bool.not_eq_true',Bool.not_eq_false'] at e);subst e;try contradiction)))
    (first|refine ⟨.inr rfl,_,.t rfl .nil,?_⟩|refine ⟨.inr rfl,_,.t rfl (.t rfl .nil),?_⟩|refine ⟨.inr rfl,_,.t rfl (.t rfl (.t rfl .nil)),?_⟩|refine ⟨.inr rfl,_,.nil,?_⟩|refine ⟨.inl rfl,_,.t rfl .nil,?_⟩|refine ⟨.inl rfl,_,.nil,?_⟩|refine ⟨.inr rfl,_,.cn rfl (by exact zN) .nil,?_⟩|refine ⟨.inr rfl,_,.cn rfl (by exact zN) (.t rfl .nil),?_⟩)
    rfl
  · obtain ⟨h1, h2, h3⟩ := hw.resolve_left h
    obtain ⟨m, rfl⟩ : ∃ m : Nat, n = .ofNat m := ⟨n.toNat, by simp; omega⟩
    replace h3 : m < 256 ^ w := by rw [Int.ofNat_eq_natCast] at h3; exact_mod_cast h3
    rcases h1 with rfl | rfl
    · have q : Lo m 16 := ⟨by simpa using h3, by omega⟩
      clear hw h h0 h8 h2 h3
      repeat' (first|(refine zz ?_ (by refine iPb (a:=?_) (b:=?_) (v:=?_) ?_ ?_ ?_; rotate_left 3; exact rfl; exact rfl; exact shr_u0 (by omega) q.lt))|(refine zz ?_ (by refine iP (v:=?_) ?_; rotate_left; refine Ev.toInt rfl ?_; exact to_u64 q.two))|(refine Rg.a (Mk.mkslc rfl rfl (Nat.le_refl _) (Nat.le_of_ble_eq_true rfl)) fun b => ?_)|refine zz ?_|(refine zw ?_;refine And.intro ?_ ?_<;>intro hc)|(refine zv ?_;intro cv hv)|(refine za ?_;intro _)|refine zc ?_|(refine zd ?_;refine And.intro ?_ ?_<;>(intro e;(try simp only [Bool.not_eq_true',Bool.not_eq_false'] at e);subst e;try contradiction)))
      refine Cd.loop (k := 3) (Lp.weak (l2 := [(0, .int .i64 m), (6, .slc b 0 0 2 2 1), (27, .int .i64 (.ofNat 2)), (28, .int .i64 (.ofNat 0))]) ⟨rfl, rfl, rfl, rfl, trivial⟩ (put56_loop (w := 2) (K := []) (by omega) ?_ 3 0 (by omega) (by omega)))
      intro l' h6
      show Cd _ _ _ _ _ _
      refine Cd.weak (l2 := [(6, .slc b 0 0 2 2 1)]) (And.intro h6 trivial) ?_
      repeat' (first|(refine Rg.r rfl rfl (hd b) ?_)|refine zz ?_|(refine zw ?_;refine And.intro ?_ ?_<;>intro hc)|(refine zv ?_;intro cv hv)|(refine za ?_;intro _)|refine zc ?_|(refine zd ?_;refine And.intro ?_ ?_<;>(intro e;(try simp only [Bool.not_eq_true',Bool.not_eq_false'] at e);subst e;try contradiction)))
      (first|refine ⟨.inr rfl,_,.t rfl .nil,?_⟩|refine ⟨.inr rfl,_,.t rfl (.t rfl .nil),?_⟩|refine ⟨.inr rfl,_,.t rfl (.t rfl (.t rfl .nil)),?_⟩|refine ⟨.inr rfl,_,.nil,?_⟩|refine ⟨.inl rfl,_,.t rfl .nil,?_⟩|refine ⟨.inl rfl,_,.nil,?_⟩|refine ⟨.inr rfl,_,.cn rfl (by exact zN) .nil,?_⟩|refine ⟨.inr rfl,_,.cn rfl (by exact zN) (.t rfl .nil),?_⟩)
      rfl
    · have q : Lo m 32 := ⟨by simpa using h3, by omega⟩
      clear hw h h0 h8 h2 h3
      repeat' (first|(refine zz ?_ (by refine iPb (a:=?_) (b:=?_) (v:=?_) ?_ ?_ ?_; rotate_left 3; exact rfl; exact rfl; exact shr_u0 (by omega) q.lt))|(refine zz ?_ (by refine iP (v:=?_) ?_; rotate_left; refine Ev.toInt rfl ?_; exact to_u64 q.two))|(refine Rg.a (Mk.mkslc rfl rfl (Nat.le_refl _) (Nat.le_of_ble_eq_true rfl)) fun b => ?_)|refine zz ?_|(refine zw ?_;refine And.intro ?_ ?_<;>intro hc)|(refine zv ?_;intro cv hv)|(refine za ?_;intro _)|refine zc ?_|(refine zd ?_;refine And.intro ?_ ?_<;>(intro e;(try simp only [Bool.not_eq_true',Bool.not_eq_false'] at e);subst e;try contradiction)))
      refine Cd.loop (k := 5) (Lp.weak (l2 := [(0, .int .i64 m), (6, .slc b 0 0 4 4 1), (27, .int .i64 (.ofNat 4)), (28, .int .i64 (.ofNat 0))]) ⟨rfl, rfl, rfl, rfl, trivial⟩ (put56_loop (w := 4) (K := []) (by omega) ?_ 5 0 (by omega) (by omega)))
      intro l' h6
      show Cd _ _ _ _ _ _
      refine Cd.weak (l2 := [(6, .slc b 0 0 4 4 1)]) (And.intro h6 trivial) ?_
      repeat' (first|(refine Rg.r rfl rfl (hd b) ?_)|refine zz ?_|(refine zw ?_;refine And.intro ?_ ?_<;>intro hc)|(refine zv ?_;intro cv hv)|(refine za ?_;intro _)|refine zc ?_|(refine zd ?_;refine And.intro ?_ ?_<;>(intro e;(try simp only [Bool.not_eq_true',Bool.not_eq_false'] at e);subst e;try contradiction)))
      (first|refine ⟨.inr rfl,_,.t rfl .nil,?_⟩|refine ⟨.inr rfl,_,.t rfl (.t rfl .nil),?_⟩|refine ⟨.inr rfl,_,.t rfl (.t rfl (.t rfl .nil)),?_⟩|refine ⟨.inr rfl,_,.nil,?_⟩|refine ⟨.inl rfl,_,.t rfl .nil,?_⟩|refine ⟨.inl rfl,_,.nil,?_⟩|refine ⟨.inr rfl,_,.cn rfl (by exact zN) .nil,?_⟩|refine ⟨.inr rfl,_,.cn rfl (by exact zN) (.t rfl .nil),?_⟩)
      rfl
theorem num37 {n : Int} {w : Nat} (hw : w = 8 ∨ (w = 2 ∨ w = 4) ∧ 0 ≤ n ∧ n < (256 ^ w : Nat)) : PT Try.prog false 37 [.int .i64 n, .int .i64 (.ofNat w)] (.str (leB n w)) := by
  have k := put56 hw
  refine PT.of (CT.enter mixed comp37 (Nat.le_of_ble_eq_true rfl) ?_)
  repeat' (first|refine zz ?_|(refine zw ?_;refine And.intro ?_ ?_<;>intro hc)|(refine zv ?_;intro cv hv)|(refine za ?_;intro _)|refine zc ?_|(refine zd ?_;refine And.intro ?_ ?_<;>(intro e;(try simp only [Bool.not_eq_true',Bool.not_eq_false'] at e);subst e;try contradiction)))
  (first|refine ⟨.inr rfl,_,.t rfl .nil,?_⟩|refine ⟨.inr rfl,_,.t rfl (.t rfl .nil),?_⟩|refine ⟨.inr rfl,_,.t rfl (.t rfl (.t rfl .nil)),?_⟩|refine ⟨.inr rfl,_,.nil,?_⟩|refine ⟨.inl rfl,_,.t rfl .nil,?_⟩|refine ⟨.inl rfl,_,.nil,?_⟩|refine ⟨.inr rfl,_,.cn rfl (by exact zN) .nil,?_⟩|refine ⟨.inr rfl,_,.cn rfl (by exact zN) (.t rfl .nil),?_⟩)
  rfl
theorem str_add {a b : List Nat} (h : a.length + b.length ≤ 1000000000) : abin .add (.str a) (.str b) = some (.str (a ++ b)) := by
  have e : abin .add (.str a) (.str b) = (bif Nat.ble (a.length + b.length) lim then some (.str (a ++ b)) else none) := rfl
  rw [e, Nat.ble_eq_true_of_le (by simp only [lim]; omega), cond_true]
theorem text38 {s : List Nat} (h : s.length ≤ 1000000) : PT Try.prog false 38 [.str s] (.str (leB s.length 4 ++ s)) := by
  have k := put56 (n := s.length) (w := 4) (.inr ⟨.inr rfl, by omega, by simp; omega⟩)
  have k2 := str_add (a := leB s.length 4) (b := s) (by rw [leB_len]; omega)
  refine PT.of (CT.enter mixed comp38 (Nat.le_of_ble_eq_true rfl) ?_)
  repeat' (first|refine zz ?_|(refine zw ?_;refine And.intro ?_ ?_<;>intro hc)|(refine zv ?_;intro cv hv)|(refine za ?_;intro _)|refine zc ?_|(refine zd ?_;refine And.intro ?_ ?_<;>(intro e;(try simp only [Bool.not_eq_true',Bool.not_eq_false'] at e);subst e;try contradiction)))
  (first|refine ⟨.inr rfl,_,.t rfl .nil,?_⟩|refine ⟨.inr rfl,_,.t rfl (.t rfl .nil),?_⟩|refine ⟨.inr rfl,_,.t rfl (.t rfl (.t rfl .nil)),?_⟩|refine ⟨.inr rfl,_,.nil,?_⟩|refine ⟨.inl rfl,_,.t rfl .nil,?_⟩|refine ⟨.inl rfl,_,.nil,?_⟩|refine ⟨.inr rfl,_,.cn rfl (by exact zN) .nil,?_⟩|refine ⟨.inr rfl,_,.cn rfl (by exact zN) (.t rfl .nil),?_⟩)
  rfl
end Go.Proofs.Ytlflpjjmkigepaa

namespace Go.Proofs.Ytlflpjjmkigepaa
open Go Go.Abs
attribute [local irreducible] Cmp Rg Dw Cd Lp Ev Rdk CT Upd InK
/-- Rows of bytes. -/
def byR (bs : List Nat) : List (List AV) := bs.map fun c => [.int .u8 (.ofNat c)]
theorem byR_flat : ∀ {bs : List Nat}, (byR bs).flatten = byC bs
  | [] => rfl
  | a :: r => by
    have := byR_flat (bs := r)
    simp only [byR, byC] at this
    simp only [byR, byC, List.map_cons, List.flatten_cons, this]
    rfl
theorem byR_one {bs : List Nat} : ∀ r, r ∈ byR bs → r.length = 1 := by
  intro r h
  obtain ⟨c, _, rfl⟩ := List.mem_map.1 h
  rfl
theorem byR_add {a b : List Nat} : byR (a ++ b) = byR a ++ byR b := by simp [byR]
theorem slen_os {x : OS} {sz : Nat} (h : x.ok sz) : slen (x.v sz) = some x.rows.length := by
  obtain ⟨o, rows⟩ := x
  cases o with
  | none => obtain rfl : rows = [] := h.no rfl; rfl
  | some p => rfl
theorem Rdk.b2sO {K : Mem} {B : OS} {y : AV} {bs : List Nat} (hB : B.ok 1) (hr : B.rows = byR bs) (hb : ∀ x, x ∈ bs → x < 256) (hi : ∀ id o, (id, o) ∈ B.c → InK K id o) : Rdk K .b2s (B.v 1) y (.str bs) := by
  refine Rdk.b2s (by rw [slen_os hB, hr]; simp [byR]) ?_ hb
  have := Rw.os hB hi
  rw [hr, byR_flat] at this
  simpa [byR] using this
end Go.Proofs.Ytlflpjjmkigepaa

namespace Go.Proofs.Ytlflpjjmkigepaa
open Go Go.Abs
/-- A value's bytes, how many values may come yet, how many tables and keys there are. -/
abbrev ER := Option (List Nat × Nat × Nat)
def encL (g : Val → Nat → ER) : List KV → Nat → ER
  | [], left => some ([], left, 0)
  | e :: r, left => match g e.2 left with
    | none => none
    | some (t, l, m) => match encL g r l with
      | none => none
      | some (s, l2, m2) => some (sc e.1 ++ (t ++ s), l2, m + m2)
def enc (H : MH) : Nat → Val → Nat → ER
  | 0, _, _ => none
  | _ + 1, _, 0 => none
  | f + 1, v, left + 1 => if v.k = 3 then match tabI H v with
      | none => none
      | some i => match encL (enc H f) (tabL H i) left with
        | none => none
        | some (s, l, m) => some (3 :: (leB (tabL H i).length 2 ++ s), l, 1 + (tabL H i).length + m)
    else if v.k = 0 ∨ v.k = 1 ∨ v.k = 2 then some (sc v, left, 0) else none
/-- A value as it should be. -/
def VOk (v : Val) : Prop := ScOk v ∨ (v.k = 3 ∨ v.k = 4 ∨ v.k = 5) ∧ v.s = []
/-- All that stands in a heap is as it should be. -/
structure WOk (H : MH) : Prop where
  ok : H.ok
  len : ∀ L, L ∈ H.tabs → L.length ≤ 1000
  key : ∀ L, L ∈ H.tabs → ∀ e, e ∈ L → ScOk e.1 ∧ keyB e.1 = true
  val : ∀ L, L ∈ H.tabs → ∀ e, e ∈ L → VOk e.2 ∧ e.2.k ≠ 0
theorem sc_len {v : Val} (h : v.s.length ≤ 1024) : (sc v).length ≤ 1029 := by
  unfold sc
  split
  · simp [leB_len]
  · split
    · simp [leB_len]; omega
    · simp
theorem ScOk.len {v : Val} (h : ScOk v) : v.s.length ≤ 1024 := by
  rcases h with rfl | ⟨_, h, _⟩ | ⟨_, _, h⟩
  · simp [v0]
  · simp [h]
  · exact h.1
theorem VOk.len {v : Val} (h : VOk v) : v.s.length ≤ 1024 := by
  rcases h with h | ⟨_, h⟩
  · exact h.len
  · simp [h]
theorem sc_lt {v : Val} (h : ∀ x, x ∈ v.s → x < 256) : ∀ x, x ∈ sc v → x < 256 := by
  intro x hx
  unfold sc at hx
  split at hx
  · rcases List.mem_cons.1 hx with rfl | hx
    · omega
    · exact leB_lt x hx
  · split at hx
    · rcases List.mem_cons.1 hx with rfl | hx
      · omega
      · rcases List.mem_append.1 hx with hx | hx
        · exact leB_lt x hx
        · exact h x hx
    · simp at hx; omega
/-- How long, how many values, how many tables and keys. -/
theorem encL_size {g : Val → Nat → ER} (hg : ∀ v left s l m, VOk v → g v left = some (s, l, m) → l < left ∧ s.length + 1040 ≤ 2100 * (left - l) ∧ m + 1 ≤ 2 * (left - l)) :
    ∀ {L : List KV} {left l m : Nat} {s : List Nat}, (∀ e, e ∈ L → VOk e.2 ∧ e.1.s.length ≤ 1024) → encL g L left = some (s, l, m) → l ≤ left ∧ s.length ≤ 2100 * (left - l) ∧ m + L.length ≤ 2 * (left - l)
  | [], left, l, m, s, _, h => by
    simp only [encL, Option.some.injEq, Prod.mk.injEq] at h
    obtain ⟨rfl, rfl, rfl⟩ := h
    simp
  | e :: r, left, l, m, s, hL, h => by
    simp only [encL] at h
    split at h
    · cases h
    · rename_i t l1 m1 h1
      split at h
      · cases h
      · rename_i s2 l2 m2 h2
        simp only [Option.some.injEq, Prod.mk.injEq] at h
        obtain ⟨rfl, rfl, rfl⟩ := h
        obtain ⟨a1, a2, a3⟩ := hg _ _ _ _ _ (hL e (by simp)).1 h1
        obtain ⟨b1, b2, b3⟩ := encL_size hg (fun x hx => hL x (List.mem_cons_of_mem _ hx)) h2
        have := sc_len (hL e (by simp)).2
        simp only [List.length_append, List.length_cons]
        omega
theorem enc_size {H : MH} (hH : WOk H) : ∀ {f : Nat} {v : Val} {left l m : Nat} {s : List Nat}, VOk v → enc H f v left = some (s, l, m) → l < left ∧ s.length + 1040 ≤ 2100 * (left - l) ∧ m + 1 ≤ 2 * (left - l)
  | 0, v, left, l, m, s, _, h => by simp [enc] at h
  | f + 1, v, 0, l, m, s, _, h => by simp [enc] at h
  | f + 1, v, left + 1, l, m, s, hv, h => by
    simp only [enc] at h
    split at h
    · split at h
      · cases h
      · rename_i i hi
        split at h
        · cases h
        · rename_i s1 l1 m1 h1
          simp only [Option.some.injEq, Prod.mk.injEq] at h
          obtain ⟨rfl, rfl, rfl⟩ := h
          have hm := tabL_mem (tabI_some hi).2
          obtain ⟨a1, a2, a3⟩ := encL_size (fun v left s l m hv h => enc_size hH hv h) (fun e he => ⟨(hH.val _ hm e he).1, (hH.key _ hm e he).1.len⟩) h1
          simp only [List.length_cons, List.length_append, leB_len]
          omega
    · split at h
      · simp only [Option.some.injEq, Prod.mk.injEq] at h
        obtain ⟨rfl, rfl, rfl⟩ := h
        have := sc_len hv.len
        omega
      · cases h
theorem ScOk.byte {v : Val} (h : ScOk v) : ∀ x, x ∈ v.s → x < 256 := by
  rcases h with rfl | ⟨_, h, _⟩ | ⟨_, _, _, h⟩
  · intro x hx; cases hx
  · intro x hx; rw [h] at hx; cases hx
  · exact h
theorem VOk.byte {v : Val} (h : VOk v) : ∀ x, x ∈ v.s → x < 256 := by
  rcases h with h | ⟨_, h⟩
  · exact h.byte
  · intro x hx; rw [h] at hx; cases hx
theorem encL_lt {g : Val → Nat → ER} (hg : ∀ v left s l m, VOk v → g v left = some (s, l, m) → ∀ x, x ∈ s → x < 256) :
    ∀ {L : List KV} {left l m : Nat} {s : List Nat}, (∀ e, e ∈ L → VOk e.2 ∧ ScOk e.1) → encL g L left = some (s, l, m) → ∀ x, x ∈ s → x < 256
  | [], left, l, m, s, _, h => by
    simp only [encL, Option.some.injEq, Prod.mk.injEq] at h
    obtain ⟨rfl, rfl, rfl⟩ := h
    intro x hx; cases hx
  | e :: r, left, l, m, s, hL, h => by
    simp only [encL] at h
    split at h
    · cases h
    · rename_i t l1 m1 h1
      split at h
      · cases h
      · rename_i s2 l2 m2 h2
        simp only [Option.some.injEq, Prod.mk.injEq] at h
        obtain ⟨rfl, rfl, rfl⟩ := h
        intro x hx
        rcases List.mem_append.1 hx with hx | hx
        · exact sc_lt (hL e (by simp)).2.byte x hx
        · rcases List.mem_append.1 hx with hx | hx
          · exact hg _ _ _ _ _ (hL e (by simp)).1 h1 x hx
          · exact encL_lt hg (fun x hx => hL x (List.mem_cons_of_mem _ hx)) h2 x hx
theorem enc_lt {H : MH} (hH : WOk H) : ∀ {f : Nat} {v : Val} {left l m : Nat} {s : List Nat}, VOk v → enc H f v left = some (s, l, m) → ∀ x, x ∈ s → x < 256
  | 0, v, left, l, m, s, _, h => by simp [enc] at h
  | f + 1, v, 0, l, m, s, _, h => by simp [enc] at h
  | f + 1, v, left + 1, l, m, s, hv, h => by
    simp only [enc] at h
    split at h
    · split at h
      · cases h
      · rename_i i hi
        split at h
        · cases h
        · rename_i s1 l1 m1 h1
          simp only [Option.some.injEq, Prod.mk.injEq] at h
          obtain ⟨rfl, rfl, rfl⟩ := h
          have hm := tabL_mem (tabI_some hi).2
          intro x hx
          rcases List.mem_cons.1 hx with rfl | hx
          · omega
          · rcases List.mem_append.1 hx with hx | hx
            · exact leB_lt x hx
            · exact encL_lt (fun v left s l m hv h => enc_lt hH hv h) (fun e he => ⟨(hH.val _ hm e he).1, (hH.key _ hm e he).1⟩) h1 x hx
    · split at h
      · simp only [Option.some.injEq, Prod.mk.injEq] at h
        obtain ⟨rfl, rfl, rfl⟩ := h
        exact sc_lt hv.byte
      · cases h
end Go.Proofs.Ytlflpjjmkigepaa

namespace Go.Proofs.Ytlflpjjmkigepaa
open Go Go.Abs
attribute [local irreducible] Cmp Rg Dw Cd Lp Ev Rdk CT Upd InK
theorem mGet_at {H : MH} {v : Val} {i j : Nat} {e : KV} (hi : tabI H v = some i) (hs : Srt (tabL H i)) (hj : (tabL H i)[j]? = some e) (hk : keyB e.1 = true) : mGet H v e.1 = (e.2, 0) := by
  rw [mGet, hi]
  simp only [hk, if_true]
  rw [getL_of (v := e.2) hs (List.mem_of_getElem? hj)]
theorem ScOk.kind {v : Val} (h : ScOk v) : v.k = 0 ∨ v.k = 1 ∨ v.k = 2 := by
  rcases h with rfl | ⟨h, _⟩ | ⟨h, _⟩
  · exact .inl rfl
  · exact .inr (.inl h)
  · exact .inr (.inr h)
theorem VOk.kind {v : Val} (h : VOk v) : v.k = 0 ∨ v.k = 1 ∨ v.k = 2 ∨ v.k = 3 ∨ v.k = 4 ∨ v.k = 5 := by
  rcases h with h | ⟨h, _⟩
  · have := h.kind; omega
  · omega
section
variable {r : Nat} {H : MH} {fs : List OS} {c : Chk}
theorem sub_one {n : Nat} (h : n < 1000000) : abin .sub (.int .i64 (.ofNat (n + 1))) (.int .i64 (.ofNat 1)) = some (.int .i64 (.ofNat n)) := sub_nat (a := n + 1) (by omega) (by omega)
theorem sub_zero : abin .sub (.int .i64 (.ofNat 0)) (.int .i64 (.ofNat 1)) = some (.int .i64 (.negSucc 0)) := rfl
/-- What Save tells. -/
def svE (e : ER) : AV := match e with
  | some (s, _, _) => .tup [.str s, .int .i64 (.ofNat 0)]
  | none => .tup [.str [], .int .i64 (.ofNat 11)]
end
end Go.Proofs.Ytlflpjjmkigepaa
