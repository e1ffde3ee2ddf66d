/- not there: [49, 50, 51, 55, 56] -/
import Derived.Test.YtlflpjjmkigepaaPlnE
set_option autoImplicit false
set_option maxRecDepth 100000
set_option maxHeartbeats 4000000
set_option linter.unusedVariables false
set_option linter.unusedSimpArgs false
namespace Go.Proofs.Ytlflpjjmkigepaa
open Go Go.Abs
attribute [local irreducible] Cmp Rg Dw Cd Lp Ev Rdk CT Upd InK
section
variable {r : Nat} {H : MH} {fs : List OS} {X : RH} {c : Chk}
theorem RH.ok.fn (hX : X.ok H fs) {F' o : OS} {q : Cl} (hF : F'.ok 3) (ho : o.ok 1) (hor : o.rows = q.cells.map rowI) (hF2 : F'.rows = X.F.rows ++ [[.int .i64 q.u, .int .i64 q.p, o.v 1]]) : RH.ok { X with F := F' } { H with used := H.used + 1, fns := H.fns ++ [q] } (fs ++ [o]) where
  T1 := hX.T1
  T2 := hX.T2
  m1 := hX.m1
  l1 := hX.l1
  tr := hX.tr
  F1 := hF
  F2 := by
    show F'.rows = List.zipWith cloW (H.fns ++ [q]) (fs ++ [o])
    rw [hF2, hX.F2, List.zipWith_append hX.f1.symm]
    rfl
  f1 := by simp [hX.f1]
  fr := fun i c' o' h1 h2 => by
    by_cases hi : i < H.fns.length
    · rw [List.getElem?_append_left hi] at h1
      rw [List.getElem?_append_left (by rw [hX.f1]; exact hi)] at h2
      exact hX.fr i c' o' h1 h2
    · rw [List.getElem?_append_right (by omega)] at h1
      rw [List.getElem?_append_right (by rw [hX.f1]; omega), hX.f1] at h2
      have : i - H.fns.length = 0 := by
        rcases Nat.eq_zero_or_pos (i - H.fns.length) with h | h
        · exact h
        · rw [List.getElem?_eq_none (by simp; omega)] at h2; cases h2
      rw [this] at h1 h2
      cases h1; cases h2
      exact ⟨ho, hor⟩
  C1 := hX.C1
  C2 := hX.C2
end
/-! Lists of values. -/
section
variable {A B : OS} {xs ys : List Val}
end
end Go.Proofs.Ytlflpjjmkigepaa

namespace Go.Proofs.Ytlflpjjmkigepaa
open Go Go.Abs
/-- A number's byte. -/
def byt (n : Int) (i : Nat) : Nat := (n / (256 ^ i : Nat) % 256).toNat
def leB (n : Int) (w : Nat) : List Nat := (List.range w).map fun i => byt n i
def deB : List Nat → Nat | [] => 0 | a :: r => a + 256 * deB r
def i64 (u : Nat) : Int := if u < 9223372036854775808 then (u : Int) else (u : Int) - 18446744073709551616
def rng (n : Int) : Prop := -9223372036854775808 ≤ n ∧ n < 9223372036854775808
theorem byt_succ (n : Int) (i : Nat) : byt n (i + 1) = byt (n / 256) i := by
  unfold byt
  rw [Int.ediv_ediv_of_nonneg (by omega)]
  congr 3
  rw [Nat.pow_succ, Nat.mul_comm]; rfl
theorem leB_succ (n : Int) (w : Nat) : leB n (w + 1) = (n % 256).toNat :: leB (n / 256) w := by
  simp only [leB, List.range_succ_eq_map, List.map_cons, List.map_map]
  congr 1
  · simp [byt]
  · apply List.map_congr_left; intro i _; exact byt_succ n i
theorem leB_mod {n m : Int} : ∀ {w : Nat}, (n - m) % (256 ^ w : Nat) = 0 → leB n w = leB m w
  | 0, _ => rfl
  | w + 1, h => by
    rw [leB_succ, leB_succ]
    obtain ⟨k, hk⟩ := Int.dvd_of_emod_eq_zero h
    have e : n = m + 256 * ((256 ^ w : Nat) * k) := by
      have : (((256 ^ (w + 1) : Nat) : Int)) = 256 * (256 ^ w : Nat) := by rw [Nat.pow_succ, Nat.mul_comm]; simp
      rw [this, Int.mul_assoc] at hk
      omega
    have e1 : n / 256 = m / 256 + (256 ^ w : Nat) * k := by omega
    rw [leB_mod (n := n / 256) (m := m / 256) (by rw [e1, Int.add_comm, Int.add_sub_cancel]; exact Int.mul_emod_right _ _)]
    congr 1
    omega
theorem leB_deB : ∀ {bs : List Nat}, (∀ x, x ∈ bs → x < 256) → leB (deB bs) bs.length = bs
  | [], _ => rfl
  | a :: r, h => by
    have ha := h a (by simp)
    rw [List.length_cons, leB_succ, deB]
    have e1 : ((a + 256 * deB r : Nat) : Int) % 256 = a := by omega
    have e2 : ((a + 256 * deB r : Nat) : Int) / 256 = deB r := by omega
    rw [e1, e2, leB_deB fun x hx => h x (List.mem_cons_of_mem _ hx)]
    rfl
theorem deB_lt : ∀ {bs : List Nat}, (∀ x, x ∈ bs → x < 256) → deB bs < 256 ^ bs.length
  | [], _ => by simp [deB]
  | a :: r, h => by
    have ha := h a (by simp)
    have ih := deB_lt fun x hx => h x (List.mem_cons_of_mem a hx)
    rw [deB, List.length_cons, Nat.pow_succ]
    omega
theorem i64_rng {u : Nat} (h : u < 18446744073709551616) : rng (i64 u) := by unfold rng i64; split <;> omega
theorem leB_i64 {u : Nat} : leB (i64 u) 8 = leB u 8 := by
  refine leB_mod ?_
  unfold i64
  split
  · simp
  · have : ((u : Int) - 18446744073709551616 - u) = -18446744073709551616 := by omega
    rw [this]; decide
/-! Parts of a text. -/
def sgm (s : List Nat) (a b : Nat) : List Nat := (s.drop a).take (b - a)
theorem seg_app {s : List Nat} {a b c : Nat} (h1 : a ≤ b) (h2 : b ≤ c) : sgm s a b ++ sgm s b c = sgm s a c := by
  unfold sgm
  have e : s.drop b = (s.drop a).drop (b - a) := by rw [List.drop_drop]; congr 1; omega
  rw [e, show c - a = (b - a) + (c - b) by omega, List.take_add]
theorem seg_len {s : List Nat} {a b : Nat} (h2 : b ≤ s.length) : (sgm s a b).length = b - a := by
  unfold sgm; rw [List.length_take, List.length_drop]; omega
theorem seg_lt {s : List Nat} {a b : Nat} (h : ∀ x, x ∈ s → x < 256) : ∀ x, x ∈ sgm s a b → x < 256 := fun x hx => h x (List.mem_of_mem_drop (List.mem_of_mem_take hx))
theorem seg_one {s : List Nat} {a x : Nat} (h : s[a]? = some x) : sgm s a (a + 1) = [x] := by
  unfold sgm
  rw [show a + 1 - a = 1 by omega]
  obtain ⟨ha, rfl⟩ := List.getElem?_eq_some_iff.1 h
  rw [List.drop_eq_getElem_cons ha]
  rfl
/-- The bytes of a value that is no table. -/
def sc (v : Val) : List Nat := if v.k = 1 then 1 :: leB v.n 8 else if v.k = 2 then 2 :: (leB v.s.length 4 ++ v.s) else [0]
def rdS (s : List Nat) (at_ : Nat) : Option (Val × Nat) := match s[at_]? with
  | some 0 => some (v0, at_ + 1)
  | some 1 => if at_ + 9 ≤ s.length then some (⟨1, i64 (deB (sgm s (at_ + 1) (at_ + 9))), []⟩, at_ + 9) else none
  | some 2 => if at_ + 5 ≤ s.length then
      if at_ + 5 + deB (sgm s (at_ + 1) (at_ + 5)) ≤ s.length ∧ deB (sgm s (at_ + 1) (at_ + 5)) ≤ 1024 then
        some (⟨2, 0, sgm s (at_ + 5) (at_ + 5 + deB (sgm s (at_ + 1) (at_ + 5)))⟩, at_ + 5 + deB (sgm s (at_ + 1) (at_ + 5))) else none
    else none
  | _ => none
/-- A value that is no table, as it should be. -/
def ScOk (v : Val) : Prop := v = v0 ∨ v.k = 1 ∧ v.s = [] ∧ rng v.n ∨ v.k = 2 ∧ v.n = 0 ∧ v.s.length ≤ 1024 ∧ ∀ x, x ∈ v.s → x < 256
theorem rdS_sc {s : List Nat} {a b : Nat} {v : Val} (hs : ∀ x, x ∈ s → x < 256) (h : rdS s a = some (v, b)) : sc v = sgm s a b ∧ a < b ∧ b ≤ s.length ∧ ScOk v := by
  unfold rdS at h
  split at h
  · rename_i h0
    cases h
    refine ⟨by rw [seg_one h0]; rfl, by omega, ?_, .inl rfl⟩
    obtain ⟨ha, _⟩ := List.getElem?_eq_some_iff.1 h0
    omega
  · rename_i h0
    split at h
    · rename_i hl
      cases h
      have hb := seg_lt (a := a + 1) (b := a + 9) hs
      have hlen := seg_len (s := s) (a := a + 1) (b := a + 9) hl
      have h8 := leB_deB hb
      rw [hlen, show a + 9 - (a + 1) = 8 by omega] at h8
      have hlt := deB_lt hb
      rw [hlen, show a + 9 - (a + 1) = 8 by omega] at hlt
      refine ⟨?_, by omega, hl, .inr (.inl ⟨rfl, rfl, i64_rng hlt⟩)⟩
      simp only [sc, if_pos]
      rw [leB_i64, h8, ← seg_app (s := s) (a := a) (b := a + 1) (c := a + 9) (by omega) (by omega), seg_one h0]
      rfl
    · cases h
  · rename_i h0
    split at h
    · rename_i hl
      split at h
      · rename_i hn
        cases h
        have hb := seg_lt (a := a + 1) (b := a + 5) hs
        have hlen := seg_len (s := s) (a := a + 1) (b := a + 5) hl
        have h4 := leB_deB hb
        rw [hlen, show a + 5 - (a + 1) = 4 by omega] at h4
        have hl2 := seg_len (s := s) (a := a + 5) (b := a + 5 + deB (sgm s (a + 1) (a + 5))) hn.1
        refine ⟨?_, by omega, hn.1, .inr (.inr ⟨rfl, rfl, by rw [hl2]; omega, seg_lt hs⟩)⟩
        have e : ∀ t, sc ⟨2, 0, t⟩ = 2 :: (leB t.length 4 ++ t) := fun _ => rfl
        generalize hg : deB (sgm s (a + 1) (a + 5)) = g at *
        rw [e, hl2, show a + 5 + g - (a + 5) = g by omega, h4, seg_app (by omega) (by omega), ← seg_app (s := s) (a := a) (b := a + 1) (c := a + 5 + g) (by omega) (by omega), seg_one h0]
        rfl
      · cases h
    · cases h
  · cases h
end Go.Proofs.Ytlflpjjmkigepaa

namespace Go.Proofs.Ytlflpjjmkigepaa
open Go Go.Abs
attribute [local irreducible] Cmp Rg Dw Cd Lp Ev Rdk CT Upd InK
theorem to_u64 {n : Nat} (h : n < 18446744073709551616) : apure .e (.toInt .u64 (.c (.int .i64 (.ofNat n)))) = some (.int .u64 (.ofNat n)) := by
  have e : apure .e (.toInt .u64 (.c (.int .i64 (.ofNat n)))) = some (.int .u64 (awrap .u64 (.ofNat n))) := rfl
  rw [e, awrap_eq]
  congr 2
  simp only [IntKind.wrap, IntKind.bits, IntKind.signed]
  simp
  omega
def byC (bs : List Nat) : List AV := bs.map fun c => .int .u8 (.ofNat c)
theorem bytes_of : ∀ {bs : List Nat}, (∀ x, x ∈ bs → x < 256) → bytesOf (byC bs) = some bs
  | [], _ => rfl
  | a :: r, h => by
    have ha : Nat.blt a 256 = true := Nat.ble_eq_true_of_le (h a (by simp))
    have ih := bytes_of fun x hx => h x (List.mem_cons_of_mem a hx)
    simp only [byC] at ih
    simp only [byC, List.map_cons, bytesOf, ih, ha, cond_true]
theorem _root_.Go.Abs.Rdk.b2s {K : Mem} {v y : AV} {bs : List Nat} (hs : slen v = some bs.length) (h : Rw K 1 v (byC bs) bs.length) (hb : ∀ x, x ∈ bs → x < 256) : Rdk K .b2s v y (.str bs) := by
  unfold Rdk
  intro s hd
  obtain ⟨_, h2⟩ := h s hd
  simp only [aread, hs, h2, bytes_of hb]
theorem wide68 : PT Try.prog false 68 [.int .i64 (.ofNat 8)] (.bool true) := PT.run plain0 (by kernel_rfl) rfl rfl
theorem wide68d : PT Try.prog false 68 [.int .i64 (.ofNat 4)] (.bool true) := PT.run plain0 (by kernel_rfl) rfl rfl
theorem wide68b : PT Try.prog false 68 [.int .i64 (.ofNat 2)] (.bool true) := PT.run plain0 (by kernel_rfl) rfl rfl
theorem seg_all (l : List AV) {n : Nat} (h : l.length = n) : Go.Abs.seg l 0 (n * 1) = some l := by
  subst h
  simp only [Go.Abs.seg]
  rw [Nat.ble_eq_true_of_le (by omega), cond_true, Nat.mul_one, List.drop_zero, List.take_length]
end Go.Proofs.Ytlflpjjmkigepaa

namespace Go.Proofs.Ytlflpjjmkigepaa
open Go Go.Abs
attribute [local irreducible] Cmp Rg Dw Cd Lp Ev Rdk CT Upd InK
theorem wide70 : PT Try.prog false 70 [.int .i64 (.ofNat 8)] (.bool true) := PT.run plain0 (by kernel_rfl) rfl rfl
theorem wide70d : PT Try.prog false 70 [.int .i64 (.ofNat 4)] (.bool true) := PT.run plain0 (by kernel_rfl) rfl rfl
theorem wide70b : PT Try.prog false 70 [.int .i64 (.ofNat 2)] (.bool true) := PT.run plain0 (by kernel_rfl) rfl rfl
end Go.Proofs.Ytlflpjjmkigepaa
