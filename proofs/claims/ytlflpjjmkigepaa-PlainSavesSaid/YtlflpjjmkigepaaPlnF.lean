/- not there: [49, 50, 51, 55, 56] -/
import Derived.Test.YtlflpjjmkigepaaPlnE
set_option autoImplicit false
set_option maxRecDepth 100000
set_option maxHeartbeats 4000000
set_option linter.unusedVariables false
set_option linter.unusedSimpArgs false
namespace Go.Proofs.Ytlflpjjmkigepaa
open Go Go.Abs
attribute [local irreducible] Cmp Rg Dw Cd Lp Ev Rdk CT Upd InK
section
variable {r : Nat} {H : MH} {fs : List OS} {X : RH} {c : Chk}
theorem RH.ok.fn (hX : X.ok H fs) {F' o : OS} {q : Cl} (hF : F'.ok 3) (ho : o.ok 1) (hor : o.rows = q.cells.map rowI) (hF2 : F'.rows = X.F.rows ++ [[.int .i64 q.u, .int .i64 q.p, o.v 1]]) : RH.ok { X with F := F' } { H with used := H.used + 1, fns := H.fns ++ [q] } (fs ++ [o]) where
  T1 := hX.T1
  T2 := hX.T2
  m1 := hX.m1
  l1 := hX.l1
  tr := hX.tr
  F1 := hF
  F2 := by
    show F'.rows = List.zipWith cloW (H.fns ++ [q]) (fs ++ [o])
    rw [hF2, hX.F2, List.zipWith_append hX.f1.symm]
    rfl
  f1 := by simp [hX.f1]
  fr := fun i c' o' h1 h2 => by
    by_cases hi : i < H.fns.length
    · rw [List.getElem?_append_left hi] at h1
      rw [List.getElem?_append_left (by rw [hX.f1]; exact hi)] at h2
      exact hX.fr i c' o' h1 h2
    · rw [List.getElem?_append_right (by omega)] at h1
      rw [List.getElem?_append_right (by rw [hX.f1]; omega), hX.f1] at h2
      have : i - H.fns.length = 0 := by
        rcases Nat.eq_zero_or_pos (i - H.fns.length) with h | h
        · exact h
        · rw [List.getElem?_eq_none (by simp; omega)] at h2; cases h2
      rw [this] at h1 h2
      cases h1; cases h2
      exact ⟨ho, hor⟩
  C1 := hX.C1
  C2 := hX.C2
theorem newR {n : Int} : CT Try.prog false 20 [.int .i64 n] [] fun v K' => ((n < 0 ∨ 1000000 < n) ∧ ∃ b, v = .tup [rP b, .int .i64 (.ofNat 1)]) ∨ ∃ room b c, n = Int.ofNat room ∧ room ≤ 1000000 ∧ v = .tup [rP b, .int .i64 (.ofNat 0)] ∧ RC b (mNew room) [] c ∧ K' = [c] := by
  refine CT.re new28 ?_
  rintro v K' (h | ⟨room, b, h1, h2, h3, rfl⟩)
  · exact ⟨K', .refl _, .inl h⟩
  · refine ⟨_, ?_, .inr ⟨room, b, _, h1, h2, h3, ⟨⟨⟨none, []⟩, ⟨none, []⟩, ⟨none, []⟩, [], []⟩, ⟨OS.ok.nil, rfl, rfl, rfl, fun i t L h => (by cases h), OS.ok.nil, rfl, rfl, fun i c o h => (by cases h), OS.ok.nil, rfl⟩, rfl⟩, rfl⟩⟩
    simp [tabRC, OS.c, OS.v, mNew]
end
/-! Lists of values. -/
section
variable {A B : OS} {xs ys : List Val}
end
end Go.Proofs.Ytlflpjjmkigepaa

namespace Go.Proofs.Ytlflpjjmkigepaa
open Go Go.Abs
/-- A number's byte. -/
def byt (n : Int) (i : Nat) : Nat := (n / (256 ^ i : Nat) % 256).toNat
def leB (n : Int) (w : Nat) : List Nat := (List.range w).map fun i => byt n i
def i64 (u : Nat) : Int := if u < 9223372036854775808 then (u : Int) else (u : Int) - 18446744073709551616
def rng (n : Int) : Prop := -9223372036854775808 ≤ n ∧ n < 9223372036854775808
theorem byt_lt (n : Int) (i : Nat) : byt n i < 256 := by unfold byt; omega
theorem byt_succ (n : Int) (i : Nat) : byt n (i + 1) = byt (n / 256) i := by
  unfold byt
  rw [Int.ediv_ediv_of_nonneg (by omega)]
  congr 3
  rw [Nat.pow_succ, Nat.mul_comm]; rfl
theorem leB_len (n : Int) (w : Nat) : (leB n w).length = w := by simp [leB]
theorem leB_succ (n : Int) (w : Nat) : leB n (w + 1) = (n % 256).toNat :: leB (n / 256) w := by
  simp only [leB, List.range_succ_eq_map, List.map_cons, List.map_map]
  congr 1
  · simp [byt]
  · apply List.map_congr_left; intro i _; exact byt_succ n i
theorem leB_lt {n : Int} {w : Nat} : ∀ x, x ∈ leB n w → x < 256 := by
  intro x hx
  obtain ⟨i, _, rfl⟩ := List.mem_map.1 hx
  exact byt_lt n i
theorem leB_mod {n m : Int} : ∀ {w : Nat}, (n - m) % (256 ^ w : Nat) = 0 → leB n w = leB m w
  | 0, _ => rfl
  | w + 1, h => by
    rw [leB_succ, leB_succ]
    obtain ⟨k, hk⟩ := Int.dvd_of_emod_eq_zero h
    have e : n = m + 256 * ((256 ^ w : Nat) * k) := by
      have : (((256 ^ (w + 1) : Nat) : Int)) = 256 * (256 ^ w : Nat) := by rw [Nat.pow_succ, Nat.mul_comm]; simp
      rw [this, Int.mul_assoc] at hk
      omega
    have e1 : n / 256 = m / 256 + (256 ^ w : Nat) * k := by omega
    rw [leB_mod (n := n / 256) (m := m / 256) (by rw [e1, Int.add_comm, Int.add_sub_cancel]; exact Int.mul_emod_right _ _)]
    congr 1
    omega
/-! Parts of a text. -/
def seg (s : List Nat) (a b : Nat) : List Nat := (s.drop a).take (b - a)
/-- The bytes of a value that is no table. -/
def sc (v : Val) : List Nat := if v.k = 1 then 1 :: leB v.n 8 else if v.k = 2 then 2 :: (leB v.s.length 4 ++ v.s) else [0]
/-- A value that is no table, as it should be. -/
def ScOk (v : Val) : Prop := v = v0 ∨ v.k = 1 ∧ v.s = [] ∧ rng v.n ∨ v.k = 2 ∧ v.n = 0 ∧ v.s.length ≤ 1024 ∧ ∀ x, x ∈ v.s → x < 256
end Go.Proofs.Ytlflpjjmkigepaa

namespace Go.Proofs.Ytlflpjjmkigepaa
open Go Go.Abs
attribute [local irreducible] Cmp Rg Dw Cd Lp Ev Rdk CT Upd InK
theorem shr_int {n : Int} {m : Nat} (hm : m ≤ 64) : abin .shr (.int .i64 n) (.int .u64 (.ofNat m)) = some (.int .i64 (n / (2 ^ m : Nat))) := by
  have e : abin .shr (.int .i64 n) (.int .u64 (.ofNat m)) = ashift false .i64 n (.ofNat m) := rfl
  rw [e]
  have hb : Nat.ble m (nbits .i64) = true := Nat.ble_eq_true_of_le hm
  cases n with
  | ofNat a =>
    simp only [ashift, hb, cond_true]
    rfl
  | negSucc a =>
    simp only [ashift, hb, cond_true]
    rw [Int.fdiv_eq_ediv_of_nonneg _ (Int.natCast_nonneg _)]
theorem to_u8 {x : Int} : apure .e (.toInt .u8 (.c (.int .i64 x))) = some (.int .u8 (.ofNat (x % 256).toNat)) := by
  have e : apure .e (.toInt .u8 (.c (.int .i64 x))) = some (.int .u8 (awrap .u8 x)) := rfl
  rw [e, awrap_eq]
  congr 2
  simp only [IntKind.wrap, IntKind.bits, IntKind.signed]
  simp
  omega
theorem to_u64 {n : Nat} (h : n < 18446744073709551616) : apure .e (.toInt .u64 (.c (.int .i64 (.ofNat n)))) = some (.int .u64 (.ofNat n)) := by
  have e : apure .e (.toInt .u64 (.c (.int .i64 (.ofNat n)))) = some (.int .u64 (awrap .u64 (.ofNat n))) := rfl
  rw [e, awrap_eq]
  congr 2
  simp only [IntKind.wrap, IntKind.bits, IntKind.signed]
  simp
  omega
theorem shr_u0 {n m : Nat} (hm : m ≤ 64) (h : n < 2 ^ m) : abin .shr (.int .u64 (.ofNat n)) (.int .u64 (.ofNat m)) = some (.int .u64 (.ofNat 0)) := by
  have e : abin .shr (.int .u64 (.ofNat n)) (.int .u64 (.ofNat m)) = ashift false .u64 (.ofNat n) (.ofNat m) := rfl
  rw [e]
  have hb : Nat.ble m (nbits .u64) = true := Nat.ble_eq_true_of_le hm
  simp only [ashift, hb, cond_true]
  have : n / 2 ^ m = 0 := Nat.div_eq_of_lt h
  simp [this]
def byC (bs : List Nat) : List AV := bs.map fun c => .int .u8 (.ofNat c)
theorem bytes_of : ∀ {bs : List Nat}, (∀ x, x ∈ bs → x < 256) → bytesOf (byC bs) = some bs
  | [], _ => rfl
  | a :: r, h => by
    have ha : Nat.blt a 256 = true := Nat.ble_eq_true_of_le (h a (by simp))
    have ih := bytes_of fun x hx => h x (List.mem_cons_of_mem a hx)
    simp only [byC] at ih
    simp only [byC, List.map_cons, bytesOf, ih, ha, cond_true]
theorem _root_.Go.Abs.Rdk.b2s {K : Mem} {v y : AV} {bs : List Nat} (hs : slen v = some bs.length) (h : Rw K 1 v (byC bs) bs.length) (hb : ∀ x, x ∈ bs → x < 256) : Rdk K .b2s v y (.str bs) := by
  unfold Rdk
  intro s hd
  obtain ⟨_, h2⟩ := h s hd
  simp only [aread, hs, h2, bytes_of hb]
theorem wide68 : PT Try.prog false 68 [.int .i64 (.ofNat 8)] (.bool true) := PT.run plain0 (by kernel_rfl) rfl rfl
theorem wide68d : PT Try.prog false 68 [.int .i64 (.ofNat 4)] (.bool true) := PT.run plain0 (by kernel_rfl) rfl rfl
theorem wide68b : PT Try.prog false 68 [.int .i64 (.ofNat 2)] (.bool true) := PT.run plain0 (by kernel_rfl) rfl rfl
/-- The bytes that are written so far. -/
def byP (n : Int) (w i : Nat) : List Nat := (List.range w).map fun j => if j < i then byt n j else 0
theorem byP_end {n : Int} {w : Nat} : byP n w w = leB n w := by
  refine List.map_congr_left fun j hj => ?_
  rw [if_pos (List.mem_range.1 hj)]
theorem byP_set {n : Int} {w i : Nat} (hi : i < w) : setSeg (byC (byP n w i)) (0 + i * 1) [.int .u8 (.ofNat (byt n i))] = byC (byP n w (i + 1)) := by
  have hl : (byC (byP n w i)).length = w := by simp [byC, byP]
  have e : setSeg (byC (byP n w i)) (0 + i * 1) [.int .u8 (.ofNat (byt n i))] = (byC (byP n w i)).set i (.int .u8 (.ofNat (byt n i))) := by
    rw [List.set_eq_take_append_cons_drop, if_pos (by omega), Nat.zero_add, Nat.mul_one]
    simp [setSeg]
  rw [e]
  refine List.ext_getElem? fun j => ?_
  rw [List.getElem?_set]
  simp only [byC, byP, List.getElem?_map, List.length_map, List.length_range]
  by_cases hj : i = j
  · subst hj
    rw [if_pos rfl, if_pos hi, List.getElem?_range hi]
    simp
  · rw [if_neg hj]
    by_cases hjw : j < w
    · rw [List.getElem?_range hjw]
      simp only [Option.map_some]
      by_cases h1 : j < i
      · rw [if_pos h1, if_pos (by omega)]
      · rw [if_neg h1, if_neg (by omega)]
    · rw [List.getElem?_eq_none (by simp; omega)]
      rfl
theorem put56_loop {n : Int} {b w : Nat} {K : Mem} {Q : AX → SL → Mem → Prop} (hw : w ≤ 8) (hend : ∀ l', lkS l' 6 = some (.slc b 0 0 w w 1) → Q (.ext 0) l' ([(b, .cells (byC (leB n w)) 0 0 false)] :: K)) :
    ∀ (f i : Nat), w < i + f → i ≤ w → Lp Try.prog false b56_0 f [(0, .int .i64 n), (6, .slc b 0 0 w w 1), (27, .int .i64 (.ofNat w)), (28, .int .i64 (.ofNat i))] ([(b, .cells (byC (byP n w i)) 0 0 false)] :: K) Q := by
  intro f
  induction f with
  | zero => intro i h1 h2; omega
  | succ f ih =>
    intro i h1 h2
    refine Lp.round ?_
    by_cases hi : i < w
    · have q1 := iadr_slc (sz := 1) (b := b) (g := 0) (off := 0) (len := w) (cap := w) (i := i) (k := .i64) hi
      have p1 : abin .mul (.int .i64 (.ofNat 8)) (.int .i64 (.ofNat i)) = some (.int .i64 (.ofNat (8 * i))) := by
        have e : abin .mul (.int .i64 (.ofNat 8)) (.int .i64 (.ofNat i)) = some (.int .i64 (awrap .i64 (.ofNat (8 * i)))) := rfl
        rw [e, awrap_eq]
        congr 2
        simp only [IntKind.wrap, IntKind.bits, IntKind.signed]
        simp
        omega
      have p2 := to_u64 (n := 8 * i) (by omega)
      have p3 := shr_int (n := n) (m := 8 * i) (by omega)
      have p4 := to_u8 (x := n / (2 ^ (8 * i) : Nat))
      have e4 : (n / (2 ^ (8 * i) : Nat) % 256).toNat = byt n i := by rw [byt, Nat.pow_mul]
      rw [e4] at p4
      repeat' (first|(refine zz ?_ (by refine iPb (a:=?_) (b:=?_) (v:=?_) ?_ ?_ ?_; rotate_left 3; exact rfl; exact rfl; first | exact p3 | exact p1))|(refine zz ?_ (by refine iP (v:=?_) ?_; rotate_left; refine Ev.toInt rfl ?_; first | exact p2 | exact p4))|(refine zz ?_ (by refine iP (v:=?_) ?_; rotate_left; refine Ev.iadr rfl rfl ?_; exact to_u64 q.two))|refine zz ?_|(refine zw ?_;refine And.intro ?_ ?_<;>intro hc)|(refine zv ?_;intro cv hv)|(refine za ?_;intro _)|refine zc ?_|(refine zd ?_;refine And.intro ?_ ?_<;>(intro e;(try simp only [Bool.not_eq_true',Bool.not_eq_false'] at e);subst e;try contradiction)))
      refine Rg.e (Ef.store1 rfl rfl ⟨rfl, rfl⟩ .here (by simp [byC, byP]; omega)) ?_
      rintro _ _ ⟨rfl, rfl⟩
      rw [byP_set hi]
      repeat' (first|refine zz ?_|(refine zw ?_;refine And.intro ?_ ?_<;>intro hc)|(refine zv ?_;intro cv hv)|(refine za ?_;intro _)|refine zc ?_|(refine zd ?_;refine And.intro ?_ ?_<;>(intro e;(try simp only [Bool.not_eq_true',Bool.not_eq_false'] at e);subst e;try contradiction)))
      refine Lp.weak ?hw (ih (i + 1) (by omega) hi)
      case hw => exact ⟨rfl, rfl, rfl, rfl, trivial⟩
    · obtain rfl : i = w := by omega
      rw [byP_end]
      repeat' (first|refine zz ?_|(refine zw ?_;refine And.intro ?_ ?_<;>intro hc)|(refine zv ?_;intro cv hv)|(refine za ?_;intro _)|refine zc ?_|(refine zd ?_;refine And.intro ?_ ?_<;>(intro e;(try simp only [Bool.not_eq_true',Bool.not_eq_false'] at e);subst e;try contradiction)))
      exact hend _ rfl
theorem seg_all (l : List AV) {n : Nat} (h : l.length = n) : Go.Abs.seg l 0 (n * 1) = some l := by
  subst h
  simp only [Go.Abs.seg]
  rw [Nat.ble_eq_true_of_le (by omega), cond_true, Nat.mul_one, List.drop_zero, List.take_length]
structure Lo (m k : Nat) : Prop where
  lt : m < 2 ^ k
  two : m < 18446744073709551616
theorem put56 {n : Int} {w : Nat} (hw : w = 8 ∨ (w = 2 ∨ w = 4) ∧ 0 ≤ n ∧ n < (256 ^ w : Nat)) : PT Try.prog false 56 [.int .i64 n, .int .i64 (.ofNat w)] (.tup [.str (leB n w), .int .i64 (.ofNat 0)]) := by
  have h8 : w ≤ 8 := by omega
  have h0 : w = 8 ∨ w = 2 ∨ w = 4 := by omega
  have k68 : PT Try.prog false 68 [.int .i64 (.ofNat w)] (.bool true) := by
    rcases h0 with rfl | rfl | rfl
    · exact wide68
    · exact wide68b
    · exact wide68d
  have hd : ∀ b, Rdk [[(b, AObj.cells (byC (leB n w)) 0 0 false)]] .b2s (.slc b 0 0 w w 1) (.slc b 0 0 w w 1) (.str (leB n w)) := fun b => by
    refine Rdk.b2s (by simp [slen, leB_len]) ?_ leB_lt
    rw [leB_len]
    exact Rw.slc .here (Nat.le_refl _) (Nat.le_refl _) (seg_all _ (by simp [byC, leB_len]))
  refine PT.of (CT.enter mixed comp56 (Nat.le_of_ble_eq_true rfl) ?_)
  by_cases h : w = 8
  · subst h
    repeat' (first|(refine Rg.a (Mk.mkslc rfl rfl (Nat.le_refl _) (Nat.le_of_ble_eq_true rfl)) fun b => ?_)|refine zz ?_|(refine zw ?_;refine And.intro ?_ ?_<;>intro hc)|(refine zv ?_;intro cv hv)|(refine za ?_;intro _)|refine zc ?_|(refine zd ?_;refine And.intro ?_ ?_<;>(intro e;(try simp only [Bool.not_eq_true',Bool.not_eq_false'] at e);subst e;try contradiction)))
    refine Cd.loop (k := 9) (Lp.weak (l2 := [(0, .int .i64 n), (6, .slc b 0 0 8 8 1), (27, .int .i64 (.ofNat 8)), (28, .int .i64 (.ofNat 0))]) ⟨rfl, rfl, rfl, rfl, trivial⟩ (put56_loop (w := 8) (K := []) (Nat.le_refl _) ?_ 9 0 (by omega) (by omega)))
    intro l' h6
    show Cd _ _ _ _ _ _
    refine Cd.weak (l2 := [(6, .slc b 0 0 8 8 1)]) (And.intro h6 trivial) ?_
    repeat' (first|(refine Rg.r rfl rfl (hd b) ?_)|refine zz ?_|(refine zw ?_;refine And.intro ?_ ?_<;>intro hc)|(refine zv ?_;intro cv hv)|(refine za ?_;intro _)|refine zc ?_|(refine zd ?_;refine And.intro ?_ ?_<;>(intro e;(try simp only [Bool.not_eq_true',Bool.not_eq_false'] at e);subst e;try contradiction)))
    (first|refine ⟨.inr rfl,_,.t rfl .nil,?_⟩|refine ⟨.inr rfl,_,.t rfl (.t rfl .nil),?_⟩|refine ⟨.inr rfl,_,.t rfl (.t rfl (.t rfl .nil)),?_⟩|refine ⟨.inr rfl,_,.nil,?_⟩|refine ⟨.inl rfl,_,.t rfl .nil,?_⟩|refine ⟨.inl rfl,_,.nil,?_⟩|refine ⟨.inr rfl,_,.cn rfl (by exact zN) .nil,?_⟩|refine ⟨.inr rfl,_,.cn rfl (by exact zN) (.t rfl .nil),?_⟩)
    rfl
  · obtain ⟨h1, h2, h3⟩ := hw.resolve_left h
    obtain ⟨m, rfl⟩ : ∃ m : Nat, n = .ofNat m := ⟨n.toNat, by simp; omega⟩
    replace h3 : m < 256 ^ w := by rw [Int.ofNat_eq_natCast] at h3; exact_mod_cast h3
    rcases h1 with rfl | rfl
    · have q : Lo m 16 := ⟨by simpa using h3, by omega⟩
      clear hw h h0 h8 h2 h3
      repeat' (first|(refine zz ?_ (by refine iPb (a:=?_) (b:=?_) (v:=?_) ?_ ?_ ?_; rotate_left 3; exact rfl; exact rfl; exact shr_u0 (by omega) q.lt))|(refine zz ?_ (by refine iP (v:=?_) ?_; rotate_left; refine Ev.toInt rfl ?_; exact to_u64 q.two))|(refine Rg.a (Mk.mkslc rfl rfl (Nat.le_refl _) (Nat.le_of_ble_eq_true rfl)) fun b => ?_)|refine zz ?_|(refine zw ?_;refine And.intro ?_ ?_<;>intro hc)|(refine zv ?_;intro cv hv)|(refine za ?_;intro _)|refine zc ?_|(refine zd ?_;refine And.intro ?_ ?_<;>(intro e;(try simp only [Bool.not_eq_true',Bool.not_eq_false'] at e);subst e;try contradiction)))
      refine Cd.loop (k := 3) (Lp.weak (l2 := [(0, .int .i64 m), (6, .slc b 0 0 2 2 1), (27, .int .i64 (.ofNat 2)), (28, .int .i64 (.ofNat 0))]) ⟨rfl, rfl, rfl, rfl, trivial⟩ (put56_loop (w := 2) (K := []) (by omega) ?_ 3 0 (by omega) (by omega)))
      intro l' h6
      show Cd _ _ _ _ _ _
      refine Cd.weak (l2 := [(6, .slc b 0 0 2 2 1)]) (And.intro h6 trivial) ?_
      repeat' (first|(refine Rg.r rfl rfl (hd b) ?_)|refine zz ?_|(refine zw ?_;refine And.intro ?_ ?_<;>intro hc)|(refine zv ?_;intro cv hv)|(refine za ?_;intro _)|refine zc ?_|(refine zd ?_;refine And.intro ?_ ?_<;>(intro e;(try simp only [Bool.not_eq_true',Bool.not_eq_false'] at e);subst e;try contradiction)))
      (first|refine ⟨.inr rfl,_,.t rfl .nil,?_⟩|refine ⟨.inr rfl,_,.t rfl (.t rfl .nil),?_⟩|refine ⟨.inr rfl,_,.t rfl (.t rfl (.t rfl .nil)),?_⟩|refine ⟨.inr rfl,_,.nil,?_⟩|refine ⟨.inl rfl,_,.t rfl .nil,?_⟩|refine ⟨.inl rfl,_,.nil,?_⟩|refine ⟨.inr rfl,_,.cn rfl (by exact zN) .nil,?_⟩|refine ⟨.inr rfl,_,.cn rfl (by exact zN) (.t rfl .nil),?_⟩)
      rfl
    · have q : Lo m 32 := ⟨by simpa using h3, by omega⟩
      clear hw h h0 h8 h2 h3
      repeat' (first|(refine zz ?_ (by refine iPb (a:=?_) (b:=?_) (v:=?_) ?_ ?_ ?_; rotate_left 3; exact rfl; exact rfl; exact shr_u0 (by omega) q.lt))|(refine zz ?_ (by refine iP (v:=?_) ?_; rotate_left; refine Ev.toInt rfl ?_; exact to_u64 q.two))|(refine Rg.a (Mk.mkslc rfl rfl (Nat.le_refl _) (Nat.le_of_ble_eq_true rfl)) fun b => ?_)|refine zz ?_|(refine zw ?_;refine And.intro ?_ ?_<;>intro hc)|(refine zv ?_;intro cv hv)|(refine za ?_;intro _)|refine zc ?_|(refine zd ?_;refine And.intro ?_ ?_<;>(intro e;(try simp only [Bool.not_eq_true',Bool.not_eq_false'] at e);subst e;try contradiction)))
      refine Cd.loop (k := 5) (Lp.weak (l2 := [(0, .int .i64 m), (6, .slc b 0 0 4 4 1), (27, .int .i64 (.ofNat 4)), (28, .int .i64 (.ofNat 0))]) ⟨rfl, rfl, rfl, rfl, trivial⟩ (put56_loop (w := 4) (K := []) (by omega) ?_ 5 0 (by omega) (by omega)))
      intro l' h6
      show Cd _ _ _ _ _ _
      refine Cd.weak (l2 := [(6, .slc b 0 0 4 4 1)]) (And.intro h6 trivial) ?_
      repeat' (first|(refine Rg.r rfl rfl (hd b) ?_)|refine zz ?_|(refine zw ?_;refine And.intro ?_ ?_<;>intro hc)|(refine zv ?_;intro cv hv)|(refine za ?_;intro _)|refine zc ?_|(refine zd ?_;refine And.intro ?_ ?_<;>(intro e;(try simp only [Bool.not_eq_true',Bool.not_eq_false'] at e);subst e;try contradiction)))
      (first|refine ⟨.inr rfl,_,.t rfl .nil,?_⟩|refine ⟨.inr rfl,_,.t rfl (.t rfl .nil),?_⟩|refine ⟨.inr rfl,_,.t rfl (.t rfl (.t rfl .nil)),?_⟩|refine ⟨.inr rfl,_,.nil,?_⟩|refine ⟨.inl rfl,_,.t rfl .nil,?_⟩|refine ⟨.inl rfl,_,.nil,?_⟩|refine ⟨.inr rfl,_,.cn rfl (by exact zN) .nil,?_⟩|refine ⟨.inr rfl,_,.cn rfl (by exact zN) (.t rfl .nil),?_⟩)
      rfl
theorem num37 {n : Int} {w : Nat} (hw : w = 8 ∨ (w = 2 ∨ w = 4) ∧ 0 ≤ n ∧ n < (256 ^ w : Nat)) : PT Try.prog false 37 [.int .i64 n, .int .i64 (.ofNat w)] (.str (leB n w)) := by
  have k := put56 hw
  refine PT.of (CT.enter mixed comp37 (Nat.le_of_ble_eq_true rfl) ?_)
  repeat' (first|refine zz ?_|(refine zw ?_;refine And.intro ?_ ?_<;>intro hc)|(refine zv ?_;intro cv hv)|(refine za ?_;intro _)|refine zc ?_|(refine zd ?_;refine And.intro ?_ ?_<;>(intro e;(try simp only [Bool.not_eq_true',Bool.not_eq_false'] at e);subst e;try contradiction)))
  (first|refine ⟨.inr rfl,_,.t rfl .nil,?_⟩|refine ⟨.inr rfl,_,.t rfl (.t rfl .nil),?_⟩|refine ⟨.inr rfl,_,.t rfl (.t rfl (.t rfl .nil)),?_⟩|refine ⟨.inr rfl,_,.nil,?_⟩|refine ⟨.inl rfl,_,.t rfl .nil,?_⟩|refine ⟨.inl rfl,_,.nil,?_⟩|refine ⟨.inr rfl,_,.cn rfl (by exact zN) .nil,?_⟩|refine ⟨.inr rfl,_,.cn rfl (by exact zN) (.t rfl .nil),?_⟩)
  rfl
theorem str_add {a b : List Nat} (h : a.length + b.length ≤ 1000000000) : abin .add (.str a) (.str b) = some (.str (a ++ b)) := by
  have e : abin .add (.str a) (.str b) = (bif Nat.ble (a.length + b.length) lim then some (.str (a ++ b)) else none) := rfl
  rw [e, Nat.ble_eq_true_of_le (by simp only [lim]; omega), cond_true]
theorem text38 {s : List Nat} (h : s.length ≤ 1000000) : PT Try.prog false 38 [.str s] (.str (leB s.length 4 ++ s)) := by
  have k := put56 (n := s.length) (w := 4) (.inr ⟨.inr rfl, by omega, by simp; omega⟩)
  have k2 := str_add (a := leB s.length 4) (b := s) (by rw [leB_len]; omega)
  refine PT.of (CT.enter mixed comp38 (Nat.le_of_ble_eq_true rfl) ?_)
  repeat' (first|refine zz ?_|(refine zw ?_;refine And.intro ?_ ?_<;>intro hc)|(refine zv ?_;intro cv hv)|(refine za ?_;intro _)|refine zc ?_|(refine zd ?_;refine And.intro ?_ ?_<;>(intro e;(try simp only [Bool.not_eq_true',Bool.not_eq_false'] at e);subst e;try contradiction)))
  (first|refine ⟨.inr rfl,_,.t rfl .nil,?_⟩|refine ⟨.inr rfl,_,.t rfl (.t rfl .nil),?_⟩|refine ⟨.inr rfl,_,.t rfl (.t rfl (.t rfl .nil)),?_⟩|refine ⟨.inr rfl,_,.nil,?_⟩|refine ⟨.inl rfl,_,.t rfl .nil,?_⟩|refine ⟨.inl rfl,_,.nil,?_⟩|refine ⟨.inr rfl,_,.cn rfl (by exact zN) .nil,?_⟩|refine ⟨.inr rfl,_,.cn rfl (by exact zN) (.t rfl .nil),?_⟩)
  rfl
end Go.Proofs.Ytlflpjjmkigepaa

namespace Go.Proofs.Ytlflpjjmkigepaa
open Go Go.Abs
attribute [local irreducible] Cmp Rg Dw Cd Lp Ev Rdk CT Upd InK
theorem rem_u {a : Nat} : abin .rem (.int .u64 (.ofNat a)) (.int .u64 (.ofNat 256)) = some (.int .u64 (.ofNat (a % 256))) := rfl
theorem quo_u {a : Nat} (h : a < 18446744073709551616) : abin .quo (.int .u64 (.ofNat a)) (.int .u64 (.ofNat 256)) = some (.int .u64 (.ofNat (a / 256))) := by
  have e : abin .quo (.int .u64 (.ofNat a)) (.int .u64 (.ofNat 256)) = some (.int .u64 (awrap .u64 (.ofNat (a / 256)))) := rfl
  rw [e, awrap_eq]
  congr 2
  simp only [IntKind.wrap, IntKind.bits, IntKind.signed]
  simp
  omega
theorem u_u8 {x : Nat} (h : x < 256) : apure .e (.toInt .u8 (.c (.int .u64 (.ofNat x)))) = some (.int .u8 (.ofNat x)) := by
  have e : apure .e (.toInt .u8 (.c (.int .u64 (.ofNat x)))) = some (.int .u8 (awrap .u8 (.ofNat x))) := rfl
  rw [e, awrap_eq]
  congr 2
  simp only [IntKind.wrap, IntKind.bits, IntKind.signed]
  simp
  omega
theorem i_u64 {n : Int} : apure .e (.toInt .u64 (.c (.int .i64 n))) = some (.int .u64 (.ofNat (n % 18446744073709551616).toNat)) := by
  have e : apure .e (.toInt .u64 (.c (.int .i64 n))) = some (.int .u64 (awrap .u64 n)) := rfl
  rw [e, awrap_eq]
  congr 2
  simp only [IntKind.wrap, IntKind.bits, IntKind.signed]
  simp
  omega
theorem wide70 : PT Try.prog false 70 [.int .i64 (.ofNat 8)] (.bool true) := PT.run plain0 (by kernel_rfl) rfl rfl
theorem wide70d : PT Try.prog false 70 [.int .i64 (.ofNat 4)] (.bool true) := PT.run plain0 (by kernel_rfl) rfl rfl
theorem wide70b : PT Try.prog false 70 [.int .i64 (.ofNat 2)] (.bool true) := PT.run plain0 (by kernel_rfl) rfl rfl
/-- Rows of bytes. -/
def byR (bs : List Nat) : List (List AV) := bs.map fun c => [.int .u8 (.ofNat c)]
theorem byR_flat : ∀ {bs : List Nat}, (byR bs).flatten = byC bs
  | [] => rfl
  | a :: r => by
    have := byR_flat (bs := r)
    simp only [byR, byC] at this
    simp only [byR, byC, List.map_cons, List.flatten_cons, this]
    rfl
theorem byR_one {bs : List Nat} : ∀ r, r ∈ byR bs → r.length = 1 := by
  intro r h
  obtain ⟨c, _, rfl⟩ := List.mem_map.1 h
  rfl
theorem byR_add {a b : List Nat} : byR (a ++ b) = byR a ++ byR b := by simp [byR]
theorem slen_os {x : OS} {sz : Nat} (h : x.ok sz) : slen (x.v sz) = some x.rows.length := by
  obtain ⟨o, rows⟩ := x
  cases o with
  | none => obtain rfl : rows = [] := h.no rfl; rfl
  | some p => rfl
theorem Rdk.b2sO {K : Mem} {B : OS} {y : AV} {bs : List Nat} (hB : B.ok 1) (hr : B.rows = byR bs) (hb : ∀ x, x ∈ bs → x < 256) (hi : ∀ id o, (id, o) ∈ B.c → InK K id o) : Rdk K .b2s (B.v 1) y (.str bs) := by
  refine Rdk.b2s (by rw [slen_os hB, hr]; simp [byR]) ?_ hb
  have := Rw.os hB hi
  rw [hr, byR_flat] at this
  simpa [byR] using this
theorem leB_snoc {n : Int} {i : Nat} : leB n (i + 1) = leB n i ++ [byt n i] := by simp [leB, List.range_succ]
theorem put59_loop {u w : Nat} (hw : w ≤ 8) (hu : u < 18446744073709551616) {Q : AX → SL → Mem → Prop} (hend : ∀ l' (B : OS), B.ok 1 → B.rows = byR (leB u w) → lkS l' 7 = some (B.v 1) → Q (.ext 0) l' [B.c]) :
    ∀ (f i : Nat) (B : OS), w < i + f → i ≤ w → B.ok 1 → B.rows = byR (leB u i) → Lp Try.prog false b59_0 f [(1, .int .i64 (.ofNat w)), (7, B.v 1), (8, .int .u64 (.ofNat (u / 256 ^ i))), (9, .int .i64 (.ofNat i))] [B.c] Q := by
  intro f
  induction f with
  | zero => intro i B h1; omega
  | succ f ih =>
    intro i B h1 h2 hB hr
    refine Lp.round ?_
    by_cases hi : i < w
    · have hlt : u / 256 ^ i < 18446744073709551616 := Nat.lt_of_le_of_lt (Nat.div_le_self _ _) hu
      have p1 := rem_u (a := u / 256 ^ i)
      have p2 := u_u8 (x := u / 256 ^ i % 256) (by omega)
      have p3 := quo_u hlt
      have hlen : B.rows.length = i := by rw [hr]; simp [byR, leB_len]
      have eb : u / 256 ^ i % 256 = byt u i := by simp only [byt]; omega
      have es : u / 256 ^ i / 256 = u / 256 ^ (i + 1) := by rw [Nat.div_div_eq_div_mul, Nat.pow_succ]
      rw [es] at p3
      rw [eb] at p1 p2
      repeat' (first|(refine zz ?_ (by refine iPb (a:=?_) (b:=?_) (v:=?_) ?_ ?_ ?_; rotate_left 3; exact rfl; exact rfl; first | exact p3 | exact p1))|(refine zz ?_ (by refine iP (v:=?_) ?_; rotate_left; refine Ev.toInt rfl ?_; exact p2))|refine zz ?_|(refine zw ?_;refine And.intro ?_ ?_<;>intro hc)|(refine zv ?_;intro cv hv)|(refine za ?_;intro _)|refine zc ?_|(refine zd ?_;refine And.intro ?_ ?_<;>(intro e;(try simp only [Bool.not_eq_true',Bool.not_eq_false'] at e);subst e;try contradiction)))
      refine Rg.e (Ef.appO (rs := [[.int .u8 (.ofNat (byt u i))]]) (n := 1) rfl rfl hB (by intro r hr; simp at hr; subst hr; rfl) (.there (.here)) rfl (by decide) (Rw.slc (InK.there InK.here) (Nat.le_refl _) (Nat.le_refl _) rfl) (by simp only [lim]; omega)) ?_
      rintro _ _ ⟨B', hB', hr', rfl, rfl⟩
      repeat' (first|(refine zz ?_ (by refine iPb (a:=?_) (b:=?_) (v:=?_) ?_ ?_ ?_; rotate_left 3; exact rfl; exact rfl; first | exact p3 | exact p1))|refine zz ?_|(refine zw ?_;refine And.intro ?_ ?_<;>intro hc)|(refine zv ?_;intro cv hv)|(refine za ?_;intro _)|refine zc ?_|(refine zd ?_;refine And.intro ?_ ?_<;>(intro e;(try simp only [Bool.not_eq_true',Bool.not_eq_false'] at e);subst e;try contradiction)))
      refine Lp.drop (.cons (.here) (.nil)) (Lp.weak ?hw (ih (i + 1) B' (by omega) hi hB' ?_))
      case hw => exact ⟨rfl, rfl, rfl, rfl, trivial⟩
      rw [hr', hr, leB_snoc, byR_add]
      rfl
    · obtain rfl : i = w := by omega
      repeat' (first|refine zz ?_|(refine zw ?_;refine And.intro ?_ ?_<;>intro hc)|(refine zv ?_;intro cv hv)|(refine za ?_;intro _)|refine zc ?_|(refine zd ?_;refine And.intro ?_ ?_<;>(intro e;(try simp only [Bool.not_eq_true',Bool.not_eq_false'] at e);subst e;try contradiction)))
      exact hend _ _ hB hr rfl
theorem put59 {n : Int} {w : Nat} (hw : w = 8 ∨ (w = 2 ∨ w = 4) ∧ 0 ≤ n ∧ n < (256 ^ w : Nat)) : PT Try.prog false 59 [.int .i64 n, .int .i64 (.ofNat w)] (.tup [.str (leB n w), .int .i64 (.ofNat 0)]) := by
  have h8 : w ≤ 8 := by omega
  have h0 : w = 8 ∨ w = 2 ∨ w = 4 := by omega
  have k70 : PT Try.prog false 70 [.int .i64 (.ofNat w)] (.bool true) := by
    rcases h0 with rfl | rfl | rfl
    · exact wide70
    · exact wide70b
    · exact wide70d
  have p1 := i_u64 (n := n)
  have eU : leB (n % 18446744073709551616).toNat w = leB n w := by
    refine leB_mod ?_
    have e : (256 ^ 8 : Nat) = 256 ^ (8 - w) * 256 ^ w := by rw [← Nat.pow_add]; congr 1; omega
    have h2 : (((n % 18446744073709551616).toNat : Int) - n) = - (n / 18446744073709551616) * ((256 ^ 8 : Nat) : Int) := by
      have := Int.emod_add_mul_ediv n 18446744073709551616
      have h3 : ((256 ^ 8 : Nat) : Int) = 18446744073709551616 := by decide
      rw [h3, Int.neg_mul, Int.mul_comm]
      omega
    rw [h2, e, Int.natCast_mul, ← Int.mul_assoc]
    exact Int.mul_emod_left _ _
  have hlt : (n % 18446744073709551616).toNat < 18446744073709551616 := by omega
  generalize (n % 18446744073709551616).toNat = U at *
  refine PT.of (CT.enter mixed comp59 (Nat.le_of_ble_eq_true rfl) ?_)
  have key : ∀ l' (B : OS), B.ok 1 → B.rows = byR (leB U w) → lkS l' 7 = some (B.v 1) → Cd Try.prog false (.seq (.reg r59_13) .ret) l' [B.c] (DoneK fn59.results fun v _ => v = .tup [.str (leB n w), .int .i64 (.ofNat 0)]) := by
    intro l' B hB hr h7
    have hd := Rdk.b2sO (K := [B.c]) (y := B.v 1) hB hr leB_lt fun id o h => .mem h
    rw [eU] at hd
    refine Cd.weak (l2 := [(7, B.v 1)]) (And.intro h7 trivial) ?_
    repeat' (first|(refine Rg.r rfl rfl hd ?_)|refine zz ?_|(refine zw ?_;refine And.intro ?_ ?_<;>intro hc)|(refine zv ?_;intro cv hv)|(refine za ?_;intro _)|refine zc ?_|(refine zd ?_;refine And.intro ?_ ?_<;>(intro e;(try simp only [Bool.not_eq_true',Bool.not_eq_false'] at e);subst e;try contradiction)))
    (first|refine ⟨.inr rfl,_,.t rfl .nil,?_⟩|refine ⟨.inr rfl,_,.t rfl (.t rfl .nil),?_⟩|refine ⟨.inr rfl,_,.t rfl (.t rfl (.t rfl .nil)),?_⟩|refine ⟨.inr rfl,_,.nil,?_⟩|refine ⟨.inl rfl,_,.t rfl .nil,?_⟩|refine ⟨.inl rfl,_,.nil,?_⟩|refine ⟨.inr rfl,_,.cn rfl (by exact zN) .nil,?_⟩|refine ⟨.inr rfl,_,.cn rfl (by exact zN) (.t rfl .nil),?_⟩)
    rfl
  by_cases h : w = 8
  · subst h
    clear hw h8 h0
    · repeat' (first|(refine zz ?_ (by refine iP (v:=?_) ?_; rotate_left; refine Ev.toInt rfl ?_; exact p1))|refine zz ?_|(refine zw ?_;refine And.intro ?_ ?_<;>intro hc)|(refine zv ?_;intro cv hv)|(refine za ?_;intro _)|refine zc ?_|(refine zd ?_;refine And.intro ?_ ?_<;>(intro e;(try simp only [Bool.not_eq_true',Bool.not_eq_false'] at e);subst e;try contradiction)))
      refine Cd.perm (K2 := [OS.c ⟨none, []⟩, [(_, _)]]) (.refl _) ?_
      refine Cd.loop (k := 9) (Lp.drop (.cons (.here) (.nil)) (Lp.weak (l2 := [(1, .int .i64 (.ofNat 8)), (7, OS.v ⟨none, []⟩ 1), (8, .int .u64 (.ofNat (U / 256 ^ 0))), (9, .int .i64 (.ofNat 0))]) ⟨rfl, rfl, by rw [Nat.pow_zero, Nat.div_one]; rfl, rfl, trivial⟩ (put59_loop (w := 8) (by omega) hlt ?_ 9 0 ⟨none, []⟩ (by omega) (by omega) OS.ok.nil rfl)))
      intro l' B hB hr h7
      exact key l' B hB hr h7
  · obtain ⟨h1, h2, h3⟩ := hw.resolve_left h
    rcases h1 with rfl | rfl
    · have h4 : n ≤ 65535 := by simp at h3; omega
      clear hw h h0 h8 h3
      repeat' (first|(refine zz ?_ (by refine iP (v:=?_) ?_; rotate_left; refine Ev.toInt rfl ?_; exact p1))|(refine zz ?_ (by refine iP (v:=?_) ?_; rotate_left; refine Ev.iadr rfl rfl ?_; refine iadr_slc ?_; exact Nat.le_of_ble_eq_true rfl))|refine zz ?_|(refine zw ?_;refine And.intro ?_ ?_<;>intro hc)|(refine zv ?_;intro cv hv)|(refine za ?_;intro _)|refine zc ?_|(refine zd ?_;refine And.intro ?_ ?_<;>(intro e;(try simp only [Bool.not_eq_true',Bool.not_eq_false'] at e);subst e;try contradiction)))
      refine Cd.perm (K2 := [OS.c ⟨none, []⟩, [(_, _)]]) (.refl _) ?_
      refine Cd.loop (k := 3) (Lp.drop (.cons (.here) (.nil)) (Lp.weak (l2 := [(1, .int .i64 (.ofNat 2)), (7, OS.v ⟨none, []⟩ 1), (8, .int .u64 (.ofNat (U / 256 ^ 0))), (9, .int .i64 (.ofNat 0))]) ⟨rfl, rfl, by rw [Nat.pow_zero, Nat.div_one]; rfl, rfl, trivial⟩ (put59_loop (w := 2) (by omega) hlt ?_ 3 0 ⟨none, []⟩ (by omega) (by omega) OS.ok.nil rfl)))
      intro l' B hB hr h7
      exact key l' B hB hr h7
    · have h4 : n ≤ 4294967295 := by simp at h3; omega
      clear hw h h0 h8 h3
      repeat' (first|(refine zz ?_ (by refine iP (v:=?_) ?_; rotate_left; refine Ev.toInt rfl ?_; exact p1))|(refine zz ?_ (by refine iP (v:=?_) ?_; rotate_left; refine Ev.iadr rfl rfl ?_; refine iadr_slc ?_; exact Nat.le_of_ble_eq_true rfl))|refine zz ?_|(refine zw ?_;refine And.intro ?_ ?_<;>intro hc)|(refine zv ?_;intro cv hv)|(refine za ?_;intro _)|refine zc ?_|(refine zd ?_;refine And.intro ?_ ?_<;>(intro e;(try simp only [Bool.not_eq_true',Bool.not_eq_false'] at e);subst e;try contradiction)))
      refine Cd.perm (K2 := [OS.c ⟨none, []⟩, [(_, _)]]) (.refl _) ?_
      refine Cd.loop (k := 5) (Lp.drop (.cons (.here) (.nil)) (Lp.weak (l2 := [(1, .int .i64 (.ofNat 4)), (7, OS.v ⟨none, []⟩ 1), (8, .int .u64 (.ofNat (U / 256 ^ 0))), (9, .int .i64 (.ofNat 0))]) ⟨rfl, rfl, by rw [Nat.pow_zero, Nat.div_one]; rfl, rfl, trivial⟩ (put59_loop (w := 4) (by omega) hlt ?_ 5 0 ⟨none, []⟩ (by omega) (by omega) OS.ok.nil rfl)))
      intro l' B hB hr h7
      exact key l' B hB hr h7
theorem text69 {s : List Nat} (h : s.length ≤ 1000000) : PT Try.prog false 69 [.str s] (.str (leB s.length 4 ++ s)) := by
  have k := put59 (n := s.length) (w := 4) (.inr ⟨.inr rfl, by omega, by simp; omega⟩)
  have k2 := str_add (a := leB s.length 4) (b := s) (by rw [leB_len]; omega)
  refine PT.of (CT.enter mixed comp69 (Nat.le_of_ble_eq_true rfl) ?_)
  repeat' (first|refine zz ?_|(refine zw ?_;refine And.intro ?_ ?_<;>intro hc)|(refine zv ?_;intro cv hv)|(refine za ?_;intro _)|refine zc ?_|(refine zd ?_;refine And.intro ?_ ?_<;>(intro e;(try simp only [Bool.not_eq_true',Bool.not_eq_false'] at e);subst e;try contradiction)))
  (first|refine ⟨.inr rfl,_,.t rfl .nil,?_⟩|refine ⟨.inr rfl,_,.t rfl (.t rfl .nil),?_⟩|refine ⟨.inr rfl,_,.t rfl (.t rfl (.t rfl .nil)),?_⟩|refine ⟨.inr rfl,_,.nil,?_⟩|refine ⟨.inl rfl,_,.t rfl .nil,?_⟩|refine ⟨.inl rfl,_,.nil,?_⟩|refine ⟨.inr rfl,_,.cn rfl (by exact zN) .nil,?_⟩|refine ⟨.inr rfl,_,.cn rfl (by exact zN) (.t rfl .nil),?_⟩)
  rfl
theorem scalar57 {v : Val} (h : v.s.length ≤ 1000000) : PT Try.prog false 57 [valA v] (.str (sc v)) := by
  have k1 := put59 (n := v.n) (w := 8) (.inl rfl)
  have k2 := text69 h
  have e1 := str_add (a := [1]) (b := leB v.n 8) (by rw [leB_len]; decide)
  have e2 := str_add (a := [2]) (b := leB v.s.length 4 ++ v.s) (by rw [List.length_append, leB_len, List.length_singleton]; omega)
  refine PT.of (CT.enter mixed comp57 (Nat.le_of_ble_eq_true rfl) ?_)
  repeat' (first|refine zz ?_|(refine zw ?_;refine And.intro ?_ ?_<;>intro hc)|(refine zv ?_;intro cv hv)|(refine za ?_;intro _)|refine zc ?_|(refine zd ?_;refine And.intro ?_ ?_<;>(intro e;(try simp only [Bool.not_eq_true',Bool.not_eq_false'] at e);subst e;try contradiction)))
  all_goals (first|refine ⟨.inr rfl,_,.t rfl .nil,?_⟩|refine ⟨.inr rfl,_,.t rfl (.t rfl .nil),?_⟩|refine ⟨.inr rfl,_,.t rfl (.t rfl (.t rfl .nil)),?_⟩|refine ⟨.inr rfl,_,.nil,?_⟩|refine ⟨.inl rfl,_,.t rfl .nil,?_⟩|refine ⟨.inl rfl,_,.nil,?_⟩|refine ⟨.inr rfl,_,.cn rfl (by exact zN) .nil,?_⟩|refine ⟨.inr rfl,_,.cn rfl (by exact zN) (.t rfl .nil),?_⟩)
  all_goals (simp_all [sc]; rfl)
end Go.Proofs.Ytlflpjjmkigepaa
