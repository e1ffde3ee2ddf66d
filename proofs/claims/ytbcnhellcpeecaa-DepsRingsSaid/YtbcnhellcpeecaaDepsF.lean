/- DepsRings: the plain law: what comes of a chain of modules, open or closed. -/
import Derived.Test.YtbcnhellcpeecaaDepsD
set_option autoImplicit false
set_option maxRecDepth 100000
set_option linter.unusedVariables false
namespace Go.Proofs.Ytbcnhellcpeecaa
open Go Go.Abs
def haveS : List Nat := [104, 97, 118, 101]
def ringNeeds (K : Nat) (c : Bool) (i : Nat) : List (List Nat) := if i + 1 < K then [[109, 97 + i + 1]] else if c then [[109, 97]] else []
def ringD (K M : Nat) (c : Bool) : List Dep := ((List.range K).map fun i => ⟨[109, 97 + i], ringNeeds K c i⟩) ++ (List.range M).map fun j => ⟨[111, 97 + j], [haveS]⟩
theorem ringD_length (K M : Nat) (c : Bool) : (ringD K M c).length = K + M := by simp [ringD]
theorem ringD_lo {K M : Nat} {c : Bool} {i : Nat} (h : i < K) : (ringD K M c)[i]? = some ⟨[109, 97 + i], ringNeeds K c i⟩ := by
  unfold ringD
  rw [List.getElem?_append_left (by simpa using h)]
  simp [h]
theorem ringD_hi {K M : Nat} {c : Bool} {j : Nat} (h : j < M) : (ringD K M c)[K + j]? = some ⟨[111, 97 + j], [haveS]⟩ := by
  unfold ringD
  rw [List.getElem?_append_right (by simp)]
  simp [h]
theorem get_of {α : Type} {l : List α} {i : Nat} {a : α} (h : l[i]? = some a) (hi : i < l.length) : l[i] = a := by
  rw [List.getElem?_eq_getElem hi] at h; simpa using h
theorem ring_cases {K M : Nat} {c : Bool} {i : Nat} (h : i < (ringD K M c).length) : (i < K ∧ (ringD K M c)[i] = ⟨[109, 97 + i], ringNeeds K c i⟩) ∨ (∃ j, j < M ∧ i = K + j ∧ (ringD K M c)[i] = ⟨[111, 97 + j], [haveS]⟩) := by
  have hl := ringD_length K M c
  by_cases hi : i < K
  · exact .inl ⟨hi, get_of (ringD_lo hi) h⟩
  · refine .inr ⟨i - K, by omega, by omega, ?_⟩
    have : i = K + (i - K) := by omega
    have h2 := ringD_hi (K := K) (M := M) (c := c) (j := i - K) (by omega)
    rw [← this] at h2
    exact get_of h2 h
theorem first_lo {K M : Nat} {c : Bool} {i : Nat} (h : i < K) : first (ringD K M c) [109, 97 + i] = some i := by
  have hl := ringD_length K M c
  rw [first_some]
  refine ⟨by omega, ?_, fun j hj => ?_⟩
  · rw [get_of (ringD_lo h) (by omega)]
  · rw [get_of (ringD_lo (show j < K by omega)) (by omega)]
    simp; omega
theorem first_hi {K M : Nat} {c : Bool} {j : Nat} (h : j < M) : first (ringD K M c) [111, 97 + j] = some (K + j) := by
  have hl := ringD_length K M c
  rw [first_some]
  refine ⟨by omega, ?_, fun i hi => ?_⟩
  · rw [get_of (ringD_hi h) (by omega)]
  · rcases ring_cases (K := K) (M := M) (c := c) (i := i) (by omega) with ⟨h1, e⟩ | ⟨j', h1, h2, e⟩
    · rw [e]; simp
    · rw [e]; simp; omega
theorem first_have {K M : Nat} {c : Bool} : first (ringD K M c) haveS = none := by
  rw [first_none]
  intro i hi
  rcases ring_cases hi with ⟨h1, e⟩ | ⟨j', h1, h2, e⟩ <;> rw [e] <;> simp [haveS]
theorem ring_twice {K M : Nat} {c : Bool} : ¬ twice (ringD K M c) := by
  rintro ⟨i, hi, h⟩
  rcases ring_cases hi with ⟨h1, e⟩ | ⟨j', h1, h2, e⟩
  · rw [e] at h; exact h (first_lo h1)
  · rw [e, h2] at h; exact h (first_hi h1)
theorem ring_missing {K M : Nat} (hK : 2 ≤ K) {c : Bool} : ¬ missing (ringD K M c) [haveS] := by
  rintro ⟨d, hd, q, hq, h1, h2⟩
  obtain ⟨i, hi, rfl⟩ := List.getElem_of_mem hd
  rcases ring_cases hi with ⟨h3, e⟩ | ⟨j', h3, h4, e⟩
  · rw [e] at hq
    simp only [ringNeeds] at hq
    by_cases hlt : i + 1 < K
    · rw [if_pos hlt] at hq
      simp at hq
      subst hq
      have := first_lo (M := M) (c := c) hlt
      rw [show 97 + (i + 1) = 97 + i + 1 by omega] at this
      rw [this] at h1; simp at h1
    · rw [if_neg hlt] at hq
      cases c with
      | false => simp at hq
      | true =>
        simp at hq
        subst hq
        have := first_lo (M := M) (c := true) (show 0 < K by omega)
        rw [show 97 + 0 = 97 by omega] at this
        rw [this] at h1; simp at h1
  · rw [e] at hq
    simp at hq
    subst hq
    exact h2 (by simp)
def ringW (K : Nat) (c : Bool) (i : Nat) : List Nat := if i + 1 < K then [i + 1] else if i + 1 = K ∧ c = true then [0] else []
theorem ring_wOf {K M : Nat} (hK : 2 ≤ K) {c : Bool} {i : Nat} (h : i < K + M) : wOf (ringD K M c) i = ringW K c i := by
  have hl := ringD_length K M c
  have hi : i < (ringD K M c).length := by omega
  unfold wOf ringW
  rw [needsOf_lt hi]
  rcases ring_cases hi with ⟨h3, e⟩ | ⟨j', h3, h4, e⟩
  · rw [e]
    simp only [ringNeeds]
    by_cases hlt : i + 1 < K
    · rw [if_pos hlt, if_pos hlt]
      have := first_lo (M := M) (c := c) hlt
      rw [show 97 + (i + 1) = 97 + i + 1 by omega] at this
      simp [this]
    · rw [if_neg hlt, if_neg hlt]
      cases c with
      | false => simp
      | true =>
        rw [if_pos rfl, if_pos ⟨by omega, rfl⟩]
        have := first_lo (M := M) (c := true) (show 0 < K by omega)
        rw [show 97 + 0 = 97 by omega] at this
        simp [this]; omega
  · rw [e, if_neg (by omega), if_neg (by omega)]
    simp [first_have]
theorem scan_congr {p p' : Nat → Bool} : ∀ {c i : Nat}, (∀ k, k < i + c → p k = p' k) → scan p c i = scan p' c i
  | 0, i, _ => rfl
  | c + 1, i, h => by
    simp only [scan]
    rw [h i (by omega), scan_congr fun k hk => h k (by omega)]
theorem rounds_congr {W W' : Nat → List Nat} {n : Nat} (hW : ∀ i, i < n → W i = W' i) : ∀ {c : Nat} {o : List Nat}, rounds W n c o = rounds W' n c o
  | 0, o => rfl
  | c + 1, o => by
    simp only [rounds]
    rw [scan_congr (p := ready W o) (p' := ready W' o) fun k hk => by unfold ready; rw [hW k (by omega)]]
    cases scan (ready W' o) n 0 with
    | none => rfl
    | some i => exact rounds_congr hW
def ringOut (K M : Nat) : List Nat := ((List.range K).map fun i => K - 1 - i) ++ (List.range M).map fun j => K + j
theorem open_all : ∀ k, k < 20 → ∀ m, m < 5 → rounds (ringW (2 + k) false) (2 + k + m) (2 + k + m) [] = some (ringOut (2 + k) m) := by decide +kernel
theorem closed_all : ∀ k, k < 20 → ∀ m, m < 5 → rounds (ringW (2 + k) true) (2 + k + m) (2 + k + m) [] = none := by decide +kernel
theorem ring_open {k m : Nat} (hk : k < 20) (hm : m < 5) {out : List Nat} {e : Nat} (h : OrderS (ringD (2 + k) m false) [haveS] out e) : e = 0 ∧ out = ringOut (2 + k) m := by
  have hr := open_all k hk m hm
  rw [← rounds_congr (W := wOf (ringD (2 + k) m false)) (fun i hi => ring_wOf (by omega) hi), ← ringD_length (2 + k) m false] at hr
  rcases h with ⟨h, _, _⟩ | ⟨_, h, _, _⟩ | ⟨_, _, h, _, _⟩ | ⟨_, _, h, rfl⟩
  · exact absurd h ring_twice
  · exact absurd h (ring_missing (by omega))
  · rw [hr] at h; simp at h
  · rw [hr] at h; cases h; exact ⟨rfl, rfl⟩
theorem ring_closed {k m : Nat} (hk : k < 20) (hm : m < 5) {out : List Nat} {e : Nat} (h : OrderS (ringD (2 + k) m true) [haveS] out e) : e = 18 ∧ out = [] := by
  have hr := closed_all k hk m hm
  rw [← rounds_congr (W := wOf (ringD (2 + k) m true)) (fun i hi => ring_wOf (by omega) hi), ← ringD_length (2 + k) m true] at hr
  rcases h with ⟨h, _, _⟩ | ⟨_, h, _, _⟩ | ⟨_, _, h, h2, rfl⟩ | ⟨_, _, h, rfl⟩
  · exact absurd h ring_twice
  · exact absurd h (ring_missing (by omega))
  · exact ⟨rfl, h2⟩
  · rw [hr] at h; simp at h
end Go.Proofs.Ytbcnhellcpeecaa

namespace Go.Proofs.Ytbcnhellcpeecaa
open Go Go.Abs
variable {s0 s : St} {ov : AV} {out : List Nat}
theorem b2s_lit {s : St} {id b : Nat} {y : AV} (h : s.objs.get id = some (.cells [.int .u8 (.ofNat b)] 0 0 false)) (hb : b < 256) : aread .b2s (.slc id 0 0 1 1 1) y s = some (.str [b]) := by
  simp only [aread, slen, St.row, St.cells, h]
  have e : seg [AV.int .u8 (.ofNat b)] 0 (1 * 1) = some [.int .u8 (.ofNat b)] := rfl
  simp only [e, show (Nat.beq 1 1 && Nat.ble 1 1) = true from rfl, show (Nat.ble 0 0 && Nat.ble 0 0) = true from rfl, cond_true, bytesOf]
  rw [show Nat.blt b 256 = true from Nat.ble_eq_true_of_le hb]
  rfl
theorem u8_of {b : Nat} (h : b < 256) : apure .e (.toInt .u8 (.c (.int .i64 (.ofNat b)))) = some (.int .u8 (.ofNat b)) := by
  simp only [apure, AO.ev, awrap, top]
  rw [Nat.ble_eq_true_of_le (by omega)]
  rfl
theorem i64_of {b : Nat} (h : b < 256) : apure .e (.toInt .i64 (.c (.int .u8 (.ofNat b)))) = some (.int .i64 (.ofNat b)) := by
  simp only [apure, AO.ev, awrap, top]
  rw [Nat.ble_eq_true_of_le (by omega)]
  rfl
theorem rem_nat (a b : Nat) : abin .rem (.int .i64 (.ofNat a)) (.int .i64 (.ofNat (b + 1))) = some (.int .i64 (.ofNat (a % (b + 1)))) := rfl

/-- One of a chain is laid down. -/
theorem loop5a {K M : Nat} {c : Bool} (hK : 2 ≤ K) (hK2 : K < 100) (hM : M < 100) :
    ∀ (j k : Nat) (s : St) (f : Nat) (v : AV), k + j = K → j < f → Given s0 s (ringD K M c) v k →
      WL (acall F0 E8 300) 300 b5_0 f [(2, .bool c), (7, .int .i64 (.ofNat K)), (8, .int .i64 (.ofNat M)), (9, v), (10, .int .i64 (.ofNat k))] s
        (fun x l s => x = .ext 0 ∧ ∃ v, Given s0 s (ringD K M c) v K ∧ Sub2 [(2, .bool c), (7, .int .i64 (.ofNat K)), (8, .int .i64 (.ofNat M)), (9, v)] l) := by
  intro j
  induction j with
  | zero =>
    intro k s f v hk hf hg
    obtain ⟨f, rfl⟩ : ∃ g, f = g + 1 := ⟨f - 1, by omega⟩
    have hs := hg.ext
    refine WL.round ?_
    (repeat refine WC.seq ?_); refine WC.regX hs fun s1 hs1 hx1 ho1 hn1 => ?_
    repeat (first | refine WR.nil ?_ | refine WR.guardY rfl ?_ | refine WR.guardN rfl ?_ | refine WR.guardT rfl ?_ | refine WR.mov rfl ?_ | (refine WR.len (v := ?_) rfl ?_ ?_; rotate_left; first | assumption | exact rfl) | (refine WR.iadr (v := ?_) rfl rfl ?_ ?_; rotate_left; assumption) | (refine WR.fadr (v := ?_) rfl ?_ ?_; rotate_left; first | assumption | exact rfl) | (refine WR.r (v := ?_) rfl rfl (Ld.use (s0 := ?_) ?_ ?_) ?_; rotate_left; rotate_left; assumption; assumption) | (refine WR.bin (v := ?_) rfl rfl ?_ ?_; rotate_left; first | assumption | exact lss_nat _ _ | exact eql_nat _ _ | exact neq_nat _ _ | exact gtr_nat _ _ | exact geq_nat _ _ | exact leq_nat _ _ | exact eql_str _ _ | exact neq_str _ _ | (refine add_nat ?_; omega) | (refine sub_nat ?_ ?_; omega; omega)) | refine WR.pick rfl rfl rfl ?_ | refine WR.un rfl rfl ?_ | refine WR.ext rfl rfl ?_)
    (repeat refine WC.seq ?_); refine WC.cond rfl ?_ ?_
    · intro h; simp at h; omega
    · intro h
      refine WC.ext ⟨rfl, v, ?_, rfl, rfl, rfl, rfl, trivial⟩
      have : k = K := by omega
      subst this
      obtain ⟨rows, h1, h2, h3⟩ := hg.own
      refine ⟨hs1, rows, h1.ext hx1, h2, fun i hi d hd => ?_⟩
      obtain ⟨nv, h4, h5, h6⟩ := h3 i hi d hd
      exact ⟨nv, h4, h5.ext hx1, h6⟩
  | succ j ih =>
    intro k s f v hk hf hg
    obtain ⟨f, rfl⟩ : ∃ g, f = g + 1 := ⟨f - 1, by omega⟩
    have hs := hg.ext
    have hkK : k < K := by omega
    have hd := ringD_lo (M := M) (c := c) hkK
    obtain ⟨rows, h1, h2, h3⟩ := hg.own
    -- the rest: the struct is read, laid into a slice of one, put behind the others
    have tail : ∀ (l : SL) (sx : St) (idd : Nat) (nv : AV), Ext s sx → s.next ≤ idd → idd < sx.next → sx.objs.get idd = some (.cells [.str [109, 97 + k], nv] 0 0 false) → Slv sx 1 nv (strs (ringNeeds K c k)) → Apart v nv →
        Sub2 [(2, .bool c), (7, .int .i64 (.ofNat K)), (8, .int .i64 (.ofNat M)), (9, v), (10, .int .i64 (.ofNat k)), (11, .ptr idd 0 0 2)] l →
        WC (acall F0 E8 300) 300 (.reg r5_11) l sx (fun x l s => outW 1 x (fun x => thenW x (WC (acall F0 E8 300) 300 (.reg r5_12) l s (fun x l s => thenW x (WL (acall F0 E8 300) 300 b5_0 f l s (fun x l s => x = .ext 0 ∧ ∃ v, Given s0 s (ringD K M c) v K ∧ Sub2 [(2, .bool c), (7, .int .i64 (.ofNat K)), (8, .int .i64 (.ofNat M)), (9, v)] l))
          (x = .ext 0 ∧ ∃ v, Given s0 s (ringD K M c) v K ∧ Sub2 [(2, .bool c), (7, .int .i64 (.ofNat K)), (8, .int .i64 (.ofNat M)), (9, v)] l)))
          (thenW x (WL (acall F0 E8 300) 300 b5_0 f l s (fun x l s => x = .ext 0 ∧ ∃ v, Given s0 s (ringD K M c) v K ∧ Sub2 [(2, .bool c), (7, .int .i64 (.ofNat K)), (8, .int .i64 (.ofNat M)), (9, v)] l))
          (x = .ext 0 ∧ ∃ v, Given s0 s (ringD K M c) v K ∧ Sub2 [(2, .bool c), (7, .int .i64 (.ofNat K)), (8, .int .i64 (.ofNat M)), (9, v)] l)))) := by
      intro l sx idd nv hx hi1 hi2 hg11 hnv hap hl
      refine WC.weak hl ?_
      have hsx := hs.trans hx
      have nx := hx.next
      (repeat refine WC.seq ?_); refine WC.regX hsx fun s1 hs1 hx1 ho1 hn1 => ?_
      repeat (first | refine WR.nil ?_ | refine WR.guardY rfl ?_ | refine WR.guardN rfl ?_ | refine WR.guardT rfl ?_ | refine WR.mov rfl ?_ | (refine WR.len (v := ?_) rfl ?_ ?_; rotate_left; first | assumption | exact rfl) | (refine WR.iadr (v := ?_) rfl rfl ?_ ?_; rotate_left; assumption) | (refine WR.fadr (v := ?_) rfl ?_ ?_; rotate_left; first | assumption | exact rfl) | (refine WR.r (v := ?_) rfl rfl (Ld.use (s0 := ?_) ?_ ?_) ?_; rotate_left; rotate_left; assumption; assumption) | (refine WR.bin (v := ?_) rfl rfl ?_ ?_; rotate_left; first | assumption | exact lss_nat _ _ | exact eql_nat _ _ | exact neq_nat _ _ | exact gtr_nat _ _ | exact geq_nat _ _ | exact leq_nat _ _ | exact eql_str _ _ | exact neq_str _ _ | (refine add_nat ?_; omega) | (refine sub_nat ?_ ?_; omega; omega)) | refine WR.pick rfl rfl rfl ?_ | refine WR.un rfl rfl ?_ | refine WR.ext rfl rfl ?_)
      have pt : Pt s1 (.ptr idd 0 0 2) [.str [109, 97 + k], nv] := (Pt.obj hg11 hi2).ext hx1
      refine WR.r rfl rfl (pt.loadn rfl _) ?_
      refine WR.lits (fillLn rfl rfl (by simp [rep]) rfl) ?_
      have hi3 : sx.next + 1 + 1 < s1.next := by rw [hn1]; simp [r5_11]
      generalize hid : sx.next + 1 + 1 = idl at hi3 ⊢
      generalize hs2 : St.put s1 _ _ = s2
      have hx2 : Ext sx s2 := by rw [← hs2]; exact hx1.put (by omega) _
      have lit : Slv s2 2 (.slc idl 0 0 1 1 2) [[.str [109, 97 + k], nv]] := by
        refine ⟨by simp, rfl, rfl, by rw [← hs2]; exact hi3, [.str [109, 97 + k], nv], ?_, rfl⟩
        rw [← hs2]; simp only [St.cells, get_put, if_pos]; rfl
      have own2 : Own s2 s0.next 2 v rows := (h1.ext hx).ext hx2
      obtain ⟨v3, s3, b1, b2, b3, b4⟩ := Own.app (bytes := 40) own2 lit (by simp [lim]; omega)
      refine WR.append rfl rfl b1 ?_
      repeat (first | refine WR.nil ?_ | refine WR.guardY rfl ?_ | refine WR.guardN rfl ?_ | refine WR.guardT rfl ?_ | refine WR.mov rfl ?_ | (refine WR.len (v := ?_) rfl ?_ ?_; rotate_left; first | assumption | exact rfl) | (refine WR.iadr (v := ?_) rfl rfl ?_ ?_; rotate_left; assumption) | (refine WR.fadr (v := ?_) rfl ?_ ?_; rotate_left; first | assumption | exact rfl) | (refine WR.r (v := ?_) rfl rfl (Ld.use (s0 := ?_) ?_ ?_) ?_; rotate_left; rotate_left; assumption; assumption) | (refine WR.bin (v := ?_) rfl rfl ?_ ?_; rotate_left; first | assumption | exact lss_nat _ _ | exact eql_nat _ _ | exact neq_nat _ _ | exact gtr_nat _ _ | exact geq_nat _ _ | exact leq_nat _ _ | exact eql_str _ _ | exact neq_str _ _ | (refine add_nat ?_; omega) | (refine sub_nat ?_ ?_; omega; omega)) | refine WR.pick rfl rfl rfl ?_ | refine WR.un rfl rfl ?_ | refine WR.ext rfl rfl ?_)
      have hs3 : Ext s0 s3 := b3.ext (hsx.trans hx2) fun id hid => own2.offOld hid
      have g3 : Given s0 s3 (ringD K M c) v3 (k + 1) := by
        refine ⟨hs3, _, b2, by simp [h2], fun i hi d hd2 => ?_⟩
        by_cases e : i = k
        · subst e
          rw [hd] at hd2
          cases hd2
          refine ⟨nv, ?_, b3.stay (hnv.ext hx2) hap, apart_app (hnv.ext hx2) hap b4⟩
          rw [List.getElem?_append_right (by omega), h2]; simp
        · obtain ⟨nw, h4, h5, h6⟩ := h3 i (by omega) d hd2
          have h5' := (h5.ext hx).ext hx2
          refine ⟨nw, ?_, b3.stay h5' h6, apart_app h5' h6 b4⟩
          rw [List.getElem?_append_left (by omega)]; exact h4
      (repeat refine WC.seq ?_); refine WC.regX hs3 fun s4 hs4 hx4 ho4 hn4 => ?_
      repeat (first | refine WR.nil ?_ | refine WR.guardY rfl ?_ | refine WR.guardN rfl ?_ | refine WR.guardT rfl ?_ | refine WR.mov rfl ?_ | (refine WR.len (v := ?_) rfl ?_ ?_; rotate_left; first | assumption | exact rfl) | (refine WR.iadr (v := ?_) rfl rfl ?_ ?_; rotate_left; assumption) | (refine WR.fadr (v := ?_) rfl ?_ ?_; rotate_left; first | assumption | exact rfl) | (refine WR.r (v := ?_) rfl rfl (Ld.use (s0 := ?_) ?_ ?_) ?_; rotate_left; rotate_left; assumption; assumption) | (refine WR.bin (v := ?_) rfl rfl ?_ ?_; rotate_left; first | assumption | exact lss_nat _ _ | exact eql_nat _ _ | exact neq_nat _ _ | exact gtr_nat _ _ | exact geq_nat _ _ | exact leq_nat _ _ | exact eql_str _ _ | exact neq_str _ _ | (refine add_nat ?_; omega) | (refine sub_nat ?_ ?_; omega; omega)) | refine WR.pick rfl rfl rfl ?_ | refine WR.un rfl rfl ?_ | refine WR.ext rfl rfl ?_)
      have g4 : Given s0 s4 (ringD K M c) v3 (k + 1) := by
        obtain ⟨rows, h1, h2, h3⟩ := g3.own
        refine ⟨hs4, rows, h1.ext hx4, by omega, fun i hi d hd => ?_⟩
        obtain ⟨nv, h4, h5, h6⟩ := h3 i (by omega) d hd
        exact ⟨nv, h4, h5.ext hx4, h6⟩
      refine WL.weak ?hw (ih (k + 1) _ f v3 (by omega) (by omega) g4)
      case hw => exact ⟨rfl, rfl, rfl, rfl, rfl, trivial⟩
    refine WL.round ?_
    (repeat refine WC.seq ?_); refine WC.regX hs fun s1 hs1 hx1 ho1 hn1 => ?_
    repeat (first | refine WR.nil ?_ | refine WR.guardY rfl ?_ | refine WR.guardN rfl ?_ | refine WR.guardT rfl ?_ | refine WR.mov rfl ?_ | (refine WR.len (v := ?_) rfl ?_ ?_; rotate_left; first | assumption | exact rfl) | (refine WR.iadr (v := ?_) rfl rfl ?_ ?_; rotate_left; assumption) | (refine WR.fadr (v := ?_) rfl ?_ ?_; rotate_left; first | assumption | exact rfl) | (refine WR.r (v := ?_) rfl rfl (Ld.use (s0 := ?_) ?_ ?_) ?_; rotate_left; rotate_left; assumption; assumption) | (refine WR.bin (v := ?_) rfl rfl ?_ ?_; rotate_left; first | assumption | exact lss_nat _ _ | exact eql_nat _ _ | exact neq_nat _ _ | exact gtr_nat _ _ | exact geq_nat _ _ | exact leq_nat _ _ | exact eql_str _ _ | exact neq_str _ _ | (refine add_nat ?_; omega) | (refine sub_nat ?_ ?_; omega; omega)) | refine WR.pick rfl rfl rfl ?_ | refine WR.un rfl rfl ?_ | refine WR.ext rfl rfl ?_)
    (repeat refine WC.seq ?_); refine WC.cond rfl ?_ ?_
    · intro _
      (repeat refine WC.seq ?_); refine WC.skip ?_
      (repeat refine WC.seq ?_); refine WC.blk ?_
      (repeat refine WC.seq ?_); refine WC.regX hs1 fun s2 hs2 hx2 ho2 hn2 => ?_
      repeat (first | refine WR.nil ?_ | refine WR.guardY rfl ?_ | refine WR.guardN rfl ?_ | refine WR.guardT rfl ?_ | refine WR.mov rfl ?_ | (refine WR.len (v := ?_) rfl ?_ ?_; rotate_left; first | assumption | exact rfl) | (refine WR.iadr (v := ?_) rfl rfl ?_ ?_; rotate_left; assumption) | (refine WR.fadr (v := ?_) rfl ?_ ?_; rotate_left; first | assumption | exact rfl) | (refine WR.r (v := ?_) rfl rfl (Ld.use (s0 := ?_) ?_ ?_) ?_; rotate_left; rotate_left; assumption; assumption) | (refine WR.bin (v := ?_) rfl rfl ?_ ?_; rotate_left; first | assumption | exact lss_nat _ _ | exact eql_nat _ _ | exact neq_nat _ _ | exact gtr_nat _ _ | exact geq_nat _ _ | exact leq_nat _ _ | exact eql_str _ _ | exact neq_str _ _ | (refine add_nat ?_; omega) | (refine sub_nat ?_ ?_; omega; omega)) | refine WR.pick rfl rfl rfl ?_ | refine WR.un rfl rfl ?_ | refine WR.ext rfl rfl ?_)
      refine WR.toInt rfl (u8_of (by omega)) ?_
      refine WR.lits (fillL1 rfl ⟨rfl, rfl⟩ (by simp [rep]) rfl) ?_
      refine WR.r rfl rfl (b2s_lit (b := 97 + k) (by rw [get_put, if_pos rfl]; rfl) (by omega)) ?_
      refine WR.bin rfl rfl (v := .str [109, 97 + k]) rfl ?_
      refine WR.build (fillL1 rfl ⟨rfl, rfl⟩ (by simp) rfl) ?_
      refine WR.alloc ?_
      refine WR.store rfl rfl rfl rfl (by simp) (wr_some (by rw [get_put, if_pos rfl]) (by simp [cellsOf, setSeg])) ?_
      repeat (first | refine WR.nil ?_ | refine WR.guardY rfl ?_ | refine WR.guardN rfl ?_ | refine WR.guardT rfl ?_ | refine WR.mov rfl ?_ | (refine WR.len (v := ?_) rfl ?_ ?_; rotate_left; first | assumption | exact rfl) | (refine WR.iadr (v := ?_) rfl rfl ?_ ?_; rotate_left; assumption) | (refine WR.fadr (v := ?_) rfl ?_ ?_; rotate_left; first | assumption | exact rfl) | (refine WR.r (v := ?_) rfl rfl (Ld.use (s0 := ?_) ?_ ?_) ?_; rotate_left; rotate_left; assumption; assumption) | (refine WR.bin (v := ?_) rfl rfl ?_ ?_; rotate_left; first | assumption | exact lss_nat _ _ | exact eql_nat _ _ | exact neq_nat _ _ | exact gtr_nat _ _ | exact geq_nat _ _ | exact leq_nat _ _ | exact eql_str _ _ | exact neq_str _ _ | (refine add_nat ?_; omega) | (refine sub_nat ?_ ?_; omega; omega)) | refine WR.pick rfl rfl rfl ?_ | refine WR.un rfl rfl ?_ | refine WR.ext rfl rfl ?_)
      have hn2' : s2.next = s1.next + 9 := by rw [hn2]; rfl
      have n1 := hx1.next
      generalize hidd : s1.next + 1 + 1 + 1 + 1 + 1 + 1 + 1 = idd
      generalize hidb : s1.next + 1 + 1 + 1 = idb
      generalize hs3 : St.put (St.put (St.put s2 _ _) _ _) _ _ = s3
      have hx3 : Ext s s3 := by rw [← hs3]; exact (((hx1.trans hx2).put (by omega) _).put (by omega) _).put (by omega) _
      have hn3 : s3.next = s2.next := by rw [← hs3]; rfl
      have hg3 : s3.objs.get idd = some (.cells [.str [109, 97 + k], .nilslc] 0 0 false) := by rw [← hs3, get_put, if_pos rfl]; rfl
      have hs3' := hs.trans hx3
      (repeat refine WC.seq ?_); refine WC.regX hs3' fun s4 hs4 hx4 ho4 hn4 => ?_
      repeat (first | refine WR.nil ?_ | refine WR.guardY rfl ?_ | refine WR.guardN rfl ?_ | refine WR.guardT rfl ?_ | refine WR.mov rfl ?_ | (refine WR.len (v := ?_) rfl ?_ ?_; rotate_left; first | assumption | exact rfl) | (refine WR.iadr (v := ?_) rfl rfl ?_ ?_; rotate_left; assumption) | (refine WR.fadr (v := ?_) rfl ?_ ?_; rotate_left; first | assumption | exact rfl) | (refine WR.r (v := ?_) rfl rfl (Ld.use (s0 := ?_) ?_ ?_) ?_; rotate_left; rotate_left; assumption; assumption) | (refine WR.bin (v := ?_) rfl rfl ?_ ?_; rotate_left; first | assumption | exact lss_nat _ _ | exact eql_nat _ _ | exact neq_nat _ _ | exact gtr_nat _ _ | exact geq_nat _ _ | exact leq_nat _ _ | exact eql_str _ _ | exact neq_str _ _ | (refine add_nat ?_; omega) | (refine sub_nat ?_ ?_; omega; omega)) | refine WR.pick rfl rfl rfl ?_ | refine WR.un rfl rfl ?_ | refine WR.ext rfl rfl ?_)
      have hg4 : s4.objs.get idd = some (.cells [.str [109, 97 + k], .nilslc] 0 0 false) := by rw [hx4.old _ (by omega)]; exact hg3
      have n4 := hx4.next
      (repeat refine WC.seq ?_); refine WC.cond rfl ?_ ?_
      · intro hlt
        simp at hlt
        (repeat refine WC.seq ?_); refine WC.regX hs4 fun s5 hs5 hx5 ho5 hn5 => ?_
        have n5 := hx5.next
        have hn5' : s5.next = s4.next + 10 := by rw [hn5]; rfl
        repeat (first | refine WR.nil ?_ | refine WR.guardY rfl ?_ | refine WR.guardN rfl ?_ | refine WR.guardT rfl ?_ | refine WR.mov rfl ?_ | (refine WR.len (v := ?_) rfl ?_ ?_; rotate_left; first | assumption | exact rfl) | (refine WR.iadr (v := ?_) rfl rfl ?_ ?_; rotate_left; assumption) | (refine WR.fadr (v := ?_) rfl ?_ ?_; rotate_left; first | assumption | exact rfl) | (refine WR.r (v := ?_) rfl rfl (Ld.use (s0 := ?_) ?_ ?_) ?_; rotate_left; rotate_left; assumption; assumption) | (refine WR.bin (v := ?_) rfl rfl ?_ ?_; rotate_left; first | assumption | exact lss_nat _ _ | exact eql_nat _ _ | exact neq_nat _ _ | exact gtr_nat _ _ | exact geq_nat _ _ | exact leq_nat _ _ | exact eql_str _ _ | exact neq_str _ _ | (refine add_nat ?_; omega) | (refine sub_nat ?_ ?_; omega; omega)) | refine WR.pick rfl rfl rfl ?_ | refine WR.un rfl rfl ?_ | refine WR.ext rfl rfl ?_)
        refine WR.toInt rfl (u8_of (by omega)) ?_
        refine WR.lits (fillL1 rfl ⟨rfl, rfl⟩ (by simp [rep]) rfl) ?_
        refine WR.r rfl rfl (b2s_lit (b := 97 + k + 1) (by rw [get_put, if_pos rfl]; rfl) (by omega)) ?_
        refine WR.bin rfl rfl (v := .str [109, 97 + k + 1]) rfl ?_
        refine WR.lits (fillL1 rfl ⟨rfl, rfl⟩ (by simp [rep]) rfl) ?_
        refine WR.fadr rfl rfl ?_
        refine WR.store rfl rfl rfl rfl (by simp) (wr_some (cs := [.str [109, 97 + k], .nilslc]) (w := 0) (gr := false) (by rw [get_put, if_neg (by omega), get_put, if_neg (by omega), hx5.old _ (by omega)]; exact hg4) (by simp [cellsOf])) ?_
        repeat (first | refine WR.nil ?_ | refine WR.guardY rfl ?_ | refine WR.guardN rfl ?_ | refine WR.guardT rfl ?_ | refine WR.mov rfl ?_ | (refine WR.len (v := ?_) rfl ?_ ?_; rotate_left; first | assumption | exact rfl) | (refine WR.iadr (v := ?_) rfl rfl ?_ ?_; rotate_left; assumption) | (refine WR.fadr (v := ?_) rfl ?_ ?_; rotate_left; first | assumption | exact rfl) | (refine WR.r (v := ?_) rfl rfl (Ld.use (s0 := ?_) ?_ ?_) ?_; rotate_left; rotate_left; assumption; assumption) | (refine WR.bin (v := ?_) rfl rfl ?_ ?_; rotate_left; first | assumption | exact lss_nat _ _ | exact eql_nat _ _ | exact neq_nat _ _ | exact gtr_nat _ _ | exact geq_nat _ _ | exact leq_nat _ _ | exact eql_str _ _ | exact neq_str _ _ | (refine add_nat ?_; omega) | (refine sub_nat ?_ ?_; omega; omega)) | refine WR.pick rfl rfl rfl ?_ | refine WR.un rfl rfl ?_ | refine WR.ext rfl rfl ?_)
        generalize hidn : s4.next + 1 + 1 + 1 + 1 + 1 + 1 + 1 = idn
        generalize hide : s4.next + 1 + 1 + 1 + 1 = ide
        generalize hs6 : St.put (St.put (St.put s5 _ _) _ _) _ _ = s6
        have n6 : s6.next = s5.next := by rw [← hs6]; rfl
        have hx6 : Ext s s6 := by rw [← hs6]; exact ((((hx3.trans hx4).trans hx5).put (by omega) _).put (by omega) _).put (by omega) _
        refine tail _ s6 idd (.slc idn 0 0 1 1 1) hx6 (by omega) (by omega) ?_ ?_ ?_ ⟨rfl, rfl, rfl, rfl, rfl, rfl, trivial⟩
        · rw [← hs6, get_put, if_pos rfl]; rfl
        · rw [show ringNeeds K c k = [[109, 97 + k + 1]] by unfold ringNeeds; rw [if_pos (by omega)]]
          refine ⟨by simp [strs], rfl, rfl, by omega, [.str [109, 97 + k + 1]], ?_, rfl⟩
          rw [← hs6]; simp only [St.cells, get_put]; rw [if_neg (by omega), if_pos trivial]; rfl
        · intro id
          by_cases e : id = idn
          · subst e; exact .inl (h1.slv.offNew (by omega))
          · exact .inr (fun h => e h.symm)
      · intro hlt
        simp at hlt
        have hlast : ¬ k + 1 < K := by omega
        (repeat refine WC.seq ?_); refine WC.regX hs4 fun s5 hs5 hx5 ho5 hn5 => ?_
        repeat (first | refine WR.nil ?_ | refine WR.guardY rfl ?_ | refine WR.guardN rfl ?_ | refine WR.guardT rfl ?_ | refine WR.mov rfl ?_ | (refine WR.len (v := ?_) rfl ?_ ?_; rotate_left; first | assumption | exact rfl) | (refine WR.iadr (v := ?_) rfl rfl ?_ ?_; rotate_left; assumption) | (refine WR.fadr (v := ?_) rfl ?_ ?_; rotate_left; first | assumption | exact rfl) | (refine WR.r (v := ?_) rfl rfl (Ld.use (s0 := ?_) ?_ ?_) ?_; rotate_left; rotate_left; assumption; assumption) | (refine WR.bin (v := ?_) rfl rfl ?_ ?_; rotate_left; first | assumption | exact lss_nat _ _ | exact eql_nat _ _ | exact neq_nat _ _ | exact gtr_nat _ _ | exact geq_nat _ _ | exact leq_nat _ _ | exact eql_str _ _ | exact neq_str _ _ | (refine add_nat ?_; omega) | (refine sub_nat ?_ ?_; omega; omega)) | refine WR.pick rfl rfl rfl ?_ | refine WR.un rfl rfl ?_ | refine WR.ext rfl rfl ?_)
        have n5 := hx5.next
        have hg5 : s5.objs.get idd = some (.cells [.str [109, 97 + k], .nilslc] 0 0 false) := by rw [hx5.old _ (by omega)]; exact hg4
        cases c with
        | true =>
          (repeat refine WC.seq ?_); refine WC.cond rfl ?_ ?_
          · intro _
            (repeat refine WC.seq ?_); refine WC.regX hs5 fun s6 hs6 hx6 ho6 hn6 => ?_
            have hn6' : s6.next = s5.next + 3 := by rw [hn6]; rfl
            have n6 := hx6.next
            refine WR.lits (fillL1 rfl ⟨rfl, rfl⟩ (by simp [rep]) rfl) ?_
            refine WR.fadr rfl rfl ?_
            refine WR.store rfl rfl rfl rfl (by simp) (wr_some (cs := [.str [109, 97 + k], .nilslc]) (w := 0) (gr := false) (by rw [get_put, if_neg (by omega), hx6.old _ (by omega)]; exact hg5) (by simp [cellsOf])) ?_
            repeat (first | refine WR.nil ?_ | refine WR.guardY rfl ?_ | refine WR.guardN rfl ?_ | refine WR.guardT rfl ?_ | refine WR.mov rfl ?_ | (refine WR.len (v := ?_) rfl ?_ ?_; rotate_left; first | assumption | exact rfl) | (refine WR.iadr (v := ?_) rfl rfl ?_ ?_; rotate_left; assumption) | (refine WR.fadr (v := ?_) rfl ?_ ?_; rotate_left; first | assumption | exact rfl) | (refine WR.r (v := ?_) rfl rfl (Ld.use (s0 := ?_) ?_ ?_) ?_; rotate_left; rotate_left; assumption; assumption) | (refine WR.bin (v := ?_) rfl rfl ?_ ?_; rotate_left; first | assumption | exact lss_nat _ _ | exact eql_nat _ _ | exact neq_nat _ _ | exact gtr_nat _ _ | exact geq_nat _ _ | exact leq_nat _ _ | exact eql_str _ _ | exact neq_str _ _ | (refine add_nat ?_; omega) | (refine sub_nat ?_ ?_; omega; omega)) | refine WR.pick rfl rfl rfl ?_ | refine WR.un rfl rfl ?_ | refine WR.ext rfl rfl ?_)
            generalize hs7 : St.put (St.put s6 _ _) _ _ = s7
            have n7 : s7.next = s6.next := by rw [← hs7]; rfl
            have hx7 : Ext s s7 := by rw [← hs7]; exact ((((hx3.trans hx4).trans hx5).trans hx6).put (by omega) _).put (by omega) _
            refine tail _ s7 idd (.slc s5.next 0 0 1 1 1) hx7 (by omega) (by omega) ?_ ?_ ?_ ⟨rfl, rfl, rfl, rfl, rfl, rfl, trivial⟩
            · rw [← hs7, get_put, if_pos rfl]; rfl
            · rw [show ringNeeds K true k = [[109, 97]] by unfold ringNeeds; rw [if_neg hlast, if_pos rfl]]
              refine ⟨by simp [strs], rfl, rfl, by omega, [.str [109, 97]], ?_, rfl⟩
              rw [← hs7]; simp only [St.cells, get_put]; rw [if_neg (by omega), if_pos trivial]; rfl
            · intro id
              by_cases e : id = s5.next
              · subst e; exact .inl (h1.slv.offNew (by omega))
              · exact .inr (fun h => e h.symm)
          · intro h; simp at h
        | false =>
          (repeat refine WC.seq ?_); refine WC.cond rfl ?_ ?_
          · intro h; simp at h
          · intro _
            refine WC.skip (tail _ s5 idd .nilslc ((hx3.trans hx4).trans hx5) (by omega) (by omega) hg5 ?_ (fun _ => .inr trivial) ⟨rfl, rfl, rfl, rfl, rfl, rfl, trivial⟩)
            rw [show ringNeeds K false k = [] by unfold ringNeeds; rw [if_neg hlast, if_neg (by simp)]]
            exact ⟨by simp [strs], rfl⟩
    · intro h; simp at h; omega
/-- One of the others is laid down. -/
theorem loop5b {K M : Nat} {c : Bool} (hK2 : K < 100) (hM : M < 100) :
    ∀ (j k : Nat) (s : St) (f : Nat) (v : AV), k + j = M → j < f → Given s0 s (ringD K M c) v (K + k) →
      WL (acall F0 E8 300) 300 b5_1 f [(2, .bool c), (7, .int .i64 (.ofNat K)), (8, .int .i64 (.ofNat M)), (9, v), (12, .int .i64 (.ofNat k))] s
        (fun x l s => x = .ext 2 ∧ ∃ v, Given s0 s (ringD K M c) v (K + M) ∧ Sub2 [(2, .bool c), (7, .int .i64 (.ofNat K)), (8, .int .i64 (.ofNat M)), (9, v)] l) := by
  intro j
  induction j with
  | zero =>
    intro k s f v hk hf hg
    obtain ⟨f, rfl⟩ : ∃ g, f = g + 1 := ⟨f - 1, by omega⟩
    have hs := hg.ext
    refine WL.round ?_
    (repeat refine WC.seq ?_); refine WC.regX hs fun s1 hs1 hx1 ho1 hn1 => ?_
    repeat (first | refine WR.nil ?_ | refine WR.guardY rfl ?_ | refine WR.guardN rfl ?_ | refine WR.guardT rfl ?_ | refine WR.mov rfl ?_ | (refine WR.len (v := ?_) rfl ?_ ?_; rotate_left; first | assumption | exact rfl) | (refine WR.iadr (v := ?_) rfl rfl ?_ ?_; rotate_left; assumption) | (refine WR.fadr (v := ?_) rfl ?_ ?_; rotate_left; first | assumption | exact rfl) | (refine WR.r (v := ?_) rfl rfl (Ld.use (s0 := ?_) ?_ ?_) ?_; rotate_left; rotate_left; assumption; assumption) | (refine WR.bin (v := ?_) rfl rfl ?_ ?_; rotate_left; first | assumption | exact lss_nat _ _ | exact eql_nat _ _ | exact neq_nat _ _ | exact gtr_nat _ _ | exact geq_nat _ _ | exact leq_nat _ _ | exact eql_str _ _ | exact neq_str _ _ | (refine add_nat ?_; omega) | (refine sub_nat ?_ ?_; omega; omega)) | refine WR.pick rfl rfl rfl ?_ | refine WR.un rfl rfl ?_ | refine WR.ext rfl rfl ?_)
    (repeat refine WC.seq ?_); refine WC.cond rfl ?_ ?_
    · intro h; simp at h; omega
    · intro h
      refine WC.ext ⟨rfl, v, ?_, rfl, rfl, rfl, rfl, trivial⟩
      have : k = M := by omega
      subst this
      obtain ⟨rows, h1, h2, h3⟩ := hg.own
      refine ⟨hs1, rows, h1.ext hx1, h2, fun i hi d hd => ?_⟩
      obtain ⟨nv, h4, h5, h6⟩ := h3 i hi d hd
      exact ⟨nv, h4, h5.ext hx1, h6⟩
  | succ j ih =>
    intro k s f v hk hf hg
    obtain ⟨f, rfl⟩ : ∃ g, f = g + 1 := ⟨f - 1, by omega⟩
    have hs := hg.ext
    have hkM : k < M := by omega
    have hd := ringD_hi (K := K) (M := M) (c := c) hkM
    obtain ⟨rows, h1, h2, h3⟩ := hg.own
    refine WL.round ?_
    (repeat refine WC.seq ?_); refine WC.regX hs fun s1 hs1 hx1 ho1 hn1 => ?_
    repeat (first | refine WR.nil ?_ | refine WR.guardY rfl ?_ | refine WR.guardN rfl ?_ | refine WR.guardT rfl ?_ | refine WR.mov rfl ?_ | (refine WR.len (v := ?_) rfl ?_ ?_; rotate_left; first | assumption | exact rfl) | (refine WR.iadr (v := ?_) rfl rfl ?_ ?_; rotate_left; assumption) | (refine WR.fadr (v := ?_) rfl ?_ ?_; rotate_left; first | assumption | exact rfl) | (refine WR.r (v := ?_) rfl rfl (Ld.use (s0 := ?_) ?_ ?_) ?_; rotate_left; rotate_left; assumption; assumption) | (refine WR.bin (v := ?_) rfl rfl ?_ ?_; rotate_left; first | assumption | exact lss_nat _ _ | exact eql_nat _ _ | exact neq_nat _ _ | exact gtr_nat _ _ | exact geq_nat _ _ | exact leq_nat _ _ | exact eql_str _ _ | exact neq_str _ _ | (refine add_nat ?_; omega) | (refine sub_nat ?_ ?_; omega; omega)) | refine WR.pick rfl rfl rfl ?_ | refine WR.un rfl rfl ?_ | refine WR.ext rfl rfl ?_)
    (repeat refine WC.seq ?_); refine WC.cond rfl ?_ ?_
    · intro _
      (repeat refine WC.seq ?_); refine WC.skip ?_
      (repeat refine WC.seq ?_); refine WC.blk ?_
      (repeat refine WC.seq ?_); refine WC.regX hs1 fun s2 hs2 hx2 ho2 hn2 => ?_
      repeat (first | refine WR.nil ?_ | refine WR.guardY rfl ?_ | refine WR.guardN rfl ?_ | refine WR.guardT rfl ?_ | refine WR.mov rfl ?_ | (refine WR.len (v := ?_) rfl ?_ ?_; rotate_left; first | assumption | exact rfl) | (refine WR.iadr (v := ?_) rfl rfl ?_ ?_; rotate_left; assumption) | (refine WR.fadr (v := ?_) rfl ?_ ?_; rotate_left; first | assumption | exact rfl) | (refine WR.r (v := ?_) rfl rfl (Ld.use (s0 := ?_) ?_ ?_) ?_; rotate_left; rotate_left; assumption; assumption) | (refine WR.bin (v := ?_) rfl rfl ?_ ?_; rotate_left; first | assumption | exact lss_nat _ _ | exact eql_nat _ _ | exact neq_nat _ _ | exact gtr_nat _ _ | exact geq_nat _ _ | exact leq_nat _ _ | exact eql_str _ _ | exact neq_str _ _ | (refine add_nat ?_; omega) | (refine sub_nat ?_ ?_; omega; omega)) | refine WR.pick rfl rfl rfl ?_ | refine WR.un rfl rfl ?_ | refine WR.ext rfl rfl ?_)
      refine WR.toInt rfl (u8_of (by omega)) ?_
      refine WR.lits (fillL1 rfl ⟨rfl, rfl⟩ (by simp [rep]) rfl) ?_
      refine WR.r rfl rfl (b2s_lit (b := 97 + k) (by rw [get_put, if_pos rfl]; rfl) (by omega)) ?_
      refine WR.bin rfl rfl (v := .str [111, 97 + k]) rfl ?_
      refine WR.lits (fillL1 rfl ⟨rfl, rfl⟩ (by simp [rep]) rfl) ?_
      refine WR.build (fillL1 rfl ⟨rfl, rfl⟩ (by simp) (fillL1 rfl ⟨rfl, rfl⟩ (by simp [setSeg]) rfl)) ?_
      refine WR.lits (fillLn rfl rfl (by simp [rep]) rfl) ?_
      have hn2' : s2.next = s1.next + 12 := by rw [hn2]; rfl
      have n1 := hx1.next
      generalize hidl : s1.next + 1 + 1 + 1 + 1 + 1 + 1 + 1 + 1 + 1 = idl
      generalize hidn : s1.next + 1 + 1 + 1 + 1 + 1 + 1 + 1 = idn
      generalize hidb : s1.next + 1 + 1 + 1 + 1 = idb
      generalize hs3 : St.put (St.put (St.put s2 _ _) _ _) _ _ = s3
      have hx3 : Ext s s3 := by rw [← hs3]; exact (((hx1.trans hx2).put (by omega) _).put (by omega) _).put (by omega) _
      have hn3 : s3.next = s2.next := by rw [← hs3]; rfl
      have lit : Slv s3 2 (.slc idl 0 0 1 1 2) [[.str [111, 97 + k], .slc idn 0 0 1 1 1]] := by
        refine ⟨by simp, rfl, rfl, by omega, [.str [111, 97 + k], .slc idn 0 0 1 1 1], ?_, rfl⟩
        rw [← hs3]; simp only [St.cells, get_put, if_pos]; rfl
      have hnv : Slv s3 1 (.slc idn 0 0 1 1 1) (strs [haveS]) := by
        refine ⟨by simp [strs], rfl, rfl, by omega, [.str haveS], ?_, rfl⟩
        rw [← hs3]; simp only [St.cells, get_put]; rw [if_neg (by omega), if_pos trivial]; rfl
      have hap : Apart v (.slc idn 0 0 1 1 1) := by
        intro id
        by_cases e : id = idn
        · subst e; exact .inl (h1.slv.offNew (by omega))
        · exact .inr (fun h => e h.symm)
      have own3 : Own s3 s0.next 2 v rows := h1.ext hx3
      obtain ⟨v4, s4, b1, b2, b3, b4⟩ := Own.app (bytes := 40) own3 lit (by simp [lim]; omega)
      refine WR.append rfl rfl b1 ?_
      repeat (first | refine WR.nil ?_ | refine WR.guardY rfl ?_ | refine WR.guardN rfl ?_ | refine WR.guardT rfl ?_ | refine WR.mov rfl ?_ | (refine WR.len (v := ?_) rfl ?_ ?_; rotate_left; first | assumption | exact rfl) | (refine WR.iadr (v := ?_) rfl rfl ?_ ?_; rotate_left; assumption) | (refine WR.fadr (v := ?_) rfl ?_ ?_; rotate_left; first | assumption | exact rfl) | (refine WR.r (v := ?_) rfl rfl (Ld.use (s0 := ?_) ?_ ?_) ?_; rotate_left; rotate_left; assumption; assumption) | (refine WR.bin (v := ?_) rfl rfl ?_ ?_; rotate_left; first | assumption | exact lss_nat _ _ | exact eql_nat _ _ | exact neq_nat _ _ | exact gtr_nat _ _ | exact geq_nat _ _ | exact leq_nat _ _ | exact eql_str _ _ | exact neq_str _ _ | (refine add_nat ?_; omega) | (refine sub_nat ?_ ?_; omega; omega)) | refine WR.pick rfl rfl rfl ?_ | refine WR.un rfl rfl ?_ | refine WR.ext rfl rfl ?_)
      have hs4 : Ext s0 s4 := b3.ext (hs.trans hx3) fun id hid => own3.offOld hid
      have g4 : Given s0 s4 (ringD K M c) v4 (K + (k + 1)) := by
        refine ⟨hs4, _, b2, by simp [h2]; omega, fun i hi d hd2 => ?_⟩
        by_cases e : i = K + k
        · subst e
          rw [hd] at hd2
          cases hd2
          refine ⟨_, ?_, b3.stay hnv hap, apart_app hnv hap b4⟩
          rw [List.getElem?_append_right (by omega), h2]; simp
        · obtain ⟨nw, h4, h5, h6⟩ := h3 i (by omega) d hd2
          have h5' := h5.ext hx3
          refine ⟨nw, ?_, b3.stay h5' h6, apart_app h5' h6 b4⟩
          rw [List.getElem?_append_left (by omega)]; exact h4
      (repeat refine WC.seq ?_); refine WC.regX hs4 fun s5 hs5 hx5 ho5 hn5 => ?_
      repeat (first | refine WR.nil ?_ | refine WR.guardY rfl ?_ | refine WR.guardN rfl ?_ | refine WR.guardT rfl ?_ | refine WR.mov rfl ?_ | (refine WR.len (v := ?_) rfl ?_ ?_; rotate_left; first | assumption | exact rfl) | (refine WR.iadr (v := ?_) rfl rfl ?_ ?_; rotate_left; assumption) | (refine WR.fadr (v := ?_) rfl ?_ ?_; rotate_left; first | assumption | exact rfl) | (refine WR.r (v := ?_) rfl rfl (Ld.use (s0 := ?_) ?_ ?_) ?_; rotate_left; rotate_left; assumption; assumption) | (refine WR.bin (v := ?_) rfl rfl ?_ ?_; rotate_left; first | assumption | exact lss_nat _ _ | exact eql_nat _ _ | exact neq_nat _ _ | exact gtr_nat _ _ | exact geq_nat _ _ | exact leq_nat _ _ | exact eql_str _ _ | exact neq_str _ _ | (refine add_nat ?_; omega) | (refine sub_nat ?_ ?_; omega; omega)) | refine WR.pick rfl rfl rfl ?_ | refine WR.un rfl rfl ?_ | refine WR.ext rfl rfl ?_)
      have g5 : Given s0 s5 (ringD K M c) v4 (K + (k + 1)) := by
        obtain ⟨rows, h1, h2, h3⟩ := g4.own
        refine ⟨hs5, rows, h1.ext hx5, by omega, fun i hi d hd => ?_⟩
        obtain ⟨nv, h4, h5, h6⟩ := h3 i (by omega) d hd
        exact ⟨nv, h4, h5.ext hx5, h6⟩
      refine WL.weak ?hw (ih (k + 1) _ f v4 (by omega) (by omega) g5)
      case hw => exact ⟨rfl, rfl, rfl, rfl, rfl, trivial⟩
    · intro h; simp at h; omega
/-- The order is looked through. -/
theorem loop5c {K M : Nat} (hK : 0 < K) (hK2 : K < 100) (hO : Slv s0 1 ov (nats (ringOut K M))) :
    ∀ (j k : Nat) (s : St) (f : Nat), k + j = K → j < f → Ext s0 s →
      WL (acall F0 E8 300) 300 b5_2 f [(7, .int .i64 (.ofNat K)), (13, ov), (15, .int .i64 (.ofNat k))] s (fun x l s => x = .ext 4 ∧ Ext s0 s) := by
  intro j
  induction j with
  | zero =>
    intro k s f hk hf hs
    obtain ⟨f, rfl⟩ : ∃ g, f = g + 1 := ⟨f - 1, by omega⟩
    refine WL.round ?_
    (repeat refine WC.seq ?_); refine WC.regX hs fun s1 hs1 hx1 ho1 hn1 => ?_
    repeat (first | refine WR.nil ?_ | refine WR.guardY rfl ?_ | refine WR.guardN rfl ?_ | refine WR.guardT rfl ?_ | refine WR.mov rfl ?_ | (refine WR.len (v := ?_) rfl ?_ ?_; rotate_left; first | assumption | exact rfl) | (refine WR.iadr (v := ?_) rfl rfl ?_ ?_; rotate_left; assumption) | (refine WR.fadr (v := ?_) rfl ?_ ?_; rotate_left; first | assumption | exact rfl) | (refine WR.r (v := ?_) rfl rfl (Ld.use (s0 := ?_) ?_ ?_) ?_; rotate_left; rotate_left; assumption; assumption) | (refine WR.bin (v := ?_) rfl rfl ?_ ?_; rotate_left; first | assumption | exact lss_nat _ _ | exact eql_nat _ _ | exact neq_nat _ _ | exact gtr_nat _ _ | exact geq_nat _ _ | exact leq_nat _ _ | exact eql_str _ _ | exact neq_str _ _ | (refine add_nat ?_; omega) | (refine sub_nat ?_ ?_; omega; omega)) | refine WR.pick rfl rfl rfl ?_ | refine WR.un rfl rfl ?_ | refine WR.ext rfl rfl ?_)
    (repeat refine WC.seq ?_); refine WC.cond rfl ?_ ?_
    · intro h; simp at h; omega
    · intro h
      exact WC.ext ⟨rfl, hs1⟩
  | succ j ih =>
    intro k s f hk hf hs
    obtain ⟨f, rfl⟩ : ∃ g, f = g + 1 := ⟨f - 1, by omega⟩
    have hkK : k < K := by omega
    have ho : (ringOut K M)[k]? = some (K - 1 - k) := by
      unfold ringOut
      rw [List.getElem?_append_left (by simpa using hkK)]
      simp [hkK]
    obtain ⟨p, hp, hld⟩ := hO.at1 (i := k) (a := .int .i64 (.ofNat (K - 1 - k))) (by simp [nats, ho])
    have hb1 := sub_nat (a := K) (b := 1) (by omega) (by omega)
    have hb2 := sub_nat (a := K - 1) (b := k) (by omega) (by omega)
    have hb3 := neqF (rfl : K - 1 - k = K - 1 - k)
    refine WL.round ?_
    (repeat refine WC.seq ?_); refine WC.regX hs fun s1 hs1 hx1 ho1 hn1 => ?_
    repeat (first | refine WR.nil ?_ | refine WR.guardY rfl ?_ | refine WR.guardN rfl ?_ | refine WR.guardT rfl ?_ | refine WR.mov rfl ?_ | (refine WR.len (v := ?_) rfl ?_ ?_; rotate_left; first | assumption | exact rfl) | (refine WR.iadr (v := ?_) rfl rfl ?_ ?_; rotate_left; assumption) | (refine WR.fadr (v := ?_) rfl ?_ ?_; rotate_left; first | assumption | exact rfl) | (refine WR.r (v := ?_) rfl rfl (Ld.use (s0 := ?_) ?_ ?_) ?_; rotate_left; rotate_left; assumption; assumption) | (refine WR.bin (v := ?_) rfl rfl ?_ ?_; rotate_left; first | assumption | exact lss_nat _ _ | exact eql_nat _ _ | exact neq_nat _ _ | exact gtr_nat _ _ | exact geq_nat _ _ | exact leq_nat _ _ | exact eql_str _ _ | exact neq_str _ _ | (refine add_nat ?_; omega) | (refine sub_nat ?_ ?_; omega; omega)) | refine WR.pick rfl rfl rfl ?_ | refine WR.un rfl rfl ?_ | refine WR.ext rfl rfl ?_)
    (repeat refine WC.seq ?_); refine WC.cond rfl ?_ ?_
    · intro _
      (repeat refine WC.seq ?_); refine WC.skip ?_
      (repeat refine WC.seq ?_); refine WC.blk ?_
      (repeat refine WC.seq ?_); refine WC.regX hs1 fun s2 hs2 hx2 ho2 hn2 => ?_
      repeat (first | refine WR.nil ?_ | refine WR.guardY rfl ?_ | refine WR.guardN rfl ?_ | refine WR.guardT rfl ?_ | refine WR.mov rfl ?_ | (refine WR.len (v := ?_) rfl ?_ ?_; rotate_left; first | assumption | exact rfl) | (refine WR.iadr (v := ?_) rfl rfl ?_ ?_; rotate_left; assumption) | (refine WR.fadr (v := ?_) rfl ?_ ?_; rotate_left; first | assumption | exact rfl) | (refine WR.r (v := ?_) rfl rfl (Ld.use (s0 := ?_) ?_ ?_) ?_; rotate_left; rotate_left; assumption; assumption) | (refine WR.bin (v := ?_) rfl rfl ?_ ?_; rotate_left; first | assumption | exact lss_nat _ _ | exact eql_nat _ _ | exact neq_nat _ _ | exact gtr_nat _ _ | exact geq_nat _ _ | exact leq_nat _ _ | exact eql_str _ _ | exact neq_str _ _ | (refine add_nat ?_; omega) | (refine sub_nat ?_ ?_; omega; omega)) | refine WR.pick rfl rfl rfl ?_ | refine WR.un rfl rfl ?_ | refine WR.ext rfl rfl ?_)
      (repeat refine WC.seq ?_); refine WC.cond rfl ?_ ?_
      · intro h; simp at h
      · intro _
        (repeat refine WC.seq ?_); refine WC.skip ?_
        (repeat refine WC.seq ?_); refine WC.regX hs2 fun s3 hs3 hx3 ho3 hn3 => ?_
        repeat (first | refine WR.nil ?_ | refine WR.guardY rfl ?_ | refine WR.guardN rfl ?_ | refine WR.guardT rfl ?_ | refine WR.mov rfl ?_ | (refine WR.len (v := ?_) rfl ?_ ?_; rotate_left; first | assumption | exact rfl) | (refine WR.iadr (v := ?_) rfl rfl ?_ ?_; rotate_left; assumption) | (refine WR.fadr (v := ?_) rfl ?_ ?_; rotate_left; first | assumption | exact rfl) | (refine WR.r (v := ?_) rfl rfl (Ld.use (s0 := ?_) ?_ ?_) ?_; rotate_left; rotate_left; assumption; assumption) | (refine WR.bin (v := ?_) rfl rfl ?_ ?_; rotate_left; first | assumption | exact lss_nat _ _ | exact eql_nat _ _ | exact neq_nat _ _ | exact gtr_nat _ _ | exact geq_nat _ _ | exact leq_nat _ _ | exact eql_str _ _ | exact neq_str _ _ | (refine add_nat ?_; omega) | (refine sub_nat ?_ ?_; omega; omega)) | refine WR.pick rfl rfl rfl ?_ | refine WR.un rfl rfl ?_ | refine WR.ext rfl rfl ?_)
        refine WL.weak ?hw (ih (k + 1) _ f (by omega) (by omega) hs3)
        case hw => exact ⟨rfl, rfl, rfl, trivial⟩
    · intro h; simp at h; omega
theorem told5 {a b : Nat} (ha : a < 256) (hb : b < 256) {c : Bool} : ∃ s', acall F0 E8 301 5 [.int .u8 (.ofNat a), .int .u8 (.ofNat b), .bool c] s0 = some (.bool true, s') := by
  have hs := Ext.refl s0
  have hka : a % 20 < 20 := Nat.mod_lt _ (by omega)
  have hmb : b % 5 < 5 := Nat.mod_lt _ (by omega)
  have : ∃ v s', acall F0 E8 301 5 [.int .u8 (.ofNat a), .int .u8 (.ofNat b), .bool c] s0 = some (v, s') ∧ v = .bool true := by
    refine acall_of (n := 300) (P := fun v _ => v = .bool true) rfl comp5 (Nat.le_of_ble_eq_true rfl) ?_
    (repeat refine WC.seq ?_); refine WC.regX hs fun s1 hs1 hx1 ho1 hn1 => ?_
    repeat (first | refine WR.nil ?_ | refine WR.guardY rfl ?_ | refine WR.guardN rfl ?_ | refine WR.guardT rfl ?_ | refine WR.mov rfl ?_ | (refine WR.len (v := ?_) rfl ?_ ?_; rotate_left; first | assumption | exact rfl) | (refine WR.iadr (v := ?_) rfl rfl ?_ ?_; rotate_left; assumption) | (refine WR.fadr (v := ?_) rfl ?_ ?_; rotate_left; first | assumption | exact rfl) | (refine WR.r (v := ?_) rfl rfl (Ld.use (s0 := ?_) ?_ ?_) ?_; rotate_left; rotate_left; assumption; assumption) | (refine WR.bin (v := ?_) rfl rfl ?_ ?_; rotate_left; first | assumption | exact lss_nat _ _ | exact eql_nat _ _ | exact neq_nat _ _ | exact gtr_nat _ _ | exact geq_nat _ _ | exact leq_nat _ _ | exact eql_str _ _ | exact neq_str _ _ | (refine add_nat ?_; omega) | (refine sub_nat ?_ ?_; omega; omega)) | refine WR.pick rfl rfl rfl ?_ | refine WR.un rfl rfl ?_ | refine WR.ext rfl rfl ?_)
    (repeat refine WC.seq ?_); refine WC.regX hs1 fun s2 hs2 hx2 ho2 hn2 => ?_
    repeat (first | refine WR.nil ?_ | refine WR.guardY rfl ?_ | refine WR.guardN rfl ?_ | refine WR.guardT rfl ?_ | refine WR.mov rfl ?_ | (refine WR.len (v := ?_) rfl ?_ ?_; rotate_left; first | assumption | exact rfl) | (refine WR.iadr (v := ?_) rfl rfl ?_ ?_; rotate_left; assumption) | (refine WR.fadr (v := ?_) rfl ?_ ?_; rotate_left; first | assumption | exact rfl) | (refine WR.r (v := ?_) rfl rfl (Ld.use (s0 := ?_) ?_ ?_) ?_; rotate_left; rotate_left; assumption; assumption) | (refine WR.bin (v := ?_) rfl rfl ?_ ?_; rotate_left; first | assumption | exact lss_nat _ _ | exact eql_nat _ _ | exact neq_nat _ _ | exact gtr_nat _ _ | exact geq_nat _ _ | exact leq_nat _ _ | exact eql_str _ _ | exact neq_str _ _ | (refine add_nat ?_; omega) | (refine sub_nat ?_ ?_; omega; omega)) | refine WR.pick rfl rfl rfl ?_ | refine WR.un rfl rfl ?_ | refine WR.ext rfl rfl ?_)
    refine WR.toInt rfl (i64_of ha) ?_
    refine WR.bin rfl rfl (rem_nat a 19) ?_
    refine WR.bin rfl rfl (add_nat (a := 2) (b := a % 20) (by omega)) ?_
    repeat (first | refine WR.nil ?_ | refine WR.guardY rfl ?_ | refine WR.guardN rfl ?_ | refine WR.guardT rfl ?_ | refine WR.mov rfl ?_ | (refine WR.len (v := ?_) rfl ?_ ?_; rotate_left; first | assumption | exact rfl) | (refine WR.iadr (v := ?_) rfl rfl ?_ ?_; rotate_left; assumption) | (refine WR.fadr (v := ?_) rfl ?_ ?_; rotate_left; first | assumption | exact rfl) | (refine WR.r (v := ?_) rfl rfl (Ld.use (s0 := ?_) ?_ ?_) ?_; rotate_left; rotate_left; assumption; assumption) | (refine WR.bin (v := ?_) rfl rfl ?_ ?_; rotate_left; first | assumption | exact lss_nat _ _ | exact eql_nat _ _ | exact neq_nat _ _ | exact gtr_nat _ _ | exact geq_nat _ _ | exact leq_nat _ _ | exact eql_str _ _ | exact neq_str _ _ | (refine add_nat ?_; omega) | (refine sub_nat ?_ ?_; omega; omega)) | refine WR.pick rfl rfl rfl ?_ | refine WR.un rfl rfl ?_ | refine WR.ext rfl rfl ?_)
    (repeat refine WC.seq ?_); refine WC.regX hs2 fun s3 hs3 hx3 ho3 hn3 => ?_
    repeat (first | refine WR.nil ?_ | refine WR.guardY rfl ?_ | refine WR.guardN rfl ?_ | refine WR.guardT rfl ?_ | refine WR.mov rfl ?_ | (refine WR.len (v := ?_) rfl ?_ ?_; rotate_left; first | assumption | exact rfl) | (refine WR.iadr (v := ?_) rfl rfl ?_ ?_; rotate_left; assumption) | (refine WR.fadr (v := ?_) rfl ?_ ?_; rotate_left; first | assumption | exact rfl) | (refine WR.r (v := ?_) rfl rfl (Ld.use (s0 := ?_) ?_ ?_) ?_; rotate_left; rotate_left; assumption; assumption) | (refine WR.bin (v := ?_) rfl rfl ?_ ?_; rotate_left; first | assumption | exact lss_nat _ _ | exact eql_nat _ _ | exact neq_nat _ _ | exact gtr_nat _ _ | exact geq_nat _ _ | exact leq_nat _ _ | exact eql_str _ _ | exact neq_str _ _ | (refine add_nat ?_; omega) | (refine sub_nat ?_ ?_; omega; omega)) | refine WR.pick rfl rfl rfl ?_ | refine WR.un rfl rfl ?_ | refine WR.ext rfl rfl ?_)
    refine WR.toInt rfl (i64_of hb) ?_
    refine WR.bin rfl rfl (rem_nat b 4) ?_
    repeat (first | refine WR.nil ?_ | refine WR.guardY rfl ?_ | refine WR.guardN rfl ?_ | refine WR.guardT rfl ?_ | refine WR.mov rfl ?_ | (refine WR.len (v := ?_) rfl ?_ ?_; rotate_left; first | assumption | exact rfl) | (refine WR.iadr (v := ?_) rfl rfl ?_ ?_; rotate_left; assumption) | (refine WR.fadr (v := ?_) rfl ?_ ?_; rotate_left; first | assumption | exact rfl) | (refine WR.r (v := ?_) rfl rfl (Ld.use (s0 := ?_) ?_ ?_) ?_; rotate_left; rotate_left; assumption; assumption) | (refine WR.bin (v := ?_) rfl rfl ?_ ?_; rotate_left; first | assumption | exact lss_nat _ _ | exact eql_nat _ _ | exact neq_nat _ _ | exact gtr_nat _ _ | exact geq_nat _ _ | exact leq_nat _ _ | exact eql_str _ _ | exact neq_str _ _ | (refine add_nat ?_; omega) | (refine sub_nat ?_ ?_; omega; omega)) | refine WR.pick rfl rfl rfl ?_ | refine WR.un rfl rfl ?_ | refine WR.ext rfl rfl ?_)
    generalize hK : 2 + a % 20 = K
    generalize hM : b % 5 = M
    (repeat refine WC.seq ?_); refine WC.regX hs3 fun s4 hs4 hx4 ho4 hn4 => ?_
    repeat (first | refine WR.nil ?_ | refine WR.guardY rfl ?_ | refine WR.guardN rfl ?_ | refine WR.guardT rfl ?_ | refine WR.mov rfl ?_ | (refine WR.len (v := ?_) rfl ?_ ?_; rotate_left; first | assumption | exact rfl) | (refine WR.iadr (v := ?_) rfl rfl ?_ ?_; rotate_left; assumption) | (refine WR.fadr (v := ?_) rfl ?_ ?_; rotate_left; first | assumption | exact rfl) | (refine WR.r (v := ?_) rfl rfl (Ld.use (s0 := ?_) ?_ ?_) ?_; rotate_left; rotate_left; assumption; assumption) | (refine WR.bin (v := ?_) rfl rfl ?_ ?_; rotate_left; first | assumption | exact lss_nat _ _ | exact eql_nat _ _ | exact neq_nat _ _ | exact gtr_nat _ _ | exact geq_nat _ _ | exact leq_nat _ _ | exact eql_str _ _ | exact neq_str _ _ | (refine add_nat ?_; omega) | (refine sub_nat ?_ ?_; omega; omega)) | refine WR.pick rfl rfl rfl ?_ | refine WR.un rfl rfl ?_ | refine WR.ext rfl rfl ?_)
    (repeat refine WC.seq ?_); refine WC.regX hs4 fun s5 hs5 hx5 ho5 hn5 => ?_
    repeat (first | refine WR.nil ?_ | refine WR.guardY rfl ?_ | refine WR.guardN rfl ?_ | refine WR.guardT rfl ?_ | refine WR.mov rfl ?_ | (refine WR.len (v := ?_) rfl ?_ ?_; rotate_left; first | assumption | exact rfl) | (refine WR.iadr (v := ?_) rfl rfl ?_ ?_; rotate_left; assumption) | (refine WR.fadr (v := ?_) rfl ?_ ?_; rotate_left; first | assumption | exact rfl) | (refine WR.r (v := ?_) rfl rfl (Ld.use (s0 := ?_) ?_ ?_) ?_; rotate_left; rotate_left; assumption; assumption) | (refine WR.bin (v := ?_) rfl rfl ?_ ?_; rotate_left; first | assumption | exact lss_nat _ _ | exact eql_nat _ _ | exact neq_nat _ _ | exact gtr_nat _ _ | exact geq_nat _ _ | exact leq_nat _ _ | exact eql_str _ _ | exact neq_str _ _ | (refine add_nat ?_; omega) | (refine sub_nat ?_ ?_; omega; omega)) | refine WR.pick rfl rfl rfl ?_ | refine WR.un rfl rfl ?_ | refine WR.ext rfl rfl ?_)
    (repeat refine WC.seq ?_); refine WC.blk (WC.loop ?_)
    refine WL.weak ?hw (WL.mono (loop5a (K := K) (M := M) (c := c) (by omega) (by omega) (by omega) K 0 _ 300 .nilslc (by omega) (by omega) ⟨hs5, [], Own.nil hs5.next, rfl, fun i hi => absurd hi (by omega)⟩) ?_)
    case hw => exact ⟨rfl, rfl, rfl, rfl, rfl, trivial⟩
    rintro x l s6 ⟨rfl, v6, g6, hl6⟩
    refine WC.weak hl6 ?_
    have hs6 := g6.ext
    (repeat refine WC.seq ?_); refine WC.regX hs6 fun s7 hs7 hx7 ho7 hn7 => ?_
    repeat (first | refine WR.nil ?_ | refine WR.guardY rfl ?_ | refine WR.guardN rfl ?_ | refine WR.guardT rfl ?_ | refine WR.mov rfl ?_ | (refine WR.len (v := ?_) rfl ?_ ?_; rotate_left; first | assumption | exact rfl) | (refine WR.iadr (v := ?_) rfl rfl ?_ ?_; rotate_left; assumption) | (refine WR.fadr (v := ?_) rfl ?_ ?_; rotate_left; first | assumption | exact rfl) | (refine WR.r (v := ?_) rfl rfl (Ld.use (s0 := ?_) ?_ ?_) ?_; rotate_left; rotate_left; assumption; assumption) | (refine WR.bin (v := ?_) rfl rfl ?_ ?_; rotate_left; first | assumption | exact lss_nat _ _ | exact eql_nat _ _ | exact neq_nat _ _ | exact gtr_nat _ _ | exact geq_nat _ _ | exact leq_nat _ _ | exact eql_str _ _ | exact neq_str _ _ | (refine add_nat ?_; omega) | (refine sub_nat ?_ ?_; omega; omega)) | refine WR.pick rfl rfl rfl ?_ | refine WR.un rfl rfl ?_ | refine WR.ext rfl rfl ?_)
    have g7 : Given s0 s7 (ringD K M c) v6 (K + 0) := by
      obtain ⟨rows, h1, h2, h3⟩ := g6.own
      refine ⟨hs7, rows, h1.ext hx7, by omega, fun i hi d hd => ?_⟩
      obtain ⟨nv, h4, h5, h6⟩ := h3 i (by omega) d hd
      exact ⟨nv, h4, h5.ext hx7, h6⟩
    (repeat refine WC.seq ?_); refine WC.blk (WC.loop ?_)
    refine WL.weak ?hw1 (WL.mono (loop5b (K := K) (M := M) (c := c) (by omega) (by omega) M 0 _ 300 v6 (by omega) (by omega) g7) ?_)
    case hw1 => exact ⟨rfl, rfl, rfl, rfl, rfl, trivial⟩
    rintro x l s8 ⟨rfl, v8, g8, hl8⟩
    refine WC.weak hl8 ?_
    have hs8 := g8.ext
    have hD8 : DepsV s8 v8 (ringD K M c) := by
      obtain ⟨rows, h1, h2, h3⟩ := g8.own
      refine ⟨rows, h1.slv, by rw [h2, ringD_length], fun i d hd => ?_⟩
      have hi : i < K + M := by
        rw [List.getElem?_eq_some_iff] at hd
        obtain ⟨h, _⟩ := hd
        rwa [ringD_length] at h
      obtain ⟨nv, h4, h5, h6⟩ := h3 i hi d hd
      exact ⟨nv, h4, h5⟩
    (repeat refine WC.seq ?_); refine WC.regX hs8 fun s9 hs9 hx9 ho9 hn9 => ?_
    repeat (first | refine WR.nil ?_ | refine WR.guardY rfl ?_ | refine WR.guardN rfl ?_ | refine WR.guardT rfl ?_ | refine WR.mov rfl ?_ | (refine WR.len (v := ?_) rfl ?_ ?_; rotate_left; first | assumption | exact rfl) | (refine WR.iadr (v := ?_) rfl rfl ?_ ?_; rotate_left; assumption) | (refine WR.fadr (v := ?_) rfl ?_ ?_; rotate_left; first | assumption | exact rfl) | (refine WR.r (v := ?_) rfl rfl (Ld.use (s0 := ?_) ?_ ?_) ?_; rotate_left; rotate_left; assumption; assumption) | (refine WR.bin (v := ?_) rfl rfl ?_ ?_; rotate_left; first | assumption | exact lss_nat _ _ | exact eql_nat _ _ | exact neq_nat _ _ | exact gtr_nat _ _ | exact geq_nat _ _ | exact leq_nat _ _ | exact eql_str _ _ | exact neq_str _ _ | (refine add_nat ?_; omega) | (refine sub_nat ?_ ?_; omega; omega)) | refine WR.pick rfl rfl rfl ?_ | refine WR.un rfl rfl ?_ | refine WR.ext rfl rfl ?_)
    refine WR.lits (fillL1 rfl ⟨rfl, rfl⟩ (by simp [rep]) rfl) ?_
    have hn9' : s9.next = s8.next + 8 := by rw [hn9]; rfl
    generalize hid : s8.next + 1 = idh
    generalize hs10 : St.put s9 _ _ = s10
    have hx10 : Ext s8 s10 := by rw [← hs10]; exact hx9.put (by omega) _
    have hs10' := hs8.trans hx10
    have hH : Slv s10 1 (.slc idh 0 0 1 1 1) (strs [haveS]) := by
      refine ⟨by simp [strs], rfl, rfl, by rw [← hs10]; show idh < s9.next; omega, [.str haveS], ?_, rfl⟩
      rw [← hs10]; simp only [St.cells, get_put, if_pos]; rfl
    have hlen := ringD_length K M c
    have hneeds : ∀ d ∈ ringD K M c, d.needs.length < 1000 ∧ d.needs.length < 297 + 1 := by
      intro d hd
      obtain ⟨i, hi, rfl⟩ := List.getElem_of_mem hd
      rcases ring_cases hi with ⟨h3, e⟩ | ⟨j', h3, h4, e⟩
      · rw [e]
        simp only [ringNeeds]
        by_cases h1 : i + 1 < K
        · rw [if_pos h1]; simp
        · rw [if_neg h1]
          cases c <;> simp
      · rw [e]; simp
    obtain ⟨v11, s11, c1, c2, ov, out, e, rfl, hov, hO⟩ := order10 (F := F0) (E := E8) (n := 297) comp10 rfl comp14 rfl comp18 rfl comp19 rfl (hD8.ext hx10) hD8.one hH (by omega) (by simp) (by omega) (by simp) hneeds
    refine WR.fn rfl c1 ?_
    have hs11 := hs10'.trans c2
    repeat (first | refine WR.nil ?_ | refine WR.guardY rfl ?_ | refine WR.guardN rfl ?_ | refine WR.guardT rfl ?_ | refine WR.mov rfl ?_ | (refine WR.len (v := ?_) rfl ?_ ?_; rotate_left; first | assumption | exact rfl) | (refine WR.iadr (v := ?_) rfl rfl ?_ ?_; rotate_left; assumption) | (refine WR.fadr (v := ?_) rfl ?_ ?_; rotate_left; first | assumption | exact rfl) | (refine WR.r (v := ?_) rfl rfl (Ld.use (s0 := ?_) ?_ ?_) ?_; rotate_left; rotate_left; assumption; assumption) | (refine WR.bin (v := ?_) rfl rfl ?_ ?_; rotate_left; first | assumption | exact lss_nat _ _ | exact eql_nat _ _ | exact neq_nat _ _ | exact gtr_nat _ _ | exact geq_nat _ _ | exact leq_nat _ _ | exact eql_str _ _ | exact neq_str _ _ | (refine add_nat ?_; omega) | (refine sub_nat ?_ ?_; omega; omega)) | refine WR.pick rfl rfl rfl ?_ | refine WR.un rfl rfl ?_ | refine WR.ext rfl rfl ?_)
    (repeat refine WC.seq ?_); refine WC.regX hs11 fun s12 hs12 hx12 ho12 hn12 => ?_
    repeat (first | refine WR.nil ?_ | refine WR.guardY rfl ?_ | refine WR.guardN rfl ?_ | refine WR.guardT rfl ?_ | refine WR.mov rfl ?_ | (refine WR.len (v := ?_) rfl ?_ ?_; rotate_left; first | assumption | exact rfl) | (refine WR.iadr (v := ?_) rfl rfl ?_ ?_; rotate_left; assumption) | (refine WR.fadr (v := ?_) rfl ?_ ?_; rotate_left; first | assumption | exact rfl) | (refine WR.r (v := ?_) rfl rfl (Ld.use (s0 := ?_) ?_ ?_) ?_; rotate_left; rotate_left; assumption; assumption) | (refine WR.bin (v := ?_) rfl rfl ?_ ?_; rotate_left; first | assumption | exact lss_nat _ _ | exact eql_nat _ _ | exact neq_nat _ _ | exact gtr_nat _ _ | exact geq_nat _ _ | exact leq_nat _ _ | exact eql_str _ _ | exact neq_str _ _ | (refine add_nat ?_; omega) | (refine sub_nat ?_ ?_; omega; omega)) | refine WR.pick rfl rfl rfl ?_ | refine WR.un rfl rfl ?_ | refine WR.ext rfl rfl ?_)
    subst hK hM
    cases c with
    | true =>
      obtain ⟨rfl, rfl⟩ := ring_closed hka hmb hO
      (repeat refine WC.seq ?_); refine WC.cond rfl ?_ ?_
      · intro _
        (repeat refine WC.seq ?_); refine WC.regX hs12 fun s13 hs13 hx13 ho13 hn13 => ?_
        have hb1 := eqlT (rfl : 18 = 18)
        have hb2 := ((hov.ext hx12).ext hx13).len' (m := 0) rfl
        have hb3 := eqlT (rfl : 0 = 0)
        repeat (first | refine WR.nil ?_ | refine WR.guardY rfl ?_ | refine WR.guardN rfl ?_ | refine WR.guardT rfl ?_ | refine WR.mov rfl ?_ | (refine WR.len (v := ?_) rfl ?_ ?_; rotate_left; first | assumption | exact rfl) | (refine WR.iadr (v := ?_) rfl rfl ?_ ?_; rotate_left; assumption) | (refine WR.fadr (v := ?_) rfl ?_ ?_; rotate_left; first | assumption | exact rfl) | (refine WR.r (v := ?_) rfl rfl (Ld.use (s0 := ?_) ?_ ?_) ?_; rotate_left; rotate_left; assumption; assumption) | (refine WR.bin (v := ?_) rfl rfl ?_ ?_; rotate_left; first | assumption | exact lss_nat _ _ | exact eql_nat _ _ | exact neq_nat _ _ | exact gtr_nat _ _ | exact geq_nat _ _ | exact leq_nat _ _ | exact eql_str _ _ | exact neq_str _ _ | (refine add_nat ?_; omega) | (refine sub_nat ?_ ?_; omega; omega)) | refine WR.pick rfl rfl rfl ?_ | refine WR.un rfl rfl ?_ | refine WR.ext rfl rfl ?_)
        refine WR.fn rfl (known8 299 _) ?_
        repeat (first | refine WR.nil ?_ | refine WR.guardY rfl ?_ | refine WR.guardN rfl ?_ | refine WR.guardT rfl ?_ | refine WR.mov rfl ?_ | (refine WR.len (v := ?_) rfl ?_ ?_; rotate_left; first | assumption | exact rfl) | (refine WR.iadr (v := ?_) rfl rfl ?_ ?_; rotate_left; assumption) | (refine WR.fadr (v := ?_) rfl ?_ ?_; rotate_left; first | assumption | exact rfl) | (refine WR.r (v := ?_) rfl rfl (Ld.use (s0 := ?_) ?_ ?_) ?_; rotate_left; rotate_left; assumption; assumption) | (refine WR.bin (v := ?_) rfl rfl ?_ ?_; rotate_left; first | assumption | exact lss_nat _ _ | exact eql_nat _ _ | exact neq_nat _ _ | exact gtr_nat _ _ | exact geq_nat _ _ | exact leq_nat _ _ | exact eql_str _ _ | exact neq_str _ _ | (refine add_nat ?_; omega) | (refine sub_nat ?_ ?_; omega; omega)) | refine WR.pick rfl rfl rfl ?_ | refine WR.un rfl rfl ?_ | refine WR.ext rfl rfl ?_)
        (repeat refine WC.seq ?_); refine WC.ret ?_
        exact ⟨.inr rfl, _, rfl, rfl⟩
      · intro h; simp at h
    | false =>
      obtain ⟨rfl, rfl⟩ := ring_open hka hmb hO
      (repeat refine WC.seq ?_); refine WC.cond rfl ?_ ?_
      · intro h; simp at h
      · intro _
        (repeat refine WC.seq ?_); refine WC.skip ?_
        (repeat refine WC.seq ?_); refine WC.regX hs12 fun s13 hs13 hx13 ho13 hn13 => ?_
        have hb1 := neqF (rfl : 0 = 0)
        have hb2 := ((hov.ext hx12).ext hx13).len' (m := 2 + a % 20 + b % 5) (by simp [nats, ringOut])
        have hb3 := add_nat (a := 2 + a % 20) (b := b % 5) (by omega)
        have hb4 := neqF (rfl : 2 + a % 20 + b % 5 = 2 + a % 20 + b % 5)
        repeat (first | refine WR.nil ?_ | refine WR.guardY rfl ?_ | refine WR.guardN rfl ?_ | refine WR.guardT rfl ?_ | refine WR.mov rfl ?_ | (refine WR.len (v := ?_) rfl ?_ ?_; rotate_left; first | assumption | exact rfl) | (refine WR.iadr (v := ?_) rfl rfl ?_ ?_; rotate_left; assumption) | (refine WR.fadr (v := ?_) rfl ?_ ?_; rotate_left; first | assumption | exact rfl) | (refine WR.r (v := ?_) rfl rfl (Ld.use (s0 := ?_) ?_ ?_) ?_; rotate_left; rotate_left; assumption; assumption) | (refine WR.bin (v := ?_) rfl rfl ?_ ?_; rotate_left; first | assumption | exact lss_nat _ _ | exact eql_nat _ _ | exact neq_nat _ _ | exact gtr_nat _ _ | exact geq_nat _ _ | exact leq_nat _ _ | exact eql_str _ _ | exact neq_str _ _ | (refine add_nat ?_; omega) | (refine sub_nat ?_ ?_; omega; omega)) | refine WR.pick rfl rfl rfl ?_ | refine WR.un rfl rfl ?_ | refine WR.ext rfl rfl ?_)
        (repeat refine WC.seq ?_); refine WC.cond rfl ?_ ?_
        · intro h; simp at h
        · intro _
          (repeat refine WC.seq ?_); refine WC.skip ?_
          (repeat refine WC.seq ?_); refine WC.regX hs13 fun s14 hs14 hx14 ho14 hn14 => ?_
          repeat (first | refine WR.nil ?_ | refine WR.guardY rfl ?_ | refine WR.guardN rfl ?_ | refine WR.guardT rfl ?_ | refine WR.mov rfl ?_ | (refine WR.len (v := ?_) rfl ?_ ?_; rotate_left; first | assumption | exact rfl) | (refine WR.iadr (v := ?_) rfl rfl ?_ ?_; rotate_left; assumption) | (refine WR.fadr (v := ?_) rfl ?_ ?_; rotate_left; first | assumption | exact rfl) | (refine WR.r (v := ?_) rfl rfl (Ld.use (s0 := ?_) ?_ ?_) ?_; rotate_left; rotate_left; assumption; assumption) | (refine WR.bin (v := ?_) rfl rfl ?_ ?_; rotate_left; first | assumption | exact lss_nat _ _ | exact eql_nat _ _ | exact neq_nat _ _ | exact gtr_nat _ _ | exact geq_nat _ _ | exact leq_nat _ _ | exact eql_str _ _ | exact neq_str _ _ | (refine add_nat ?_; omega) | (refine sub_nat ?_ ?_; omega; omega)) | refine WR.pick rfl rfl rfl ?_ | refine WR.un rfl rfl ?_ | refine WR.ext rfl rfl ?_)
          (repeat refine WC.seq ?_); refine WC.blk (WC.loop ?_)
          refine WL.weak ?hw2 (WL.mono (loop5c (by omega) (by omega) (((hov.ext hx12).ext hx13).ext hx14) (2 + a % 20) 0 _ 300 (by omega) (by omega) (Ext.refl _)) ?_)
          case hw2 => exact ⟨rfl, rfl, rfl, trivial⟩
          rintro x l s15 ⟨rfl, h15⟩
          have hs15 := hs14.trans h15
          (repeat refine WC.seq ?_); refine WC.regX hs15 fun s16 hs16 hx16 ho16 hn16 => ?_
          refine WR.fn rfl (known8 299 _) ?_
          repeat (first | refine WR.nil ?_ | refine WR.guardY rfl ?_ | refine WR.guardN rfl ?_ | refine WR.guardT rfl ?_ | refine WR.mov rfl ?_ | (refine WR.len (v := ?_) rfl ?_ ?_; rotate_left; first | assumption | exact rfl) | (refine WR.iadr (v := ?_) rfl rfl ?_ ?_; rotate_left; assumption) | (refine WR.fadr (v := ?_) rfl ?_ ?_; rotate_left; first | assumption | exact rfl) | (refine WR.r (v := ?_) rfl rfl (Ld.use (s0 := ?_) ?_ ?_) ?_; rotate_left; rotate_left; assumption; assumption) | (refine WR.bin (v := ?_) rfl rfl ?_ ?_; rotate_left; first | assumption | exact lss_nat _ _ | exact eql_nat _ _ | exact neq_nat _ _ | exact gtr_nat _ _ | exact geq_nat _ _ | exact leq_nat _ _ | exact eql_str _ _ | exact neq_str _ _ | (refine add_nat ?_; omega) | (refine sub_nat ?_ ?_; omega; omega)) | refine WR.pick rfl rfl rfl ?_ | refine WR.un rfl rfl ?_ | refine WR.ext rfl rfl ?_)
          (repeat refine WC.seq ?_); refine WC.ret ?_
          exact ⟨.inr rfl, _, rfl, rfl⟩
  obtain ⟨v, s', h1, rfl⟩ := this
  exact ⟨s', h1⟩
end Go.Proofs.Ytbcnhellcpeecaa
