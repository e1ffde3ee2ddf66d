/- ModsMany: names in order; a further name is put in its place. -/
import Derived.Test.YtlimjjilakldgaaModI
set_option autoImplicit false
set_option maxRecDepth 100000
set_option maxHeartbeats 4000000
set_option linter.unusedVariables false
set_option linter.unusedSimpArgs false
namespace Go.Proofs.Ytlimjjilakldgaa
open Go Go.Abs
attribute [local irreducible] Cmp Rg Dw Cd Lp Ev Rdk CT Upd InK
theorem nless_cons {a b : Nat} {x y : List Nat} : nless (a :: x) (b :: y) = true ↔ a < b ∨ (a = b ∧ nless x y = true) := by
  simp only [nless, Bool.or_eq_true, Bool.and_eq_true, Nat.beq_eq, ]
  constructor
  · rintro (h | h)
    · exact .inl (Nat.le_of_ble_eq_true h)
    · exact .inr h
  · rintro (h | h)
    · exact .inl (Nat.ble_eq_true_of_le h)
    · exact .inr h
theorem nless_trans : ∀ {x y z : List Nat}, nless x y = true → nless y z = true → nless x z = true
  | x, [], _, h, _ => by cases x <;> simp [nless] at h
  | _, _ :: _, [], _, h => by simp [nless] at h
  | [], _ :: _, _ :: _, _, _ => rfl
  | a :: x, b :: y, c :: z, h, k => by
    rw [nless_cons] at h k ⊢
    rcases h with h | ⟨rfl, h⟩
    · rcases k with k | ⟨rfl, k⟩
      · exact .inl (by omega)
      · exact .inl h
    · rcases k with k | ⟨rfl, k⟩
      · exact .inl k
      · exact .inr ⟨rfl, nless_trans h k⟩
theorem nless_tri : ∀ {x y : List Nat}, nless x y = false → x ≠ y → nless y x = true
  | [], [], _, h => absurd rfl h
  | [], _ :: _, h, _ => by cases h
  | _ :: _, [], _, _ => rfl
  | a :: x, b :: y, h, hn => by
    rw [nless_cons]
    have h' : ¬ (a < b ∨ (a = b ∧ nless x y = true)) := fun e => by rw [← nless_cons, h] at e; cases e
    by_cases e : a = b
    · subst e
      refine .inr ⟨rfl, nless_tri ?_ fun e => hn (by rw [e])⟩
      cases e2 : nless x y with
      | false => rfl
      | true => exact absurd (.inr ⟨rfl, e2⟩) h'
    · exact .inl (by omega)
/-- In its place. -/
def insAt (k : List Nat) (l : List (List Nat)) : Nat := (l.takeWhile fun a => nless a k).length
def insK (k : List Nat) (l : List (List Nat)) : List (List Nat) := l.take (insAt k l) ++ k :: l.drop (insAt k l)
theorem insAt_le (k : List Nat) (l : List (List Nat)) : insAt k l ≤ l.length := (List.takeWhile_sublist _).length_le
theorem insK_perm (k : List Nat) (l : List (List Nat)) : (insK k l).Perm (k :: l) := by
  refine List.perm_middle.trans ?_
  rw [List.take_append_drop]
theorem insK_sorted {k : List Nat} : ∀ {l : List (List Nat)}, l.Pairwise (fun a b => nless a b = true) → k ∉ l → (insK k l).Pairwise (fun a b => nless a b = true)
  | [], _, _ => by simp [insK, insAt]
  | a :: l, hs, hc => by
    rw [List.pairwise_cons] at hs
    rw [List.mem_cons, not_or] at hc
    cases e : nless a k with
    | true =>
      have e1 : insK k (a :: l) = a :: insK k l := by simp [insK, insAt, List.takeWhile_cons, e]
      rw [e1, List.pairwise_cons]
      refine ⟨?_, insK_sorted hs.2 hc.2⟩
      intro b hb
      rcases List.mem_cons.1 ((insK_perm k l).mem_iff.1 hb) with rfl | hb
      · exact e
      · exact hs.1 b hb
    | false =>
      have e1 : insK k (a :: l) = k :: a :: l := by simp [insK, insAt, List.takeWhile_cons, e]
      rw [e1, List.pairwise_cons, List.pairwise_cons]
      have h1 := nless_tri e fun h => hc.1 h.symm
      refine ⟨?_, hs⟩
      intro b hb
      rcases List.mem_cons.1 hb with rfl | hb
      · exact h1
      · exact nless_trans h1 (hs.1 b hb)
theorem insAt_true {k : List Nat} : ∀ {l : List (List Nat)} {i : Nat} {a : List Nat}, i ≤ insAt k l → l[i]? = some a → nless a k = true → i + 1 ≤ insAt k l
  | [], i, a, _, h, _ => by simp at h
  | x :: l, 0, a, _, h, ha => by
    simp at h; subst h
    simp [insAt, List.takeWhile_cons, ha]
  | x :: l, i + 1, a, hi, h, ha => by
    cases e : nless x k with
    | true =>
      have e1 : insAt k (x :: l) = insAt k l + 1 := by simp [insAt, List.takeWhile_cons, e]
      rw [e1] at hi ⊢
      have := insAt_true (l := l) (i := i) (by omega) (by simpa using h) ha
      omega
    | false =>
      have e1 : insAt k (x :: l) = 0 := by simp [insAt, List.takeWhile_cons, e]
      omega
theorem insAt_false {k : List Nat} : ∀ {l : List (List Nat)} {i : Nat} {a : List Nat}, i ≤ insAt k l → l[i]? = some a → nless a k = false → insAt k l = i
  | [], i, a, _, h, _ => by simp at h
  | x :: l, 0, a, _, h, ha => by
    simp at h; subst h
    simp [insAt, List.takeWhile_cons, ha]
  | x :: l, i + 1, a, hi, h, ha => by
    cases e : nless x k with
    | true =>
      have e1 : insAt k (x :: l) = insAt k l + 1 := by simp [insAt, List.takeWhile_cons, e]
      rw [e1] at hi ⊢
      have := insAt_false (l := l) (i := i) (by omega) (by simpa using h) ha
      omega
    | false =>
      have e1 : insAt k (x :: l) = 0 := by simp [insAt, List.takeWhile_cons, e]
      omega
theorem ins_set {os : List (List Nat)} {n : Nat} {k z : List Nat} (h : n < os.length) : ((os ++ [z]).take (n + 1) ++ ((os ++ [z]).drop n).take (os.length + 1 - (n + 1)) ++ (os ++ [z]).drop (n + 1 + (os.length + 1 - (n + 1)))).set n k = os.take n ++ k :: os.drop n := by
  have e1 : (os ++ [z]).take (n + 1) = os.take (n + 1) := List.take_append_of_le_length (by omega)
  have e2 : (os ++ [z]).drop n = os.drop n ++ [z] := List.drop_append_of_le_length (by omega)
  have e3 : (os.drop n ++ [z]).take (os.length + 1 - (n + 1)) = os.drop n := List.take_left' (by rw [List.length_drop]; omega)
  have e4 : (os ++ [z]).drop (n + 1 + (os.length + 1 - (n + 1))) = [] := List.drop_of_length_le (by simp; omega)
  have e5 : os.take (n + 1) = os.take n ++ [os[n]] := by rw [List.take_add_one, List.getElem?_eq_getElem h]; rfl
  rw [e1, e2, e3, e4, List.append_nil, e5, List.append_assoc, List.set_append_right _ _ (by simp; omega), List.length_take, Nat.min_eq_left (Nat.le_of_lt h), Nat.sub_self]
  rfl
/-- Names as rows. -/
def txR (s : List Nat) : List AV := [.str s]
theorem txRows (os : List (List Nat)) : ∀ r, r ∈ os.map txR → r.length = 1 := by
  intro r hr
  obtain ⟨v, _, rfl⟩ := List.mem_map.1 hr
  rfl
section
variable {b mt mu next : Nat} {N : OS} {os : List (List Nat)} {s : List Nat}
theorem name_in {Q : AX → SL → Mem → Prop} (hN : N.ok 1) (hr : N.rows = os.map txR) (hol : os.length ≤ 1000)
    (hend : ∀ l', Sub2 [(0, mP b), (1, .str s), (4, .int .i64 (.ofNat (insAt s os)))] l' → Q (.ext 0) l' [mB b (N.v 1) mt mu next, N.c]) :
    ∀ (f i : Nat), os.length < i + f → i ≤ insAt s os → Lp Try.prog false b26_0 f [(0, mP b), (1, .str s), (4, .int .i64 (.ofNat i))] [mB b (N.v 1) mt mu next, N.c] Q := by
  have hl := hN.len
  rw [hr, List.length_map] at hl
  have hle := insAt_le s os
  intro f
  induction f with
  | zero => intro i h1 h2; omega
  | succ f ih =>
    intro i h1 h2
    refine Lp.round ?_
    by_cases hi : i < os.length
    · obtain ⟨a, ha⟩ : ∃ a, os[i]? = some a := ⟨_, List.getElem?_eq_getElem hi⟩
      have hri : (os.map txR)[i]? = some (txR a) := by rw [List.getElem?_map, ha]; rfl
      obtain ⟨id, g, e⟩ := hN.at (i := i) (r := txR a) (by rw [hr]; exact hri)
      rw [hr] at e
      subst e
      have q1 := iadr_slc (sz := 1) (b := id) (g := g) (off := 0) (len := (os.map txR).length) (cap := (os.map txR).length) (i := i) (k := .i64) (by rw [List.length_map]; exact hi)
      have r1 : Rdk [mB b (OS.v ⟨some (id, g), os.map txR⟩ 1) mt mu next, OS.c ⟨some (id, g), os.map txR⟩] .load1 (.ptr id g (0 + i * 1) 1) (.ptr id g (0 + i * 1) 1) (.str a) := Rdk.cel0 (lm := 0) (.there .here) (txRows os) hri rfl
      cases e : nless a s with
      | true =>
        have e2 : abin .lss (.str a) (.str s) = some (.bool true) := Cmp.T Cmp.ltS e
        repeat' (first|refine zz ?_|(refine zv ?_;intro cv hv)|(refine za ?_;intro _)|refine zc ?_|(refine zd ?_;refine And.intro ?_ ?_<;>(intro e;(try simp only [Bool.not_eq_true',Bool.not_eq_false'] at e);subst e;try contradiction)))
        refine Lp.weak ?hw (ih (i + 1) (by omega) (insAt_true h2 ha e))
        case hw => exact ⟨rfl, rfl, rfl, trivial⟩
      | false =>
        have e2 : abin .lss (.str a) (.str s) = some (.bool false) := Cmp.F Cmp.ltS (by rw [e]; simp)
        rw [insAt_false h2 ha e] at hend
        repeat' (first|refine zz ?_|(refine zv ?_;intro cv hv)|(refine za ?_;intro _)|refine zc ?_|(refine zd ?_;refine And.intro ?_ ?_<;>(intro e;(try simp only [Bool.not_eq_true',Bool.not_eq_false'] at e);subst e;try contradiction)))
        exact hend _ ⟨rfl, rfl, rfl, trivial⟩
    · obtain rfl : i = insAt s os := by omega
      repeat' (first|refine zz ?_|(refine zv ?_;intro cv hv)|(refine za ?_;intro _)|refine zc ?_|(refine zd ?_;refine And.intro ?_ ?_<;>(intro e;(try simp only [Bool.not_eq_true',Bool.not_eq_false'] at e);subst e;try contradiction)))
      exact hend _ ⟨rfl, rfl, rfl, trivial⟩
end
end Go.Proofs.Ytlimjjilakldgaa

namespace Go.Proofs.Ytlimjjilakldgaa
open Go Go.Abs
attribute [local irreducible] Cmp Rg Dw Cd Lp Ev Rdk CT Upd InK
theorem _root_.Go.Abs.Ef.storeC {P : Program} {l : SL} {K : Mem} {x y : AO} {b g w i : Nat} {rows : List (List AV)} {r0 : List AV} {v : AV} {K' : Mem} (hx : x.evL l = some (.ptr b g (0 + i * 1) 1)) (hy : y.evL l = some v) (hr : ∀ r, r ∈ rows → r.length = 1) (hi : rows[i]? = some r0) (hv : OneC v)
    (hK : Upd K b (.cells rows.flatten g w true) (.cells (rows.set i [v]).flatten g g true) K') : Ef P l K (.store 1 x y) fun v1 K2 => v1 = .tup [] ∧ K2 = K' := by
  have hil := (List.getElem?_eq_some_iff.1 hi).1
  refine Ef.store1 (w := w) (gr := true) (lm := 0) hx hy hv ?_ (by rw [rows_len hr]; omega)
  rw [show setSeg rows.flatten (0 + i * 1) [v] = (rows.set i [v]).flatten from setSeg_rows hr hil rfl]
  exact hK
section
variable {b mt mu next : Nat} {N : OS} {os : List (List Nat)} {s : List Nat}
theorem name_fin {n : Nat} (hO : N.ok 1) (hr : N.rows = os.map txR) (hol : os.length ≤ 1000) (hn : n ≤ os.length) : Cd Try.prog false (.seq (.reg r26_3) (.seq (.draw r26_4) (.reg r26_5))) [(0, mP b), (1, .str s), (4, .int .i64 (.ofNat n))] [mB b (N.v 1) mt mu next, N.c]
    fun e l K => e = .nrm ∧ ∃ O' : OS, O'.ok 1 ∧ O'.rows = (os.take n ++ s :: os.drop n).map txR ∧ ∃ r, Sel K [mB b (O'.v 1) mt mu next, O'.c] r := by
  repeat' (first|refine zz ?_|(refine zv ?_;intro cv hv)|(refine za ?_;intro _)|refine zc ?_|(refine zd ?_;refine And.intro ?_ ?_<;>(intro e;(try simp only [Bool.not_eq_true',Bool.not_eq_false'] at e);subst e;try contradiction)))
  refine Rg.e (Ef.appO (rs := [[.str []]]) (n := 1) rfl rfl hO (by intro r hr; simp at hr; subst hr; rfl) (.there (.there .here)) rfl (by decide) (Rw.slc (InK.there InK.here) (Nat.le_refl _) (Nat.le_refl _) rfl) (by rw [hr, List.length_map]; simp only [lim]; omega)) ?_
  rintro _ _ ⟨O', hO', hr2, rfl, rfl⟩
  rw [hr, show [[AV.str []]] = [[]].map txR from rfl, ← List.map_append] at hr2
  have hrow := txRows (os ++ [[]])
  have hlen : ((os ++ [[]]).map txR).length = os.length + 1 := by simp
  obtain ⟨r0, hr0⟩ : ∃ r, O'.rows[0]? = some r := ⟨_, List.getElem?_eq_getElem (by rw [hr2, hlen]; omega)⟩
  obtain ⟨id, g, e⟩ := hO'.at hr0
  rw [hr2] at e
  subst e
  have q3 := aslice_from (sz := 1) (id := id) (g := g) (n := ((os ++ [[]]).map txR).length) (i := n) (k := .i64) (by rw [hlen]; omega)
  have a1 : abin .add (.int .i64 (.ofNat n)) (.int .i64 (.ofNat 1)) = some (.int .i64 (.ofNat (n + 1))) := add_nat (by omega)
  have q1 : ∀ N, n < N → apure .e (.iadr 1 (.c (.slc id g 0 N N 1)) (.c (.int .i64 (.ofNat n)))) = some (.ptr id g (0 + n * 1) 1) := fun N h => iadr_slc h
  have q2 := q1 ((os ++ [[]]).map txR).length (by rw [hlen]; omega)
  clear q1
  by_cases hnn : n = os.length
  · have q4 : aslice 1 (.slc id g 0 ((os ++ [[]]).map txR).length ((os ++ [[]]).map txR).length 1) (some (.int .i64 (.ofNat (n + 1)))) none none = some .eslc := by
      rw [show n + 1 = ((os ++ [[]]).map txR).length by rw [hlen, hnn]]
      exact aslice_end
    repeat' (first|refine zz ?_|(refine zv ?_;intro cv hv)|(refine za ?_;intro _)|refine zc ?_|(refine zd ?_;refine And.intro ?_ ?_<;>(intro e;(try simp only [Bool.not_eq_true',Bool.not_eq_false'] at e);subst e;try contradiction)))
    refine Dw.e (Ef.copy0 rfl rfl hrow (by rw [hlen]; omega) InK.here) ?_
    rintro _ _ ⟨rfl, rfl⟩
    refine ⟨by repeat (first | exact trivial | refine rdsB rfl ?_ | (refine rdsR ?_ ?_; (focus (first | assumption | (refine Rdk.b1 (cs := ?_) ?_ ?_; rotate_left; (repeat (first | exact InK.here | refine InK.there ?_)); exact rfl) | (refine Rdk.bw ?_ ?_; (repeat (first | exact InK.here | refine InK.there ?_)); first | assumption | exact rfl) | (refine Rdk.bn ?_ ?_; (repeat (first | exact InK.here | refine InK.there ?_)); exact rfl) | (refine Rdk.in ?_; first | assumption | exact rfl) | exact Rdk.i1)))), ?_⟩
    repeat' (first|refine zz ?_|(refine zv ?_;intro cv hv)|(refine za ?_;intro _)|refine zc ?_|(refine zd ?_;refine And.intro ?_ ?_<;>(intro e;(try simp only [Bool.not_eq_true',Bool.not_eq_false'] at e);subst e;try contradiction)))
    refine Rg.e (Ef.storeC (i := n) (r0 := txR []) rfl rfl hrow (by rw [hnn]; simp) ⟨rfl, rfl⟩ Upd.here) ?_
    rintro _ _ ⟨rfl, rfl⟩
    repeat' (first|refine zz ?_|(refine zv ?_;intro cv hv)|(refine za ?_;intro _)|refine zc ?_|(refine zd ?_;refine And.intro ?_ ?_<;>(intro e;(try simp only [Bool.not_eq_true',Bool.not_eq_false'] at e);subst e;try contradiction)))
    refine ⟨rfl, ⟨some (id, g), ((os ++ [[]]).map txR).set n (txR s)⟩, ⟨fun h => (nomatch h), ?_⟩, ?_, ?_⟩
    · intro r hr
      rcases List.mem_or_eq_of_mem_set hr with h | rfl
      · exact hrow r h
      · rfl
    · show ((os ++ [[]]).map txR).set n (txR s) = _
      rw [← List.map_set, hnn, List.set_append_right _ _ (Nat.le_refl _), Nat.sub_self, List.take_of_length_le (Nat.le_refl _), List.drop_of_length_le (Nat.le_refl _)]
      rfl
    · simp only [OS.v, OS.c, List.length_set]
      exact ⟨_, .cons (.there (.there .here)) (.cons .here .nil)⟩
  · have q4 := aslice_from (sz := 1) (id := id) (g := g) (n := ((os ++ [[]]).map txR).length) (i := n + 1) (k := .i64) (by rw [hlen]; omega)
    repeat' (first|refine zz ?_|(refine zv ?_;intro cv hv)|(refine za ?_;intro _)|refine zc ?_|(refine zd ?_;refine And.intro ?_ ?_<;>(intro e;(try simp only [Bool.not_eq_true',Bool.not_eq_false'] at e);subst e;try contradiction)))
    refine Dw.e (Ef.copyS rfl rfl hrow (by omega) (by rw [hlen]; omega) (by rw [hlen]; omega) (by rw [hlen]; omega) Upd.here) ?_
    rintro _ _ ⟨rfl, rfl⟩
    refine ⟨by repeat (first | exact trivial | refine rdsB rfl ?_ | (refine rdsR ?_ ?_; (focus (first | assumption | (refine Rdk.b1 (cs := ?_) ?_ ?_; rotate_left; (repeat (first | exact InK.here | refine InK.there ?_)); exact rfl) | (refine Rdk.bw ?_ ?_; (repeat (first | exact InK.here | refine InK.there ?_)); first | assumption | exact rfl) | (refine Rdk.bn ?_ ?_; (repeat (first | exact InK.here | refine InK.there ?_)); exact rfl) | (refine Rdk.in ?_; first | assumption | exact rfl) | exact Rdk.i1)))), ?_⟩
    have hR : ((os ++ [[]]).map txR).take (n + 1) ++ (((os ++ [[]]).map txR).drop n).take (((os ++ [[]]).map txR).length - (n + 1)) ++ ((os ++ [[]]).map txR).drop (n + 1 + (((os ++ [[]]).map txR).length - (n + 1))) = ((os ++ [[]]).take (n + 1) ++ ((os ++ [[]]).drop n).take (os.length + 1 - (n + 1)) ++ (os ++ [[]]).drop (n + 1 + (os.length + 1 - (n + 1)))).map txR := by
      rw [hlen]
      simp only [List.map_append, List.map_take, List.map_drop]
    have hL : ((os ++ [[]]).take (n + 1) ++ ((os ++ [[]]).drop n).take (os.length + 1 - (n + 1)) ++ (os ++ [[]]).drop (n + 1 + (os.length + 1 - (n + 1)))).length = os.length + 1 := by simp; omega
    have hS := ins_set (os := os) (n := n) (k := s) (z := []) (by omega)
    rw [hR]
    generalize (os ++ [[]]).take (n + 1) ++ ((os ++ [[]]).drop n).take (os.length + 1 - (n + 1)) ++ (os ++ [[]]).drop (n + 1 + (os.length + 1 - (n + 1))) = L at hL hS
    obtain ⟨z, hz⟩ : ∃ z, L[n]? = some z := ⟨_, List.getElem?_eq_getElem (by omega)⟩
    repeat' (first|refine zz ?_|(refine zv ?_;intro cv hv)|(refine za ?_;intro _)|refine zc ?_|(refine zd ?_;refine And.intro ?_ ?_<;>(intro e;(try simp only [Bool.not_eq_true',Bool.not_eq_false'] at e);subst e;try contradiction)))
    refine Rg.e (Ef.storeC (i := n) (r0 := txR z) rfl rfl (txRows L) (by rw [List.getElem?_map, hz]; rfl) ⟨rfl, rfl⟩ Upd.here) ?_
    rintro _ _ ⟨rfl, rfl⟩
    repeat' (first|refine zz ?_|(refine zv ?_;intro cv hv)|(refine za ?_;intro _)|refine zc ?_|(refine zd ?_;refine And.intro ?_ ?_<;>(intro e;(try simp only [Bool.not_eq_true',Bool.not_eq_false'] at e);subst e;try contradiction)))
    refine ⟨rfl, ⟨some (id, g), (L.map txR).set n (txR s)⟩, ⟨fun h => (nomatch h), ?_⟩, ?_, ?_⟩
    · intro r hr
      rcases List.mem_or_eq_of_mem_set hr with h | rfl
      · exact txRows L r h
      · rfl
    · show (L.map txR).set n (txR s) = _
      rw [← List.map_set, hS]
    · have : ((L.map txR).set n (txR s)).length = ((os ++ [[]]).map txR).length := by rw [List.length_set, List.length_map, hL, hlen]
      simp only [OS.v, OS.c, this]
      exact ⟨_, .cons (.there (.there .here)) (.cons .here .nil)⟩
/-- A name is put in its place. -/
theorem name26g (hN : N.ok 1) (hr : N.rows = os.map txR) (hol : os.length ≤ 1000) : CT Try.prog false 26 [mP b, .str s] [mB b (N.v 1) mt mu next, N.c] fun w K' => ∃ N' : OS, N'.ok 1 ∧ N'.rows = (insK s os).map txR ∧ K' = [mB b (N'.v 1) mt mu next, N'.c] := by
  refine CT.enterS mixed comp26 (Nat.le_of_ble_eq_true rfl) ?_
  repeat' (first|refine zz ?_|(refine zv ?_;intro cv hv)|(refine za ?_;intro _)|refine zc ?_|(refine zd ?_;refine And.intro ?_ ?_<;>(intro e;(try simp only [Bool.not_eq_true',Bool.not_eq_false'] at e);subst e;try contradiction)))
  refine Cd.weak (l2 := [(0, mP b), (1, .str s), (4, .int .i64 (.ofNat 0))]) ⟨rfl, rfl, rfl, trivial⟩ ?_
  refine Cd.loop (k := os.length + 1) (name_in hN hr hol ?_ (os.length + 1) 0 (by omega) (Nat.zero_le _))
  intro l' hs
  show Cd _ _ _ _ _ _
  refine Cd.weak hs ?_
  refine Cd.mono (name_fin hN hr hol (insAt_le s os)) ?_
  rintro _ l K ⟨rfl, N', hN', hr', r, hs⟩
  (first|refine ⟨.inr rfl,_,.t rfl .nil,?_⟩|refine ⟨.inr rfl,_,.t rfl (.t rfl .nil),?_⟩|refine ⟨.inr rfl,_,.t rfl (.t rfl (.t rfl .nil)),?_⟩|refine ⟨.inr rfl,_,.nil,?_⟩|refine ⟨.inl rfl,_,.t rfl .nil,?_⟩|refine ⟨.inl rfl,_,.nil,?_⟩|refine ⟨.inr rfl,_,.cn rfl (by exact zN) .nil,?_⟩|refine ⟨.inr rfl,_,.cn rfl (by exact zN) (.t rfl .nil),?_⟩)
  exact ⟨_, _, hs, N', hN', hr', rfl⟩
end
end Go.Proofs.Ytlimjjilakldgaa

namespace Go.Proofs.Ytlimjjilakldgaa
open Go Go.Abs
attribute [local irreducible] Cmp Rg Dw Cd Lp Ev Rdk CT Upd InK
section
variable {b mt mu next ck ck2 p g c h : Nat} {N : OS} {os : List (List Nat)} {tes : List (EntG (List Nat))} {ues : List (EntG Nat)} {s nm fn : List Nat} {ver : Int} {gr gc : Bool}
theorem names17 (hN : N.ok 1) (hr : N.rows = os.map txR) (hol : os.length ≤ 1000) : CT Try.prog false 17 [mP b] [mB b (N.v 1) mt mu next, N.c] fun w K' => ∃ O : OS, O.ok 1 ∧ O.rows = os.map txR ∧ w = O.v 1 ∧ K' = [mB b (N.v 1) mt mu next, N.c, O.c] := by
  refine CT.enterS mixed comp17 (Nat.le_of_ble_eq_true rfl) ?_
  repeat' (first|(refine Rg.callM rfl there24 (.cons .here .nil) ?_; rintro _ _ ⟨rfl, rfl⟩)|refine zz ?_|(refine zv ?_;intro cv hv)|(refine za ?_;intro _)|refine zc ?_|(refine zd ?_;refine And.intro ?_ ?_<;>(intro e;(try simp only [Bool.not_eq_true',Bool.not_eq_false'] at e);subst e;try contradiction)))
  have hb := Rw.os (K := [mB b (N.v 1) mt mu next, N.c]) hN (fun id o h => .there (.mem h))
  rw [hr, List.length_map] at hb
  refine Rg.e (Ef.appI (rs := os.map txR) (n := os.length) rfl rfl (txRows os) (by simp) hb (by simp only [lim]; omega)) ?_
  rintro _ _ ⟨O, hO, hr2, rfl, rfl⟩
  repeat' (first|refine zz ?_|(refine zv ?_;intro cv hv)|(refine za ?_;intro _)|refine zc ?_|(refine zd ?_;refine And.intro ?_ ?_<;>(intro e;(try simp only [Bool.not_eq_true',Bool.not_eq_false'] at e);subst e;try contradiction)))
  (first|refine ⟨.inr rfl,_,.t rfl .nil,?_⟩|refine ⟨.inr rfl,_,.t rfl (.t rfl .nil),?_⟩|refine ⟨.inr rfl,_,.t rfl (.t rfl (.t rfl .nil)),?_⟩|refine ⟨.inr rfl,_,.nil,?_⟩|refine ⟨.inl rfl,_,.t rfl .nil,?_⟩|refine ⟨.inl rfl,_,.nil,?_⟩|refine ⟨.inr rfl,_,.cn rfl (by exact zN) .nil,?_⟩|refine ⟨.inr rfl,_,.cn rfl (by exact zN) (.t rfl .nil),?_⟩)
  exact ⟨_, _, .cons (.there .here) (.cons (.there .here) (.cons .here .nil)), O, hO, hr2, rfl, rfl⟩
/-- There are as many as there may be. -/
theorem may19F (hN : N.ok 1) (hl : 16 ≤ N.rows.length) (h : underG s tes = none) : CT Try.prog false 19 [mP b, .str s, .int .i64 ver] [mB b (N.v 1) mt mu next, tC mt ck tes] fun w K' => w = .int .i64 (.ofNat 3) ∧ K' = [mB b (N.v 1) mt mu next, tC mt ck tes] := by
  have k23 := find23N (b := b) (mu := mu) (next := next) (nv := N.v 1) (mt := mt) (ck := ck) h
  have hlen := hN.len
  refine CT.enterS mixed comp19 (Nat.le_of_ble_eq_true rfl) ?_
  repeat' (first|(refine Rg.callM rfl k23 (.cons .here (.cons .here .nil)) ?_; rintro _ _ ⟨rfl, rfl⟩)|(refine Rg.callM rfl there24 (.cons (.there .here) .nil) ?_; rintro _ _ ⟨rfl, rfl⟩)|refine zz ?_|(refine zv ?_;intro cv hv)|(refine za ?_;intro _)|refine zc ?_|(refine zd ?_;refine And.intro ?_ ?_<;>(intro e;(try simp only [Bool.not_eq_true',Bool.not_eq_false'] at e);subst e;try contradiction)))
  (first|refine ⟨.inr rfl,_,.t rfl .nil,?_⟩|refine ⟨.inr rfl,_,.t rfl (.t rfl .nil),?_⟩|refine ⟨.inr rfl,_,.t rfl (.t rfl (.t rfl .nil)),?_⟩|refine ⟨.inr rfl,_,.nil,?_⟩|refine ⟨.inl rfl,_,.t rfl .nil,?_⟩|refine ⟨.inl rfl,_,.nil,?_⟩|refine ⟨.inr rfl,_,.cn rfl (by exact zN) .nil,?_⟩|refine ⟨.inr rfl,_,.cn rfl (by exact zN) (.t rfl .nil),?_⟩)
  exact ⟨_, _, .cons .here (.cons (.there .here) .nil), rfl, rfl⟩
theorem add11G (h1 : Txt nm) (h2 : Txt fn) (hb : sB nm ver fn = true) (hnx : next < 1000000) (hN : N.ok 1) (hr : N.rows = os.map txR) (hol : os.length < 16) (hu : underG nm tes = none) :
    CT Try.prog false 11 [mP b, .agg (sR nm ver (sV p g))] [mB b (N.v 1) mt mu next, tC mt ck tes, uC mu ck2 ues, pK p g c h fn gr, cK c h gc, N.c] fun w K' => w = .tup [.int .i64 (.ofNat next), .int .i64 (.ofNat 0)] ∧ ∃ (N' : OS) (p' g' : Nat), N'.ok 1 ∧ N'.rows = (insK nm os).map txR ∧ K' = [mB b (N'.v 1) mt mu (next + 1), tC mt (putNG nm ck tes) (putG nm (valA ⟨(next : Int), -1, [0]⟩) ck tes), uC mu (putNG next ck2 ues) (putG next (.agg (sR nm ver (sV p' g'))) ck2 ues), N'.c] := by
  have km := may19N (b := b) (mt := mt) (mu := mu) (next := next) (ck := ck) (s := nm) (ver := ver) hN (by rw [hr, List.length_map]; exact hol) hu
  have kf := find23N (b := b) (mu := mu) (next := next) (nv := N.v 1) (mt := mt) (ck := ck) hu
  have k25 := check25s (ver := ver) (p := p) (g := g) (c := c) (h := h) (gr := gr) (gc := gc) h1 h2
  rw [if_pos hb] at k25
  refine CT.enterS mixed comp11 (Nat.le_of_ble_eq_true rfl) ?_
  repeat' (first|(refine Rg.callM rfl there24 (.cons (.there .here) .nil) ?_; rintro _ _ ⟨rfl, rfl⟩)|(refine Rg.callM rfl k25 (.cons (.there (.there (.there (.there .here)))) (.cons (.there (.there (.there (.there .here)))) .nil)) ?_; rintro _ _ ⟨rfl, rfl⟩)|(refine Rg.callM rfl km (.cons (.there (.there .here)) (.cons (.there (.there (.there .here))) .nil)) ?_; rintro _ _ ⟨rfl, rfl⟩)|(refine Rg.callM rfl kf (.cons .here (.cons .here .nil)) ?_; rintro _ _ ⟨rfl, rfl⟩)|refine zz ?_|(refine zv ?_;intro cv hv)|(refine za ?_;intro _)|refine zc ?_|(refine zd ?_;refine And.intro ?_ ?_<;>(intro e;(try simp only [Bool.not_eq_true',Bool.not_eq_false'] at e);subst e;try contradiction)))
  refine Rg.callM rfl (name26g (s := nm) hN hr (by omega)) (.cons (.there (.here)) (.cons (.there (.there (.there (.there (.there (.there (.here))))))) (.nil))) ?_
  rintro _ _ ⟨N', hN', hr', rfl⟩
  repeat' (first|refine zz ?_|(refine zv ?_;intro cv hv)|(refine za ?_;intro _)|refine zc ?_|(refine zd ?_;refine And.intro ?_ ?_<;>(intro e;(try simp only [Bool.not_eq_true',Bool.not_eq_false'] at e);subst e;try contradiction)))
  refine Dw.callM rfl own27s (.cons (.there (.there (.there (.there (.here))))) (.cons (.there (.there (.there (.there (.here))))) (.nil))) ?_
  rintro _ _ ⟨p', g', c', h', rfl, rfl⟩
  refine ⟨by repeat (first | exact trivial | refine rdsB rfl ?_ | (refine rdsR ?_ ?_; (focus (first | assumption | (refine Rdk.b1 (cs := ?_) ?_ ?_; rotate_left; (repeat (first | exact InK.here | refine InK.there ?_)); exact rfl) | (refine Rdk.bw ?_ ?_; (repeat (first | exact InK.here | refine InK.there ?_)); first | assumption | exact rfl) | (refine Rdk.bn ?_ ?_; (repeat (first | exact InK.here | refine InK.there ?_)); exact rfl) | (refine Rdk.in ?_; first | assumption | exact rfl) | exact Rdk.i1)))), ?_⟩
  refine Dw.e (Ef.mupdG keN (k := next) (es := ues) rfl rfl rfl (.there (.there (.there (.there (.there (.there (.there (.there (.there (Upd.here))))))))))) ?_
  rintro _ _ ⟨rfl, rfl⟩
  refine ⟨by repeat (first | exact trivial | refine rdsB rfl ?_ | (refine rdsR ?_ ?_; (focus (first | assumption | (refine Rdk.b1 (cs := ?_) ?_ ?_; rotate_left; (repeat (first | exact InK.here | refine InK.there ?_)); exact rfl) | (refine Rdk.bw ?_ ?_; (repeat (first | exact InK.here | refine InK.there ?_)); first | assumption | exact rfl) | (refine Rdk.bn ?_ ?_; (repeat (first | exact InK.here | refine InK.there ?_)); exact rfl) | (refine Rdk.in ?_; first | assumption | exact rfl) | exact Rdk.i1)))), ?_⟩
  repeat' (first|refine zz ?_|(refine zv ?_;intro cv hv)|(refine za ?_;intro _)|refine zc ?_|(refine zd ?_;refine And.intro ?_ ?_<;>(intro e;(try simp only [Bool.not_eq_true',Bool.not_eq_false'] at e);subst e;try contradiction)))
  refine Dw.e (Ef.mupdG keS (k := nm) (es := tes) (v := valA ⟨(next : Int), -1, [0]⟩) rfl rfl rfl (.there (.there (.there (.there (.there (.there (.there (Upd.here))))))))) ?_
  rintro _ _ ⟨rfl, rfl⟩
  refine ⟨by repeat (first | exact trivial | refine rdsB rfl ?_ | (refine rdsR ?_ ?_; (focus (first | assumption | (refine Rdk.b1 (cs := ?_) ?_ ?_; rotate_left; (repeat (first | exact InK.here | refine InK.there ?_)); exact rfl) | (refine Rdk.bw ?_ ?_; (repeat (first | exact InK.here | refine InK.there ?_)); first | assumption | exact rfl) | (refine Rdk.bn ?_ ?_; (repeat (first | exact InK.here | refine InK.there ?_)); exact rfl) | (refine Rdk.in ?_; first | assumption | exact rfl) | exact Rdk.i1)))), ?_⟩
  repeat' (first|refine zz ?_|(refine zv ?_;intro cv hv)|(refine za ?_;intro _)|refine zc ?_|(refine zd ?_;refine And.intro ?_ ?_<;>(intro e;(try simp only [Bool.not_eq_true',Bool.not_eq_false'] at e);subst e;try contradiction)))
  (first|refine ⟨.inr rfl,_,.t rfl .nil,?_⟩|refine ⟨.inr rfl,_,.t rfl (.t rfl .nil),?_⟩|refine ⟨.inr rfl,_,.t rfl (.t rfl (.t rfl .nil)),?_⟩|refine ⟨.inr rfl,_,.nil,?_⟩|refine ⟨.inl rfl,_,.t rfl .nil,?_⟩|refine ⟨.inl rfl,_,.nil,?_⟩|refine ⟨.inr rfl,_,.cn rfl (by exact zN) .nil,?_⟩|refine ⟨.inr rfl,_,.cn rfl (by exact zN) (.t rfl .nil),?_⟩)
  exact ⟨_, _, (.cons (.there (.there (.there (.there (.here))))) (.cons (.there (.there (.there (.there (.there (.there (.here))))))) (.cons (.there (.there (.there (.there (.there (.there (.there (.here)))))))) (.cons (.there (.there (.there (.there (.here))))) (.nil))))), rfl, N', p', g', hN', hr', rfl⟩
end
end Go.Proofs.Ytlimjjilakldgaa
