/- Plain: what a map with values for keys holds, the order of keys, a key put in its place. -/
import Derived.Test.YtlimjjilakldgaaGreatPlnB
set_option autoImplicit false
set_option linter.unusedVariables false
set_option linter.unusedSimpArgs false
set_option maxRecDepth 100000
set_option maxHeartbeats 4000000
set_option maxRecDepth 900000
namespace Go.Proofs.YtlimjjilakldgaaGreat.Q
open Go Go.Abs
def aheadB (a b : Val) : Bool := if a.k ≠ b.k then decide (a.k < b.k) else if a.k = 1 then decide (a.n < b.n) else nless a.s b.s
def Can (v : Val) : Prop := (v.k = 1 ∧ v.s = []) ∨ (v.k = 2 ∧ v.n = 0)
theorem nless_irr : ∀ x : List Nat, nless x x = false
 | [] => rfl
 | a :: x => by
  simp only [nless, nless_irr x, Bool.and_false, Bool.or_false]
  cases e : Nat.blt a a with
  | false => rfl
  | true => have := Nat.le_of_ble_eq_true e; omega
theorem nless_cons {a b : Nat} {x y : List Nat} : nless (a :: x) (b :: y) = true ↔ a < b ∨ (a = b ∧ nless x y = true) := by
 simp only [nless, Bool.or_eq_true, Bool.and_eq_true, Nat.beq_eq, ]
 constructor
 ·rintro (h | h)
  ·exact .inl (Nat.le_of_ble_eq_true h)
  ·exact .inr h
 ·rintro (h | h)
  ·exact .inl (Nat.ble_eq_true_of_le h)
  ·exact .inr h
theorem nless_trans : ∀ {x y z : List Nat}, nless x y = true → nless y z = true → nless x z = true
 | x, [], _, h, _ => by cases x <;> simp [nless] at h
 | _, _ :: _, [], _, h => by simp [nless] at h
 | [], _ :: _, _ :: _, _, _ => rfl
 | a :: x, b :: y, c :: z, h, k => by
  rw [nless_cons] at h k ⊢
  rcases h with h | ⟨rfl, h⟩
  ·rcases k with k | ⟨rfl, k⟩
   ·exact .inl (by omega)
   ·exact .inl h
  ·rcases k with k | ⟨rfl, k⟩
   ·exact .inl k
   ·exact .inr ⟨rfl, nless_trans h k⟩
theorem nless_tri : ∀ {x y : List Nat}, nless x y = false → x ≠ y → nless y x = true
 | [], [], _, h => absurd rfl h
 | [], _ :: _, h, _ => by cases h
 | _ :: _, [], _, _ => rfl
 | a :: x, b :: y, h, hn => by
  rw [nless_cons]
  have h' : ¬ (a < b ∨ (a = b ∧ nless x y = true)) := fun e => by rw [← nless_cons, h] at e; cases e
  by_cases e : a = b
  ·subst e
   refine .inr ⟨rfl, nless_tri ?_ fun e => hn (by rw [e])⟩
   cases e2 : nless x y with
   | false => rfl
   | true => exact absurd (.inr ⟨rfl, e2⟩) h'
  ·exact .inl (by omega)
theorem ahead_trans {a b c : Val} (h : aheadB a b = true) (k : aheadB b c = true) : aheadB a c = true := by
 unfold aheadB at h k ⊢
 by_cases e1 : a.k = b.k
 ·by_cases e2 : b.k = c.k
  ·rw [if_neg (by simp [e1])] at h
   rw [if_neg (by simp [e2])] at k
   rw [if_neg (by simp [e1, e2])]
   by_cases e3 : a.k = 1
   ·rw [if_pos e3] at h ⊢
    rw [if_pos (by omega)] at k
    simp at h k ⊢; omega
   ·rw [if_neg e3] at h ⊢
    rw [if_neg (by omega)] at k
    exact nless_trans h k
  ·rw [if_pos e2] at k
   rw [if_pos (by omega)]
   simp at k ⊢; omega
 ·rw [if_pos e1] at h
  by_cases e2 : b.k = c.k
  ·rw [if_pos (by omega)]
   simp at h ⊢; omega
  ·rw [if_pos e2] at k
   simp at h k
   rw [if_pos (by omega)]
   simp; omega
theorem ahead_tri {a b : Val} (ha : Can a) (hb : Can b) (h : aheadB a b = false) (hn : a ≠ b) : aheadB b a = true := by
 unfold aheadB at h ⊢
 obtain ⟨ak, an, at_⟩ := a
 obtain ⟨bk, bn, bs⟩ := b
 simp only [Can] at ha hb h ⊢
 by_cases e : ak = bk
 ·subst e
  rw [if_neg (by simp)] at h ⊢
  rcases ha with ⟨rfl, rfl⟩ | ⟨rfl, rfl⟩
  ·rcases hb with ⟨_, rfl⟩ | ⟨h2, _⟩
   ·simp at h hn ⊢; omega
   ·omega
  ·rcases hb with ⟨h2, _⟩ | ⟨_, rfl⟩
   ·omega
   ·rw [if_neg (by decide)] at h ⊢
    exact nless_tri h fun e => hn (by rw [e])
 ·rw [if_pos e] at h
  rw [if_pos (fun e2 => e e2.symm)]
  simp at h ⊢; omega
def insAt (k : Val) (l : List Val) : Nat := (l.takeWhile fun a => aheadB a k).length
def insK (k : Val) (l : List Val) : List Val := l.take (insAt k l) ++ k :: l.drop (insAt k l)
theorem insAt_le (k : Val) (l : List Val) : insAt k l ≤ l.length := (List.takeWhile_sublist _).length_le
theorem insK_perm (k : Val) (l : List Val) : (insK k l).Perm (k :: l) := by
 refine List.perm_middle.trans ?_
 rw [List.take_append_drop]
theorem insK_sorted {k : Val} : ∀ {l : List Val}, l.Pairwise (fun a b => aheadB a b = true) → (∀ a, a ∈ l → Can a ∧ a ≠ k) → Can k → (insK k l).Pairwise (fun a b => aheadB a b = true)
 | [], _, _, _ => by simp [insK, insAt]
 | a :: l, hs, hc, hk => by
  rw [List.pairwise_cons] at hs
  cases e : aheadB a k with
  | true =>
   have e1 : insK k (a :: l) = a :: insK k l := by simp [insK, insAt, List.takeWhile_cons, e]
   rw [e1, List.pairwise_cons]
   refine ⟨?_, insK_sorted hs.2 (fun b hb => hc b (List.mem_cons_of_mem _ hb)) hk⟩
   intro b hb
   rcases List.mem_cons.1 ((insK_perm k l).mem_iff.1 hb) with rfl | hb
   ·exact e
   ·exact hs.1 b hb
  | false =>
   have e1 : insK k (a :: l) = k :: a :: l := by simp [insK, insAt, List.takeWhile_cons, e]
   have hka := ahead_tri (hc a (by simp)).1 hk e (hc a (by simp)).2
   rw [e1, List.pairwise_cons]
   refine ⟨?_, List.pairwise_cons.2 hs⟩
   intro b hb
   rcases List.mem_cons.1 hb with rfl | hb
   ·exact hka
   ·exact ahead_trans hka (hs.1 b hb)
end Go.Proofs.YtlimjjilakldgaaGreat.Q
namespace Go.Proofs.YtlimjjilakldgaaGreat.Q
open Go Go.Abs
attribute [local irreducible] Cmp Rg Dw Cd Lp Ev Rdk CT Upd InK
def keyB (k : Val) : Bool := decide (k.k = 1) || decide (k.k = 2)
theorem in59 {k : Val} : PT Try.prog false 125 [valA k] (if k.k = 1 then .ifc 151 (.int .i64 k.n) else if k.k = 2 then .ifc 152 (.str k.s) else .nilifc) := by
 refine PT.of (CT.enter mixed comp125 (Nat.le_of_ble_eq_true rfl) ?_)
 by_cases h1 : k.k = 1
 ·rw [if_pos h1]
  repeat' (first|intro _|refine yU ?_|(apply YA.mk;intro cv hv)|(refine yT ?_ ?_<;>(intro e;(try simp only [nbT,nbF] at e);subst e;try contradiction)))
  refine yX ?_
  rfl
 by_cases h2 : k.k = 2
 ·rw [if_neg h1, if_pos h2]
  repeat' (first|intro _|refine yU ?_|(apply YA.mk;intro cv hv)|(refine yT ?_ ?_<;>(intro e;(try simp only [nbT,nbF] at e);subst e;try contradiction)))
  refine yX ?_
  rfl
 ·rw [if_neg h1, if_neg h2]
  repeat' (first|intro _|refine yU ?_|(apply YA.mk;intro cv hv)|(refine yT ?_ ?_<;>(intro e;(try simp only [nbT,nbF] at e);subst e;try contradiction)))
  refine yX ?_
  rfl
theorem key52 {k : Val} : PT Try.prog false 116 [valA k] (.bool (keyB k)) := by
 have k59 := in59 (k := k)
 refine PT.of (CT.enter mixed comp116 (Nat.le_of_ble_eq_true rfl) ?_)
 by_cases h1 : k.k = 1
 ·rw [if_pos h1] at k59
  rw [show keyB k = true by simp [keyB, h1]]
  repeat' (first|intro _|refine yU ?_|(apply YA.mk;intro cv hv)|(refine yT ?_ ?_<;>(intro e;(try simp only [nbT,nbF] at e);subst e;try contradiction)))
  refine yX ?_
  rfl
 by_cases h2 : k.k = 2
 ·rw [if_neg h1, if_pos h2] at k59
  rw [show keyB k = true by simp [keyB, h2]]
  repeat' (first|intro _|refine yU ?_|(apply YA.mk;intro cv hv)|(refine yT ?_ ?_<;>(intro e;(try simp only [nbT,nbF] at e);subst e;try contradiction)))
  refine yX ?_
  rfl
 ·rw [if_neg h1, if_neg h2] at k59
  rw [show keyB k = false by simp [keyB, h1, h2]]
  repeat' (first|intro _|refine yU ?_|(apply YA.mk;intro cv hv)|(refine yT ?_ ?_<;>(intro e;(try simp only [nbT,nbF] at e);subst e;try contradiction)))
  refine yX ?_
  rfl
theorem key16 {k : Val} : PT Try.prog false 79 [valA k] (.bool (keyB k)) := by
 refine PT.of (CT.enter mixed comp79 (Nat.le_of_ble_eq_true rfl) ?_)
 repeat' (first|intro _|refine yU ?_|(apply YA.mk;intro cv hv)|(refine yT ?_ ?_<;>(intro e;(try simp only [nbT,nbF] at e);subst e;try contradiction)))
 all_goals refine yX ?_
 all_goals (refine congrArg AV.bool ?_; rw [Bool.eq_iff_iff]; simp only [keyB]; simp_all)
abbrev v0 : Val := ⟨0, 0, []⟩
end Go.Proofs.YtlimjjilakldgaaGreat.Q
namespace Go.Proofs.YtlimjjilakldgaaGreat.Q
open Go Go.Abs
attribute [local irreducible] Cmp Rg Dw Cd Lp Ev Rdk CT Upd InK
theorem nless_drop : ∀ {i : Nat} {x y : List Nat}, x.take i = y.take i → i ≤ x.length → i ≤ y.length → nless x y = nless (x.drop i) (y.drop i)
 | 0, _, _, _, _, _ => rfl
 | i + 1, [], _, _, h, _ => by simp at h
 | i + 1, _ :: _, [], _, _, h => by simp at h
 | i + 1, a :: x, b :: y, h, h1, h2 => by
  simp only [List.take_succ_cons, List.cons.injEq] at h
  obtain ⟨rfl, h⟩ := h
  rw [List.drop_succ_cons, List.drop_succ_cons, ← nless_drop h (by simpa using h1) (by simpa using h2)]
  rw [Bool.eq_iff_iff, nless_cons]
  constructor
  ·rintro (h | ⟨_, h⟩)
   ·omega
   ·exact h
  ·exact fun h => .inr ⟨rfl, h⟩
theorem nless_at {i a b : Nat} {x y : List Nat} (h : x.take i = y.take i) (ha : x[i]? = some a) (hb : y[i]? = some b) (hab : a ≠ b) : nless x y = decide (a < b) := by
 have h1 := (List.getElem?_eq_some_iff.1 ha).1
 have h2 := (List.getElem?_eq_some_iff.1 hb).1
 rw [nless_drop h (Nat.le_of_lt h1) (Nat.le_of_lt h2), List.drop_eq_getElem_cons h1, List.drop_eq_getElem_cons h2]
 rw [List.getElem?_eq_getElem h1] at ha
 rw [List.getElem?_eq_getElem h2] at hb
 cases ha; cases hb
 rw [Bool.eq_iff_iff, nless_cons, decide_eq_true_eq]
 constructor
 ·rintro (h | ⟨h, _⟩)
  ·exact h
  ·exact absurd h hab
 ·exact .inl
theorem nless_end {i : Nat} {x y : List Nat} (h : x.take i = y.take i) (h1 : i ≤ x.length) (h2 : i ≤ y.length) (he : ¬ (i < x.length ∧ i < y.length)) : nless x y = decide (x.length < y.length) := by
 rw [nless_drop h h1 h2]
 by_cases hx : i < x.length
 ·rw [List.drop_of_length_le (show y.length ≤ i by omega), decide_eq_false (by omega)]
  cases x.drop i <;> simp [nless]
 ·rw [List.drop_of_length_le (show x.length ≤ i by omega)]
  by_cases hy : i < y.length
  ·rw [List.drop_eq_getElem_cons hy, decide_eq_true (by omega)]; rfl
  ·rw [List.drop_of_length_le (show y.length ≤ i by omega), decide_eq_false (by omega)]; rfl
theorem less53_loop {x y : List Nat} (hx : x.length ≤ 9223372036854775807) (hy : y.length ≤ 9223372036854775807) {Q : AX → SL → Mem → Prop} (hret : ∀ l' K, lkS l' 4 = some (.bool (nless x y)) → Q .ret l' K)
  (hend : ∀ l' K, nless x y = decide (x.length < y.length) → Sub2 [(0, .str x), (1, .str y)] l' → Q (.ext 0) l' K) :
  ∀ (f i : Nat), x.length < i + f → i ≤ x.length → i ≤ y.length → x.take i = y.take i → Lp Try.prog false b131_0 f [(0, .str x), (1, .str y), (5, .int .i64 (.ofNat i))] [] Q := by
 intro f
 induction f with
 | zero => intro i h1 h2; omega
 | succ f ih =>
  intro i h1 h2 h3 ht
  refine Lp.round ?_
  by_cases hi : i < x.length ∧ i < y.length
  ·obtain ⟨hix, hiy⟩ := hi
   obtain ⟨a, ha⟩ : ∃ a, x[i]? = some a := ⟨_, List.getElem?_eq_getElem hix⟩
   obtain ⟨c, hc⟩ : ∃ c, y[i]? = some c := ⟨_, List.getElem?_eq_getElem hiy⟩
   have q1 := idxs_at (s := x) (k := .i64) ha
   have q2 := idxs_at (s := y) (k := .i64) hc
   by_cases e : a = c
   ·repeat' (first|intro _|refine yU ?_|(apply YA.mk;intro cv hv)|(refine yT ?_ ?_<;>(intro e;(try simp only [nbT,nbF] at e);subst e;try contradiction)))
    refine Lp.weak ?hw (ih (i + 1) (by omega) (by omega) (by omega) ?_)
    case hw => exact ⟨rfl, rfl, rfl, trivial⟩
    rw [List.take_add_one, List.take_add_one, ht, ha, hc, e]
   ·have hn := nless_at ht ha hc e
    rw [hn] at hret
    by_cases h5 : a < c
    ·rw [decide_eq_true h5] at hret
     repeat' (first|intro _|refine yU ?_|(apply YA.mk;intro cv hv)|(refine yT ?_ ?_<;>(intro e;(try simp only [nbT,nbF] at e);subst e;try contradiction)))
     exact hret _ _ rfl
    ·rw [decide_eq_false h5] at hret
     repeat' (first|intro _|refine yU ?_|(apply YA.mk;intro cv hv)|(refine yT ?_ ?_<;>(intro e;(try simp only [nbT,nbF] at e);subst e;try contradiction)))
     exact hret _ _ rfl
  ·have hn := nless_end ht h2 h3 hi
   by_cases hix : i < x.length
   ·have : ¬ i < y.length := fun h => hi ⟨hix, h⟩
    repeat' (first|intro _|refine yU ?_|(apply YA.mk;intro cv hv)|(refine yT ?_ ?_<;>(intro e;(try simp only [nbT,nbF] at e);subst e;try contradiction)))
    exact hend _ _ hn ⟨rfl, rfl, trivial⟩
   ·repeat' (first|intro _|refine yU ?_|(apply YA.mk;intro cv hv)|(refine yT ?_ ?_<;>(intro e;(try simp only [nbT,nbF] at e);subst e;try contradiction)))
    exact hend _ _ hn ⟨rfl, rfl, trivial⟩
theorem less53 {x y : List Nat} (hx : x.length ≤ 9223372036854775807) (hy : y.length ≤ 9223372036854775807) : PT Try.prog false 131 [.str x, .str y] (.bool (nless x y)) := by
 refine PT.of (CT.enter mixed comp131 (Nat.le_of_ble_eq_true rfl) ?_)
 repeat' (first|intro _|refine yU ?_|(apply YA.mk;intro cv hv)|(refine yT ?_ ?_<;>(intro e;(try simp only [nbT,nbF] at e);subst e;try contradiction)))
 refine Cd.weak (l2 := [(0, _), (1, _), (5, _)]) ⟨rfl, rfl, rfl, trivial⟩ ?_
 refine Cd.loop (k := x.length + 1) (less53_loop hx hy ?_ ?_ (x.length + 1) 0 (by omega) (by omega) (by omega) rfl)
 ·intro l' K e
  exact ⟨.inr rfl, _, .t e .nil, rfl⟩
 ·intro l' K hn hs
  show Cd _ _ _ _ _ _
  refine Cd.weak hs ?_
  rw [hn]
  by_cases h : x.length < y.length
  ·rw [decide_eq_true h]
   repeat' (first|intro _|refine yU ?_|(apply YA.mk;intro cv hv)|(refine yT ?_ ?_<;>(intro e;(try simp only [nbT,nbF] at e);subst e;try contradiction)))
   refine yX ?_
   rfl
  ·rw [decide_eq_false h]
   repeat' (first|intro _|refine yU ?_|(apply YA.mk;intro cv hv)|(refine yT ?_ ?_<;>(intro e;(try simp only [nbT,nbF] at e);subst e;try contradiction)))
   refine yX ?_
   rfl
def one (t : Bool) : Int := if t = true then 1 else 0
theorem truth39 {t : Bool} : PT Try.prog false 120 [.bool t] (valA ⟨1, one t, []⟩) := by
 refine PT.of (CT.enter mixed comp120 (Nat.le_of_ble_eq_true rfl) ?_)
 have k0 := int23 (n := Int.ofNat 0)
 have k1 := int23 (n := Int.ofNat 1)
 cases t
 ·repeat' (first|intro _|refine yU ?_|(apply YA.mk;intro cv hv)|(refine yT ?_ ?_<;>(intro e;(try simp only [nbT,nbF] at e);subst e;try contradiction)))
  refine yX ?_
  rfl
 ·repeat' (first|intro _|refine yU ?_|(apply YA.mk;intro cv hv)|(refine yT ?_ ?_<;>(intro e;(try simp only [nbT,nbF] at e);subst e;try contradiction)))
  refine yX ?_
  rfl
theorem two38 : PT Try.prog false 119 [.str [60]] (.bool true) := PT.run plain0 (by kernel_rfl) rfl rfl
theorem ints40 {a b : Int} : PT Try.prog false 121 [.str [60], .int .i64 a, .int .i64 b] (.tup [valA ⟨1, one (decide (a < b)), []⟩, .int .i64 (.ofNat 0)]) := by
 refine PT.of (CT.enter mixed comp121 (Nat.le_of_ble_eq_true rfl) ?_)
 have k39 := truth39 (t := decide (a < b))
 by_cases h : a < b
 ·rw [decide_eq_true h] at k39 ⊢
  repeat' (first|intro _|refine yU ?_|(apply YA.mk;intro cv hv)|(refine yT ?_ ?_<;>(intro e;(try simp only [nbT,nbF] at e);subst e;try contradiction)))
  refine yX ?_
  rfl
 ·rw [decide_eq_false h] at k39 ⊢
  repeat' (first|intro _|refine yU ?_|(apply YA.mk;intro cv hv)|(refine yT ?_ ?_<;>(intro e;(try simp only [nbT,nbF] at e);subst e;try contradiction)))
  refine yX ?_
  rfl
theorem texts41 {x y : List Nat} (hx : x.length ≤ 9223372036854775807) (hy : y.length ≤ 9223372036854775807) : PT Try.prog false 122 [.str [60], .str x, .str y] (.tup [valA ⟨1, one (nless x y), []⟩, .int .i64 (.ofNat 0)]) := by
 refine PT.of (CT.enter mixed comp122 (Nat.le_of_ble_eq_true rfl) ?_)
 have k39 := truth39 (t := nless x y)
 have k53 := less53 hx hy
 generalize nless x y = t at *
 repeat' (first|refine Rg.call rfl k53 ?_|intro _|refine yU ?_|(apply YA.mk;intro cv hv)|(refine yT ?_ ?_<;>(intro e;(try simp only [nbT,nbF] at e);subst e;try contradiction)))
 all_goals refine yX ?_
 all_goals rfl
theorem two19 {a b : Val} (hk : a.k = 1 ∨ a.k = 2) (hx : a.s.length ≤ 9223372036854775807) (hy : b.s.length ≤ 9223372036854775807) : PT Try.prog false 103 [.str [60], valA a, valA b] (if a.k = b.k then .tup [valA ⟨1, one (aheadB a b), []⟩, .int .i64 (.ofNat 0)] else .tup [valA v0, .int .i64 (.ofNat 1)]) := by
 refine PT.of (CT.enter mixed comp103 (Nat.le_of_ble_eq_true rfl) ?_)
 have k38 := two38
 have k40 := ints40 (a := a.n) (b := b.n)
 have k41 := texts41 hx hy
 by_cases h : a.k = b.k
 ·rw [if_pos h]
  rcases hk with h1 | h2
  ·rw [show aheadB a b = decide (a.n < b.n) by unfold aheadB; rw [if_neg (fun hn => hn h), if_pos h1]]
   have h3 : b.k = 1 := by omega
   repeat' (first|intro _|refine yU ?_|(apply YA.mk;intro cv hv)|(refine yT ?_ ?_<;>(intro e;(try simp only [nbT,nbF] at e);subst e;try contradiction)))
   refine yX ?_
   rfl
  ·rw [show aheadB a b = nless a.s b.s by unfold aheadB; rw [if_neg (fun hn => hn h), if_neg (by omega)]]
   have h3 : b.k = 2 := by omega
   repeat' (first|intro _|refine yU ?_|(apply YA.mk;intro cv hv)|(refine yT ?_ ?_<;>(intro e;(try simp only [nbT,nbF] at e);subst e;try contradiction)))
   refine yX ?_
   rfl
 ·rw [if_neg h]
  rcases hk with h1 | h2
  ·have h3 : ¬ b.k = 1 := by omega
   repeat' (first|intro _|refine yU ?_|(apply YA.mk;intro cv hv)|(refine yT ?_ ?_<;>(intro e;(try simp only [nbT,nbF] at e);subst e;try contradiction)))
   refine yX ?_
   rfl
  ·have h3 : ¬ b.k = 2 := by omega
   repeat' (first|intro _|refine yU ?_|(apply YA.mk;intro cv hv)|(refine yT ?_ ?_<;>(intro e;(try simp only [nbT,nbF] at e);subst e;try contradiction)))
   refine yX ?_
   rfl
end Go.Proofs.YtlimjjilakldgaaGreat.Q
namespace Go.Proofs.YtlimjjilakldgaaGreat.Q
open Go Go.Abs
def byt (n : Int) (i : Nat) : Nat := (n / (256 ^ i : Nat) % 256).toNat
def leB (n : Int) (w : Nat) : List Nat := (List.range w).map fun i => byt n i
def deB : List Nat → Nat | [] => 0 | a :: r => a + 256 * deB r
def i64 (u : Nat) : Int := if u < 9223372036854775808 then (u : Int) else (u : Int) - 18446744073709551616
def rng (n : Int) : Prop := -9223372036854775808 ≤ n ∧ n < 9223372036854775808
theorem byt_succ (n : Int) (i : Nat) : byt n (i + 1) = byt (n / 256) i := by
 unfold byt
 rw [Int.ediv_ediv_of_nonneg (by omega)]
 congr 3
 rw [Nat.pow_succ, Nat.mul_comm]; rfl
theorem leB_succ (n : Int) (w : Nat) : leB n (w + 1) = (n % 256).toNat :: leB (n / 256) w := by
 simp only [leB, List.range_succ_eq_map, List.map_cons, List.map_map]
 congr 1
 ·simp [byt]
 ·apply List.map_congr_left; intro i _; exact byt_succ n i
theorem leB_mod {n m : Int} : ∀ {w : Nat}, (n - m) % (256 ^ w : Nat) = 0 → leB n w = leB m w
 | 0, _ => rfl
 | w + 1, h => by
  rw [leB_succ, leB_succ]
  obtain ⟨k, hk⟩ := Int.dvd_of_emod_eq_zero h
  have e : n = m + 256 * ((256 ^ w : Nat) * k) := by
   have : (((256 ^ (w + 1) : Nat) : Int)) = 256 * (256 ^ w : Nat) := by rw [Nat.pow_succ, Nat.mul_comm]; simp
   rw [this, Int.mul_assoc] at hk
   omega
  have e1 : n / 256 = m / 256 + (256 ^ w : Nat) * k := by omega
  rw [leB_mod (n := n / 256) (m := m / 256) (by rw [e1, Int.add_comm, Int.add_sub_cancel]; exact Int.mul_emod_right _ _)]
  congr 1
  omega
theorem leB_deB : ∀ {bs : List Nat}, (∀ x, x ∈ bs → x < 256) → leB (deB bs) bs.length = bs
 | [], _ => rfl
 | a :: r, h => by
  have ha := h a (by simp)
  rw [List.length_cons, leB_succ, deB]
  have e1 : ((a + 256 * deB r : Nat) : Int) % 256 = a := by omega
  have e2 : ((a + 256 * deB r : Nat) : Int) / 256 = deB r := by omega
  rw [e1, e2, leB_deB fun x hx => h x (List.mem_cons_of_mem _ hx)]
  rfl
theorem deB_lt : ∀ {bs : List Nat}, (∀ x, x ∈ bs → x < 256) → deB bs < 256 ^ bs.length
 | [], _ => by simp [deB]
 | a :: r, h => by
  have ha := h a (by simp)
  have ih := deB_lt fun x hx => h x (List.mem_cons_of_mem a hx)
  rw [deB, List.length_cons, Nat.pow_succ]
  omega
theorem i64_rng {u : Nat} (h : u < 18446744073709551616) : rng (i64 u) := by unfold rng i64; split <;> omega
theorem leB_i64 {u : Nat} : leB (i64 u) 8 = leB u 8 := by
 refine leB_mod ?_
 unfold i64
 split
 ·simp
 ·have : ((u : Int) - 18446744073709551616 - u) = -18446744073709551616 := by omega
  rw [this]; decide
def sgm (s : List Nat) (a b : Nat) : List Nat := (s.drop a).take (b - a)
theorem seg_app {s : List Nat} {a b c : Nat} (h1 : a ≤ b) (h2 : b ≤ c) : sgm s a b ++ sgm s b c = sgm s a c := by
 unfold sgm
 have e : s.drop b = (s.drop a).drop (b - a) := by rw [List.drop_drop]; congr 1; omega
 rw [e, show c - a = (b - a) + (c - b) by omega, List.take_add]
theorem seg_len {s : List Nat} {a b : Nat} (h2 : b ≤ s.length) : (sgm s a b).length = b - a := by
 unfold sgm; rw [List.length_take, List.length_drop]; omega
theorem seg_lt {s : List Nat} {a b : Nat} (h : ∀ x, x ∈ s → x < 256) : ∀ x, x ∈ sgm s a b → x < 256 := fun x hx => h x (List.mem_of_mem_drop (List.mem_of_mem_take hx))
theorem seg_one {s : List Nat} {a x : Nat} (h : s[a]? = some x) : sgm s a (a + 1) = [x] := by
 unfold sgm
 rw [show a + 1 - a = 1 by omega]
 obtain ⟨ha, rfl⟩ := List.getElem?_eq_some_iff.1 h
 rw [List.drop_eq_getElem_cons ha]
 rfl
def sc (v : Val) : List Nat := if v.k = 1 then 1 :: leB v.n 8 else if v.k = 2 then 2 :: (leB v.s.length 4 ++ v.s) else [0]
def rdS (s : List Nat) (at_ : Nat) : Option (Val × Nat) := match s[at_]? with
 | some 0 => some (v0, at_ + 1)
 | some 1 => if at_ + 9 ≤ s.length then some (⟨1, i64 (deB (sgm s (at_ + 1) (at_ + 9))), []⟩, at_ + 9) else none
 | some 2 => if at_ + 5 ≤ s.length then
   if at_ + 5 + deB (sgm s (at_ + 1) (at_ + 5)) ≤ s.length ∧ deB (sgm s (at_ + 1) (at_ + 5)) ≤ 1024 then
    some (⟨2, 0, sgm s (at_ + 5) (at_ + 5 + deB (sgm s (at_ + 1) (at_ + 5)))⟩, at_ + 5 + deB (sgm s (at_ + 1) (at_ + 5))) else none
  else none
 | _ => none
def ScOk (v : Val) : Prop := v = v0 ∨ v.k = 1 ∧ v.s = [] ∧ rng v.n ∨ v.k = 2 ∧ v.n = 0 ∧ v.s.length ≤ 1024 ∧ ∀ x, x ∈ v.s → x < 256
theorem rdS_sc {s : List Nat} {a b : Nat} {v : Val} (hs : ∀ x, x ∈ s → x < 256) (h : rdS s a = some (v, b)) : sc v = sgm s a b ∧ a < b ∧ b ≤ s.length ∧ ScOk v := by
 unfold rdS at h
 split at h
 ·rename_i h0
  cases h
  refine ⟨by rw [seg_one h0]; rfl, by omega, ?_, .inl rfl⟩
  obtain ⟨ha, _⟩ := List.getElem?_eq_some_iff.1 h0
  omega
 ·rename_i h0
  split at h
  ·rename_i hl
   cases h
   have hb := seg_lt (a := a + 1) (b := a + 9) hs
   have hlen := seg_len (s := s) (a := a + 1) (b := a + 9) hl
   have h8 := leB_deB hb
   rw [hlen, show a + 9 - (a + 1) = 8 by omega] at h8
   have hlt := deB_lt hb
   rw [hlen, show a + 9 - (a + 1) = 8 by omega] at hlt
   refine ⟨?_, by omega, hl, .inr (.inl ⟨rfl, rfl, i64_rng hlt⟩)⟩
   simp only [sc, if_pos]
   rw [leB_i64, h8, ← seg_app (s := s) (a := a) (b := a + 1) (c := a + 9) (by omega) (by omega), seg_one h0]
   rfl
  ·cases h
 ·rename_i h0
  split at h
  ·rename_i hl
   split at h
   ·rename_i hn
    cases h
    have hb := seg_lt (a := a + 1) (b := a + 5) hs
    have hlen := seg_len (s := s) (a := a + 1) (b := a + 5) hl
    have h4 := leB_deB hb
    rw [hlen, show a + 5 - (a + 1) = 4 by omega] at h4
    have hl2 := seg_len (s := s) (a := a + 5) (b := a + 5 + deB (sgm s (a + 1) (a + 5))) hn.1
    refine ⟨?_, by omega, hn.1, .inr (.inr ⟨rfl, rfl, by rw [hl2]; omega, seg_lt hs⟩)⟩
    have e : ∀ t, sc ⟨2, 0, t⟩ = 2 :: (leB t.length 4 ++ t) := fun _ => rfl
    generalize hg : deB (sgm s (a + 1) (a + 5)) = g at *
    rw [e, hl2, show a + 5 + g - (a + 5) = g by omega, h4, seg_app (by omega) (by omega), ← seg_app (s := s) (a := a) (b := a + 1) (c := a + 5 + g) (by omega) (by omega), seg_one h0]
    rfl
   ·cases h
  ·cases h
 ·cases h
end Go.Proofs.YtlimjjilakldgaaGreat.Q
namespace Go.Proofs.YtlimjjilakldgaaGreat.Q
open Go Go.Abs
theorem to_u64 {n : Nat} (h : n < 18446744073709551616) : apure .e (.toInt .u64 (.c (.int .i64 (.ofNat n)))) = some (.int .u64 (.ofNat n)) := by
 have e : apure .e (.toInt .u64 (.c (.int .i64 (.ofNat n)))) = some (.int .u64 (awrap .u64 (.ofNat n))) := rfl
 rw [e, awrap_eq]
 congr 2
 simp only [IntKind.wrap, IntKind.bits, IntKind.signed]
 simp
 omega
def byC (bs : List Nat) : List AV := bs.map fun c => .int .u8 (.ofNat c)
theorem bytes_of : ∀ {bs : List Nat}, (∀ x, x ∈ bs → x < 256) → bytesOf (byC bs) = some bs
 | [], _ => rfl
 | a :: r, h => by
  have ha : Nat.blt a 256 = true := Nat.ble_eq_true_of_le (h a (by simp))
  have ih := bytes_of fun x hx => h x (List.mem_cons_of_mem a hx)
  simp only [byC] at ih
  simp only [byC, List.map_cons, bytesOf, ih, ha, cond_true]
theorem _root_.Go.Abs.Rdk.b2s {K : Mem} {v y : AV} {bs : List Nat} (hs : slen v = some bs.length) (h : Rw K 1 v (byC bs) bs.length) (hb : ∀ x, x ∈ bs → x < 256) : Rdk K .b2s v y (.str bs) := by
 unfold Rdk
 intro s hd
 obtain ⟨_, h2⟩ := h s hd
 simp only [aread, hs, h2, bytes_of hb]
theorem wide68 : PT Try.prog false 124 [.int .i64 (.ofNat 8)] (.bool true) := PT.run plain0 (by kernel_rfl) rfl rfl
theorem wide68d : PT Try.prog false 124 [.int .i64 (.ofNat 4)] (.bool true) := PT.run plain0 (by kernel_rfl) rfl rfl
theorem wide68b : PT Try.prog false 124 [.int .i64 (.ofNat 2)] (.bool true) := PT.run plain0 (by kernel_rfl) rfl rfl
theorem seg_all (l : List AV) {n : Nat} (h : l.length = n) : Go.Abs.seg l 0 (n * 1) = some l := by
 subst h
 simp only [Go.Abs.seg]
 rw [Nat.ble_eq_true_of_le (by omega), cond_true, Nat.mul_one, List.drop_zero, List.take_length]
end Go.Proofs.YtlimjjilakldgaaGreat.Q
namespace Go.Proofs.YtlimjjilakldgaaGreat.Q
open Go Go.Abs
theorem wide70 : PT Try.prog false 102 [.int .i64 (.ofNat 8)] (.bool true) := PT.run plain0 (by kernel_rfl) rfl rfl
theorem wide70d : PT Try.prog false 102 [.int .i64 (.ofNat 4)] (.bool true) := PT.run plain0 (by kernel_rfl) rfl rfl
theorem wide70b : PT Try.prog false 102 [.int .i64 (.ofNat 2)] (.bool true) := PT.run plain0 (by kernel_rfl) rfl rfl
end Go.Proofs.YtlimjjilakldgaaGreat.Q
namespace Go.Proofs.YtlimjjilakldgaaGreat.Q
open Go Go.Abs
attribute [local irreducible] Cmp Rg Dw Cd Lp Ev Rdk CT Upd InK
theorem wide68a : PT Try.prog false 124 [.int .i64 (.ofNat 1)] (.bool true) := PT.run plain0 (by kernel_rfl) rfl rfl
theorem wide70a : PT Try.prog false 102 [.int .i64 (.ofNat 1)] (.bool true) := PT.run plain0 (by kernel_rfl) rfl rfl
theorem deB_snoc : ∀ {l : List Nat} {x : Nat}, deB (l ++ [x]) = deB l + 256 ^ l.length * x
 | [], x => by simp [deB]
 | a :: r, x => by
  simp only [List.cons_append, deB, deB_snoc (l := r), List.length_cons, Nat.pow_succ, Nat.mul_add]
  rw [Nat.mul_comm (256 ^ r.length) 256, Nat.mul_assoc]
  omega
theorem seg_snoc {s : List Nat} {a i x : Nat} (h : s[a + i]? = some x) : sgm s a (a + (i + 1)) = sgm s a (a + i) ++ [x] := by
 rw [← seg_one h, seg_app (by omega) (by omega)]
 rfl
theorem seg_cons {s : List Nat} {a b x : Nat} (h : s[a]? = some x) (hb : a < b) : sgm s a b = x :: sgm s (a + 1) b := by
 rw [← seg_app (s := s) (a := a) (b := a + 1) (c := b) (by omega) (by omega), seg_one h]
 rfl
theorem pow8 {i : Nat} (hi : i < 8) : 2 ^ (8 * i) ≤ 72057594037927936 := by
 have := Nat.pow_le_pow_right (n := 2) (by omega) (show 8 * i ≤ 56 by omega)
 simpa using this
theorem or_u {a x i : Nat} (ha : a < 2 ^ (8 * i)) (hx : x < 256) (hi : i < 8) : abin .or (.int .u64 (.ofNat a)) (.int .u64 (.ofNat (x * 2 ^ (8 * i)))) = some (.int .u64 (.ofNat (a + 2 ^ (8 * i) * x))) := by
 have e : abin .or (.int .u64 (.ofNat a)) (.int .u64 (.ofNat (x * 2 ^ (8 * i)))) = abitw .or .u64 Nat.lor (.ofNat a) (.ofNat (x * 2 ^ (8 * i))) := rfl
 rw [e]
 simp only [abitw]
 have e2 : Nat.lor a (x * 2 ^ (8 * i)) = a + 2 ^ (8 * i) * x := by
  have := Nat.shiftLeft_add_eq_or_of_lt ha x
  rw [Nat.shiftLeft_eq] at this
  show a ||| x * 2 ^ (8 * i) = _
  rw [Nat.or_comm, ← this, Nat.mul_comm x]
  omega
 rw [e2]
 have hp := pow8 hi
 have hm := Nat.mul_le_mul_right (2 ^ (8 * i)) (show x ≤ 255 by omega)
 generalize x * 2 ^ (8 * i) = y at hm
 have et : top .u64 = 18446744073709551615 := by decide
 rw [et, Nat.ble_eq_true_of_le (by omega), Nat.ble_eq_true_of_le (by omega)]
 rfl
theorem shl_u {x i : Nat} (hx : x < 256) (hi : i < 8) : abin .shl (.int .u64 (.ofNat x)) (.int .u64 (.ofNat (8 * i))) = some (.int .u64 (.ofNat (x * 2 ^ (8 * i)))) := by
 have e : abin .shl (.int .u64 (.ofNat x)) (.int .u64 (.ofNat (8 * i))) = ashift true .u64 (.ofNat x) (.ofNat (8 * i)) := rfl
 rw [e]
 have hb : Nat.ble (8 * i) (nbits .u64) = true := Nat.ble_eq_true_of_le (by show 8 * i ≤ 64; omega)
 simp only [ashift, hb, cond_true]
 have hp := pow8 hi
 have hm := Nat.mul_le_mul_right (2 ^ (8 * i)) (show x ≤ 255 by omega)
 generalize x * 2 ^ (8 * i) = y at hm
 rw [awrap_eq]
 congr 2
 simp only [IntKind.wrap, IntKind.bits, IntKind.signed]
 simp
 omega
theorem u8_u64 {x : Nat} (hx : x < 256) : apure .e (.toInt .u64 (.c (.int .u8 (.ofNat x)))) = some (.int .u64 (.ofNat x)) := by
 have e : apure .e (.toInt .u64 (.c (.int .u8 (.ofNat x)))) = some (.int .u64 (awrap .u64 (.ofNat x))) := rfl
 rw [e, awrap_eq]
 congr 2
 simp only [IntKind.wrap, IntKind.bits, IntKind.signed]
 simp
 omega
theorem u64_i64 {u : Nat} (hu : u < 18446744073709551616) : apure .e (.toInt .i64 (.c (.int .u64 (.ofNat u)))) = some (.int .i64 (i64 u)) := by
 have e : apure .e (.toInt .i64 (.c (.int .u64 (.ofNat u)))) = some (.int .i64 (awrap .i64 (.ofNat u))) := rfl
 rw [e, awrap_eq]
 congr 2
 simp only [IntKind.wrap, IntKind.bits, IntKind.signed, i64]
 simp
 split <;> omega
theorem mul8 {i : Nat} (hi : i < 8) : abin .mul (.int .i64 (.ofNat 8)) (.int .i64 (.ofNat i)) = some (.int .i64 (.ofNat (8 * i))) := by
 have e : abin .mul (.int .i64 (.ofNat 8)) (.int .i64 (.ofNat i)) = some (.int .i64 (awrap .i64 (.ofNat (8 * i)))) := rfl
 rw [e, awrap_eq]
 congr 2
 simp only [IntKind.wrap, IntKind.bits, IntKind.signed]
 simp
 omega
theorem segd_lt {s : List Nat} {a b w : Nat} (hs : ∀ x, x ∈ s → x < 256) (hb : b ≤ s.length) (hw : b - a ≤ w) (h8 : w ≤ 8) : deB (sgm s a b) < 256 ^ w := by
 have h := deB_lt (seg_lt (a := a) (b := b) hs)
 rw [seg_len hb] at h
 exact Nat.lt_of_lt_of_le h (Nat.pow_le_pow_right (by omega) hw)
theorem lt8 {n w : Nat} (h : n < 256 ^ w) (h8 : w ≤ 8) : n < 18446744073709551616 := by
 have := Nat.pow_le_pow_right (n := 256) (by omega) h8
 have e : 256 ^ 8 = 18446744073709551616 := by decide
 omega
theorem get81_loop {s : List Nat} {a w : Nat} {Q : AX → SL → Mem → Prop} (hs : ∀ x, x ∈ s → x < 256) (hw : w ≤ 8) (haw : a + w ≤ s.length) (hl : s.length ≤ 1000000)
  (hend : ∀ l', lkS l' 8 = some (.int .u64 (.ofNat (deB (sgm s a (a + w))))) → Q (.ext 1) l' []) :
  ∀ (f i : Nat), w < i + f → i ≤ w → Lp Try.prog false b113_0 f [(0, .str s), (1, .int .i64 (.ofNat a)), (8, .int .u64 (.ofNat (deB (sgm s a (a + i))))), (31, .int .i64 (.ofNat w)), (32, .int .i64 (.ofNat i))] [] Q := by
 intro f
 induction f with
 | zero => intro i h1; omega
 | succ f ih =>
  intro i h1 h2
  refine Lp.round ?_
  by_cases hi : i < w
  ·have hx : s[a + i]? = some s[a + i] := List.getElem?_eq_getElem (by omega)
   have hxl := hs _ (List.mem_of_getElem? hx)
   generalize s[a + i] = x at hx hxl
   have hlt := segd_lt (w := i) (a := a) (b := a + i) hs (by omega) (by omega) (by omega)
   have q1 := idxs_at (k := .i64) hx
   have q2 := u8_u64 hxl
   have q3 := mul8 (i := i) (by omega)
   have q4 := to_u64 (n := 8 * i) (by omega)
   have q5 := shl_u (x := x) (i := i) hxl (by omega)
   have q6 := or_u (a := deB (sgm s a (a + i))) (x := x) (i := i) (by rw [Nat.pow_mul]; exact hlt) hxl (by omega)
   have e : deB (sgm s a (a + i)) + 2 ^ (8 * i) * x = deB (sgm s a (a + (i + 1))) := by
    rw [seg_snoc hx, deB_snoc, seg_len (by omega), Nat.pow_mul, show a + i - a = i by omega]
   rw [e] at q6
   repeat' (first|intro _|refine yS ?_|(apply YB.mk<;>intro hc)|(apply YA.mk;intro cv hv)|(refine yT ?_ ?_<;>(intro e;(try simp only [nbT,nbF] at e);subst e;try contradiction)))
   exact Lp.weak (by exact ⟨rfl, rfl, rfl, rfl, rfl, trivial⟩) (ih (i + 1) (by omega) hi)
  ·obtain rfl : i = w := by omega
   repeat' (first|intro _|refine yS ?_|(apply YB.mk<;>intro hc)|(apply YA.mk;intro cv hv)|(refine yT ?_ ?_<;>(intro e;(try simp only [nbT,nbF] at e);subst e;try contradiction)))
   exact hend _ rfl
theorem get81 {s : List Nat} {a w : Nat} (hs : ∀ x, x ∈ s → x < 256) (hl : s.length ≤ 1000000) (ha : a ≤ 1000000) (hw : w = 1 ∨ w = 2 ∨ w = 4 ∨ w = 8) : PT Try.prog false 113 [.str s, .int .i64 (.ofNat a), .int .i64 (.ofNat w)]
  (if a + w ≤ s.length then .tup [.int .i64 (i64 (deB (sgm s a (a + w)))), .int .i64 (.ofNat 0)] else .tup [.int .i64 (.ofNat 0), .int .i64 (.ofNat 2)]) := by
 have k68 : PT Try.prog false 124 [.int .i64 (.ofNat w)] (.bool true) := by
  rcases hw with rfl | rfl | rfl | rfl
  ·exact wide68a
  ·exact wide68b
  ·exact wide68d
  ·exact wide68
 have h8 : w ≤ 8 := by omega
 refine PT.of (CT.enter mixed comp113 (Nat.le_of_ble_eq_true rfl) ?_)
 by_cases h : a + w ≤ s.length
 ·rw [if_pos h]
  clear hw
  have q1 := u64_i64 (lt8 (segd_lt (w := w) (a := a) (b := a + w) hs h (by omega) h8) h8)
  have key : ∀ l', lkS l' 8 = some (.int .u64 (.ofNat (deB (sgm s a (a + w))))) → Cd Try.prog false (.seq (.reg r113_11) .ret) l' [] (DoneK fn113.results fun v _ => v = .tup [.int .i64 (i64 (deB (sgm s a (a + w)))), .int .i64 (.ofNat 0)]) := by
   intro l' h8
   refine Cd.weak (l2 := [(8, _)]) (And.intro h8 trivial) ?_
   repeat' (first|intro _|refine yS ?_|(apply YB.mk<;>intro hc)|(apply YA.mk;intro cv hv)|(refine yT ?_ ?_<;>(intro e;(try simp only [nbT,nbF] at e);subst e;try contradiction)))
   refine yX ?_
   rfl
  repeat' (first|intro _|refine yS ?_|(apply YB.mk<;>intro hc)|(apply YA.mk;intro cv hv)|(refine yT ?_ ?_<;>(intro e;(try simp only [nbT,nbF] at e);subst e;try contradiction)))
  refine Cd.loop (k := w + 1) (Lp.weak (l2 := [(0, .str s), (1, .int .i64 (.ofNat a)), (8, .int .u64 (.ofNat (deB (sgm s a (a + 0))))), (31, .int .i64 (.ofNat w)), (32, .int .i64 (.ofNat 0))]) ?_ (get81_loop hs h8 h hl key (w + 1) 0 (by omega) (by omega)))
  refine ⟨rfl, rfl, ?_, rfl, rfl, trivial⟩
  rw [show sgm s a (a + 0) = [] by simp [sgm]]
  rfl
 ·rw [if_neg h]
  clear hw
  repeat' (first|intro _|refine yS ?_|(apply YB.mk<;>intro hc)|(apply YA.mk;intro cv hv)|(refine yT ?_ ?_<;>(intro e;(try simp only [nbT,nbF] at e);subst e;try contradiction)))
  all_goals refine yX ?_
  all_goals rfl
def prd : Nat → Int
 | 0 => .negSucc 0
 | i + 1 => .ofNat i
theorem sub_prd {i : Nat} (h : i < 1000) : abin .sub (.int .i64 (.ofNat i)) (.int .i64 (.ofNat 1)) = some (.int .i64 (prd i)) := by
 cases i with
 | zero => rfl
 | succ i => exact sub_nat (a := i + 1) (by omega) (by omega)
theorem mul256 {u : Nat} (h : 256 * u < 18446744073709551616) : abin .mul (.int .u64 (.ofNat 256)) (.int .u64 (.ofNat u)) = some (.int .u64 (.ofNat (256 * u))) := by
 have e : abin .mul (.int .u64 (.ofNat 256)) (.int .u64 (.ofNat u)) = some (.int .u64 (awrap .u64 (.ofNat (256 * u)))) := rfl
 rw [e, awrap_eq]
 congr 2
 simp only [IntKind.wrap, IntKind.bits, IntKind.signed]
 simp
 omega
theorem add_u {u x : Nat} (h : u + x < 18446744073709551616) : abin .add (.int .u64 (.ofNat u)) (.int .u64 (.ofNat x)) = some (.int .u64 (.ofNat (x + u))) := by
 have e : abin .add (.int .u64 (.ofNat u)) (.int .u64 (.ofNat x)) = some (.int .u64 (awrap .u64 (.ofNat (u + x)))) := rfl
 rw [e, awrap_eq, Nat.add_comm u x]
 congr 2
 simp only [IntKind.wrap, IntKind.bits, IntKind.signed]
 simp
 omega
theorem get64_loop {s : List Nat} {a w : Nat} {Q : AX → SL → Mem → Prop} (hs : ∀ x, x ∈ s → x < 256) (hw : w ≤ 8) (haw : a + w ≤ s.length) (hl : s.length ≤ 1000000)
  (hend : ∀ l', lkS l' 8 = some (.int .u64 (.ofNat (deB (sgm s a (a + w))))) → Q (.ext 0) l' []) :
  ∀ (f i : Nat), i < f → i ≤ w → Lp Try.prog false b78_0 f [(0, .str s), (1, .int .i64 (.ofNat a)), (8, .int .u64 (.ofNat (deB (sgm s (a + i) (a + w))))), (9, .int .i64 (prd i))] [] Q := by
 intro f
 induction f with
 | zero => intro i h1; omega
 | succ f ih =>
  intro i h1 h2
  refine Lp.round ?_
  cases i with
  | succ i =>
   simp only [prd]
   have hx : s[a + i]? = some s[a + i] := List.getElem?_eq_getElem (by omega)
   have hxl := hs _ (List.mem_of_getElem? hx)
   generalize s[a + i] = x at hx hxl
   have hlt := segd_lt (w := 7) (a := a + (i + 1)) (b := a + w) hs (by omega) (by omega) (by omega)
   have e7 : 256 ^ 7 = 72057594037927936 := by decide
   rw [e7] at hlt
   have q1 := idxs_at (k := .i64) hx
   have q2 := u8_u64 hxl
   have q3 := mul256 (u := deB (sgm s (a + (i + 1)) (a + w))) (by omega)
   have q4 := add_u (u := 256 * deB (sgm s (a + (i + 1)) (a + w))) (x := x) (by omega)
   have q5 := sub_prd (i := i) (by omega)
   have e : x + 256 * deB (sgm s (a + (i + 1)) (a + w)) = deB (sgm s (a + i) (a + w)) := by
    rw [seg_cons hx (by omega)]
    rfl
   rw [e] at q4
   repeat' (first|intro _|refine yS ?_|(apply YB.mk<;>intro hc)|(apply YA.mk;intro cv hv)|(refine yT ?_ ?_<;>(intro e;(try simp only [nbT,nbF] at e);subst e;try contradiction)))
   exact Lp.weak (by exact ⟨rfl, rfl, rfl, rfl, trivial⟩) (ih i (by omega) (by omega))
  | zero =>
   simp only [prd]
   repeat' (first|intro _|refine yS ?_|(apply YB.mk<;>intro hc)|(apply YA.mk;intro cv hv)|(refine yT ?_ ?_<;>(intro e;(try simp only [nbT,nbF] at e);subst e;try contradiction)))
   exact hend _ rfl
theorem get64 {s : List Nat} {a w : Nat} (hs : ∀ x, x ∈ s → x < 256) (hl : s.length ≤ 1000000) (ha : a ≤ 1000000) (hw : w = 1 ∨ w = 2 ∨ w = 4 ∨ w = 8) : PT Try.prog false 78 [.str s, .int .i64 (.ofNat a), .int .i64 (.ofNat w)]
  (if a + w ≤ s.length then .tup [.int .i64 (i64 (deB (sgm s a (a + w)))), .int .i64 (.ofNat 0)] else .tup [.int .i64 (.ofNat 0), .int .i64 (.ofNat 2)]) := by
 have k70 : PT Try.prog false 102 [.int .i64 (.ofNat w)] (.bool true) := by
  rcases hw with rfl | rfl | rfl | rfl
  ·exact wide70a
  ·exact wide70b
  ·exact wide70d
  ·exact wide70
 have h8 : w ≤ 8 := by omega
 refine PT.of (CT.enter mixed comp78 (Nat.le_of_ble_eq_true rfl) ?_)
 by_cases h : a + w ≤ s.length
 ·rw [if_pos h]
  clear hw
  have q1 := u64_i64 (lt8 (segd_lt (w := w) (a := a) (b := a + w) hs h (by omega) h8) h8)
  have q2 := sub_prd (i := w) (by omega)
  have key : ∀ l', lkS l' 8 = some (.int .u64 (.ofNat (deB (sgm s a (a + w))))) → Cd Try.prog false (.seq (.reg r78_10) .ret) l' [] (DoneK fn78.results fun v _ => v = .tup [.int .i64 (i64 (deB (sgm s a (a + w)))), .int .i64 (.ofNat 0)]) := by
   intro l' h8
   refine Cd.weak (l2 := [(8, _)]) (And.intro h8 trivial) ?_
   repeat' (first|intro _|refine yS ?_|(apply YB.mk<;>intro hc)|(apply YA.mk;intro cv hv)|(refine yT ?_ ?_<;>(intro e;(try simp only [nbT,nbF] at e);subst e;try contradiction)))
   refine yX ?_
   rfl
  repeat' (first|intro _|refine yS ?_|(apply YB.mk<;>intro hc)|(apply YA.mk;intro cv hv)|(refine yT ?_ ?_<;>(intro e;(try simp only [nbT,nbF] at e);subst e;try contradiction)))
  refine Cd.loop (k := w + 1) (Lp.weak (l2 := [(0, .str s), (1, .int .i64 (.ofNat a)), (8, .int .u64 (.ofNat (deB (sgm s (a + w) (a + w))))), (9, .int .i64 (prd w))]) ?_ (get64_loop hs h8 h hl key (w + 1) w (by omega) (by omega)))
  refine ⟨rfl, rfl, ?_, rfl, trivial⟩
  rw [show sgm s (a + w) (a + w) = [] by simp [sgm]]
  rfl
 ·rw [if_neg h]
  clear hw
  repeat' (first|intro _|refine yS ?_|(apply YB.mk<;>intro hc)|(apply YA.mk;intro cv hv)|(refine yT ?_ ?_<;>(intro e;(try simp only [nbT,nbF] at e);subst e;try contradiction)))
  all_goals refine yX ?_
  all_goals rfl
def nextA (s : List Nat) (a : Nat) : AV := if a + 4 ≤ s.length ∧ a + 4 + deB (sgm s a (a + 4)) ≤ s.length then .tup [.str (sgm s (a + 4) (a + 4 + deB (sgm s a (a + 4)))), .int .i64 (.ofNat (a + 4 + deB (sgm s a (a + 4)))), .int .i64 (.ofNat 0)] else .tup [.str [], .int .i64 (.ofNat 0), .int .i64 (.ofNat 2)]
theorem i64_lo {u : Nat} (h : u < 4294967296) : i64 u = .ofNat u := by unfold i64; rw [if_pos (by omega)]; rfl
theorem next82 {s : List Nat} {a : Nat} (hs : ∀ x, x ∈ s → x < 256) (hl : s.length ≤ 1000000) (ha : a ≤ 1000000) : PT Try.prog false 114 [.str s, .int .i64 (.ofNat a)] (nextA s a) := by
 have k := get81 (a := a) (w := 4) hs hl ha (by omega)
 unfold nextA
 by_cases h : a + 4 ≤ s.length
 ·have hlt := segd_lt (w := 4) (a := a) (b := a + 4) hs h (by omega) (by omega)
  have e4 : 256 ^ 4 = 4294967296 := by decide
  rw [e4] at hlt
  rw [if_pos h, i64_lo hlt] at k
  generalize deB (sgm s a (a + 4)) = n at k hlt
  have q1 := sstr_from (s := s) (k := .i64) (m := a + 4) h
  have q2 : (s.drop (a + 4)).length = s.length - (a + 4) := List.length_drop
  refine PT.of (CT.enter mixed comp114 (Nat.le_of_ble_eq_true rfl) ?_)
  by_cases h2 : a + 4 + n ≤ s.length
  ·rw [if_pos ⟨h, h2⟩]
   have q3 := sstr_to (s := s.drop (a + 4)) (k := .i64) (n := n) (by omega)
   rw [show (s.drop (a + 4)).take n = sgm s (a + 4) (a + 4 + n) by unfold sgm; congr 1; omega] at q3
   repeat' (first|intro _|refine yS ?_|(apply YB.mk<;>intro hc)|(apply YA.mk;intro cv hv)|(refine yT ?_ ?_<;>(intro e;(try simp only [nbT,nbF] at e);subst e;try contradiction)))
   all_goals refine yX ?_
   all_goals rfl
  ·rw [if_neg (by omega)]
   repeat' (first|intro _|refine yS ?_|(apply YB.mk<;>intro hc)|(apply YA.mk;intro cv hv)|(refine yT ?_ ?_<;>(intro e;(try simp only [nbT,nbF] at e);subst e;try contradiction)))
   all_goals refine yX ?_
   all_goals rfl
 ·rw [if_neg h] at k
  rw [if_neg (by omega)]
  refine PT.of (CT.enter mixed comp114 (Nat.le_of_ble_eq_true rfl) ?_)
  repeat' (first|intro _|refine yS ?_|(apply YB.mk<;>intro hc)|(apply YA.mk;intro cv hv)|(refine yT ?_ ?_<;>(intro e;(try simp only [nbT,nbF] at e);subst e;try contradiction)))
  refine yX ?_
  rfl
theorem sub2 {n a : Nat} (h : a ≤ n) (hn : n ≤ 1000000) : abin .sub (.int .i64 (.ofNat n)) (.int .i64 (.ofNat a)) = some (.int .i64 (.ofNat (n - a))) := sub_nat h (by omega)
theorem next75 {s : List Nat} {a : Nat} (hs : ∀ x, x ∈ s → x < 256) (hl : s.length ≤ 1000000) (ha : a ≤ 1000000) : PT Try.prog false 100 [.str s, .int .i64 (.ofNat a)] (nextA s a) := by
 have k := get64 (a := a) (w := 4) hs hl ha (by omega)
 unfold nextA
 by_cases h : a + 4 ≤ s.length
 ·have hlt := segd_lt (w := 4) (a := a) (b := a + 4) hs h (by omega) (by omega)
  have e4 : 256 ^ 4 = 4294967296 := by decide
  rw [e4] at hlt
  rw [if_pos h, i64_lo hlt] at k
  generalize deB (sgm s a (a + 4)) = n at k hlt
  have p1 := sub2 (n := s.length) (a := a) (by omega) hl
  have p2 := sub2 (n := s.length - a) (a := 4) (by omega) (by omega)
  refine PT.of (CT.enter mixed comp100 (Nat.le_of_ble_eq_true rfl) ?_)
  by_cases h2 : a + 4 + n ≤ s.length
  ·rw [if_pos ⟨h, h2⟩]
   have q3 := sstr_of (s := s) (k := .i64) (j := .i64) (m := a + 4) (n := a + 4 + n) h2 (by omega)
   rw [show (s.drop (a + 4)).take (a + 4 + n - (a + 4)) = sgm s (a + 4) (a + 4 + n) from rfl] at q3
   repeat' (first|intro _|refine yS ?_|(apply YB.mk<;>intro hc)|(apply YA.mk;intro cv hv)|(refine yT ?_ ?_<;>(intro e;(try simp only [nbT,nbF] at e);subst e;try contradiction)))
   all_goals refine yX ?_
   all_goals rfl
  ·rw [if_neg (by omega)]
   repeat' (first|intro _|refine yS ?_|(apply YB.mk<;>intro hc)|(apply YA.mk;intro cv hv)|(refine yT ?_ ?_<;>(intro e;(try simp only [nbT,nbF] at e);subst e;try contradiction)))
   all_goals refine yX ?_
   all_goals rfl
 ·rw [if_neg h] at k
  rw [if_neg (by omega)]
  refine PT.of (CT.enter mixed comp100 (Nat.le_of_ble_eq_true rfl) ?_)
  repeat' (first|intro _|refine yS ?_|(apply YB.mk<;>intro hc)|(apply YA.mk;intro cv hv)|(refine yT ?_ ?_<;>(intro e;(try simp only [nbT,nbF] at e);subst e;try contradiction)))
  refine yX ?_
  rfl
end Go.Proofs.YtlimjjilakldgaaGreat.Q
namespace Go.Proofs.YtlimjjilakldgaaGreat.Q
open Go Go.Abs
attribute [local irreducible] Cmp Rg Dw Cd Lp Ev Rdk CT Upd InK
theorem whole92 {n : Int} : PT Try.prog false 132 [.int .i64 n] (.tup [valA ⟨1, n, []⟩, .int .i64 (.ofNat 0)]) := by
 refine PT.of (CT.enter mixed comp132 (Nat.le_of_ble_eq_true rfl) ?_)
 repeat' (first|intro _|refine yS ?_|(apply YB.mk<;>intro hc)|(apply YA.mk;intro cv hv)|(refine yT ?_ ?_<;>(intro e;(try simp only [nbT,nbF] at e);subst e;try contradiction)))
 refine yX ?_
 rfl
theorem truth89 {t : Bool} : PT Try.prog false 128 [.bool t] (.tup [valA ⟨1, one t, []⟩, .int .i64 (.ofNat 0)]) := by
 refine PT.of (CT.enter mixed comp128 (Nat.le_of_ble_eq_true rfl) ?_)
 have k0 := whole92 (n := Int.ofNat 0)
 have k1 := whole92 (n := Int.ofNat 1)
 cases t
 ·repeat' (first|intro _|refine yS ?_|(apply YB.mk<;>intro hc)|(apply YA.mk;intro cv hv)|(refine yT ?_ ?_<;>(intro e;(try simp only [nbT,nbF] at e);subst e;try contradiction)))
  refine yX ?_
  rfl
 ·repeat' (first|intro _|refine yS ?_|(apply YB.mk<;>intro hc)|(apply YA.mk;intro cv hv)|(refine yT ?_ ?_<;>(intro e;(try simp only [nbT,nbF] at e);subst e;try contradiction)))
  refine yX ?_
  rfl
theorem known87 : PT Try.prog false 126 [.str [60]] (.bool true) := PT.run plain0 (by kernel_rfl) rfl rfl
theorem numbers90 {a b : Int} : PT Try.prog false 129 [.str [60], .int .i64 a, .int .i64 b] (.tup [valA ⟨1, one (decide (a < b)), []⟩, .int .i64 (.ofNat 0)]) := by
 refine PT.of (CT.enter mixed comp129 (Nat.le_of_ble_eq_true rfl) ?_)
 have k89 := truth89 (t := decide (a < b))
 by_cases h : a < b
 ·rw [decide_eq_true h] at k89 ⊢
  repeat' (first|intro _|refine yU ?_|(apply YA.mk;intro cv hv)|(refine yT ?_ ?_<;>(intro e;(try simp only [nbT,nbF] at e);subst e;try contradiction)))
  refine yX ?_
  rfl
 ·rw [decide_eq_false h] at k89 ⊢
  repeat' (first|intro _|refine yU ?_|(apply YA.mk;intro cv hv)|(refine yT ?_ ?_<;>(intro e;(try simp only [nbT,nbF] at e);subst e;try contradiction)))
  refine yX ?_
  rfl
theorem texts91 {x y : List Nat} : PT Try.prog false 130 [.str [60], .str x, .str y] (.tup [valA ⟨1, one (nless x y), []⟩, .int .i64 (.ofNat 0)]) := by
 refine PT.of (CT.enter mixed comp130 (Nat.le_of_ble_eq_true rfl) ?_)
 have k89 := truth89 (t := nless x y)
 have e : abin .lss (.str x) (.str y) = some (.bool (nless x y)) := rfl
 repeat' (first|intro _|refine yU ?_|(apply YA.mk;intro cv hv)|(refine yT ?_ ?_<;>(intro e;(try simp only [nbT,nbF] at e);subst e;try contradiction)))
 refine yX ?_
 rfl
theorem two84 {a b : Val} (hk : a.k = 1 ∨ a.k = 2) (h : a.k = b.k) : PT Try.prog false 117 [.str [60], valA a, valA b] (.tup [valA ⟨1, one (aheadB a b), []⟩, .int .i64 (.ofNat 0)]) := by
 have k87 := known87
 have k90 := numbers90 (a := a.n) (b := b.n)
 have k91 := texts91 (x := a.s) (y := b.s)
 have k76 := in59 (k := a)
 refine PT.of (CT.enter mixed comp117 (Nat.le_of_ble_eq_true rfl) ?_)
 rcases hk with h1 | h2
 ·rw [show aheadB a b = decide (a.n < b.n) by unfold aheadB; rw [if_neg (fun hn => hn h), if_pos h1]]
  rw [if_pos h1] at k76
  repeat' (first|intro _|refine yU ?_|(apply YA.mk;intro cv hv)|(refine yT ?_ ?_<;>(intro e;(try simp only [nbT,nbF] at e);subst e;try contradiction)))
  refine yX ?_
  rfl
 ·rw [show aheadB a b = nless a.s b.s by unfold aheadB; rw [if_neg (fun hn => hn h), if_neg (by omega)]]
  rw [if_neg (by omega), if_pos h2] at k76
  repeat' (first|intro _|refine yU ?_|(apply YA.mk;intro cv hv)|(refine yT ?_ ?_<;>(intro e;(try simp only [nbT,nbF] at e);subst e;try contradiction)))
  refine yX ?_
  rfl
theorem truth85 {t : Bool} : PT Try.prog false 118 [valA ⟨1, one t, []⟩] (.bool t) := by
 refine PT.of (CT.enter mixed comp118 (Nat.le_of_ble_eq_true rfl) ?_)
 cases t with
 | true =>
  have q : aeq (.flat true [.i, .i, .s]) (.agg (valR ⟨1, one true, []⟩)) (.agg (valR ⟨1, 0, []⟩)) = some false := by kernel_rfl
  repeat' (first|intro _|refine yU ?_|(apply YA.mk;intro cv hv)|(refine yT ?_ ?_<;>(intro e;(try simp only [nbT,nbF] at e);subst e;try contradiction)))
  refine yX ?_
  rfl
 | false =>
  have q : aeq (.flat true [.i, .i, .s]) (.agg (valR ⟨1, one false, []⟩)) (.agg (valR ⟨1, 0, []⟩)) = some true := by kernel_rfl
  repeat' (first|intro _|refine yU ?_|(apply YA.mk;intro cv hv)|(refine yT ?_ ?_<;>(intro e;(try simp only [nbT,nbF] at e);subst e;try contradiction)))
  refine yX ?_
  rfl
theorem is83 {s : List Nat} : PT Try.prog false 115 [valA ⟨2, 0, s⟩] (.bool (decide (s.length ≤ 1024))) := by
 refine PT.of (CT.enter mixed comp115 (Nat.le_of_ble_eq_true rfl) ?_)
 by_cases h : s.length ≤ 1024
 ·rw [decide_eq_true h]
  repeat' (first|intro _|refine yU ?_|(apply YA.mk;intro cv hv)|(refine yT ?_ ?_<;>(intro e;(try simp only [nbT,nbF] at e);subst e;try contradiction)))
  refine yX ?_
  rfl
 ·rw [decide_eq_false h]
  repeat' (first|intro _|refine yU ?_|(apply YA.mk;intro cv hv)|(refine yT ?_ ?_<;>(intro e;(try simp only [nbT,nbF] at e);subst e;try contradiction)))
  refine yX ?_
  rfl
theorem follows74 {a b : Val} (hk : b.k = 1 ∨ b.k = 2) : PT Try.prog false 98 [valA a, valA b] (.bool (aheadB a b)) := by
 have k85 := truth85 (t := aheadB a b)
 refine PT.of (CT.enter mixed comp98 (Nat.le_of_ble_eq_true rfl) ?_)
 by_cases h : a.k = b.k
 ·have k84 := two84 (a := a) (b := b) (by omega) h
  generalize aheadB a b = t at *
  repeat' (first|intro _|refine yU ?_|(apply YA.mk;intro cv hv)|(refine yT ?_ ?_<;>(intro e;(try simp only [nbT,nbF] at e);subst e;try contradiction)))
  refine yX ?_
  subst hv
  rfl
 ·rw [show aheadB a b = decide (a.k < b.k) by rw [aheadB, if_pos h]]
  by_cases h2 : a.k < b.k
  ·rw [decide_eq_true h2]
   repeat' (first|intro _|refine yU ?_|(apply YA.mk;intro cv hv)|(refine yT ?_ ?_<;>(intro e;(try simp only [nbT,nbF] at e);subst e;try contradiction)))
   refine yX ?_
   rfl
  ·rw [decide_eq_false h2]
   repeat' (first|intro _|refine yU ?_|(apply YA.mk;intro cv hv)|(refine yT ?_ ?_<;>(intro e;(try simp only [nbT,nbF] at e);subst e;try contradiction)))
   refine yX ?_
   rfl
theorem behind65 {a b : Val} (ha : a.k = 1 ∨ a.k = 2) (hb : b.k = 1 ∨ b.k = 2) (h1 : a.s.length ≤ 1024) (h2 : b.s.length ≤ 1024) : PT Try.prog false 80 [valA a, valA b] (.bool (aheadB a b)) := by
 have k19 := two19 (a := a) (b := b) ha (by omega) (by omega)
 refine PT.of (CT.enter mixed comp80 (Nat.le_of_ble_eq_true rfl) ?_)
 by_cases h : a.k = b.k
 ·rw [if_pos h] at k19
  cases hb : aheadB a b with
  | true =>
   rw [hb] at k19
   repeat' (first|intro _|refine yS ?_|(apply YB.mk<;>intro hc)|(apply YA.mk;intro cv hv)|(refine yT ?_ ?_<;>(intro e;(try simp only [nbT,nbF] at e);subst e;try contradiction)))
   refine yX ?_
   rfl
  | false =>
   rw [hb] at k19
   repeat' (first|intro _|refine yS ?_|(apply YB.mk<;>intro hc)|(apply YA.mk;intro cv hv)|(refine yT ?_ ?_<;>(intro e;(try simp only [nbT,nbF] at e);subst e;try contradiction)))
   refine yX ?_
   rfl
 ·rw [show aheadB a b = decide (a.k < b.k) by rw [aheadB, if_pos h]]
  rcases ha with ha | ha
  ·rw [decide_eq_true (by omega)]
   repeat' (first|intro _|refine yS ?_|(apply YB.mk<;>intro hc)|(apply YA.mk;intro cv hv)|(refine yT ?_ ?_<;>(intro e;(try simp only [nbT,nbF] at e);subst e;try contradiction)))
   refine yX ?_
   rfl
  ·rw [decide_eq_false (by omega)]
   repeat' (first|intro _|refine yS ?_|(apply YB.mk<;>intro hc)|(apply YA.mk;intro cv hv)|(refine yT ?_ ?_<;>(intro e;(try simp only [nbT,nbF] at e);subst e;try contradiction)))
   refine yX ?_
   rfl
end Go.Proofs.YtlimjjilakldgaaGreat.Q
namespace Go.Proofs.YtlimjjilakldgaaGreat.Q
open Go Go.Abs
theorem ScOk.len {v : Val} (h : ScOk v) : v.s.length ≤ 1024 := by
 rcases h with rfl | ⟨_, h, _⟩ | ⟨_, _, h⟩
 ·simp [v0]
 ·simp [h]
 ·exact h.1
structure Bld (σ : Type) where
 tb : σ → σ × Val
 pt : σ → Val → Val → Val → σ
abbrev DR (σ : Type) := Option (Val × σ × Nat × Nat × Nat)
def rdK (s : List Nat) (a : Nat) : Option (Val × Nat) := match rdS s a with
 | none => none
 | some (k, to) => if keyB k = true then some (k, to) else none
section
variable {σ : Type}
def decL (B : Bld σ) (s : List Nat) (g : σ → Nat → Nat → DR σ) (t : Val) : Nat → Val → σ → Nat → Nat → Option (σ × Nat × Nat × Nat)
 | 0, _, x, a, l => some (x, a, l, 0)
 | n + 1, last, x, a, l => match rdK s a with
  | none => none
  | some (k, to) => if aheadB last k = true then match g x to l with
    | none => none
    | some (v, x1, a1, l1, m1) => if v.k = 0 then none else match decL B s g t n k (B.pt x1 t k v) a1 l1 with
     | none => none
     | some (x2, a2, l2, m2) => some (x2, a2, l2, m1 + m2)
   else none
def dec (B : Bld σ) (s : List Nat) : Nat → σ → Nat → Nat → DR σ
 | 0, _, _, _ => none
 | _ + 1, _, _, 0 => none
 | f + 1, x, a, l + 1 => match s[a]? with
  | none => none
  | some c => if c = 3 then
    if a + 3 ≤ s.length then match decL B s (dec B s f) (B.tb x).2 (deB (sgm s (a + 1) (a + 3))) v0 (B.tb x).1 (a + 3) l with
     | none => none
     | some (x2, a2, l2, m) => some ((B.tb x).2, x2, a2, l2, 1 + deB (sgm s (a + 1) (a + 3)) + m)
    else none
   else match rdS s a with
    | none => none
    | some (v, to) => some (v, x, to, l, 0)
theorem rdS_le {s : List Nat} {a b : Nat} {v : Val} (h : rdS s a = some (v, b)) : a < b ∧ b ≤ s.length := by
 unfold rdS at h
 split at h
 ·rename_i h0
  cases h
  obtain ⟨ha, _⟩ := List.getElem?_eq_some_iff.1 h0
  omega
 ·split at h
  ·cases h; omega
  ·cases h
 ·split at h
  ·split at h
   ·cases h; omega
   ·cases h
  ·cases h
 ·cases h
theorem rdK_S {s : List Nat} {a b : Nat} {v : Val} (h : rdK s a = some (v, b)) : rdS s a = some (v, b) ∧ keyB v = true := by
 unfold rdK at h
 split at h
 ·cases h
 ·rename_i k to h1
  split at h
  ·rename_i hk
   cases h
   exact ⟨h1, hk⟩
  ·cases h
theorem decL_le {B : Bld σ} {s : List Nat} {g : σ → Nat → Nat → DR σ} {t : Val} (hg : ∀ x a l v x1 a1 l1 m, g x a l = some (v, x1, a1, l1, m) → a < a1 ∧ a1 ≤ s.length ∧ l1 < l ∧ m + 1 ≤ 2 * (l - l1)) :
  ∀ {n : Nat} {last : Val} {x : σ} {a l : Nat} {x2 : σ} {a2 l2 m : Nat}, decL B s g t n last x a l = some (x2, a2, l2, m) → a ≤ s.length → a ≤ a2 ∧ a2 ≤ s.length ∧ l2 ≤ l ∧ m + n ≤ 2 * (l - l2)
 | 0, last, x, a, l, x2, a2, l2, m, h, ha => by
  simp only [decL, Option.some.injEq, Prod.mk.injEq] at h
  obtain ⟨rfl, rfl, rfl, rfl⟩ := h
  exact ⟨Nat.le_refl _, ha, Nat.le_refl _, by omega⟩
 | n + 1, last, x, a, l, x2, a2, l2, m, h, ha => by
  simp only [decL] at h
  split at h
  ·cases h
  ·rename_i k to hk
   split at h
   ·split at h
    ·cases h
    ·rename_i v x1 a1 l1 m1 h1
     split at h
     ·cases h
     ·split at h
      ·cases h
      ·rename_i x3 a3 l3 m3 h3
       simp only [Option.some.injEq, Prod.mk.injEq] at h
       obtain ⟨rfl, rfl, rfl, rfl⟩ := h
       obtain ⟨k1, k2⟩ := rdS_le (rdK_S hk).1
       obtain ⟨g1, g2, g3, g4⟩ := hg _ _ _ _ _ _ _ _ h1
       obtain ⟨r1, r2, r3, r4⟩ := decL_le hg h3 g2
       omega
   ·cases h
theorem dec_le {B : Bld σ} {s : List Nat} : ∀ {f : Nat} {x : σ} {a l : Nat} {v : Val} {x1 : σ} {a1 l1 m : Nat}, dec B s f x a l = some (v, x1, a1, l1, m) → a < a1 ∧ a1 ≤ s.length ∧ l1 < l ∧ m + 1 ≤ 2 * (l - l1)
 | 0, x, a, l, v, x1, a1, l1, m, h => by simp [dec] at h
 | f + 1, x, a, 0, v, x1, a1, l1, m, h => by simp [dec] at h
 | f + 1, x, a, l + 1, v, x1, a1, l1, m, h => by
  simp only [dec] at h
  split at h
  ·cases h
  ·rename_i c hc
   split at h
   ·split at h
    ·rename_i h3
     split at h
     ·cases h
     ·rename_i x2 a2 l2 m2 h2
      simp only [Option.some.injEq, Prod.mk.injEq] at h
      obtain ⟨rfl, rfl, rfl, rfl, rfl⟩ := h
      obtain ⟨r1, r2, r3, r4⟩ := decL_le (fun _ _ _ _ _ _ _ _ h => dec_le h) h2 h3
      omega
    ·cases h
   ·split at h
    ·cases h
    ·rename_i v2 to h2
     simp only [Option.some.injEq, Prod.mk.injEq] at h
     obtain ⟨rfl, rfl, rfl, rfl, rfl⟩ := h
     obtain ⟨k1, k2⟩ := rdS_le h2
     omega
end
def openB : Bld Unit := ⟨fun _ => ((), ⟨3, 0, []⟩), fun _ _ _ _ => ()⟩
end Go.Proofs.YtlimjjilakldgaaGreat.Q
namespace Go.Proofs.YtlimjjilakldgaaGreat.Q
open Go Go.Abs
attribute [local irreducible] Cmp Rg Dw Cd Lp Ev Rdk CT Upd InK
theorem int31 {n : Int} : PT Try.prog false 99 [.int .i64 n] (valA ⟨1, n, []⟩) := by
 refine PT.of (CT.enter mixed comp99 (Nat.le_of_ble_eq_true rfl) ?_)
 repeat' (first|intro _|refine yS ?_|(apply YB.mk<;>intro hc)|(apply YA.mk;intro cv hv)|(refine yT ?_ ?_<;>(intro e;(try simp only [nbT,nbF] at e);subst e;try contradiction)))
 refine yX ?_
 rfl
theorem text32 {s : List Nat} : PT Try.prog false 101 [.str s] (valA ⟨2, 0, s⟩) := by
 refine PT.of (CT.enter mixed comp101 (Nat.le_of_ble_eq_true rfl) ?_)
 repeat' (first|intro _|refine yS ?_|(apply YB.mk<;>intro hc)|(apply YA.mk;intro cv hv)|(refine yT ?_ ?_<;>(intro e;(try simp only [nbT,nbF] at e);subst e;try contradiction)))
 refine yX ?_
 rfl
def readA (s : List Nat) (a : Nat) : AV := match rdS s a with
 | some (v, to) => .tup [valA v, .int .i64 (.ofNat to)]
 | none => .tup [valA v0, .int .i64 (.negSucc 0)]
section
variable {s : List Nat} {a : Nat}
theorem rdS_no (h : s.length ≤ a) : rdS s a = none := by
 unfold rdS; rw [List.getElem?_eq_none h]
theorem rdS_0 (h : s[a]? = some 0) : rdS s a = some (v0, a + 1) := by
 unfold rdS; rw [h]; rfl
theorem rdS_1 (h : s[a]? = some 1) : rdS s a = if a + 9 ≤ s.length then some (⟨1, i64 (deB (sgm s (a + 1) (a + 9))), []⟩, a + 9) else none := by
 unfold rdS; rw [h]; rfl
theorem rdS_2 (h : s[a]? = some 2) : rdS s a = if a + 5 ≤ s.length then
   if a + 5 + deB (sgm s (a + 1) (a + 5)) ≤ s.length ∧ deB (sgm s (a + 1) (a + 5)) ≤ 1024 then
    some (⟨2, 0, sgm s (a + 5) (a + 5 + deB (sgm s (a + 1) (a + 5)))⟩, a + 5 + deB (sgm s (a + 1) (a + 5))) else none
  else none := by
 unfold rdS; rw [h]; rfl
theorem rdS_x {x : Nat} (h : s[a]? = some x) (h0 : x ≠ 0) (h1 : x ≠ 1) (h2 : x ≠ 2) : rdS s a = none := by
 unfold rdS; rw [h]
 split <;> simp_all
theorem nlit {x n : Nat} (h : x ≠ n) : abin .eql (.int .u8 (.ofNat x)) (.int .u8 (.ofNat n)) = some (.bool false) := by
 have e : abin .eql (.int .u8 (.ofNat x)) (.int .u8 (.ofNat n)) = some (.bool (ieq (.ofNat x) (.ofNat n))) := rfl
 rw [e, ieq_dec, decide_eq_false fun e => h (Int.ofNat.inj e)]
theorem read63 (hs : ∀ x, x ∈ s → x < 256) (hl : s.length ≤ 900000) (ha : a ≤ 900000) : PT Try.prog false 77 [.str s, .int .i64 (.ofNat a)] (readA s a) := by
 refine PT.of (CT.enter mixed comp77 (Nat.le_of_ble_eq_true rfl) ?_)
 unfold readA
 by_cases h : a < s.length
 ·have hx : s[a]? = some s[a] := List.getElem?_eq_getElem h
  generalize s[a] = x at hx
  have q1 := idxs_at (k := .i64) hx
  by_cases h0 : x = 0
  ·subst h0
   rw [rdS_0 hx]
   repeat' (first|intro _|refine yS ?_|(apply YB.mk<;>intro hc)|(apply YA.mk;intro cv hv)|(refine yT ?_ ?_<;>(intro e;(try simp only [nbT,nbF] at e);subst e;try contradiction)))
   refine yX ?_
   rfl
  have n0 := nlit h0
  by_cases h1 : x = 1
  ·subst h1
   have k := get64 (a := a + 1) (w := 8) hs (by omega) (by omega) (by omega)
   rw [show a + 1 + 8 = a + 9 by omega] at k
   rw [rdS_1 hx]
   have k31 := int31 (n := i64 (deB (sgm s (a + 1) (a + 9))))
   by_cases h9 : a + 9 ≤ s.length
   ·rw [if_pos h9] at k
    rw [if_pos h9]
    repeat' (first|intro _|refine yS ?_|(apply YB.mk<;>intro hc)|(apply YA.mk;intro cv hv)|(refine yT ?_ ?_<;>(intro e;(try simp only [nbT,nbF] at e);subst e;try contradiction)))
    refine yX ?_
    rfl
   ·rw [if_neg h9] at k
    rw [if_neg h9]
    repeat' (first|intro _|refine yS ?_|(apply YB.mk<;>intro hc)|(apply YA.mk;intro cv hv)|(refine yT ?_ ?_<;>(intro e;(try simp only [nbT,nbF] at e);subst e;try contradiction)))
    refine yX ?_
    rfl
  have n1 := nlit h1
  by_cases h2 : x = 2
  ·subst h2
   have k := next75 (a := a + 1) hs (by omega) (by omega)
   unfold nextA at k
   rw [show a + 1 + 4 = a + 5 by omega] at k
   rw [rdS_2 hx]
   generalize hn : deB (sgm s (a + 1) (a + 5)) = n at *
   have k32 := text32 (s := sgm s (a + 5) (a + 5 + n))
   by_cases h5 : a + 5 ≤ s.length ∧ a + 5 + n ≤ s.length
   ·rw [if_pos h5] at k
    rw [if_pos h5.1]
    have hsl := seg_len (s := s) (a := a + 5) (b := a + 5 + n) h5.2
    by_cases h6 : n ≤ 1024
    ·rw [if_pos ⟨h5.2, h6⟩]
     repeat' (first|intro _|refine yS ?_|(apply YB.mk<;>intro hc)|(apply YA.mk;intro cv hv)|(refine yT ?_ ?_<;>(intro e;(try simp only [nbT,nbF] at e);subst e;try contradiction)))
     all_goals refine yX ?_
     all_goals rfl
    ·rw [if_neg (by omega)]
     repeat' (first|intro _|refine yS ?_|(apply YB.mk<;>intro hc)|(apply YA.mk;intro cv hv)|(refine yT ?_ ?_<;>(intro e;(try simp only [nbT,nbF] at e);subst e;try contradiction)))
     all_goals refine yX ?_
     all_goals rfl
   ·rw [if_neg h5] at k
    have e : (if a + 5 ≤ s.length then if a + 5 + n ≤ s.length ∧ n ≤ 1024 then some (({ k := 2, n := 0, s := sgm s (a + 5) (a + 5 + n) } : Val), a + 5 + n) else none else none) = none := by
     split
     ·rw [if_neg (by omega)]
     ·rfl
    rw [e]
    repeat' (first|intro _|refine yS ?_|(apply YB.mk<;>intro hc)|(apply YA.mk;intro cv hv)|(refine yT ?_ ?_<;>(intro e;(try simp only [nbT,nbF] at e);subst e;try contradiction)))
    refine yX ?_
    rfl
  have n2 := nlit h2
  rw [rdS_x hx h0 h1 h2]
  repeat' (first|intro _|refine yS ?_|(apply YB.mk<;>intro hc)|(apply YA.mk;intro cv hv)|(refine yT ?_ ?_<;>(intro e;(try simp only [nbT,nbF] at e);subst e;try contradiction)))
  refine yX ?_
  rfl
 ·rw [rdS_no (by omega)]
  repeat' (first|intro _|refine yS ?_|(apply YB.mk<;>intro hc)|(apply YA.mk;intro cv hv)|(refine yT ?_ ?_<;>(intro e;(try simp only [nbT,nbF] at e);subst e;try contradiction)))
  refine yX ?_
  rfl
abbrev b3 (b : Nat) (v : Val) : Chk := [(b, .cells (valR v) 0 0 false)]
abbrev rdC (rd : Nat) (s : List Nat) (a : Nat) (left : Int) (nd : Nat) (tf pf : AV) : Chk := [(rd, .cells [.str s, .int .i64 (.ofNat a), .int .i64 left, .int .i64 (.ofNat nd), tf, pf] 0 0 false)]
abbrev rdP (rd : Nat) : AV := .ptr rd 0 0 6
variable {rd nd : Nat} {left : Int} {tf pf : AV}
theorem num71 (hs : ∀ x, x ∈ s → x < 256) (hl : s.length ≤ 900000) (ha : a ≤ 900000) {w : Nat} (hw : w = 1 ∨ w = 2 ∨ w = 4 ∨ w = 8) : CT Try.prog false 95 [rdP rd, .int .i64 (.ofNat w)] [rdC rd s a left nd tf pf]
  fun v K' => if a + w ≤ s.length then v = .tup [.int .i64 (i64 (deB (sgm s a (a + w)))), .bool true] ∧ K' = [rdC rd s (a + w) left nd tf pf] else v = .tup [.int .i64 (.ofNat 0), .bool false] ∧ K' = [rdC rd s a left nd tf pf] := by
 have k := get81 (a := a) (w := w) hs (by omega) (by omega) hw
 refine CT.enterS mixed comp95 (Nat.le_of_ble_eq_true rfl) ?_
 by_cases h : a + w ≤ s.length
 ·rw [if_pos h] at k
  clear hw
  simp only [if_pos h]
  repeat' (first|intro _|refine yS ?_|(apply YB.mk<;>intro hc)|(apply YA.mk;intro cv hv)|(refine yT ?_ ?_<;>(intro e;(try simp only [nbT,nbF] at e);subst e;try contradiction)))
  refine yX ?_
  exact ⟨_, _, (.cons (.here) (.nil)), rfl, rfl⟩
 ·rw [if_neg h] at k
  clear hw
  simp only [if_neg h]
  repeat' (first|intro _|refine yS ?_|(apply YB.mk<;>intro hc)|(apply YA.mk;intro cv hv)|(refine yT ?_ ?_<;>(intro e;(try simp only [nbT,nbF] at e);subst e;try contradiction)))
  refine yX ?_
  exact ⟨_, _, (.cons (.here) (.nil)), rfl, rfl⟩
theorem scalar72 (hs : ∀ x, x ∈ s → x < 256) (hl : s.length ≤ 900000) {x : Nat} (hx : s[a]? = some x) : CT Try.prog false 96 [rdP rd, .int .i64 (.ofNat x)] [rdC rd s (a + 1) left nd tf pf]
  fun w K' => (∃ v to, rdS s a = some (v, to) ∧ w = .tup [valA v, .bool true] ∧ K' = [rdC rd s to left nd tf pf]) ∨ (rdS s a = none ∧ ∃ v a2, w = .tup [valA v, .bool false] ∧ K' = [rdC rd s a2 left nd tf pf]) := by
 have hal : a < s.length := (List.getElem?_eq_some_iff.1 hx).1
 refine CT.enterS mixed comp96 (Nat.le_of_ble_eq_true rfl) ?_
 by_cases h0 : x = 0
 ·subst h0
  repeat' (first|intro _|refine yS ?_|(apply YB.mk<;>intro hc)|(apply YA.mk;intro cv hv)|(refine yT ?_ ?_<;>(intro e;(try simp only [nbT,nbF] at e);subst e;try contradiction)))
  refine yX ?_
  exact ⟨_, _, (.cons (.there (.here)) (.nil)), .inl ⟨_, _, rdS_0 hx, rfl, rfl⟩⟩
 by_cases h1 : x = 1
 ·subst h1
  have k := num71 (a := a + 1) (w := 8) (rd := rd) (left := left) (nd := nd) (tf := tf) (pf := pf) hs hl (by omega) (by omega)
  rw [show a + 1 + 8 = a + 9 by omega] at k
  have hr := rdS_1 hx
  by_cases h9 : a + 9 ≤ s.length
  ·simp only [if_pos h9] at k
   rw [if_pos h9] at hr
   repeat' (first|(refine Rg.callM rfl k (.cons (.there (.here)) (.nil)) ?_; rintro _ _ ⟨rfl, rfl⟩)|intro _|refine yS ?_|(apply YB.mk<;>intro hc)|(apply YA.mk;intro cv hv)|(refine yT ?_ ?_<;>(intro e;(try simp only [nbT,nbF] at e);subst e;try contradiction)))
   refine yX ?_
   exact ⟨_, _, (.cons (.here) (.nil)), .inl ⟨_, _, hr, rfl, rfl⟩⟩
  ·simp only [if_neg h9] at k
   rw [if_neg h9] at hr
   repeat' (first|(refine Rg.callM rfl k (.cons (.there (.here)) (.nil)) ?_; rintro _ _ ⟨rfl, rfl⟩)|intro _|refine yS ?_|(apply YB.mk<;>intro hc)|(apply YA.mk;intro cv hv)|(refine yT ?_ ?_<;>(intro e;(try simp only [nbT,nbF] at e);subst e;try contradiction)))
   refine yX ?_
   exact ⟨_, _, (.cons (.here) (.nil)), .inr ⟨hr, ⟨1, 0, []⟩, _, rfl, rfl⟩⟩
 by_cases h2 : x = 2
 ·subst h2
  have k := next82 (a := a + 1) hs (by omega) (by omega)
  unfold nextA at k
  rw [show a + 1 + 4 = a + 5 by omega] at k
  have hr := rdS_2 hx
  generalize hn : deB (sgm s (a + 1) (a + 5)) = n at *
  have k83 := is83 (s := sgm s (a + 5) (a + 5 + n))
  have k83e := is83 (s := [])
  by_cases h5 : a + 5 ≤ s.length ∧ a + 5 + n ≤ s.length
  ·rw [if_pos h5] at k
   rw [if_pos h5.1] at hr
   have hsl := seg_len (s := s) (a := a + 5) (b := a + 5 + n) h5.2
   by_cases h6 : n ≤ 1024
   ·rw [if_pos ⟨h5.2, h6⟩] at hr
    rw [decide_eq_true (by omega)] at k83
    repeat' (first|intro _|refine yS ?_|(apply YB.mk<;>intro hc)|(apply YA.mk;intro cv hv)|(refine yT ?_ ?_<;>(intro e;(try simp only [nbT,nbF] at e);subst e;try contradiction)))
    refine Dw.e (Ef.storeW rfl rfl (.there Upd.here) rfl (Nat.le_of_ble_eq_true rfl) rfl) ?_
    rintro _ _ ⟨rfl, rfl⟩
    refine yO ?_
    repeat' (first|intro _|refine yS ?_|(apply YB.mk<;>intro hc)|(apply YA.mk;intro cv hv)|(refine yT ?_ ?_<;>(intro e;(try simp only [nbT,nbF] at e);subst e;try contradiction)))
    refine yX ?_
    subst hv
    exact ⟨_, _, (.cons (.there (.there (.here))) (.nil)), .inl ⟨_, _, hr, rfl, rfl⟩⟩
   ·rw [if_neg (by omega)] at hr
    rw [decide_eq_false (by omega)] at k83
    repeat' (first|intro _|refine yS ?_|(apply YB.mk<;>intro hc)|(apply YA.mk;intro cv hv)|(refine yT ?_ ?_<;>(intro e;(try simp only [nbT,nbF] at e);subst e;try contradiction)))
    refine Dw.e (Ef.storeW rfl rfl (.there Upd.here) rfl (Nat.le_of_ble_eq_true rfl) rfl) ?_
    rintro _ _ ⟨rfl, rfl⟩
    refine yO ?_
    repeat' (first|intro _|refine yS ?_|(apply YB.mk<;>intro hc)|(apply YA.mk;intro cv hv)|(refine yT ?_ ?_<;>(intro e;(try simp only [nbT,nbF] at e);subst e;try contradiction)))
    refine yX ?_
    subst hv
    exact ⟨_, _, (.cons (.there (.there (.here))) (.nil)), .inr ⟨hr, ⟨2, 0, sgm s (a + 5) (a + 5 + n)⟩, _, rfl, rfl⟩⟩
  ·rw [if_neg h5] at k
   have e : (if a + 5 ≤ s.length then if a + 5 + n ≤ s.length ∧ n ≤ 1024 then some (({ k := 2, n := 0, s := sgm s (a + 5) (a + 5 + n) } : Val), a + 5 + n) else none else none) = none := by
    split
    ·rw [if_neg (by omega)]
    ·rfl
   rw [e] at hr
   repeat' (first|intro _|refine yS ?_|(apply YB.mk<;>intro hc)|(apply YA.mk;intro cv hv)|(refine yT ?_ ?_<;>(intro e;(try simp only [nbT,nbF] at e);subst e;try contradiction)))
   refine Dw.e (Ef.storeW rfl rfl (.there Upd.here) rfl (Nat.le_of_ble_eq_true rfl) rfl) ?_
   rintro _ _ ⟨rfl, rfl⟩
   refine yO ?_
   repeat' (first|intro _|refine yS ?_|(apply YB.mk<;>intro hc)|(apply YA.mk;intro cv hv)|(refine yT ?_ ?_<;>(intro e;(try simp only [nbT,nbF] at e);subst e;try contradiction)))
   refine yX ?_
   exact ⟨_, _, (.cons (.there (.there (.here))) (.nil)), .inr ⟨hr, ⟨2, 0, []⟩, _, rfl, rfl⟩⟩
 have hr := rdS_x hx h0 h1 h2
 repeat' (first|intro _|refine yS ?_|(apply YB.mk<;>intro hc)|(apply YA.mk;intro cv hv)|(refine yT ?_ ?_<;>(intro e;(try simp only [nbT,nbF] at e);subst e;try contradiction)))
 refine yX ?_
 exact ⟨_, _, (.cons (.there (.here)) (.nil)), .inr ⟨hr, v0, _, rfl, rfl⟩⟩
theorem i64_1 {x : Nat} (hx : x < 256) : i64 (deB [x]) = .ofNat x := by
 rw [show deB [x] = x by simp [deB], i64_lo (by omega)]
theorem key73 (hs : ∀ x, x ∈ s → x < 256) (hl : s.length ≤ 900000) (ha : a ≤ 900000) : CT Try.prog false 97 [rdP rd] [rdC rd s a left nd tf pf]
  fun w K' => (∃ v to, rdK s a = some (v, to) ∧ w = .tup [valA v, .bool true] ∧ K' = [rdC rd s to left nd tf pf]) ∨ (rdK s a = none ∧ ∃ v a2, w = .tup [valA v, .bool false] ∧ K' = [rdC rd s a2 left nd tf pf]) := by
 have k := num71 (a := a) (w := 1) (rd := rd) (left := left) (nd := nd) (tf := tf) (pf := pf) hs hl ha (by omega)
 refine CT.enterS mixed comp97 (Nat.le_of_ble_eq_true rfl) ?_
 by_cases h : a + 1 ≤ s.length
 ·have hx : s[a]? = some s[a] := List.getElem?_eq_getElem h
  have hxl := hs _ (List.mem_of_getElem? hx)
  generalize s[a] = x at hx hxl
  simp only [if_pos h, seg_one hx, i64_1 hxl] at k
  have k72 := scalar72 (rd := rd) (left := left) (nd := nd) (tf := tf) (pf := pf) hs hl hx
  repeat' (first|(refine Rg.callM rfl k (.cons (.there (.here)) (.nil)) ?_; rintro _ _ ⟨rfl, rfl⟩)|(refine Rg.callM rfl k72 (.cons (.here) (.nil)) ?_; rintro _ _ (⟨v, to, hr, rfl, rfl⟩ | ⟨hr, v, a2, rfl, rfl⟩))|intro _|refine yS ?_|(apply YB.mk<;>intro hc)|(apply YA.mk;intro cv hv)|(refine yT ?_ ?_<;>(intro e;(try simp only [nbT,nbF] at e);subst e;try contradiction)))
  ·have k66 := key52 (k := v)
   cases hk : keyB v with
   | true =>
    have hrk : rdK s a = some (v, to) := by unfold rdK; simp only [hr, hk, if_true]
    rw [hk] at k66
    repeat' (first|intro _|refine yS ?_|(apply YB.mk<;>intro hc)|(apply YA.mk;intro cv hv)|(refine yT ?_ ?_<;>(intro e;(try simp only [nbT,nbF] at e);subst e;try contradiction)))
    refine Dw.e (Ef.storeW rfl rfl (.there (.there Upd.here)) rfl (Nat.le_of_ble_eq_true rfl) rfl) ?_
    rintro _ _ ⟨rfl, rfl⟩
    refine yO ?_
    repeat' (first|intro _|refine yS ?_|(apply YB.mk<;>intro hc)|(apply YA.mk;intro cv hv)|(refine yT ?_ ?_<;>(intro e;(try simp only [nbT,nbF] at e);subst e;try contradiction)))
    refine yX ?_
    subst hv
    exact ⟨_, _, (.cons (.there (.here)) (.nil)), .inl ⟨_, _, hrk, rfl, rfl⟩⟩
   | false =>
    have hrk : rdK s a = none := by unfold rdK; simp only [hr, hk]; rfl
    rw [hk] at k66
    repeat' (first|intro _|refine yS ?_|(apply YB.mk<;>intro hc)|(apply YA.mk;intro cv hv)|(refine yT ?_ ?_<;>(intro e;(try simp only [nbT,nbF] at e);subst e;try contradiction)))
    refine Dw.e (Ef.storeW rfl rfl (.there (.there Upd.here)) rfl (Nat.le_of_ble_eq_true rfl) rfl) ?_
    rintro _ _ ⟨rfl, rfl⟩
    refine yO ?_
    repeat' (first|intro _|refine yS ?_|(apply YB.mk<;>intro hc)|(apply YA.mk;intro cv hv)|(refine yT ?_ ?_<;>(intro e;(try simp only [nbT,nbF] at e);subst e;try contradiction)))
    refine yX ?_
    subst hv
    exact ⟨_, _, (.cons (.there (.here)) (.nil)), .inr ⟨hrk, v, _, rfl, rfl⟩⟩
  ·have hrk : rdK s a = none := by unfold rdK; rw [hr]
   refine Dw.e (Ef.storeW rfl rfl (.there (.there Upd.here)) rfl (Nat.le_of_ble_eq_true rfl) rfl) ?_
   rintro _ _ ⟨rfl, rfl⟩
   refine yO ?_
   repeat' (first|intro _|refine yS ?_|(apply YB.mk<;>intro hc)|(apply YA.mk;intro cv hv)|(refine yT ?_ ?_<;>(intro e;(try simp only [nbT,nbF] at e);subst e;try contradiction)))
   refine yX ?_
   exact ⟨_, _, (.cons (.there (.here)) (.nil)), .inr ⟨hrk, v, _, rfl, rfl⟩⟩
 ·simp only [if_neg h] at k
  have hr : rdK s a = none := by unfold rdK; rw [rdS_no (by omega)]
  repeat' (first|(refine Rg.callM rfl k (.cons (.there (.here)) (.nil)) ?_; rintro _ _ ⟨rfl, rfl⟩)|intro _|refine yS ?_|(apply YB.mk<;>intro hc)|(apply YA.mk;intro cv hv)|(refine yT ?_ ?_<;>(intro e;(try simp only [nbT,nbF] at e);subst e;try contradiction)))
  refine yX ?_
  exact ⟨_, _, (.cons (.here) (.nil)), .inr ⟨hr, v0, _, rfl, rfl⟩⟩
end
end Go.Proofs.YtlimjjilakldgaaGreat.Q
