/- Contract: a table's keys, in order. -/
import Derived.Test.YtlflpjjmkigepaaAbsW
import Derived.Test.YtlflpjjmkigepaaPlnA
import Derived.Test.YtlflpjjmkigepaaAbsY
set_option autoImplicit false
set_option maxRecDepth 100000
set_option maxHeartbeats 4000000
set_option linter.unusedVariables false
set_option linter.unusedSimpArgs false
namespace Go.Proofs.Ytlflpjjmkigepaa
open Go Go.Abs
attribute [local irreducible] Cmp Rg Dw Cd Lp Ev Rdk CT Upd InK
section
variable {b8 bi m ck : Nat} {es : List Ent} {O : OS} {os : List Val} {k : Val} {X Y : Chk}
end
end Go.Proofs.Ytlflpjjmkigepaa

namespace Go.Proofs.Ytlflpjjmkigepaa
open Go Go.Abs
attribute [local irreducible] Cmp Rg Dw Cd Lp Ev Rdk CT Upd InK
theorem nless_drop : ∀ {i : Nat} {x y : List Nat}, x.take i = y.take i → i ≤ x.length → i ≤ y.length → nless x y = nless (x.drop i) (y.drop i)
  | 0, _, _, _, _, _ => rfl
  | i + 1, [], _, _, h, _ => by simp at h
  | i + 1, _ :: _, [], _, _, h => by simp at h
  | i + 1, a :: x, b :: y, h, h1, h2 => by
    simp only [List.take_succ_cons, List.cons.injEq] at h
    obtain ⟨rfl, h⟩ := h
    rw [List.drop_succ_cons, List.drop_succ_cons, ← nless_drop h (by simpa using h1) (by simpa using h2)]
    rw [Bool.eq_iff_iff, nless_cons]
    constructor
    · rintro (h | ⟨_, h⟩)
      · omega
      · exact h
    · exact fun h => .inr ⟨rfl, h⟩
theorem nless_at {i a b : Nat} {x y : List Nat} (h : x.take i = y.take i) (ha : x[i]? = some a) (hb : y[i]? = some b) (hab : a ≠ b) : nless x y = decide (a < b) := by
  have h1 := (List.getElem?_eq_some_iff.1 ha).1
  have h2 := (List.getElem?_eq_some_iff.1 hb).1
  rw [nless_drop h (Nat.le_of_lt h1) (Nat.le_of_lt h2), List.drop_eq_getElem_cons h1, List.drop_eq_getElem_cons h2]
  rw [List.getElem?_eq_getElem h1] at ha
  rw [List.getElem?_eq_getElem h2] at hb
  cases ha; cases hb
  rw [Bool.eq_iff_iff, nless_cons, decide_eq_true_eq]
  constructor
  · rintro (h | ⟨h, _⟩)
    · exact h
    · exact absurd h hab
  · exact .inl
theorem nless_end {i : Nat} {x y : List Nat} (h : x.take i = y.take i) (h1 : i ≤ x.length) (h2 : i ≤ y.length) (he : ¬ (i < x.length ∧ i < y.length)) : nless x y = decide (x.length < y.length) := by
  rw [nless_drop h h1 h2]
  by_cases hx : i < x.length
  · rw [List.drop_of_length_le (show y.length ≤ i by omega), decide_eq_false (by omega)]
    cases x.drop i <;> simp [nless]
  · rw [List.drop_of_length_le (show x.length ≤ i by omega)]
    by_cases hy : i < y.length
    · rw [List.drop_eq_getElem_cons hy, decide_eq_true (by omega)]; rfl
    · rw [List.drop_of_length_le (show y.length ≤ i by omega), decide_eq_false (by omega)]; rfl
theorem less53_loop {x y : List Nat} (hx : x.length ≤ 9223372036854775807) (hy : y.length ≤ 9223372036854775807) {Q : AX → SL → Mem → Prop} (hret : ∀ l' K, lkS l' 4 = some (.bool (nless x y)) → Q .ret l' K)
    (hend : ∀ l' K, nless x y = decide (x.length < y.length) → Sub2 [(0, .str x), (1, .str y)] l' → Q (.ext 0) l' K) :
    ∀ (f i : Nat), x.length < i + f → i ≤ x.length → i ≤ y.length → x.take i = y.take i → Lp Try.prog false b86_0 f [(0, .str x), (1, .str y), (5, .int .i64 (.ofNat i))] [] Q := by
  intro f
  induction f with
  | zero => intro i h1 h2; omega
  | succ f ih =>
    intro i h1 h2 h3 ht
    refine Lp.round ?_
    by_cases hi : i < x.length ∧ i < y.length
    · obtain ⟨hix, hiy⟩ := hi
      obtain ⟨a, ha⟩ : ∃ a, x[i]? = some a := ⟨_, List.getElem?_eq_getElem hix⟩
      obtain ⟨c, hc⟩ : ∃ c, y[i]? = some c := ⟨_, List.getElem?_eq_getElem hiy⟩
      have q1 := idxs_at (s := x) (k := .i64) ha
      have q2 := idxs_at (s := y) (k := .i64) hc
      by_cases e : a = c
      · repeat' (first|refine zz ?_|(refine zv ?_;intro cv hv)|(refine za ?_;intro _)|refine zc ?_|(refine zd ?_;refine And.intro ?_ ?_<;>(intro e;(try simp only [Bool.not_eq_true',Bool.not_eq_false'] at e);subst e;try contradiction)))
        refine Lp.weak ?hw (ih (i + 1) (by omega) (by omega) (by omega) ?_)
        case hw => exact ⟨rfl, rfl, rfl, trivial⟩
        rw [List.take_add_one, List.take_add_one, ht, ha, hc, e]
      · have hn := nless_at ht ha hc e
        rw [hn] at hret
        by_cases h5 : a < c
        · rw [decide_eq_true h5] at hret
          repeat' (first|refine zz ?_|(refine zv ?_;intro cv hv)|(refine za ?_;intro _)|refine zc ?_|(refine zd ?_;refine And.intro ?_ ?_<;>(intro e;(try simp only [Bool.not_eq_true',Bool.not_eq_false'] at e);subst e;try contradiction)))
          exact hret _ _ rfl
        · rw [decide_eq_false h5] at hret
          repeat' (first|refine zz ?_|(refine zv ?_;intro cv hv)|(refine za ?_;intro _)|refine zc ?_|(refine zd ?_;refine And.intro ?_ ?_<;>(intro e;(try simp only [Bool.not_eq_true',Bool.not_eq_false'] at e);subst e;try contradiction)))
          exact hret _ _ rfl
    · have hn := nless_end ht h2 h3 hi
      by_cases hix : i < x.length
      · have : ¬ i < y.length := fun h => hi ⟨hix, h⟩
        repeat' (first|refine zz ?_|(refine zv ?_;intro cv hv)|(refine za ?_;intro _)|refine zc ?_|(refine zd ?_;refine And.intro ?_ ?_<;>(intro e;(try simp only [Bool.not_eq_true',Bool.not_eq_false'] at e);subst e;try contradiction)))
        exact hend _ _ hn ⟨rfl, rfl, trivial⟩
      · repeat' (first|refine zz ?_|(refine zv ?_;intro cv hv)|(refine za ?_;intro _)|refine zc ?_|(refine zd ?_;refine And.intro ?_ ?_<;>(intro e;(try simp only [Bool.not_eq_true',Bool.not_eq_false'] at e);subst e;try contradiction)))
        exact hend _ _ hn ⟨rfl, rfl, trivial⟩
theorem less53 {x y : List Nat} (hx : x.length ≤ 9223372036854775807) (hy : y.length ≤ 9223372036854775807) : PT Try.prog false 86 [.str x, .str y] (.bool (nless x y)) := by
  refine PT.of (CT.enter mixed comp86 (Nat.le_of_ble_eq_true rfl) ?_)
  repeat' (first|refine zz ?_|(refine zv ?_;intro cv hv)|(refine za ?_;intro _)|refine zc ?_|(refine zd ?_;refine And.intro ?_ ?_<;>(intro e;(try simp only [Bool.not_eq_true',Bool.not_eq_false'] at e);subst e;try contradiction)))
  refine Cd.weak (l2 := [(0, _), (1, _), (5, _)]) ⟨rfl, rfl, rfl, trivial⟩ ?_
  refine Cd.loop (k := x.length + 1) (less53_loop hx hy ?_ ?_ (x.length + 1) 0 (by omega) (by omega) (by omega) rfl)
  · intro l' K e
    exact ⟨.inr rfl, _, .t e .nil, rfl⟩
  · intro l' K hn hs
    show Cd _ _ _ _ _ _
    refine Cd.weak hs ?_
    rw [hn]
    by_cases h : x.length < y.length
    · rw [decide_eq_true h]
      repeat' (first|refine zz ?_|(refine zv ?_;intro cv hv)|(refine za ?_;intro _)|refine zc ?_|(refine zd ?_;refine And.intro ?_ ?_<;>(intro e;(try simp only [Bool.not_eq_true',Bool.not_eq_false'] at e);subst e;try contradiction)))
      (first|refine ⟨.inr rfl,_,.t rfl .nil,?_⟩|refine ⟨.inr rfl,_,.t rfl (.t rfl .nil),?_⟩|refine ⟨.inr rfl,_,.t rfl (.t rfl (.t rfl .nil)),?_⟩|refine ⟨.inr rfl,_,.nil,?_⟩|refine ⟨.inl rfl,_,.t rfl .nil,?_⟩|refine ⟨.inl rfl,_,.nil,?_⟩|refine ⟨.inr rfl,_,.cn rfl (by exact zN) .nil,?_⟩|refine ⟨.inr rfl,_,.cn rfl (by exact zN) (.t rfl .nil),?_⟩)
      rfl
    · rw [decide_eq_false h]
      repeat' (first|refine zz ?_|(refine zv ?_;intro cv hv)|(refine za ?_;intro _)|refine zc ?_|(refine zd ?_;refine And.intro ?_ ?_<;>(intro e;(try simp only [Bool.not_eq_true',Bool.not_eq_false'] at e);subst e;try contradiction)))
      (first|refine ⟨.inr rfl,_,.t rfl .nil,?_⟩|refine ⟨.inr rfl,_,.t rfl (.t rfl .nil),?_⟩|refine ⟨.inr rfl,_,.t rfl (.t rfl (.t rfl .nil)),?_⟩|refine ⟨.inr rfl,_,.nil,?_⟩|refine ⟨.inl rfl,_,.t rfl .nil,?_⟩|refine ⟨.inl rfl,_,.nil,?_⟩|refine ⟨.inr rfl,_,.cn rfl (by exact zN) .nil,?_⟩|refine ⟨.inr rfl,_,.cn rfl (by exact zN) (.t rfl .nil),?_⟩)
      rfl
def one (t : Bool) : Int := if t = true then 1 else 0
theorem truth39 {t : Bool} : PT Try.prog false 78 [.bool t] (valA ⟨1, one t, []⟩) := by
  refine PT.of (CT.enter mixed comp78 (Nat.le_of_ble_eq_true rfl) ?_)
  have k0 := int23 (n := Int.ofNat 0)
  have k1 := int23 (n := Int.ofNat 1)
  cases t
  · repeat' (first|refine zz ?_|(refine zv ?_;intro cv hv)|(refine za ?_;intro _)|refine zc ?_|(refine zd ?_;refine And.intro ?_ ?_<;>(intro e;(try simp only [Bool.not_eq_true',Bool.not_eq_false'] at e);subst e;try contradiction)))
    (first|refine ⟨.inr rfl,_,.t rfl .nil,?_⟩|refine ⟨.inr rfl,_,.t rfl (.t rfl .nil),?_⟩|refine ⟨.inr rfl,_,.t rfl (.t rfl (.t rfl .nil)),?_⟩|refine ⟨.inr rfl,_,.nil,?_⟩|refine ⟨.inl rfl,_,.t rfl .nil,?_⟩|refine ⟨.inl rfl,_,.nil,?_⟩|refine ⟨.inr rfl,_,.cn rfl (by exact zN) .nil,?_⟩|refine ⟨.inr rfl,_,.cn rfl (by exact zN) (.t rfl .nil),?_⟩)
    rfl
  · repeat' (first|refine zz ?_|(refine zv ?_;intro cv hv)|(refine za ?_;intro _)|refine zc ?_|(refine zd ?_;refine And.intro ?_ ?_<;>(intro e;(try simp only [Bool.not_eq_true',Bool.not_eq_false'] at e);subst e;try contradiction)))
    (first|refine ⟨.inr rfl,_,.t rfl .nil,?_⟩|refine ⟨.inr rfl,_,.t rfl (.t rfl .nil),?_⟩|refine ⟨.inr rfl,_,.t rfl (.t rfl (.t rfl .nil)),?_⟩|refine ⟨.inr rfl,_,.nil,?_⟩|refine ⟨.inl rfl,_,.t rfl .nil,?_⟩|refine ⟨.inl rfl,_,.nil,?_⟩|refine ⟨.inr rfl,_,.cn rfl (by exact zN) .nil,?_⟩|refine ⟨.inr rfl,_,.cn rfl (by exact zN) (.t rfl .nil),?_⟩)
    rfl
theorem two38 : PT Try.prog false 77 [.str [60]] (.bool true) := PT.run plain0 (by kernel_rfl) rfl rfl
theorem ints40 {a b : Int} : PT Try.prog false 79 [.str [60], .int .i64 a, .int .i64 b] (.tup [valA ⟨1, one (decide (a < b)), []⟩, .int .i64 (.ofNat 0)]) := by
  refine PT.of (CT.enter mixed comp79 (Nat.le_of_ble_eq_true rfl) ?_)
  have k39 := truth39 (t := decide (a < b))
  by_cases h : a < b
  · rw [decide_eq_true h] at k39 ⊢
    repeat' (first|refine zz ?_|(refine zv ?_;intro cv hv)|(refine za ?_;intro _)|refine zc ?_|(refine zd ?_;refine And.intro ?_ ?_<;>(intro e;(try simp only [Bool.not_eq_true',Bool.not_eq_false'] at e);subst e;try contradiction)))
    (first|refine ⟨.inr rfl,_,.t rfl .nil,?_⟩|refine ⟨.inr rfl,_,.t rfl (.t rfl .nil),?_⟩|refine ⟨.inr rfl,_,.t rfl (.t rfl (.t rfl .nil)),?_⟩|refine ⟨.inr rfl,_,.nil,?_⟩|refine ⟨.inl rfl,_,.t rfl .nil,?_⟩|refine ⟨.inl rfl,_,.nil,?_⟩|refine ⟨.inr rfl,_,.cn rfl (by exact zN) .nil,?_⟩|refine ⟨.inr rfl,_,.cn rfl (by exact zN) (.t rfl .nil),?_⟩)
    rfl
  · rw [decide_eq_false h] at k39 ⊢
    repeat' (first|refine zz ?_|(refine zv ?_;intro cv hv)|(refine za ?_;intro _)|refine zc ?_|(refine zd ?_;refine And.intro ?_ ?_<;>(intro e;(try simp only [Bool.not_eq_true',Bool.not_eq_false'] at e);subst e;try contradiction)))
    (first|refine ⟨.inr rfl,_,.t rfl .nil,?_⟩|refine ⟨.inr rfl,_,.t rfl (.t rfl .nil),?_⟩|refine ⟨.inr rfl,_,.t rfl (.t rfl (.t rfl .nil)),?_⟩|refine ⟨.inr rfl,_,.nil,?_⟩|refine ⟨.inl rfl,_,.t rfl .nil,?_⟩|refine ⟨.inl rfl,_,.nil,?_⟩|refine ⟨.inr rfl,_,.cn rfl (by exact zN) .nil,?_⟩|refine ⟨.inr rfl,_,.cn rfl (by exact zN) (.t rfl .nil),?_⟩)
    rfl
theorem texts41 {x y : List Nat} (hx : x.length ≤ 9223372036854775807) (hy : y.length ≤ 9223372036854775807) : PT Try.prog false 80 [.str [60], .str x, .str y] (.tup [valA ⟨1, one (nless x y), []⟩, .int .i64 (.ofNat 0)]) := by
  refine PT.of (CT.enter mixed comp80 (Nat.le_of_ble_eq_true rfl) ?_)
  have k39 := truth39 (t := nless x y)
  have k53 := less53 hx hy
  generalize nless x y = t at *
  repeat' (first|(refine Rg.call rfl k53 ?_)|refine zz ?_|(refine zv ?_;intro cv hv)|(refine za ?_;intro _)|refine zc ?_|(refine zd ?_;refine And.intro ?_ ?_<;>(intro e;(try simp only [Bool.not_eq_true',Bool.not_eq_false'] at e);subst e;try contradiction)))
  all_goals (first|refine ⟨.inr rfl,_,.t rfl .nil,?_⟩|refine ⟨.inr rfl,_,.t rfl (.t rfl .nil),?_⟩|refine ⟨.inr rfl,_,.t rfl (.t rfl (.t rfl .nil)),?_⟩|refine ⟨.inr rfl,_,.nil,?_⟩|refine ⟨.inl rfl,_,.t rfl .nil,?_⟩|refine ⟨.inl rfl,_,.nil,?_⟩|refine ⟨.inr rfl,_,.cn rfl (by exact zN) .nil,?_⟩|refine ⟨.inr rfl,_,.cn rfl (by exact zN) (.t rfl .nil),?_⟩)
  all_goals rfl
theorem two19 {a b : Val} (hk : a.k = 1 ∨ a.k = 2) (hx : a.s.length ≤ 9223372036854775807) (hy : b.s.length ≤ 9223372036854775807) : PT Try.prog false 67 [.str [60], valA a, valA b] (if a.k = b.k then .tup [valA ⟨1, one (aheadB a b), []⟩, .int .i64 (.ofNat 0)] else .tup [valA v0, .int .i64 (.ofNat 1)]) := by
  refine PT.of (CT.enter mixed comp67 (Nat.le_of_ble_eq_true rfl) ?_)
  have k38 := two38
  have k40 := ints40 (a := a.n) (b := b.n)
  have k41 := texts41 hx hy
  by_cases h : a.k = b.k
  · rw [if_pos h]
    rcases hk with h1 | h2
    · rw [show aheadB a b = decide (a.n < b.n) by unfold aheadB; rw [if_neg (fun hn => hn h), if_pos h1]]
      have h3 : b.k = 1 := by omega
      repeat' (first|refine zz ?_|(refine zv ?_;intro cv hv)|(refine za ?_;intro _)|refine zc ?_|(refine zd ?_;refine And.intro ?_ ?_<;>(intro e;(try simp only [Bool.not_eq_true',Bool.not_eq_false'] at e);subst e;try contradiction)))
      (first|refine ⟨.inr rfl,_,.t rfl .nil,?_⟩|refine ⟨.inr rfl,_,.t rfl (.t rfl .nil),?_⟩|refine ⟨.inr rfl,_,.t rfl (.t rfl (.t rfl .nil)),?_⟩|refine ⟨.inr rfl,_,.nil,?_⟩|refine ⟨.inl rfl,_,.t rfl .nil,?_⟩|refine ⟨.inl rfl,_,.nil,?_⟩|refine ⟨.inr rfl,_,.cn rfl (by exact zN) .nil,?_⟩|refine ⟨.inr rfl,_,.cn rfl (by exact zN) (.t rfl .nil),?_⟩)
      rfl
    · rw [show aheadB a b = nless a.s b.s by unfold aheadB; rw [if_neg (fun hn => hn h), if_neg (by omega)]]
      have h3 : b.k = 2 := by omega
      repeat' (first|refine zz ?_|(refine zv ?_;intro cv hv)|(refine za ?_;intro _)|refine zc ?_|(refine zd ?_;refine And.intro ?_ ?_<;>(intro e;(try simp only [Bool.not_eq_true',Bool.not_eq_false'] at e);subst e;try contradiction)))
      (first|refine ⟨.inr rfl,_,.t rfl .nil,?_⟩|refine ⟨.inr rfl,_,.t rfl (.t rfl .nil),?_⟩|refine ⟨.inr rfl,_,.t rfl (.t rfl (.t rfl .nil)),?_⟩|refine ⟨.inr rfl,_,.nil,?_⟩|refine ⟨.inl rfl,_,.t rfl .nil,?_⟩|refine ⟨.inl rfl,_,.nil,?_⟩|refine ⟨.inr rfl,_,.cn rfl (by exact zN) .nil,?_⟩|refine ⟨.inr rfl,_,.cn rfl (by exact zN) (.t rfl .nil),?_⟩)
      rfl
  · rw [if_neg h]
    rcases hk with h1 | h2
    · have h3 : ¬ b.k = 1 := by omega
      repeat' (first|refine zz ?_|(refine zv ?_;intro cv hv)|(refine za ?_;intro _)|refine zc ?_|(refine zd ?_;refine And.intro ?_ ?_<;>(intro e;(try simp only [Bool.not_eq_true',Bool.not_eq_false'] at e);subst e;try contradiction)))
      (first|refine ⟨.inr rfl,_,.t rfl .nil,?_⟩|refine ⟨.inr rfl,_,.t rfl (.t rfl .nil),?_⟩|refine ⟨.inr rfl,_,.t rfl (.t rfl (.t rfl .nil)),?_⟩|refine ⟨.inr rfl,_,.nil,?_⟩|refine ⟨.inl rfl,_,.t rfl .nil,?_⟩|refine ⟨.inl rfl,_,.nil,?_⟩|refine ⟨.inr rfl,_,.cn rfl (by exact zN) .nil,?_⟩|refine ⟨.inr rfl,_,.cn rfl (by exact zN) (.t rfl .nil),?_⟩)
      rfl
    · have h3 : ¬ b.k = 2 := by omega
      repeat' (first|refine zz ?_|(refine zv ?_;intro cv hv)|(refine za ?_;intro _)|refine zc ?_|(refine zd ?_;refine And.intro ?_ ?_<;>(intro e;(try simp only [Bool.not_eq_true',Bool.not_eq_false'] at e);subst e;try contradiction)))
      (first|refine ⟨.inr rfl,_,.t rfl .nil,?_⟩|refine ⟨.inr rfl,_,.t rfl (.t rfl .nil),?_⟩|refine ⟨.inr rfl,_,.t rfl (.t rfl (.t rfl .nil)),?_⟩|refine ⟨.inr rfl,_,.nil,?_⟩|refine ⟨.inl rfl,_,.t rfl .nil,?_⟩|refine ⟨.inl rfl,_,.nil,?_⟩|refine ⟨.inr rfl,_,.cn rfl (by exact zN) .nil,?_⟩|refine ⟨.inr rfl,_,.cn rfl (by exact zN) (.t rfl .nil),?_⟩)
      rfl
end Go.Proofs.Ytlflpjjmkigepaa

namespace Go.Proofs.Ytlflpjjmkigepaa
open Go Go.Abs
abbrev KV := Val × Val
def getL (k : Val) : List KV → Val
  | [] => v0
  | (a, x) :: r => if k = a then x else getL k r
def hasL (k : Val) (L : List KV) : Bool := L.any fun e => decide (e.1 = k)
def setL (k v : Val) (L : List KV) : List KV :=
  if v.k = 0 then L.filter fun e => !decide (e.1 = k) else L.filter (fun e => aheadB e.1 k) ++ (k, v) :: L.filter fun e => aheadB k e.1
structure Srt (L : List KV) : Prop where
  ord : L.Pairwise fun a b => aheadB a.1 b.1 = true
  can : ∀ e, e ∈ L → Can e.1
def kvs (es : List Ent) : List KV := es.map fun e => (e.1, e.2.1)
structure TRel (es : List Ent) (ck : Nat) (L : List KV) : Prop where
  good : Good es ck
  perm : (kvs es).Perm L
  srt : Srt L
theorem ahead_irr (a : Val) : aheadB a a = false := by
  simp [aheadB, nless_irr]
theorem ahead_asym {a b : Val} (h : aheadB a b = true) : aheadB b a = false := by
  cases e : aheadB b a with
  | false => rfl
  | true =>
    have := ahead_trans h e
    rw [ahead_irr] at this
    cases this
theorem ahead_ne {a b : Val} (h : aheadB a b = true) : a ≠ b := by
  rintro rfl
  rw [ahead_irr] at h
  cases h
theorem Srt.tail {a : KV} {L : List KV} (h : Srt (a :: L)) : Srt L := ⟨(List.pairwise_cons.1 h.ord).2, fun e he => h.can e (List.mem_cons_of_mem _ he)⟩
theorem TRel.len {es : List Ent} {ck : Nat} {L : List KV} (h : TRel es ck L) : es.length = L.length := by
  have := h.perm.length_eq
  rwa [kvs, List.length_map] at this
theorem TRel.nil : TRel [] 0 [] := ⟨Good.nil, .nil, ⟨.nil, fun _ h => by cases h⟩⟩
theorem TRel.keys {es : List Ent} {ck : Nat} {L : List KV} (h : TRel es ck L) {os : List Val} (hp : os.Perm (keysE es)) (ho : os.Pairwise fun a b => aheadB a b = true) : os = L.map fun e => e.1 := by
  have h1 : (keysE es).Perm (L.map fun e => e.1) := by
    have := h.perm.map fun e => e.1
    rwa [kvs, List.map_map] at this
  refine List.Perm.eq_of_pairwise (le := fun a b => aheadB a b = true) ?_ ho (List.pairwise_map.2 h.srt.ord) (hp.trans h1)
  intro a b _ _ h2 h3
  rw [ahead_asym h2] at h3
  cases h3
/-- What stands under a key, by membership. -/
theorem getL_of {k v : Val} : ∀ {L : List KV}, Srt L → (k, v) ∈ L → getL k L = v
  | [], _, h => by cases h
  | (a, x) :: r, hs, h => by
    rcases List.mem_cons.1 h with h | h
    · cases h; simp [getL]
    · have := (List.pairwise_cons.1 hs.ord).1 _ h
      simp only [getL]
      rw [if_neg (fun e => ahead_ne this e.symm)]
      exact getL_of hs.tail h
theorem getL_no {k : Val} : ∀ {L : List KV}, hasL k L = false → getL k L = v0
  | [], _ => rfl
  | (a, x) :: r, h => by
    simp only [hasL, List.any_cons, Bool.or_eq_false_iff, decide_eq_false_iff_not] at h
    simp only [getL, if_neg (fun e : k = a => h.1 e.symm)]
    exact getL_no h.2
theorem under_mem {k v : Val} {n : Nat} : ∀ {es : List Ent}, under k es = some (v, n) → (k, v, n) ∈ es
  | [], h => by cases h
  | (a, x, m) :: r, h => by
    simp only [under] at h
    split at h
    · rename_i e; cases h; subst e; simp
    · exact List.mem_cons_of_mem _ (under_mem h)
theorem TRel.has {es : List Ent} {ck : Nat} {L : List KV} (h : TRel es ck L) (k : Val) : (under k es).isSome = hasL k L := by
  rw [Bool.eq_iff_iff]
  simp only [hasL, List.any_eq_true, decide_eq_true_eq]
  constructor
  · intro hs
    obtain ⟨p, hp⟩ := Option.isSome_iff_exists.1 hs
    exact ⟨(k, p.1), h.perm.mem_iff.1 (List.mem_map.2 ⟨_, under_mem hp, rfl⟩), rfl⟩
  · rintro ⟨e, he, rfl⟩
    obtain ⟨x, hx, rfl⟩ := List.mem_map.1 (h.perm.mem_iff.2 he)
    cases hu : under x.1 es with
    | none => exact absurd (List.mem_map.2 ⟨x, hx, rfl⟩) (under_none.1 hu)
    | some p => rfl
theorem TRel.get {es : List Ent} {ck : Nat} {L : List KV} (h : TRel es ck L) (k : Val) : getE k v0 es = getL k L := by
  have hh := h.has k
  simp only [getE]
  cases hu : under k es with
  | none =>
    rw [hu] at hh
    exact (getL_no hh.symm).symm
  | some p => exact (getL_of h.srt (h.perm.mem_iff.1 (List.mem_map.2 ⟨_, under_mem hu, rfl⟩))).symm
theorem kvs_del {k : Val} : ∀ {es : List Ent}, (keysE es).Nodup → kvs (delE k es) = (kvs es).filter fun e => !decide (e.1 = k)
  | [], _ => rfl
  | (a, x, n) :: r, h => by
    simp only [keysE, List.map_cons, List.nodup_cons] at h
    simp only [delE]
    by_cases e : k = a
    · subst e
      rw [if_pos rfl]
      simp only [kvs, List.map_cons, List.filter_cons]
      simp only [decide_true, Bool.not_true, if_neg (show ¬ (false = true) by decide)]
      symm
      rw [List.filter_eq_self]
      intro y hy
      obtain ⟨z, hz, rfl⟩ := List.mem_map.1 hy
      have : z.1 ≠ k := fun e => h.1 (List.mem_map.2 ⟨z, hz, e⟩)
      simp [this]
    · rw [if_neg e]
      have ih := kvs_del (k := k) h.2
      simp only [kvs, List.map_cons, List.filter_cons] at ih ⊢
      rw [ih]
      simp [Ne.symm e]
theorem kvs_put {k v : Val} {ck : Nat} : ∀ {es : List Ent}, (keysE es).Nodup → (kvs (putE k v ck es)).Perm ((k, v) :: (kvs es).filter fun e => !decide (e.1 = k))
  | [], _ => by simp [putE, kvs]
  | (a, x, n) :: r, h => by
    have hd := kvs_del (k := k) h
    simp only [keysE, List.map_cons, List.nodup_cons] at h
    simp only [putE]
    by_cases e : k = a
    · subst e
      rw [if_pos rfl]
      simp only [delE, if_pos] at hd
      rw [← hd]
      simp [kvs]
    · rw [if_neg e]
      have ih := kvs_put (k := k) (v := v) (ck := ck) h.2
      simp only [kvs, List.map_cons, List.filter_cons] at ih ⊢
      simp only [Ne.symm e, decide_false, Bool.not_false, if_true]
      exact (List.Perm.cons _ ih).trans (List.Perm.swap _ _ _)
theorem Srt.parts {k : Val} (hk : Can k) : ∀ {L : List KV}, Srt L → (L.filter (fun e => aheadB e.1 k) ++ L.filter fun e => aheadB k e.1).Perm (L.filter fun e => !decide (e.1 = k))
  | [], _ => by simp
  | (a, x) :: r, h => by
    have ih := Srt.parts hk h.tail
    simp only [List.filter_cons]
    by_cases e : a = k
    · subst e
      simp only [ahead_irr, decide_true, Bool.not_true, Bool.false_eq_true, if_false]
      exact ih
    · simp only [e, decide_false, Bool.not_false, if_true]
      cases e1 : aheadB a k with
      | true =>
        simp only [ahead_asym e1, if_true, Bool.false_eq_true, if_false, List.cons_append]
        exact ih.cons _
      | false =>
        simp only [ahead_tri (h.can _ (List.mem_cons_self)) hk e1 e, if_true, Bool.false_eq_true, if_false]
        exact List.perm_middle.trans (ih.cons _)
theorem Srt.set {k v : Val} {L : List KV} (h : Srt L) (hk : Can k) : Srt (setL k v L) := by
  unfold setL
  split
  · exact ⟨h.ord.filter _, fun e he => h.can e (List.mem_filter.1 he).1⟩
  · refine ⟨?_, ?_⟩
    · rw [List.pairwise_append]
      refine ⟨h.ord.filter _, List.pairwise_cons.2 ⟨fun e he => (List.mem_filter.1 he).2, h.ord.filter _⟩, ?_⟩
      intro a ha b hb
      have h1 := (List.mem_filter.1 ha).2
      rcases List.mem_cons.1 hb with rfl | hb
      · exact h1
      · exact ahead_trans h1 (List.mem_filter.1 hb).2
    · intro e he
      rcases List.mem_append.1 he with he | he
      · exact h.can e (List.mem_filter.1 he).1
      · rcases List.mem_cons.1 he with rfl | he
        · exact hk
        · exact h.can e (List.mem_filter.1 he).1
theorem TRel.put {es : List Ent} {ck : Nat} {L : List KV} {k v : Val} (h : TRel es ck L) (hk : Can k) : TRel (putM k v es ck) (putN k v es ck) (setL k v L) := by
  refine ⟨h.good.putM, ?_, h.srt.set hk⟩
  unfold putM setL
  by_cases hv : v.k = 0
  · rw [if_pos hv, if_pos hv, kvs_del h.good.keys]
    exact h.perm.filter _
  · rw [if_neg hv, if_neg hv]
    refine (kvs_put h.good.keys).trans (((h.perm.filter _).cons _).trans ?_)
    exact (((Srt.parts hk h.srt).symm.cons _)).trans List.perm_middle.symm
theorem setL_len {k v : Val} {L : List KV} (h : Srt L) (hk : Can k) : (setL k v L).length + (if hasL k L = true then 1 else 0) = L.length + (if v.k = 0 then 0 else 1) := by
  have h1 : ∀ {L : List KV}, Srt L → (L.filter fun e => !decide (e.1 = k)).length + (if hasL k L = true then 1 else 0) = L.length := by
    intro L
    induction L with
    | nil => intro _; rfl
    | cons a r ih =>
      intro hs
      have hr := ih hs.tail
      by_cases e : a.1 = k
      · have hno : hasL k r = false := by
          rw [hasL, List.any_eq_false]
          intro x hx
          have := (List.pairwise_cons.1 hs.ord).1 _ hx
          rw [e] at this
          simpa using (ahead_ne this).symm
        rw [hno] at hr
        simp only [hasL, List.any_cons, e, List.filter_cons, decide_true, Bool.not_true, Bool.false_eq_true, if_false, Bool.true_or, if_true, List.length_cons] at hr ⊢
        omega
      · have h3 : hasL k (a :: r) = hasL k r := by simp [hasL, e]
        rw [h3, List.filter_cons, if_pos (by simp [e]), List.length_cons, List.length_cons]
        omega
  have h2 := h1 h
  unfold setL
  by_cases hv : v.k = 0
  · rw [if_pos hv, if_pos hv]
    omega
  · rw [if_neg hv, if_neg hv]
    have h3 := (Srt.parts hk h).length_eq
    have h4 : ∀ (A B : List KV) (x : KV), (A ++ x :: B).length = (A ++ B).length + 1 := fun A B x => by simp [Nat.add_assoc]
    rw [h4, h3]
    omega
end Go.Proofs.Ytlflpjjmkigepaa
