/- not there: [33] -/
import Derived.Test.YtlimjjilakldgaaModE
set_option autoImplicit false
set_option maxRecDepth 100000
set_option maxHeartbeats 2000000
set_option linter.unusedVariables false
set_option linter.unusedSimpArgs false
namespace Go.Proofs.Ytlimjjilakldgaa
open Go Go.Abs
attribute [local irreducible] Cmp Rg Dw Cd Lp Ev Rdk CT Upd InK
theorem registers26 (u : Unt) (p : Proto) (x : Ins) : PT Try.prog false 51 [.agg (unitR u ++ protoR p), insA x] (.bool (regs3 p.regs (shape x.op) x)) := by
  refine PT.of (CT.enter mixed comp51 (Nat.le_of_ble_eq_true rfl) ?_)
  have hs := @shape43 x.op
  rcases shape_cases x.op with h | ⟨c0, h⟩ | ⟨c0, c1, c2, h⟩ <;> rw [h] at hs ⊢
  · repeat' (first|refine zz ?_|(refine zv ?_;intro cv hv)|(refine za ?_;intro _)|refine zc ?_|(refine zd ?_;refine And.intro ?_ ?_<;>(intro e;(try simp only [Bool.not_eq_true',Bool.not_eq_false'] at e);subst e;try contradiction)))
    rename_i b2 b3 b5
    refine Cd.weak (l2 := [(2, _), (5, _), (6, _), (19, _), (20, _)]) ⟨rfl, rfl, rfl, rfl, rfl, trivial⟩ ?_
    refine Cd.drop (m := [[(b5, .cells [.int .i64 x.a, .int .i64 x.b, .int .i64 x.c] 0 0 false)], [(b2, .cells (unitR u ++ protoR p) 0 0 false)]]) (.cons .here (.cons (.there .here) .nil)) (Cd.loop (k := 5) ?_)
    repeat' (first|refine zz ?_|(refine zv ?_;intro cv hv)|(refine za ?_;intro _)|refine zc ?_|(refine zd ?_;refine And.intro ?_ ?_<;>(intro e;(try simp only [Bool.not_eq_true',Bool.not_eq_false'] at e);subst e;try contradiction)))
    all_goals (first|refine ⟨.inr rfl,_,.t rfl .nil,?_⟩|refine ⟨.inr rfl,_,.t rfl (.t rfl .nil),?_⟩|refine ⟨.inr rfl,_,.t rfl (.t rfl (.t rfl .nil)),?_⟩|refine ⟨.inr rfl,_,.nil,?_⟩|refine ⟨.inl rfl,_,.t rfl .nil,?_⟩|refine ⟨.inl rfl,_,.nil,?_⟩|refine ⟨.inr rfl,_,.cn rfl (by exact zN) .nil,?_⟩|refine ⟨.inr rfl,_,.cn rfl (by exact zN) (.t rfl .nil),?_⟩)
    all_goals first | rfl | (refine congrArg AV.bool ?_; rw [Bool.eq_iff_iff]; simp only [regs3]; clear hs h; first | (simp_all; done) | (simp_all; omega) | omega)
  · repeat' (first|refine zz ?_|(refine zv ?_;intro cv hv)|(refine za ?_;intro _)|refine zc ?_|(refine zd ?_;refine And.intro ?_ ?_<;>(intro e;(try simp only [Bool.not_eq_true',Bool.not_eq_false'] at e);subst e;try contradiction)))
    rename_i b2 b3 b5
    refine Cd.weak (l2 := [(2, _), (5, _), (6, _), (19, _), (20, _)]) ⟨rfl, rfl, rfl, rfl, rfl, trivial⟩ ?_
    refine Cd.drop (m := [[(b5, .cells [.int .i64 x.a, .int .i64 x.b, .int .i64 x.c] 0 0 false)], [(b2, .cells (unitR u ++ protoR p) 0 0 false)]]) (.cons .here (.cons (.there .here) .nil)) (Cd.loop (k := 5) ?_)
    repeat' (first|refine zz ?_|(refine zv ?_;intro cv hv)|(refine za ?_;intro _)|refine zc ?_|(refine zd ?_;refine And.intro ?_ ?_<;>(intro e;(try simp only [Bool.not_eq_true',Bool.not_eq_false'] at e);subst e;try contradiction)))
    all_goals (first|refine ⟨.inr rfl,_,.t rfl .nil,?_⟩|refine ⟨.inr rfl,_,.t rfl (.t rfl .nil),?_⟩|refine ⟨.inr rfl,_,.t rfl (.t rfl (.t rfl .nil)),?_⟩|refine ⟨.inr rfl,_,.nil,?_⟩|refine ⟨.inl rfl,_,.t rfl .nil,?_⟩|refine ⟨.inl rfl,_,.nil,?_⟩|refine ⟨.inr rfl,_,.cn rfl (by exact zN) .nil,?_⟩|refine ⟨.inr rfl,_,.cn rfl (by exact zN) (.t rfl .nil),?_⟩)
    all_goals first | rfl | (refine congrArg AV.bool ?_; rw [Bool.eq_iff_iff]; simp only [regs3]; clear hs h; first | (simp_all; done) | (simp_all; omega) | omega)
  · repeat' (first|refine zz ?_|(refine zv ?_;intro cv hv)|(refine za ?_;intro _)|refine zc ?_|(refine zd ?_;refine And.intro ?_ ?_<;>(intro e;(try simp only [Bool.not_eq_true',Bool.not_eq_false'] at e);subst e;try contradiction)))
    rename_i b2 b3 b5
    refine Cd.weak (l2 := [(2, _), (5, _), (6, _), (19, _), (20, _)]) ⟨rfl, rfl, rfl, rfl, rfl, trivial⟩ ?_
    refine Cd.drop (m := [[(b5, .cells [.int .i64 x.a, .int .i64 x.b, .int .i64 x.c] 0 0 false)], [(b2, .cells (unitR u ++ protoR p) 0 0 false)]]) (.cons .here (.cons (.there .here) .nil)) (Cd.loop (k := 5) ?_)
    repeat' (first|refine zz ?_|(refine zv ?_;intro cv hv)|(refine za ?_;intro _)|refine zc ?_|(refine zd ?_;refine And.intro ?_ ?_<;>(intro e;(try simp only [Bool.not_eq_true',Bool.not_eq_false'] at e);subst e;try contradiction)))
    all_goals (first|refine ⟨.inr rfl,_,.t rfl .nil,?_⟩|refine ⟨.inr rfl,_,.t rfl (.t rfl .nil),?_⟩|refine ⟨.inr rfl,_,.t rfl (.t rfl (.t rfl .nil)),?_⟩|refine ⟨.inr rfl,_,.nil,?_⟩|refine ⟨.inl rfl,_,.t rfl .nil,?_⟩|refine ⟨.inl rfl,_,.nil,?_⟩|refine ⟨.inr rfl,_,.cn rfl (by exact zN) .nil,?_⟩|refine ⟨.inr rfl,_,.cn rfl (by exact zN) (.t rfl .nil),?_⟩)
    all_goals first | rfl | (refine congrArg AV.bool ?_; rw [Bool.eq_iff_iff]; simp only [regs3]; clear hs h; first | (simp_all; done) | (simp_all; omega) | omega)
end Go.Proofs.Ytlimjjilakldgaa

namespace Go.Proofs.Ytlimjjilakldgaa
open Go Go.Abs
attribute [local irreducible] Cmp Rg Dw Cd Lp Ev Rdk CT Upd InK
/-- May a jump lead there? -/
def jumpB (p : Proto) (pc w : Nat) : Bool := match p.code[w]? with
  | some y => decide (pc < w) || decide (y.op = 0)
  | none => false
theorem jumps27 {p : Proto} (u : Unt) (hp : OkP p) {pc w : Nat} : PT Try.prog false 52 [.agg (unitR u ++ protoR p), .int .i64 (.ofNat pc), .int .i64 (.ofNat w)] (.bool (jumpB p pc w)) := by
  refine PT.of (CT.enter mixed comp52 (Nat.le_of_ble_eq_true rfl) ?_)
  obtain ⟨l1, l2, l3⟩ := hp.lens
  by_cases hw : w < p.code.length
  · obtain ⟨y, hy⟩ : ∃ y, p.code[w]? = some y := ⟨_, List.getElem?_eq_getElem hw⟩
    have q1 := hp.code.iadr (i := w) (r := insR y) (k := .i64) (by rw [List.getElem?_map, hy]; rfl)
    repeat' (first|refine zz ?_|(refine zv ?_;intro cv hv)|(refine za ?_;intro _)|refine zc ?_|(refine zd ?_;refine And.intro ?_ ?_<;>(intro e;(try simp only [Bool.not_eq_true',Bool.not_eq_false'] at e);subst e;try contradiction)))
    all_goals (first|refine ⟨.inr rfl,_,.t rfl .nil,?_⟩|refine ⟨.inr rfl,_,.t rfl (.t rfl .nil),?_⟩|refine ⟨.inr rfl,_,.t rfl (.t rfl (.t rfl .nil)),?_⟩|refine ⟨.inr rfl,_,.nil,?_⟩|refine ⟨.inl rfl,_,.t rfl .nil,?_⟩|refine ⟨.inl rfl,_,.nil,?_⟩|refine ⟨.inr rfl,_,.cn rfl (by exact zN) .nil,?_⟩|refine ⟨.inr rfl,_,.cn rfl (by exact zN) (.t rfl .nil),?_⟩)
    all_goals (refine congrArg AV.bool ?_; rw [Bool.eq_iff_iff]; simp only [jumpB, hy]; clear l1 l2 l3 q1 hp; first | (simp_all; done) | (simp_all; omega))
  · repeat' (first|refine zz ?_|(refine zv ?_;intro cv hv)|(refine za ?_;intro _)|refine zc ?_|(refine zd ?_;refine And.intro ?_ ?_<;>(intro e;(try simp only [Bool.not_eq_true',Bool.not_eq_false'] at e);subst e;try contradiction)))
    (first|refine ⟨.inr rfl,_,.t rfl .nil,?_⟩|refine ⟨.inr rfl,_,.t rfl (.t rfl .nil),?_⟩|refine ⟨.inr rfl,_,.t rfl (.t rfl (.t rfl .nil)),?_⟩|refine ⟨.inr rfl,_,.nil,?_⟩|refine ⟨.inl rfl,_,.t rfl .nil,?_⟩|refine ⟨.inl rfl,_,.nil,?_⟩|refine ⟨.inr rfl,_,.cn rfl (by exact zN) .nil,?_⟩|refine ⟨.inr rfl,_,.cn rfl (by exact zN) (.t rfl .nil),?_⟩)
    rw [jumpB, List.getElem?_eq_none (by omega)]; rfl
/-- Can a closure be made? -/
def capOk (p : Proto) (c : Cap) : Bool := decide (c.i < if c.up = true then (p.caps.length : Int) else p.regs)
def closesB (u : Unt) (p : Proto) (k : Nat) : Bool := match u.protos[k]? with
  | some q => decide (u.funs ≤ (k : Int)) && q.caps.all (capOk p)
  | none => false
theorem closes28_loop {u : Unt} {p q : Proto} (hp : OkP p) (hq : OkP q) {b : Nat} {Q : AX → SL → Mem → Prop} (hret : ∀ l' K, q.caps.all (capOk p) = false → lkS l' 4 = some (.bool false) → Q .ret l' K) (hend : ∀ l' K, q.caps.all (capOk p) = true → Q (.ext 0) l' K) :
    ∀ (k i : Nat), q.caps.length < i + k → i ≤ q.caps.length → (∀ x, x ∈ q.caps.take i → capOk p x = true) → Lp Try.prog false b53_0 k [(2, .ptr b 0 0 11), (27, q.capsV), (28, .int .i64 (.ofNat q.caps.length)), (29, .int .i64 (.ofNat i))] [[(b, .cells (unitR u ++ protoR p) 0 0 false)]] Q := by
  have hl := hq.lcaps
  obtain ⟨l1, l2, l3⟩ := hp.lens
  intro k
  induction k with
  | zero => intro i h1 h2; omega
  | succ k ih =>
    intro i h1 h2 h3
    refine Lp.round ?_
    by_cases hi : i < q.caps.length
    · obtain ⟨x, hx⟩ : ∃ x, q.caps[i]? = some x := ⟨_, List.getElem?_eq_getElem hi⟩
      have q1 := hq.caps.iadr (i := i) (r := capR x) (k := .i64) (by rw [List.getElem?_map, hx]; rfl)
      have bad : capOk p x = false → q.caps.all (capOk p) = false := fun hb => by
        cases ha : q.caps.all (capOk p) with
        | false => rfl
        | true => rw [List.all_eq_true.1 ha x (List.mem_of_getElem? hx)] at hb; cases hb
      have good : ∀ l' K r, capOk p x = true → Sel K [[(b, .cells (unitR u ++ protoR p) 0 0 false)]] r → lkS l' 2 = some (.ptr b 0 0 11) → lkS l' 27 = some q.capsV → lkS l' 28 = some (.int .i64 (.ofNat q.caps.length)) → lkS l' 29 = some (.int .i64 (.ofNat (i + 1))) → Lp Try.prog false b53_0 k l' K Q := by
        intro l' K r hg hs e1 e2 e3 e4
        refine Lp.drop hs (Lp.weak ?hw (ih (i + 1) (by omega) (by omega) ?_))
        case hw => exact ⟨e1, e2, e3, e4, trivial⟩
        intro y hy
        rw [List.take_add_one, hx] at hy
        rcases List.mem_append.1 hy with hy | hy
        · exact h3 y hy
        · simp at hy; subst hy; exact hg
      cases hu : x.up with
      | true =>
        have e : capR x = [.bool true, .int .i64 x.i] := by rw [capR, hu]
        rw [e] at q1
        repeat' (first|refine zz ?_|(refine zv ?_;intro cv hv)|(refine za ?_;intro _)|refine zc ?_|(refine zd ?_;refine And.intro ?_ ?_<;>(intro e;(try simp only [Bool.not_eq_true',Bool.not_eq_false'] at e);subst e;try contradiction)))
        · exact hret _ _ (bad (by have := hv.1 rfl; simp [capOk, hu]; omega)) rfl
        · exact good _ _ _ (by simp at hv; simp [capOk, hu]; omega) (.cons (.there .here) .nil) rfl rfl rfl rfl
      | false =>
        have e : capR x = [.bool false, .int .i64 x.i] := by rw [capR, hu]
        rw [e] at q1
        repeat' (first|refine zz ?_|(refine zv ?_;intro cv hv)|(refine za ?_;intro _)|refine zc ?_|(refine zd ?_;refine And.intro ?_ ?_<;>(intro e;(try simp only [Bool.not_eq_true',Bool.not_eq_false'] at e);subst e;try contradiction)))
        · exact hret _ _ (bad (by have := hv.1 rfl; simp [capOk, hu]; omega)) rfl
        · exact good _ _ _ (by simp at hv; simp [capOk, hu]; omega) (.cons (.there .here) .nil) rfl rfl rfl rfl
    · repeat' (first|refine zz ?_|(refine zv ?_;intro cv hv)|(refine za ?_;intro _)|refine zc ?_|(refine zd ?_;refine And.intro ?_ ?_<;>(intro e;(try simp only [Bool.not_eq_true',Bool.not_eq_false'] at e);subst e;try contradiction)))
      exact hend _ _ (List.all_eq_true.2 fun x hx => h3 x (by rw [List.take_of_length_le (by omega)]; exact hx))
theorem closes28 {u : Unt} {p : Proto} (hu : OkU u) (hp : OkP p) {k : Nat} (hf : u.funs ≤ 9223372036854775807) : PT Try.prog false 53 [.agg (unitR u ++ protoR p), .int .i64 (.ofNat k)] (.bool (closesB u p k)) := by
  refine PT.of (CT.enter mixed comp53 (Nat.le_of_ble_eq_true rfl) ?_)
  obtain ⟨l1, l2⟩ := hu.lens
  by_cases hk : k < u.protos.length
  · obtain ⟨q, hq⟩ : ∃ q, u.protos[k]? = some q := ⟨_, List.getElem?_eq_getElem hk⟩
    have q1 := hu.protos.iadr (i := k) (r := protoR q) (k := .i64) (by rw [List.getElem?_map, hq]; rfl)
    have hq2 := hu.ps q (List.mem_of_getElem? hq)
    obtain ⟨m1, m2, m3⟩ := hq2.lens
    by_cases hfu : Int.ofNat k < u.funs
    · repeat' (first|refine zz ?_|(refine zv ?_;intro cv hv)|(refine za ?_;intro _)|refine zc ?_|(refine zd ?_;refine And.intro ?_ ?_<;>(intro e;(try simp only [Bool.not_eq_true',Bool.not_eq_false'] at e);subst e;try contradiction)))
      (first|refine ⟨.inr rfl,_,.t rfl .nil,?_⟩|refine ⟨.inr rfl,_,.t rfl (.t rfl .nil),?_⟩|refine ⟨.inr rfl,_,.t rfl (.t rfl (.t rfl .nil)),?_⟩|refine ⟨.inr rfl,_,.nil,?_⟩|refine ⟨.inl rfl,_,.t rfl .nil,?_⟩|refine ⟨.inl rfl,_,.nil,?_⟩|refine ⟨.inr rfl,_,.cn rfl (by exact zN) .nil,?_⟩|refine ⟨.inr rfl,_,.cn rfl (by exact zN) (.t rfl .nil),?_⟩)
      refine congrArg AV.bool ?_
      simp only [closesB, hq]
      rw [decide_eq_false (by simp at *; omega)]; rfl
    · repeat' (first|refine zz ?_|(refine zv ?_;intro cv hv)|(refine za ?_;intro _)|refine zc ?_|(refine zd ?_;refine And.intro ?_ ?_<;>(intro e;(try simp only [Bool.not_eq_true',Bool.not_eq_false'] at e);subst e;try contradiction)))
      rename_i b
      refine Cd.weak (l2 := [(2, _), (27, _), (28, _), (29, _)]) ⟨rfl, rfl, rfl, rfl, trivial⟩ ?_
      refine Cd.loop (k := q.caps.length + 1) (closes28_loop (b := b) hp hq2 ?_ ?_ (q.caps.length + 1) 0 (by omega) (by omega) (by intro x hx; simp at hx))
      · intro l' K h1 h2
        exact ⟨.inr rfl, _, .t h2 .nil, by simp only [closesB, hq, h1, Bool.and_false]; rfl⟩
      · intro l' K h1
        show Cd _ _ _ _ _ _
        refine Cd.weak (l2 := []) trivial ?_
        repeat' (first|refine zz ?_|(refine zv ?_;intro cv hv)|(refine za ?_;intro _)|refine zc ?_|(refine zd ?_;refine And.intro ?_ ?_<;>(intro e;(try simp only [Bool.not_eq_true',Bool.not_eq_false'] at e);subst e;try contradiction)))
        (first|refine ⟨.inr rfl,_,.t rfl .nil,?_⟩|refine ⟨.inr rfl,_,.t rfl (.t rfl .nil),?_⟩|refine ⟨.inr rfl,_,.t rfl (.t rfl (.t rfl .nil)),?_⟩|refine ⟨.inr rfl,_,.nil,?_⟩|refine ⟨.inl rfl,_,.t rfl .nil,?_⟩|refine ⟨.inl rfl,_,.nil,?_⟩|refine ⟨.inr rfl,_,.cn rfl (by exact zN) .nil,?_⟩|refine ⟨.inr rfl,_,.cn rfl (by exact zN) (.t rfl .nil),?_⟩)
        simp only [closesB, hq, h1, Bool.and_true]
        rw [decide_eq_true (by simp at *; omega)]; rfl
  · have e : closesB u p k = false := by rw [closesB, List.getElem?_eq_none (by omega)]
    rw [e]
    repeat' (first|refine zz ?_|(refine zv ?_;intro cv hv)|(refine za ?_;intro _)|refine zc ?_|(refine zd ?_;refine And.intro ?_ ?_<;>(intro e;(try simp only [Bool.not_eq_true',Bool.not_eq_false'] at e);subst e;try contradiction)))
    all_goals (first|refine ⟨.inr rfl,_,.t rfl .nil,?_⟩|refine ⟨.inr rfl,_,.t rfl (.t rfl .nil),?_⟩|refine ⟨.inr rfl,_,.t rfl (.t rfl (.t rfl .nil)),?_⟩|refine ⟨.inr rfl,_,.nil,?_⟩|refine ⟨.inl rfl,_,.t rfl .nil,?_⟩|refine ⟨.inl rfl,_,.nil,?_⟩|refine ⟨.inr rfl,_,.cn rfl (by exact zN) .nil,?_⟩|refine ⟨.inr rfl,_,.cn rfl (by exact zN) (.t rfl .nil),?_⟩)
    all_goals rfl
end Go.Proofs.Ytlimjjilakldgaa
