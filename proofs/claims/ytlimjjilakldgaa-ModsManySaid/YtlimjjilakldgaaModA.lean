/- Contracts of small functions: numbers between others, letters and digits. -/
import Derived.Test.YtlimjjilakldgaaModCode
set_option autoImplicit false
set_option maxRecDepth 100000
set_option maxHeartbeats 2000000
set_option linter.unusedVariables false
set_option linter.unusedSimpArgs false
namespace Go.Proofs.Ytlimjjilakldgaa
open Go Go.Abs
attribute [local irreducible] Cmp Rg Dw Cd Lp Ev Rdk CT Upd InK
theorem between_ {n lo hi : Int} : PT Try.prog false 43 [.int .i64 n, .int .i64 lo, .int .i64 hi] (.bool (decide (lo ≤ n ∧ n ≤ hi))) := by
  refine PT.of (CT.enter mixed comp43 (Nat.le_of_ble_eq_true rfl) ?_)
  repeat' (first|refine zz ?_|(refine zv ?_;intro cv hv)|(refine za ?_;intro _)|refine zc ?_|(refine zd ?_;refine And.intro ?_ ?_<;>(intro e;(try simp only [Bool.not_eq_true',Bool.not_eq_false'] at e);subst e;try contradiction)))
  all_goals (first|refine ⟨.inr rfl,_,.t rfl .nil,?_⟩|refine ⟨.inr rfl,_,.t rfl (.t rfl .nil),?_⟩|refine ⟨.inr rfl,_,.t rfl (.t rfl (.t rfl .nil)),?_⟩|refine ⟨.inr rfl,_,.nil,?_⟩|refine ⟨.inl rfl,_,.t rfl .nil,?_⟩|refine ⟨.inl rfl,_,.nil,?_⟩|refine ⟨.inr rfl,_,.cn rfl (by exact zN) .nil,?_⟩|refine ⟨.inr rfl,_,.cn rfl (by exact zN) (.t rfl .nil),?_⟩)
  all_goals (refine congrArg AV.bool ?_; rw [Bool.eq_iff_iff]; (try simp_all); (try omega))
theorem letter_ {n : Nat} : PT Try.prog false 75 [.int .i32 (.ofNat n)] (.bool (decide (97 ≤ n ∧ n ≤ 122))) := by
  refine PT.of (CT.enter mixed comp75 (Nat.le_of_ble_eq_true rfl) ?_)
  repeat' (first|refine zz ?_|(refine zv ?_;intro cv hv)|(refine za ?_;intro _)|refine zc ?_|(refine zd ?_;refine And.intro ?_ ?_<;>(intro e;(try simp only [Bool.not_eq_true',Bool.not_eq_false'] at e);subst e;try contradiction)))
  all_goals (first|refine ⟨.inr rfl,_,.t rfl .nil,?_⟩|refine ⟨.inr rfl,_,.t rfl (.t rfl .nil),?_⟩|refine ⟨.inr rfl,_,.t rfl (.t rfl (.t rfl .nil)),?_⟩|refine ⟨.inr rfl,_,.nil,?_⟩|refine ⟨.inl rfl,_,.t rfl .nil,?_⟩|refine ⟨.inl rfl,_,.nil,?_⟩|refine ⟨.inr rfl,_,.cn rfl (by exact zN) .nil,?_⟩|refine ⟨.inr rfl,_,.cn rfl (by exact zN) (.t rfl .nil),?_⟩)
  all_goals (refine congrArg AV.bool ?_; rw [Bool.eq_iff_iff]; (try simp_all); (try omega))
theorem digit_ {n : Nat} : PT Try.prog false 87 [.int .i32 (.ofNat n)] (.bool (decide (48 ≤ n ∧ n ≤ 57))) := by
  refine PT.of (CT.enter mixed comp87 (Nat.le_of_ble_eq_true rfl) ?_)
  repeat' (first|refine zz ?_|(refine zv ?_;intro cv hv)|(refine za ?_;intro _)|refine zc ?_|(refine zd ?_;refine And.intro ?_ ?_<;>(intro e;(try simp only [Bool.not_eq_true',Bool.not_eq_false'] at e);subst e;try contradiction)))
  all_goals (first|refine ⟨.inr rfl,_,.t rfl .nil,?_⟩|refine ⟨.inr rfl,_,.t rfl (.t rfl .nil),?_⟩|refine ⟨.inr rfl,_,.t rfl (.t rfl (.t rfl .nil)),?_⟩|refine ⟨.inr rfl,_,.nil,?_⟩|refine ⟨.inl rfl,_,.t rfl .nil,?_⟩|refine ⟨.inl rfl,_,.nil,?_⟩|refine ⟨.inr rfl,_,.cn rfl (by exact zN) .nil,?_⟩|refine ⟨.inr rfl,_,.cn rfl (by exact zN) (.t rfl .nil),?_⟩)
  all_goals (refine congrArg AV.bool ?_; rw [Bool.eq_iff_iff]; (try simp_all); (try omega))
/-- What may stand within a word. -/
def inW (n : Nat) : Bool := decide (97 ≤ n ∧ n ≤ 122) || decide (48 ≤ n ∧ n ≤ 57) || decide (n = 95)
theorem inner_ {n : Nat} : PT Try.prog false 77 [.int .i32 (.ofNat n)] (.bool (inW n)) := by
  refine PT.of (CT.enter mixed comp77 (Nat.le_of_ble_eq_true rfl) ?_)
  repeat' (first|(refine zq letter_ ?_;intro cv hv)|refine zs letter_ ?_|(refine zqv letter_ ?_;intro cv hv)|(refine zqd letter_ ?_;intro cv hv)|refine zsd letter_ ?_|(refine zq digit_ ?_;intro cv hv)|refine zs digit_ ?_|(refine zqv digit_ ?_;intro cv hv)|(refine zqd digit_ ?_;intro cv hv)|refine zsd digit_ ?_|refine zz ?_|(refine zv ?_;intro cv hv)|(refine za ?_;intro _)|refine zc ?_|(refine zd ?_;refine And.intro ?_ ?_<;>(intro e;(try simp only [Bool.not_eq_true',Bool.not_eq_false'] at e);subst e;try contradiction)))
  all_goals (first|refine ⟨.inr rfl,_,.t rfl .nil,?_⟩|refine ⟨.inr rfl,_,.t rfl (.t rfl .nil),?_⟩|refine ⟨.inr rfl,_,.t rfl (.t rfl (.t rfl .nil)),?_⟩|refine ⟨.inr rfl,_,.nil,?_⟩|refine ⟨.inl rfl,_,.t rfl .nil,?_⟩|refine ⟨.inl rfl,_,.nil,?_⟩|refine ⟨.inr rfl,_,.cn rfl (by exact zN) .nil,?_⟩|refine ⟨.inr rfl,_,.cn rfl (by exact zN) (.t rfl .nil),?_⟩)
  all_goals (simp only [inW]; (refine congrArg AV.bool ?_; rw [Bool.eq_iff_iff]; (try simp_all); (try omega)))
end Go.Proofs.Ytlimjjilakldgaa

namespace Go.Proofs.Ytlimjjilakldgaa
open Go Go.Abs
attribute [local irreducible] Cmp Rg Dw Cd Lp Ev Rdk CT Upd InK
/-! Ops, by number: told by running. -/
def shapesL : List (List Nat) := ["n--", "r--", "rw", "rr-", "r--", "rr-", "rr-", "ru-", "ur-", "rrr", "rrr", "rrr", "rrr", "rrr", "rrr", "rrr", "rrr", "rrr", "rrr", "rr-", "rr-", "rr-", "r--", "rrr", "rrr", "-w", "rw", "rw", "rw", "rrn", "rrn", "rrn", "rr-", "r--", "r--", "r--", "n--", "r--"].map fun s => s.toList.map Char.toNat
def namesL : List (List Nat) := ["tick", "nil", "const", "move", "box", "get", "set", "up", "upset", "add", "sub", "mul", "div", "rem", "cat", "eq", "ne", "lt", "le", "neg", "not", "len", "table", "index", "store", "jump", "false", "true", "fn", "call", "own", "use", "spawn", "state", "put", "emit", "yield", "return"].map fun s => s.toList.map Char.toNat
def shp (k : Nat) : List Nat := shapesL.getD k []
def nam (k : Nat) : List Nat := namesL.getD k []
theorem runs43 : (List.range 38).all (fun k => osame (ans (acall (comp Try.prog) (fun _ => none) 60 69 [.int .i64 (.ofNat k)] ⟨.e, 0⟩)) (.str (shp k))) = true := by kernel_rfl
theorem of_runs {f : FuncId} {g : Nat → AV} (h : (List.range 38).all (fun k => osame (ans (acall (comp Try.prog) (fun _ => none) 60 f [.int .i64 (.ofNat k)] ⟨.e, 0⟩)) (g k)) = true) (hg : ∀ k, flatV (g k) = true) {k : Nat} (hk : k < 38) : PT Try.prog false f [.int .i64 (.ofNat k)] (g k) := by
  have := List.all_eq_true.1 h k (List.mem_range.2 hk)
  exact PT.run plain0 (osame_eq this) rfl (hg k)
theorem shape43K {k : Nat} (hk : k < 38) : PT Try.prog false 69 [.int .i64 (.ofNat k)] (.str (shp k)) := of_runs (g := fun k => .str (shp k)) runs43 (fun _ => rfl) hk
/-- An op's shape; none: no op. -/
def shape (op : Int) : List Nat := if 0 ≤ op ∧ op < 38 then shp op.toNat else []
def name (op : Int) : List Nat := if 0 ≤ op ∧ op < 38 then nam op.toNat else []
theorem known_ {n : Int} : PT Try.prog false 80 [.int .i64 n] (.bool (decide (0 ≤ n ∧ n < 38))) := by
  refine PT.of (CT.enter mixed comp80 (Nat.le_of_ble_eq_true rfl) ?_)
  repeat' (first|refine zz ?_|(refine zv ?_;intro cv hv)|(refine za ?_;intro _)|refine zc ?_|(refine zd ?_;refine And.intro ?_ ?_<;>(intro e;(try simp only [Bool.not_eq_true',Bool.not_eq_false'] at e);subst e;try contradiction)))
  all_goals (first|refine ⟨.inr rfl,_,.t rfl .nil,?_⟩|refine ⟨.inr rfl,_,.t rfl (.t rfl .nil),?_⟩|refine ⟨.inr rfl,_,.t rfl (.t rfl (.t rfl .nil)),?_⟩|refine ⟨.inr rfl,_,.nil,?_⟩|refine ⟨.inl rfl,_,.t rfl .nil,?_⟩|refine ⟨.inl rfl,_,.nil,?_⟩|refine ⟨.inr rfl,_,.cn rfl (by exact zN) .nil,?_⟩|refine ⟨.inr rfl,_,.cn rfl (by exact zN) (.t rfl .nil),?_⟩)
  all_goals (refine congrArg AV.bool ?_; rw [Bool.eq_iff_iff]; (try simp_all); (try omega))
theorem shape43 {op : Int} : PT Try.prog false 69 [.int .i64 op] (.str (shape op)) := by
  by_cases h : 0 ≤ op ∧ op < 38
  · obtain ⟨k, rfl⟩ := Int.eq_ofNat_of_zero_le h.1
    rw [shape, if_pos h]
    exact shape43K (by omega)
  · rw [shape, if_neg h]
    refine PT.of (CT.enter mixed comp69 (Nat.le_of_ble_eq_true rfl) ?_)
    repeat (first|(refine zq known_ ?_;intro cv hv)|refine zs known_ ?_|(refine zqv known_ ?_;intro cv hv)|(refine zqd known_ ?_;intro cv hv)|refine zsd known_ ?_|refine zz ?_|(refine zv ?_;intro cv hv)|(refine za ?_;intro _)|refine zc ?_|(refine zd ?_;refine And.intro ?_ ?_<;>(intro e;(try simp only [Bool.not_eq_true',Bool.not_eq_false'] at e);subst e;try contradiction)))
    · (first|refine ⟨.inr rfl,_,.t rfl .nil,?_⟩|refine ⟨.inr rfl,_,.t rfl (.t rfl .nil),?_⟩|refine ⟨.inr rfl,_,.t rfl (.t rfl (.t rfl .nil)),?_⟩|refine ⟨.inr rfl,_,.nil,?_⟩|refine ⟨.inl rfl,_,.t rfl .nil,?_⟩|refine ⟨.inl rfl,_,.nil,?_⟩|refine ⟨.inr rfl,_,.cn rfl (by exact zN) .nil,?_⟩|refine ⟨.inr rfl,_,.cn rfl (by exact zN) (.t rfl .nil),?_⟩); rfl
    · exact absurd (of_decide_eq_true hv) h
/-- How shapes are. -/
theorem shp_len : (List.range 38).all (fun k => (Nat.beq (shp k).length 2 && Nat.beq ((shp k).getD 1 0) 119) || Nat.beq (shp k).length 3) = true := by kernel_rfl
theorem list2 {α : Type} {l : List α} (h : l.length = 2) : ∃ a b, l = [a, b] := by
  match l, h with
  | [a, b], _ => exact ⟨a, b, rfl⟩
theorem list3 {α : Type} {l : List α} (h : l.length = 3) : ∃ a b c, l = [a, b, c] := by
  match l, h with
  | [a, b, c], _ => exact ⟨a, b, c, rfl⟩
theorem shape_cases (op : Int) : shape op = [] ∨ (∃ a, shape op = [a, 119]) ∨ ∃ a b c, shape op = [a, b, c] := by
  by_cases h : 0 ≤ op ∧ op < 38
  · right
    rw [shape, if_pos h]
    have := List.all_eq_true.1 shp_len op.toNat (List.mem_range.2 (by omega))
    simp only [Bool.and_eq_true, Bool.or_eq_true] at this
    rcases this with ⟨h, k⟩ | h
    · obtain ⟨a, b, e⟩ := list2 (Nat.eq_of_beq_eq_true h)
      rw [e] at k
      have := Nat.eq_of_beq_eq_true k
      simp at this
      exact .inl ⟨a, by rw [e, this]⟩
    · exact .inr (list3 (Nat.eq_of_beq_eq_true h))
  · left; rw [shape, if_neg h]
/-! Instructions. -/
structure Ins where
  op : Int
  a : Int
  b : Int
  c : Int
def insR (x : Ins) : List AV := [.int .i64 x.op, .int .i64 x.a, .int .i64 x.b, .int .i64 x.c]
def insA (x : Ins) : AV := .agg (insR x)
/-- May a number stand where a letter does? -/
def fitD (ch : Nat) (n : Int) : Bool := if ch = 45 then decide (n = 0) else decide (0 ≤ n ∧ n ≤ 255)
def fit3 (s : List Nat) (x : Ins) : Bool := match s with
  | [p, q] => fitD p x.a && fitD q x.b && fitD q x.c
  | [p, q, r] => fitD p x.a && fitD q x.b && fitD r x.c
  | _ => false
/-- An instruction that can be. -/
def rightI (x : Ins) : Bool := fit3 (shape x.op) x
theorem fits_ {n : Int} {ch : Nat} : PT Try.prog false 79 [.int .i64 n, .int .u8 (.ofNat ch)] (.bool (fitD ch n)) := by
  refine PT.of (CT.enter mixed comp79 (Nat.le_of_ble_eq_true rfl) ?_)
  repeat' (first|refine zz ?_|(refine zv ?_;intro cv hv)|(refine za ?_;intro _)|refine zc ?_|(refine zd ?_;refine And.intro ?_ ?_<;>(intro e;(try simp only [Bool.not_eq_true',Bool.not_eq_false'] at e);subst e;try contradiction)))
  all_goals (first|refine ⟨.inr rfl,_,.t rfl .nil,?_⟩|refine ⟨.inr rfl,_,.t rfl (.t rfl .nil),?_⟩|refine ⟨.inr rfl,_,.t rfl (.t rfl (.t rfl .nil)),?_⟩|refine ⟨.inr rfl,_,.nil,?_⟩|refine ⟨.inl rfl,_,.t rfl .nil,?_⟩|refine ⟨.inl rfl,_,.nil,?_⟩|refine ⟨.inr rfl,_,.cn rfl (by exact zN) .nil,?_⟩|refine ⟨.inr rfl,_,.cn rfl (by exact zN) (.t rfl .nil),?_⟩)
  all_goals (simp only [fitD]; (refine congrArg AV.bool ?_; rw [Bool.eq_iff_iff]; (try simp_all); (try omega)))
theorem right42 (x : Ins) : PT Try.prog false 68 [insA x] (.bool (rightI x)) := by
  refine PT.of (CT.enter mixed comp68 (Nat.le_of_ble_eq_true rfl) ?_)
  have hs := @shape43 x.op
  rcases shape_cases x.op with h | ⟨p, h⟩ | ⟨p, q, r, h⟩
  · rw [h] at hs
    repeat' (first|refine zz ?_|(refine zv ?_;intro cv hv)|(refine za ?_;intro _)|refine zc ?_|(refine zd ?_;refine And.intro ?_ ?_<;>(intro e;(try simp only [Bool.not_eq_true',Bool.not_eq_false'] at e);subst e;try contradiction)))
    (first|refine ⟨.inr rfl,_,.t rfl .nil,?_⟩|refine ⟨.inr rfl,_,.t rfl (.t rfl .nil),?_⟩|refine ⟨.inr rfl,_,.t rfl (.t rfl (.t rfl .nil)),?_⟩|refine ⟨.inr rfl,_,.nil,?_⟩|refine ⟨.inl rfl,_,.t rfl .nil,?_⟩|refine ⟨.inl rfl,_,.nil,?_⟩|refine ⟨.inr rfl,_,.cn rfl (by exact zN) .nil,?_⟩|refine ⟨.inr rfl,_,.cn rfl (by exact zN) (.t rfl .nil),?_⟩)
    rw [rightI, h]; rfl
  · rw [h] at hs
    have q1 : apure .e (.idxs (.c (.str [p, 119])) (.c (.int .i64 (.ofNat 1)))) = some (.int .u8 (.ofNat 119)) := rfl
    repeat' (first|(refine zq fits_ ?_;intro cv hv)|refine zs fits_ ?_|(refine zqv fits_ ?_;intro cv hv)|(refine zqd fits_ ?_;intro cv hv)|refine zsd fits_ ?_|refine zz ?_|(refine zv ?_;intro cv hv)|(refine za ?_;intro _)|refine zc ?_|(refine zd ?_;refine And.intro ?_ ?_<;>(intro e;(try simp only [Bool.not_eq_true',Bool.not_eq_false'] at e);subst e;try contradiction)))
    all_goals (first|refine ⟨.inr rfl,_,.t rfl .nil,?_⟩|refine ⟨.inr rfl,_,.t rfl (.t rfl .nil),?_⟩|refine ⟨.inr rfl,_,.t rfl (.t rfl (.t rfl .nil)),?_⟩|refine ⟨.inr rfl,_,.nil,?_⟩|refine ⟨.inl rfl,_,.t rfl .nil,?_⟩|refine ⟨.inl rfl,_,.nil,?_⟩|refine ⟨.inr rfl,_,.cn rfl (by exact zN) .nil,?_⟩|refine ⟨.inr rfl,_,.cn rfl (by exact zN) (.t rfl .nil),?_⟩)
    all_goals (rw [rightI, h]; refine congrArg AV.bool ?_; simp only [fit3]; (try simp_all))
  · rw [h] at hs
    have q1 : apure .e (.idxs (.c (.str [p, q, r])) (.c (.int .i64 (.ofNat 2)))) = some (.int .u8 (.ofNat r)) := rfl
    repeat' (first|(refine zq fits_ ?_;intro cv hv)|refine zs fits_ ?_|(refine zqv fits_ ?_;intro cv hv)|(refine zqd fits_ ?_;intro cv hv)|refine zsd fits_ ?_|refine zz ?_|(refine zv ?_;intro cv hv)|(refine za ?_;intro _)|refine zc ?_|(refine zd ?_;refine And.intro ?_ ?_<;>(intro e;(try simp only [Bool.not_eq_true',Bool.not_eq_false'] at e);subst e;try contradiction)))
    all_goals (first|refine ⟨.inr rfl,_,.t rfl .nil,?_⟩|refine ⟨.inr rfl,_,.t rfl (.t rfl .nil),?_⟩|refine ⟨.inr rfl,_,.t rfl (.t rfl (.t rfl .nil)),?_⟩|refine ⟨.inr rfl,_,.nil,?_⟩|refine ⟨.inl rfl,_,.t rfl .nil,?_⟩|refine ⟨.inl rfl,_,.nil,?_⟩|refine ⟨.inr rfl,_,.cn rfl (by exact zN) .nil,?_⟩|refine ⟨.inr rfl,_,.cn rfl (by exact zN) (.t rfl .nil),?_⟩)
    all_goals (rw [rightI, h]; refine congrArg AV.bool ?_; simp only [fit3]; (try simp_all))
end Go.Proofs.Ytlimjjilakldgaa
