/- Contracts of small functions: numbers between others, letters and digits. -/
import Derived.Test.YtlimjjilakldgaaGreatPlnCode
set_option autoImplicit false
set_option maxRecDepth 100000
set_option maxHeartbeats 2000000
set_option linter.unusedVariables false
set_option linter.unusedSimpArgs false
namespace Go.Proofs.YtlimjjilakldgaaGreat
open Go Go.Abs
attribute [local irreducible] Cmp Rg Dw Cd Lp Ev Rdk CT Upd InK
theorem between_ {n lo hi : Int} : PT Try.prog false 57 [.int .i64 n, .int .i64 lo, .int .i64 hi] (.bool (decide (lo ≤ n ∧ n ≤ hi))) := by
 refine PT.of (CT.enter mixed comp57 (Nat.le_of_ble_eq_true rfl) ?_)
 repeat' (first|intro _|refine yU ?_|(apply YA.mk;intro cv hv)|(refine yT ?_ ?_<;>(intro e;(try simp only [nbT,nbF] at e);subst e;try contradiction)))
 all_goals refine yX ?_
 all_goals (refine congrArg AV.bool ?_; rw [Bool.eq_iff_iff]; (try simp_all); (try omega))
theorem in_ {n lo hi : Int} : PT Try.prog false 69 [.int .i64 n, .int .i64 lo, .int .i64 hi] (.bool (decide (lo ≤ n ∧ n ≤ hi))) := by
 refine PT.of (CT.enter mixed comp69 (Nat.le_of_ble_eq_true rfl) ?_)
 repeat' (first|intro _|refine yU ?_|(apply YA.mk;intro cv hv)|(refine yT ?_ ?_<;>(intro e;(try simp only [nbT,nbF] at e);subst e;try contradiction)))
 all_goals refine yX ?_
 all_goals (refine congrArg AV.bool ?_; rw [Bool.eq_iff_iff]; (try simp_all); (try omega))
theorem letter_ {n : Nat} : PT Try.prog false 104 [.int .i32 (.ofNat n)] (.bool (decide (97 ≤ n ∧ n ≤ 122))) := by
 refine PT.of (CT.enter mixed comp104 (Nat.le_of_ble_eq_true rfl) ?_)
 repeat' (first|intro _|refine yU ?_|(apply YA.mk;intro cv hv)|(refine yT ?_ ?_<;>(intro e;(try simp only [nbT,nbF] at e);subst e;try contradiction)))
 all_goals refine yX ?_
 all_goals (refine congrArg AV.bool ?_; rw [Bool.eq_iff_iff]; (try simp_all); (try omega))
theorem digit_ {n : Nat} : PT Try.prog false 123 [.int .i32 (.ofNat n)] (.bool (decide (48 ≤ n ∧ n ≤ 57))) := by
 refine PT.of (CT.enter mixed comp123 (Nat.le_of_ble_eq_true rfl) ?_)
 repeat' (first|intro _|refine yU ?_|(apply YA.mk;intro cv hv)|(refine yT ?_ ?_<;>(intro e;(try simp only [nbT,nbF] at e);subst e;try contradiction)))
 all_goals refine yX ?_
 all_goals (refine congrArg AV.bool ?_; rw [Bool.eq_iff_iff]; (try simp_all); (try omega))
theorem letter8_ {n : Nat} : PT Try.prog false 110 [.int .u8 (.ofNat n)] (.bool (decide (97 ≤ n ∧ n ≤ 122))) := by
 refine PT.of (CT.enter mixed comp110 (Nat.le_of_ble_eq_true rfl) ?_)
 repeat' (first|intro _|refine yU ?_|(apply YA.mk;intro cv hv)|(refine yT ?_ ?_<;>(intro e;(try simp only [nbT,nbF] at e);subst e;try contradiction)))
 all_goals refine yX ?_
 all_goals (refine congrArg AV.bool ?_; rw [Bool.eq_iff_iff]; (try simp_all); (try omega))
theorem digit8_ {n : Nat} : PT Try.prog false 111 [.int .u8 (.ofNat n)] (.bool (decide (48 ≤ n ∧ n ≤ 57))) := by
 refine PT.of (CT.enter mixed comp111 (Nat.le_of_ble_eq_true rfl) ?_)
 repeat' (first|intro _|refine yU ?_|(apply YA.mk;intro cv hv)|(refine yT ?_ ?_<;>(intro e;(try simp only [nbT,nbF] at e);subst e;try contradiction)))
 all_goals refine yX ?_
 all_goals (refine congrArg AV.bool ?_; rw [Bool.eq_iff_iff]; (try simp_all); (try omega))
def inW (n : Nat) : Bool := decide (97 ≤ n ∧ n ≤ 122) || decide (48 ≤ n ∧ n ≤ 57) || decide (n = 95)
theorem inner_ {n : Nat} : PT Try.prog false 106 [.int .i32 (.ofNat n)] (.bool (inW n)) := by
 refine PT.of (CT.enter mixed comp106 (Nat.le_of_ble_eq_true rfl) ?_)
 repeat' (first|(refine zq letter_ ?_;intro cv hv)|refine zs letter_ ?_|(refine zqv letter_ ?_;intro cv hv)|(refine zqd letter_ ?_;intro cv hv)|refine zsd letter_ ?_|(refine zq digit_ ?_;intro cv hv)|refine zs digit_ ?_|(refine zqv digit_ ?_;intro cv hv)|(refine zqd digit_ ?_;intro cv hv)|refine zsd digit_ ?_|intro _|refine yU ?_|(apply YA.mk;intro cv hv)|(refine yT ?_ ?_<;>(intro e;(try simp only [nbT,nbF] at e);subst e;try contradiction)))
 all_goals refine yX ?_
 all_goals (simp only [inW]; (refine congrArg AV.bool ?_; rw [Bool.eq_iff_iff]; (try simp_all); (try omega)))
end Go.Proofs.YtlimjjilakldgaaGreat
namespace Go.Proofs.YtlimjjilakldgaaGreat
open Go Go.Abs
attribute [local irreducible] Cmp Rg Dw Cd Lp Ev Rdk CT Upd InK
def shapesL : List (List Nat) := ["n--", "r--", "rw", "rr-", "r--", "rr-", "rr-", "ru-", "ur-", "rrr", "rrr", "rrr", "rrr", "rrr", "rrr", "rrr", "rrr", "rrr", "rrr", "rr-", "rr-", "rr-", "r--", "rrr", "rrr", "-w", "rw", "rw", "rw", "rrn", "rrn", "rrn", "rr-", "r--", "r--", "r--", "n--", "r--"].map fun s => s.toList.map Char.toNat
def namesL : List (List Nat) := ["tick", "nil", "const", "move", "box", "get", "set", "up", "upset", "add", "sub", "mul", "div", "rem", "cat", "eq", "ne", "lt", "le", "neg", "not", "len", "table", "index", "store", "jump", "false", "true", "fn", "call", "own", "use", "spawn", "state", "put", "emit", "yield", "return"].map fun s => s.toList.map Char.toNat
def shp (k : Nat) : List Nat := shapesL.getD k []
def nam (k : Nat) : List Nat := namesL.getD k []
theorem runs43 : (List.range 38).all (fun k => osame (ans (acall (comp Try.prog) (fun _ => none) 60 89 [.int .i64 (.ofNat k)] ⟨.e, 0⟩)) (.str (shp k))) = true := by kernel_rfl
theorem runs48 : (List.range 38).all (fun k => osame (ans (acall (comp Try.prog) (fun _ => none) 60 94 [.int .i64 (.ofNat k)] ⟨.e, 0⟩)) (.str (shp k))) = true := by kernel_rfl
theorem runs15 : (List.range 38).all (fun k => osame (ans (acall (comp Try.prog) (fun _ => none) 60 50 [.int .i64 (.ofNat k)] ⟨.e, 0⟩)) (.str (nam k))) = true := by kernel_rfl
theorem of_runs {f : FuncId} {g : Nat → AV} (h : (List.range 38).all (fun k => osame (ans (acall (comp Try.prog) (fun _ => none) 60 f [.int .i64 (.ofNat k)] ⟨.e, 0⟩)) (g k)) = true) (hg : ∀ k, flatV (g k) = true) {k : Nat} (hk : k < 38) : PT Try.prog false f [.int .i64 (.ofNat k)] (g k) := by
 have := List.all_eq_true.1 h k (List.mem_range.2 hk)
 exact PT.run plain0 (osame_eq this) rfl (hg k)
theorem shape43K {k : Nat} (hk : k < 38) : PT Try.prog false 89 [.int .i64 (.ofNat k)] (.str (shp k)) := of_runs (g := fun k => .str (shp k)) runs43 (fun _ => rfl) hk
theorem shape48K {k : Nat} (hk : k < 38) : PT Try.prog false 94 [.int .i64 (.ofNat k)] (.str (shp k)) := of_runs (g := fun k => .str (shp k)) runs48 (fun _ => rfl) hk
theorem name15K {k : Nat} (hk : k < 38) : PT Try.prog false 50 [.int .i64 (.ofNat k)] (.str (nam k)) := of_runs (g := fun k => .str (nam k)) runs15 (fun _ => rfl) hk
def shape (op : Int) : List Nat := if 0 ≤ op ∧ op < 38 then shp op.toNat else []
def name (op : Int) : List Nat := if 0 ≤ op ∧ op < 38 then nam op.toNat else []
theorem known_ {n : Int} : PT Try.prog false 109 [.int .i64 n] (.bool (decide (0 ≤ n ∧ n < 38))) := by
 refine PT.of (CT.enter mixed comp109 (Nat.le_of_ble_eq_true rfl) ?_)
 repeat' (first|intro _|refine yU ?_|(apply YA.mk;intro cv hv)|(refine yT ?_ ?_<;>(intro e;(try simp only [nbT,nbF] at e);subst e;try contradiction)))
 all_goals refine yX ?_
 all_goals (refine congrArg AV.bool ?_; rw [Bool.eq_iff_iff]; (try simp_all); (try omega))
theorem shape43 {op : Int} : PT Try.prog false 89 [.int .i64 op] (.str (shape op)) := by
 by_cases h : 0 ≤ op ∧ op < 38
 ·obtain ⟨k, rfl⟩ := Int.eq_ofNat_of_zero_le h.1
  rw [shape, if_pos h]
  exact shape43K (by omega)
 ·rw [shape, if_neg h]
  refine PT.of (CT.enter mixed comp89 (Nat.le_of_ble_eq_true rfl) ?_)
  repeat (first|(refine zq known_ ?_;intro cv hv)|refine zs known_ ?_|(refine zqv known_ ?_;intro cv hv)|(refine zqd known_ ?_;intro cv hv)|refine zsd known_ ?_|intro _|refine yU ?_|(apply YA.mk;intro cv hv)|(refine yT ?_ ?_<;>(intro e;(try simp only [nbT,nbF] at e);subst e;try contradiction)))
  ·refine yX ?_; rfl
  ·exact absurd (of_decide_eq_true hv) h
theorem name15 {op : Int} : PT Try.prog false 50 [.int .i64 op] (.str (name op)) := by
 by_cases h : 0 ≤ op ∧ op < 38
 ·obtain ⟨k, rfl⟩ := Int.eq_ofNat_of_zero_le h.1
  rw [name, if_pos h]
  exact name15K (by omega)
 ·rw [name, if_neg h]
  refine PT.of (CT.enter mixed comp50 (Nat.le_of_ble_eq_true rfl) ?_)
  have hl : apure .e (.len false (.c (.slc 0 0 0 38 38 1))) = some (.int .i64 (.ofNat 38)) := rfl
  repeat' (first|intro _|refine yU ?_|(apply YA.mk;intro cv hv)|(refine yT ?_ ?_<;>(intro e;(try simp only [nbT,nbF] at e);subst e;try contradiction)))
  all_goals (refine yX ?_; rfl)
theorem shape48 {op : Int} : PT Try.prog false 94 [.int .i64 op] (.str (shape op)) := by
 by_cases h : 0 ≤ op ∧ op < 38
 ·obtain ⟨k, rfl⟩ := Int.eq_ofNat_of_zero_le h.1
  rw [shape, if_pos h]
  exact shape48K (by omega)
 ·have hn := @name15 op
  rw [name, if_neg h] at hn
  rw [shape, if_neg h]
  refine PT.of (CT.enter mixed comp94 (Nat.le_of_ble_eq_true rfl) ?_)
  repeat' (first|intro _|refine yU ?_|(apply YA.mk;intro cv hv)|(refine yT ?_ ?_<;>(intro e;(try simp only [nbT,nbF] at e);subst e;try contradiction)))
  all_goals first | (refine yX ?_; rfl) | (simp_all; done)
theorem shp_len : (List.range 38).all (fun k => (Nat.beq (shp k).length 2 && Nat.beq ((shp k).getD 1 0) 119) || Nat.beq (shp k).length 3) = true := by kernel_rfl
theorem list2 {α : Type} {l : List α} (h : l.length = 2) : ∃ a b, l = [a, b] := by
 match l, h with
 | [a, b], _ => exact ⟨a, b, rfl⟩
theorem list3 {α : Type} {l : List α} (h : l.length = 3) : ∃ a b c, l = [a, b, c] := by
 match l, h with
 | [a, b, c], _ => exact ⟨a, b, c, rfl⟩
theorem shape_cases (op : Int) : shape op = [] ∨ (∃ a, shape op = [a, 119]) ∨ ∃ a b c, shape op = [a, b, c] := by
 by_cases h : 0 ≤ op ∧ op < 38
 ·right
  rw [shape, if_pos h]
  have := List.all_eq_true.1 shp_len op.toNat (List.mem_range.2 (by omega))
  simp only [Bool.and_eq_true, Bool.or_eq_true] at this
  rcases this with ⟨h, k⟩ | h
  ·obtain ⟨a, b, e⟩ := list2 (Nat.eq_of_beq_eq_true h)
   rw [e] at k
   have := Nat.eq_of_beq_eq_true k
   simp at this
   exact .inl ⟨a, by rw [e, this]⟩
  ·exact .inr (list3 (Nat.eq_of_beq_eq_true h))
 ·left; rw [shape, if_neg h]
structure Ins where
 op : Int
 a : Int
 b : Int
 c : Int
def insR (x : Ins) : List AV := [.int .i64 x.op, .int .i64 x.a, .int .i64 x.b, .int .i64 x.c]
def insA (x : Ins) : AV := .agg (insR x)
def fitD (ch : Nat) (n : Int) : Bool := if ch = 45 then decide (n = 0) else decide (0 ≤ n ∧ n ≤ 255)
def fit3 (s : List Nat) (x : Ins) : Bool := match s with
 | [p, q] => fitD p x.a && fitD q x.b && fitD q x.c
 | [p, q, r] => fitD p x.a && fitD q x.b && fitD r x.c
 | _ => false
def rightI (x : Ins) : Bool := fit3 (shape x.op) x
theorem fits_ {n : Int} {ch : Nat} : PT Try.prog false 108 [.int .i64 n, .int .u8 (.ofNat ch)] (.bool (fitD ch n)) := by
 refine PT.of (CT.enter mixed comp108 (Nat.le_of_ble_eq_true rfl) ?_)
 repeat' (first|intro _|refine yU ?_|(apply YA.mk;intro cv hv)|(refine yT ?_ ?_<;>(intro e;(try simp only [nbT,nbF] at e);subst e;try contradiction)))
 all_goals refine yX ?_
 all_goals (simp only [fitD]; (refine congrArg AV.bool ?_; rw [Bool.eq_iff_iff]; (try simp_all); (try omega)))
theorem small_ {n : Int} {ch : Nat} : PT Try.prog false 112 [.int .i64 n, .int .u8 (.ofNat ch)] (.bool (fitD ch n)) := by
 refine PT.of (CT.enter mixed comp112 (Nat.le_of_ble_eq_true rfl) ?_)
 repeat' (first|intro _|refine yU ?_|(apply YA.mk;intro cv hv)|(refine yT ?_ ?_<;>(intro e;(try simp only [nbT,nbF] at e);subst e;try contradiction)))
 all_goals refine yX ?_
 all_goals (simp only [fitD]; split <;> (refine congrArg AV.bool ?_; rw [Bool.eq_iff_iff]; (try simp_all); (try omega)))
theorem right42 (x : Ins) : PT Try.prog false 88 [insA x] (.bool (rightI x)) := by
 refine PT.of (CT.enter mixed comp88 (Nat.le_of_ble_eq_true rfl) ?_)
 have hs := @shape43 x.op
 rcases shape_cases x.op with h | ⟨p, h⟩ | ⟨p, q, r, h⟩
 ·rw [h] at hs
  repeat' (first|intro _|refine yU ?_|(apply YA.mk;intro cv hv)|(refine yT ?_ ?_<;>(intro e;(try simp only [nbT,nbF] at e);subst e;try contradiction)))
  refine yX ?_
  rw [rightI, h]; rfl
 ·rw [h] at hs
  have q1 : apure .e (.idxs (.c (.str [p, 119])) (.c (.int .i64 (.ofNat 1)))) = some (.int .u8 (.ofNat 119)) := rfl
  repeat' (first|(refine zq fits_ ?_;intro cv hv)|refine zs fits_ ?_|(refine zqv fits_ ?_;intro cv hv)|(refine zqd fits_ ?_;intro cv hv)|refine zsd fits_ ?_|intro _|refine yU ?_|(apply YA.mk;intro cv hv)|(refine yT ?_ ?_<;>(intro e;(try simp only [nbT,nbF] at e);subst e;try contradiction)))
  all_goals refine yX ?_
  all_goals (rw [rightI, h]; refine congrArg AV.bool ?_; simp only [fit3]; (try simp_all))
 ·rw [h] at hs
  have q1 : apure .e (.idxs (.c (.str [p, q, r])) (.c (.int .i64 (.ofNat 2)))) = some (.int .u8 (.ofNat r)) := rfl
  repeat' (first|(refine zq fits_ ?_;intro cv hv)|refine zs fits_ ?_|(refine zqv fits_ ?_;intro cv hv)|(refine zqd fits_ ?_;intro cv hv)|refine zsd fits_ ?_|intro _|refine yU ?_|(apply YA.mk;intro cv hv)|(refine yT ?_ ?_<;>(intro e;(try simp only [nbT,nbF] at e);subst e;try contradiction)))
  all_goals refine yX ?_
  all_goals (rw [rightI, h]; refine congrArg AV.bool ?_; simp only [fit3]; (try simp_all))
theorem right47 (x : Ins) : PT Try.prog false 93 [insA x] (.bool (rightI x)) := by
 refine PT.of (CT.enter mixed comp93 (Nat.le_of_ble_eq_true rfl) ?_)
 have hs := @shape48 x.op
 rcases shape_cases x.op with h | ⟨p, h⟩ | ⟨p, q, r, h⟩
 ·rw [h] at hs
  repeat' (first|intro _|refine yU ?_|(apply YA.mk;intro cv hv)|(refine yT ?_ ?_<;>(intro e;(try simp only [nbT,nbF] at e);subst e;try contradiction)))
  refine yX ?_
  rw [rightI, h]; rfl
 ·rw [h] at hs
  repeat' (first|(refine zq small_ ?_;intro cv hv)|refine zs small_ ?_|(refine zqv small_ ?_;intro cv hv)|(refine zqd small_ ?_;intro cv hv)|refine zsd small_ ?_|intro _|refine yU ?_|(apply YA.mk;intro cv hv)|(refine yT ?_ ?_<;>(intro e;(try simp only [nbT,nbF] at e);subst e;try contradiction)))
  all_goals refine yX ?_
  all_goals (rw [rightI, h]; refine congrArg AV.bool ?_; simp only [fit3]; (try simp_all))
 ·rw [h] at hs
  repeat' (first|(refine zq small_ ?_;intro cv hv)|refine zs small_ ?_|(refine zqv small_ ?_;intro cv hv)|(refine zqd small_ ?_;intro cv hv)|refine zsd small_ ?_|intro _|refine yU ?_|(apply YA.mk;intro cv hv)|(refine yT ?_ ?_<;>(intro e;(try simp only [nbT,nbF] at e);subst e;try contradiction)))
  all_goals refine yX ?_
  all_goals (rw [rightI, h]; refine congrArg AV.bool ?_; simp only [fit3]; (try simp_all))
end Go.Proofs.YtlimjjilakldgaaGreat
namespace Go.Proofs.YtlimjjilakldgaaGreat
open Go Go.Abs
attribute [local irreducible] Cmp Rg Dw Cd Lp Ev Rdk CT Upd InK
def Txt (s : List Nat) : Prop := s.length ≤ 9223372036854775807 ∧ ∀ c, c ∈ s → c < 256
theorem tw_all {p : Nat → Bool} : ∀ {s : List Nat} {pos : Nat}, s.length ≤ pos → (∀ i c, i < pos → s[i]? = some c → p c = true) → s.takeWhile p = s
 | [], _, _, _ => rfl
 | a :: s, 0, h, _ => by simp at h
 | a :: s, pos + 1, h, k => by
  rw [List.takeWhile_cons, k 0 a (by omega) rfl]
  simp only [if_true]
  rw [tw_all (pos := pos) (by simpa using h) fun i c hi hc => k (i + 1) c (by omega) (by simpa using hc)]
theorem tw_take {p : Nat → Bool} : ∀ {s : List Nat} {pos c : Nat}, s[pos]? = some c → p c = false → (∀ i d, i < pos → s[i]? = some d → p d = true) → s.takeWhile p = s.take pos
 | [], _, _, h, _, _ => by simp at h
 | a :: s, 0, c, h, hp, _ => by simp at h; subst h; simp [hp]
 | a :: s, pos + 1, c, h, hp, k => by
  rw [List.takeWhile_cons, k 0 a (by omega) rfl]
  simp only [if_true, List.take_succ_cons]
  rw [tw_take (pos := pos) (c := c) (by simpa using h) hp fun i d hi hd => k (i + 1) d (by omega) (by simpa using hd)]
theorem inW_big {n : Nat} (h : 128 ≤ n) : inW n = false := by
 simp only [inW, Bool.or_eq_false_iff, decide_eq_false_iff_not]
 omega
theorem head_loop {s : List Nat} (hs : Txt s) {Q : AX → SL → Mem → Prop} (hret : ∀ l K, lkS l 4 = some (.str (s.takeWhile inW)) → Q .ret l K) (hend : ∀ l K, s.takeWhile inW = s → lkS l 0 = some (.str s) → Q (.ext 0) l K) :
  ∀ (k pos b : Nat), s.length < pos + k → pos ≤ s.length → (∀ i c, i < pos → s[i]? = some c → inW c = true) → Lp Try.prog false b105_0 k [(0, .str s), (1, .fn 106 [] []), (8, .it b)] [[(b, .sit s pos)]] Q := by
 intro k
 induction k with
 | zero => intro pos b h1 h2; omega
 | succ k ih =>
  intro pos b h1 h2 h3
  refine Lp.round ?_
  have q := sstr_to (s := s) (k := .i64) (n := pos) h2
  by_cases hp : pos < s.length
  ·have hc : s[pos]? = some s[pos] := List.getElem?_eq_getElem hp
   generalize s[pos] = c at hc
   have hcm := hs.2 c (List.mem_of_getElem? hc)
   (repeat refine Cd.seq ?_); refine Cd.reg ?_
   refine Rg.nextS rfl Upd.here hp ?_
   by_cases hsm : c < 128
   ·rw [dec_small hc hsm]
    have hin := @inner_ c
    repeat' (first|intro _|refine yU ?_|(apply YA.mk;intro cv hv)|(refine yT ?_ ?_<;>(intro e;(try simp only [nbT,nbF] at e);subst e;try contradiction)))
    ·exact hret _ _ (by rw [tw_take hc hv h3]; rfl)
    ·refine Lp.weak ?hw (ih (pos + 1) b (by omega) (by omega) ?_)
     case hw => exact ⟨rfl, rfl, rfl, trivial⟩
     intro i d hi hd
     by_cases he : i = pos
     ·subst he; rw [hc] at hd; cases hd; exact hv
     ·exact h3 i d (by omega) hd
   ·have hbig := dec_big hc (by omega) hcm
    generalize dec s pos = dd at hbig
    have hin := @inner_ dd.1
    rw [inW_big hbig] at hin
    repeat' (first|intro _|refine yU ?_|(apply YA.mk;intro cv hv)|(refine yT ?_ ?_<;>(intro e;(try simp only [nbT,nbF] at e);subst e;try contradiction)))
    ·exact hret _ _ (by rw [tw_take hc (inW_big (by omega)) h3]; rfl)
    all_goals (cases hv)
  ·(repeat refine Cd.seq ?_); refine Cd.reg ?_
   refine Rg.nextE rfl InK.here hp ?_
   repeat' (first|intro _|refine yU ?_|(apply YA.mk;intro cv hv)|(refine yT ?_ ?_<;>(intro e;(try simp only [nbT,nbF] at e);subst e;try contradiction)))
   exact hend _ _ (tw_all (by omega) h3) rfl
theorem head50 {s : List Nat} (hs : Txt s) : PT Try.prog false 105 [.str s, .fn 106 [] []] (.str (s.takeWhile inW)) := by
 refine PT.of (CT.enter mixed comp105 (Nat.le_of_ble_eq_true rfl) ?_)
 repeat' (first|intro _|refine yU ?_|(apply YA.mk;intro cv hv)|(refine yT ?_ ?_<;>(intro e;(try simp only [nbT,nbF] at e);subst e;try contradiction)))
 refine Rg.rngS rfl fun b => ?_
 refine Rg.nil ?_
 refine Cd.blk (Cd.loop (k := s.length + 1) ?_)
 refine Lp.weak (l2 := [(0, .str s), (1, .fn 106 [] []), (8, .it b)]) ⟨rfl, rfl, rfl, trivial⟩ (head_loop hs ?_ ?_ (s.length + 1) 0 b (by omega) (by omega) (by intro i c hi; omega))
 ·intro l K h
  exact ⟨.inr rfl, _, .t h .nil, rfl⟩
 ·intro l K h h0
  show Cd _ _ _ _ _ _
  refine Cd.weak (l2 := [(0, .str s)]) ⟨h0, trivial⟩ ?_
  repeat' (first|intro _|refine yU ?_|(apply YA.mk;intro cv hv)|(refine yT ?_ ?_<;>(intro e;(try simp only [nbT,nbF] at e);subst e;try contradiction)))
  refine yX ?_
  rw [h]; rfl
def word (s : List Nat) : Bool := match s with
 | [] => false
 | c :: _ => decide (97 ≤ c ∧ c ≤ 122) && decide ((s.takeWhile inW).length = s.length)
theorem word35 {s : List Nat} (hs : Txt s) : PT Try.prog false 81 [.str s] (.bool (word s)) := by
 refine PT.of (CT.enter mixed comp81 (Nat.le_of_ble_eq_true rfl) ?_)
 cases s with
 | nil =>
  repeat' (first|intro _|refine yU ?_|(apply YA.mk;intro cv hv)|(refine yT ?_ ?_<;>(intro e;(try simp only [nbT,nbF] at e);subst e;try contradiction)))
  refine yX ?_; rfl
 | cons a s =>
  have h50 := head50 hs
  have ha : a < 256 := hs.2 a (by simp)
  have q1 : apure .e (.idxs (.c (.str (a :: s))) (.c (.int .i64 (.ofNat 0)))) = some (.int .u8 (.ofNat a)) := rfl
  have q2 := toInt_nat (j := .u8) (k := .i32) (n := a) (by simp [top]; omega)
  repeat' (first|(refine zq letter_ ?_;intro cv hv)|refine zs letter_ ?_|(refine zqv letter_ ?_;intro cv hv)|(refine zqd letter_ ?_;intro cv hv)|refine zsd letter_ ?_|intro _|refine yU ?_|(apply YA.mk;intro cv hv)|(refine yT ?_ ?_<;>(intro e;(try simp only [nbT,nbF] at e);subst e;try contradiction)))
  all_goals refine yX ?_
  all_goals (refine congrArg AV.bool ?_; rw [Bool.eq_iff_iff]; simp only [word, Bool.and_eq_true, decide_eq_true_eq]; first | (simp_all; done) | (simp_all; omega) | omega)
def within (all s : List Nat) : Bool := (List.range (all.length + 1)).any fun i => decide (i + s.length ≤ all.length) && decide ((all.drop i).take s.length = s)
theorem within_loop {all s : List Nat} (h1 : all.length ≤ 1000) (h2 : s.length ≤ 562949953421312) {Q : AX → SL → Mem → Prop} (hret : ∀ l K, lkS l 4 = some (.bool true) → within all s = true → Q .ret l K) (hend : ∀ l K, within all s = false → Q (.ext 0) l K) :
  ∀ (k i : Nat), all.length + 1 < i + k → i ≤ all.length + 1 → (∀ j, j < i → j + s.length ≤ all.length → (all.drop j).take s.length ≠ s) → Lp Try.prog false b107_0 k [(0, .str all), (1, .str s), (5, .int .i64 (.ofNat i))] [] Q := by
 intro k
 induction k with
 | zero => intro i h1 h2; omega
 | succ k ih =>
  intro i k1 k2 k3
  refine Lp.round ?_
  by_cases hi : i + s.length ≤ all.length
  ·have q1 := sstr_of (s := all) (k := .i64) (j := .i64) (m := i) (n := i + s.length) hi (by omega)
   rw [Nat.add_sub_cancel_left] at q1
   repeat' (first|intro _|refine yU ?_|(apply YA.mk;intro cv hv)|(refine yT ?_ ?_<;>(intro e;(try simp only [nbT,nbF] at e);subst e;try contradiction)))
   ·exact hret _ _ rfl (List.any_eq_true.2 ⟨i, List.mem_range.2 (by omega), by simp [hi, hv.1 rfl]⟩)
   ·refine Lp.weak ?hw (ih (i + 1) (by omega) (by omega) ?_)
    case hw => exact ⟨rfl, rfl, rfl, trivial⟩
    intro j hj hl
    by_cases he : j = i
    ·subst he; intro h6; have := hv.2 h6; cases this
    ·exact k3 j (by omega) hl
  ·repeat' (first|intro _|refine yU ?_|(apply YA.mk;intro cv hv)|(refine yT ?_ ?_<;>(intro e;(try simp only [nbT,nbF] at e);subst e;try contradiction)))
   ·refine hend _ _ ?_
    cases hw : within all s with
    | false => rfl
    | true =>
     obtain ⟨j, j1, j2⟩ := List.any_eq_true.1 hw
     simp only [Bool.and_eq_true, decide_eq_true_eq] at j2
     by_cases he : j < i
     ·exact absurd j2.2 (k3 j he j2.1)
     ·omega
theorem within52 {all s : List Nat} (h1 : all.length ≤ 1000) (h2 : s.length ≤ 562949953421312) : PT Try.prog false 107 [.str all, .str s] (.bool (within all s)) := by
 refine PT.of (CT.enter mixed comp107 (Nat.le_of_ble_eq_true rfl) ?_)
 repeat' (first|intro _|refine yU ?_|(apply YA.mk;intro cv hv)|(refine yT ?_ ?_<;>(intro e;(try simp only [nbT,nbF] at e);subst e;try contradiction)))
 refine Cd.loop (k := all.length + 2) (Lp.weak (l2 := [(0, .str all), (1, .str s), (5, .int .i64 (.ofNat 0))]) ⟨rfl, rfl, rfl, trivial⟩ (within_loop h1 h2 ?_ ?_ (all.length + 2) 0 (by omega) (by omega) (by intro j hj; omega)))
 ·intro l K h h3
  exact ⟨.inr rfl, _, .t h .nil, by rw [h3]; rfl⟩
 ·intro l K h
  show Cd _ _ _ _ _ _
  refine Cd.weak (l2 := []) trivial ?_
  repeat' (first|intro _|refine yU ?_|(apply YA.mk;intro cv hv)|(refine yT ?_ ?_<;>(intro e;(try simp only [nbT,nbF] at e);subst e;try contradiction)))
  refine yX ?_
  rw [h]; rfl
end Go.Proofs.YtlimjjilakldgaaGreat
namespace Go.Proofs.YtlimjjilakldgaaGreat
open Go Go.Abs
attribute [local irreducible] Cmp Rg Dw Cd Lp Ev Rdk CT Upd InK
def keysT : List Nat := " module use fn let if else while break continue return put emit yield nil state spawn len not and or ".toList.map Char.toNat
def keyL : List (List Nat) := ["module", "use", "fn", "let", "if", "else", "while", "break", "continue", "return", "put", "emit", "yield", "nil", "state", "spawn", "len", "not", "and", "or"].map fun s => s.toList.map Char.toNat
theorem key36 {s : List Nat} (hs : Txt s) (hl : s.length ≤ 1000) : PT Try.prog false 82 [.str s] (.bool (word s && within keysT ([32] ++ s ++ [32]))) := by
 refine PT.of (CT.enter mixed comp82 (Nat.le_of_ble_eq_true rfl) ?_)
 have q1 := add_str (s := [32]) (t := s) (by simp [lim]; omega)
 have q2 := add_str (s := [32] ++ s) (t := [32]) (by simp [lim]; omega)
 have hw := word35 hs
 have hi := within52 (all := keysT) (s := [32] ++ s ++ [32]) (by decide) (by simp; omega)
 repeat' (first|intro _|refine yU ?_|(apply YA.mk;intro cv hv)|(refine yT ?_ ?_<;>(intro e;(try simp only [nbT,nbF] at e);subst e;try contradiction)))
 all_goals refine yX ?_
 all_goals (refine congrArg AV.bool ?_; rw [Bool.eq_iff_iff]; simp only [Bool.and_eq_true]; simp_all)
theorem tw_stop {p : Nat → Bool} {s r : List Nat} {x : Nat} (h : ∀ c, c ∈ s → p c = true) (hx : p x = false) : (s ++ x :: r).takeWhile p = s := by
 rw [List.takeWhile_append_of_pos h, List.takeWhile_cons, hx]
 simp
theorem seg_keys : (List.range keysT.length).all (fun i => (keysT.drop (i + 1)).takeWhile (fun c => c != 32) == [] || keysT[i]?.getD 0 != 32 || keyL.contains ((keysT.drop (i + 1)).takeWhile fun c => c != 32)) = true := by kernel_rfl
theorem keys_seg : keyL.all (fun w => within keysT ([32] ++ w ++ [32])) = true := by kernel_rfl
theorem mem_tw {p : Nat → Bool} : ∀ {l : List Nat} {c : Nat}, c ∈ l.takeWhile p → p c = true
 | [], c, h => by simp at h
 | a :: l, c, h => by
  rw [List.takeWhile_cons] at h
  cases hp : p a with
  | true =>
   rw [hp] at h
   rcases List.mem_cons.1 h with rfl | h
   ·exact hp
   ·exact mem_tw h
  | false => rw [hp] at h; simp at h
theorem word_mem {s : List Nat} (h : word s = true) : s ≠ [] ∧ ∀ c, c ∈ s → inW c = true := by
 cases s with
 | nil => cases h
 | cons a s =>
  refine ⟨by simp, ?_⟩
  simp only [word, Bool.and_eq_true, decide_eq_true_eq] at h
  have : (a :: s).takeWhile inW = a :: s := (List.takeWhile_prefix inW).eq_of_length h.2
  intro c hc
  rw [← this] at hc
  exact mem_tw hc
theorem key_eq {s : List Nat} (h : word s = true) : within keysT ([32] ++ s ++ [32]) = keyL.contains s := by
 obtain ⟨h1, h2⟩ := word_mem h
 rw [Bool.eq_iff_iff]
 constructor
 ·intro hw
  obtain ⟨i, i1, i2⟩ := List.any_eq_true.1 hw
  simp only [Bool.and_eq_true, decide_eq_true_eq] at i2
  obtain ⟨i2, i3⟩ := i2
  have hd : keysT.drop i = [32] ++ s ++ [32] ++ (keysT.drop i).drop ([32] ++ s ++ [32]).length := by
   have := (List.take_append_drop ([32] ++ s ++ [32]).length (keysT.drop i)).symm
   rw [i3] at this
   exact this
  generalize (keysT.drop i).drop ([32] ++ s ++ [32]).length = r at hd
  have hi : i < keysT.length := by simp at i2; omega
  have h0 : keysT[i]? = some 32 := by
   have := List.getElem?_drop (xs := keysT) (i := i) (j := 0)
   rw [hd] at this
   simpa using this.symm
  have hd1 : keysT.drop (i + 1) = s ++ 32 :: r := by
   rw [← List.drop_drop, hd]; simp
  have := List.all_eq_true.1 seg_keys i (List.mem_range.2 hi)
  rw [hd1, tw_stop (fun c hc => by
   have := h2 c hc
   simp only [bne_iff_ne, ne_eq]
   rintro rfl
   revert this; decide) (by decide)] at this
  simp only [h0, Bool.or_eq_true] at this
  rcases this with (h3 | h3) | h3
  ·exact absurd (by simpa using h3) h1
  ·simp at h3
  ·exact h3
 ·intro hc
  exact List.all_eq_true.1 keys_seg s (by simpa using hc)
def isName (s : List Nat) : Bool := word s && decide (s.length ≤ 16) && !keyL.contains s
theorem name17 {s : List Nat} (hs : Txt s) : PT Try.prog false 56 [.str s] (.bool (isName s)) := by
 refine PT.of (CT.enter mixed comp56 (Nat.le_of_ble_eq_true rfl) ?_)
 have hw := word35 hs
 by_cases hl : s.length ≤ 16
 ·have hk := key36 hs (by omega)
  repeat' (first|intro _|refine yU ?_|(apply YA.mk;intro cv hv)|(refine yT ?_ ?_<;>(intro e;(try simp only [nbT,nbF] at e);subst e;try contradiction)))
  all_goals refine yX ?_
  ·refine congrArg AV.bool ?_
   cases hq : word s with
   | true => rw [isName, ← hv, key_eq hq, hq]; simp [hl]
   | false => simp_all
  ·refine congrArg AV.bool ?_
   simp [isName, hv]
 ·repeat' (first|intro _|refine yU ?_|(apply YA.mk;intro cv hv)|(refine yT ?_ ?_<;>(intro e;(try simp only [nbT,nbF] at e);subst e;try contradiction)))
  all_goals refine yX ?_
  all_goals (refine congrArg AV.bool ?_; simp [isName, hl])
def okAt (i c : Nat) : Bool := decide (97 ≤ c ∧ c ≤ 122) || decide (0 < i) && inW c
theorem word44_loop {s : List Nat} (hs : Txt s) {Q : AX → SL → Mem → Prop} (hend : ∀ l K n, n ≤ s.length → (∀ i c, i < n → s[i]? = some c → okAt i c = true) → (∀ c, s[n]? = some c → okAt n c = false) → lkS l 5 = some (.int .i64 (.ofNat n)) → Q (.ext 0) l K) :
  ∀ (k n : Nat), s.length < n + k → n ≤ s.length → (∀ i c, i < n → s[i]? = some c → okAt i c = true) → Lp Try.prog false b90_0 k [(0, .str s), (1, .int .i64 (.ofNat 0)), (5, .int .i64 (.ofNat n))] [] Q := by
 intro k
 have hs1 := hs.1
 induction k with
 | zero => intro n h1 h2; omega
 | succ k ih =>
  intro n h1 h2 h3
  refine Lp.round ?_
  by_cases hp : n < s.length
  ·have hc : s[n]? = some s[n] := List.getElem?_eq_getElem hp
   generalize s[n] = c at hc
   have hcm := hs.2 c (List.mem_of_getElem? hc)
   have q1 := idxs_at (k := .i64) hc
   have q2 : abin .add (.int .i64 (.ofNat 0)) (.int .i64 (.ofNat n)) = some (.int .i64 (.ofNat n)) := by rw [add_nat (by omega), Nat.zero_add]
   have step : okAt n c = true → ∀ l K, lkS l 0 = some (.str s) → lkS l 1 = some (.int .i64 (.ofNat 0)) → lkS l 5 = some (.int .i64 (.ofNat (n + 1))) → Lp Try.prog false b90_0 k l K Q := by
    intro hok l K e0 e1 e5
    refine Lp.drop .nil (Lp.weak ?hw (ih (n + 1) (by omega) (by omega) ?_))
    case hw => exact ⟨e0, e1, e5, trivial⟩
    intro i d hi hd
    by_cases he : i = n
    ·subst he; rw [hc] at hd; cases hd; exact hok
    ·exact h3 i d (by omega) hd
   have stop : okAt n c = false → ∀ d, s[n]? = some d → okAt n d = false := by
    intro hok d hd
    rw [hc] at hd; cases hd; exact hok
   by_cases hn : 0 < n
   ·repeat' (first|(refine zq letter8_ ?_;intro cv hv)|refine zs letter8_ ?_|(refine zqv letter8_ ?_;intro cv hv)|(refine zqd letter8_ ?_;intro cv hv)|refine zsd letter8_ ?_|(refine zq digit8_ ?_;intro cv hv)|refine zs digit8_ ?_|(refine zqv digit8_ ?_;intro cv hv)|(refine zqd digit8_ ?_;intro cv hv)|refine zsd digit8_ ?_|intro _|refine yU ?_|(apply YA.mk;intro cv hv)|(refine yT ?_ ?_<;>(intro e;(try simp only [nbT,nbF] at e);subst e;try contradiction)))
    all_goals first | exact step (by clear ih h3 step stop hend q1 q2 hc hs h1 h2; simp_all [okAt, inW]) _ _ rfl rfl rfl | exact hend _ _ n h2 h3 (stop (by clear ih h3 step stop hend q1 q2 hc hs h1 h2; simp_all [okAt, inW])) rfl
   ·repeat' (first|(refine zq letter8_ ?_;intro cv hv)|refine zs letter8_ ?_|(refine zqv letter8_ ?_;intro cv hv)|(refine zqd letter8_ ?_;intro cv hv)|refine zsd letter8_ ?_|(refine zq digit8_ ?_;intro cv hv)|refine zs digit8_ ?_|(refine zqv digit8_ ?_;intro cv hv)|(refine zqd digit8_ ?_;intro cv hv)|refine zsd digit8_ ?_|intro _|refine yU ?_|(apply YA.mk;intro cv hv)|(refine yT ?_ ?_<;>(intro e;(try simp only [nbT,nbF] at e);subst e;try contradiction)))
    all_goals first | exact step (by clear ih h3 step stop hend q1 q2 hc hs h1 h2; simp_all [okAt, inW]) _ _ rfl rfl rfl | exact hend _ _ n h2 h3 (stop (by clear ih h3 step stop hend q1 q2 hc hs h1 h2; simp_all [okAt, inW])) rfl
  ·repeat' (first|intro _|refine yU ?_|(apply YA.mk;intro cv hv)|(refine yT ?_ ?_<;>(intro e;(try simp only [nbT,nbF] at e);subst e;try contradiction)))
   exact hend _ _ n h2 h3 (fun c hc => by have := (List.getElem?_eq_some_iff.1 hc).1; omega) rfl
def cnt (s : List Nat) : Nat := match s with
 | [] => 0
 | c :: r => if 97 ≤ c ∧ c ≤ 122 then 1 + (r.takeWhile inW).length else 0
theorem tw_len {p : Nat → Bool} : ∀ {s : List Nat} {n : Nat}, n ≤ s.length → (∀ i c, i < n → s[i]? = some c → p c = true) → (∀ c, s[n]? = some c → p c = false) → (s.takeWhile p).length = n
 | [], n, h, _, _ => by simp at h; simp [h]
 | a :: s, 0, _, _, h => by simp [h a rfl]
 | a :: s, n + 1, h, k, j => by
  rw [List.takeWhile_cons, k 0 a (by omega) rfl]
  simp only [if_true, List.length_cons]
  rw [tw_len (n := n) (by simpa using h) (fun i c hi hc => k (i + 1) c (by omega) (by simpa using hc)) (fun c hc => j c (by simpa using hc))]
theorem cnt_of {s : List Nat} {n : Nat} (h : n ≤ s.length) (k : ∀ i c, i < n → s[i]? = some c → okAt i c = true) (j : ∀ c, s[n]? = some c → okAt n c = false) : cnt s = n := by
 cases s with
 | nil => simp at h; simp [cnt, h]
 | cons a s =>
  cases n with
  | zero =>
   have := j a rfl
   simp only [okAt, Bool.or_eq_false_iff, decide_eq_false_iff_not] at this
   rw [cnt, if_neg this.1]
  | succ n =>
   have h0 := k 0 a (by omega) rfl
   simp only [okAt, Nat.lt_irrefl, decide_false, Bool.false_and, Bool.or_false, decide_eq_true_eq] at h0
   rw [cnt, if_pos h0, tw_len (n := n) (by simpa using h) ?_ ?_, Nat.add_comm]
   ·intro i c hi hc
    have := k (i + 1) c (by omega) (by simpa using hc)
    simp [okAt] at this
    rcases this with h | h
    ·simp [inW, h]
    ·exact h
   ·intro c hc
    have := j c (by simpa using hc)
    simp [okAt] at this
    exact this.2
theorem word44 {s : List Nat} (hs : Txt s) : PT Try.prog false 90 [.str s, .int .i64 (.ofNat 0)] (.int .i64 (.ofNat (cnt s))) := by
 refine PT.of (CT.enter mixed comp90 (Nat.le_of_ble_eq_true rfl) ?_)
 repeat' (first|intro _|refine yU ?_|(apply YA.mk;intro cv hv)|(refine yT ?_ ?_<;>(intro e;(try simp only [nbT,nbF] at e);subst e;try contradiction)))
 refine Cd.loop (k := s.length + 1) (Lp.weak ?hw (word44_loop hs ?_ (s.length + 1) 0 (by omega) (by omega) (by intro i c hi; omega)))
 case hw => exact ⟨rfl, rfl, rfl, trivial⟩
 intro l K n h1 h2 h3 h4
 show Cd _ _ _ _ _ _
 refine Cd.weak (l2 := [(5, .int .i64 (.ofNat n))]) ⟨h4, trivial⟩ ?_
 repeat' (first|intro _|refine yU ?_|(apply YA.mk;intro cv hv)|(refine yT ?_ ?_<;>(intro e;(try simp only [nbT,nbF] at e);subst e;try contradiction)))
 refine yX ?_
 rw [cnt_of h1 h2 h3]; rfl
theorem word_cnt {s : List Nat} (h : 0 < s.length) : decide (cnt s = s.length) = word s := by
 cases s with
 | nil => simp at h
 | cons a s =>
  by_cases ha : 97 ≤ a ∧ a ≤ 122
  ·simp [cnt, word, ha, inW]
   omega
  ·simp [cnt, word, ha]
end Go.Proofs.YtlimjjilakldgaaGreat
namespace Go.Proofs.YtlimjjilakldgaaGreat
open Go Go.Abs
attribute [local irreducible] Cmp Rg Dw Cd Lp Ev Rdk CT Upd InK
theorem key45_loop {s : List Nat} {b : Nat} {Q : AX → SL → Mem → Prop} (hret : ∀ l K, keyL.contains s = true → lkS l 2 = some (.bool true) → Q .ret l K) (hend : ∀ l K, keyL.contains s = false → Q (.ext 0) l K) :
  ∀ (k i : Nat), keyL.length < i + k → i ≤ keyL.length → (∀ j, j < i → keyL[j]? ≠ some s) → Lp Try.prog false b91_0 k [(0, .str s), (3, .slc b 0 0 20 20 1), (4, .int .i64 (.ofNat i))] [[(b, .cells (keyL.map .str) 0 0 false)]] Q := by
 intro k
 have h20 : keyL.length = 20 := rfl
 induction k with
 | zero => intro i h1 h2; omega
 | succ k ih =>
  intro i h1 h2 h3
  rw [h20] at h1 h2
  refine Lp.round ?_
  by_cases hi : i < 20
  ·obtain ⟨w, hw⟩ : ∃ w, keyL[i]? = some w := ⟨_, List.getElem?_eq_getElem (by rw [h20]; exact hi)⟩
   have q1 := iadr_slc (sz := 1) (b := b) (g := 0) (off := 0) (len := 20) (cap := 20) (k := .i64) hi
   have q2 : ∀ y, Rdk [[(b, AObj.cells (keyL.map AV.str) 0 0 false)]] .load1 (.ptr b 0 (0 + i * 1) 1) y (.str w) := fun y => Rdk.b1 InK.here (by rw [Nat.zero_add, Nat.mul_one, List.getElem?_map, hw]; rfl)
   have q3 := q2 (.ptr b 0 (0 + i * 1) 1)
   repeat' (first|intro _|refine yU ?_|(apply YA.mk;intro cv hv)|(refine yT ?_ ?_<;>(intro e;(try simp only [nbT,nbF] at e);subst e;try contradiction)))
   ·have := hv.1 rfl
    subst this
    exact hret _ _ (by simpa using List.mem_of_getElem? hw) rfl
   ·refine Lp.weak ?hw (ih (i + 1) (by omega) (by rw [h20]; omega) ?_)
    case hw => exact ⟨rfl, rfl, rfl, trivial⟩
    intro j hj he
    by_cases hji : j = i
    ·subst hji; rw [hw] at he; cases he; have := hv.2 rfl; cases this
    ·exact h3 j (by omega) he
  ·repeat' (first|intro _|refine yU ?_|(apply YA.mk;intro cv hv)|(refine yT ?_ ?_<;>(intro e;(try simp only [nbT,nbF] at e);subst e;try contradiction)))
   refine hend _ _ ?_
   cases hc : keyL.contains s with
   | false => rfl
   | true =>
    obtain ⟨j, hj⟩ := List.mem_iff_getElem?.1 (by simpa using hc)
    exact absurd hj (h3 j (by have := (List.getElem?_eq_some_iff.1 hj).1; rw [h20] at this; omega))
theorem key45 {s : List Nat} : PT Try.prog false 91 [.str s] (.bool (keyL.contains s)) := by
 refine PT.of (CT.enter mixed comp91 (Nat.le_of_ble_eq_true rfl) ?_)
 repeat (first|intro _|refine yU ?_|(apply YA.mk;intro cv hv)|(refine yT ?_ ?_<;>(intro e;(try simp only [nbT,nbF] at e);subst e;try contradiction)))
 rename_i b
 refine Cd.loop (k := 21) (Lp.weak ?hw (key45_loop (s := s) (b := b) ?_ ?_ 21 0 (Nat.le_of_ble_eq_true rfl) (by omega) (by intro j hj; omega)))
 case hw => exact ⟨rfl, rfl, rfl, trivial⟩
 ·intro l K h1 h2
  exact ⟨.inr rfl, _, .t h2 .nil, by rw [h1]; rfl⟩
 ·intro l K h1
  show Cd _ _ _ _ _ _
  refine Cd.weak (l2 := []) trivial ?_
  repeat' (first|intro _|refine yU ?_|(apply YA.mk;intro cv hv)|(refine yT ?_ ?_<;>(intro e;(try simp only [nbT,nbF] at e);subst e;try contradiction)))
  refine yX ?_
  rw [h1]; rfl
theorem name29 {s : List Nat} (hs : Txt s) : PT Try.prog false 68 [.str s] (.bool (isName s)) := by
 refine PT.of (CT.enter mixed comp68 (Nat.le_of_ble_eq_true rfl) ?_)
 have hw := word44 hs
 have hk := @key45 s
 by_cases h0 : 0 < s.length
 ·have hc := word_cnt h0
  by_cases hl : s.length ≤ 16
  ·repeat' (first|intro _|refine yU ?_|(apply YA.mk;intro cv hv)|(refine yT ?_ ?_<;>(intro e;(try simp only [nbT,nbF] at e);subst e;try contradiction)))
   all_goals refine yX ?_
   all_goals (refine congrArg AV.bool ?_; simp only [isName, ← hc]; clear hw hk hc; simp_all)
  ·repeat' (first|intro _|refine yU ?_|(apply YA.mk;intro cv hv)|(refine yT ?_ ?_<;>(intro e;(try simp only [nbT,nbF] at e);subst e;try contradiction)))
   all_goals refine yX ?_
   all_goals (refine congrArg AV.bool ?_; simp [isName, hl])
 ·have : s = [] := List.eq_nil_of_length_eq_zero (by omega)
  subst this
  repeat' (first|intro _|refine yU ?_|(apply YA.mk;intro cv hv)|(refine yT ?_ ?_<;>(intro e;(try simp only [nbT,nbF] at e);subst e;try contradiction)))
  all_goals refine yX ?_
  all_goals rfl
end Go.Proofs.YtlimjjilakldgaaGreat
namespace Go.Proofs.YtlimjjilakldgaaGreat
open Go Go.Abs
attribute [local irreducible] Cmp Rg Dw Cd Lp Ev Rdk CT Upd InK
theorem every41_loop {α : Type} {R : α → List AV} {so : α → Bool} {v : AV} {l : List α} (hvl : ASl 4 v (l.map R)) (hR : ∀ x, (R x).length = 4) {g : FuncId} (hc : ∀ x, x ∈ l → PT Try.prog false g [.agg (R x)] (.bool (so x))) (hl : l.length ≤ 9223372036854775807) {Q : AX → SL → Mem → Prop} (hret : ∀ l' K, l.all so = false → lkS l' 6 = some (.bool false) → Q .ret l' K) (hend : ∀ l' K, l.all so = true → Q (.ext 0) l' K) :
  ∀ (k i : Nat), l.length < i + k → i ≤ l.length → (∀ x, x ∈ l.take i → so x = true) → Lp Try.prog false b87_0 k [(2, .fn g [] []), (13, v), (14, .int .i64 (.ofNat l.length)), (15, .int .i64 (.ofNat i))] [] Q := by
 intro k
 induction k with
 | zero => intro i h1 h2; omega
 | succ k ih =>
  intro i h1 h2 h3
  refine Lp.round ?_
  by_cases hi : i < l.length
  ·obtain ⟨x, hx⟩ : ∃ x, l[i]? = some x := ⟨_, List.getElem?_eq_getElem hi⟩
   have q1 := hvl.iadr (i := i) (r := R x) (k := .i64) (by rw [List.getElem?_map, hx]; rfl)
   have q2 := hR x
   have q5 := hc x (List.mem_of_getElem? hx)
   repeat' (first|intro _|refine yU ?_|(apply YA.mk;intro cv hv)|(refine yT ?_ ?_<;>(intro e;(try simp only [nbT,nbF] at e);subst e;try contradiction)))
   ·refine hret _ _ ?_ rfl
    cases ha : l.all so with
    | false => rfl
    | true => rw [List.all_eq_true.1 ha x (List.mem_of_getElem? hx)] at hv; cases hv
   ·refine Lp.drop .nil (Lp.weak ?hw (ih (i + 1) (by omega) (by omega) ?_))
    case hw => exact ⟨rfl, rfl, rfl, rfl, trivial⟩
    intro y hy
    rw [List.take_add_one, hx] at hy
    rcases List.mem_append.1 hy with hy | hy
    ·exact h3 y hy
    ·simp at hy; subst hy; exact hv
  ·repeat' (first|intro _|refine yU ?_|(apply YA.mk;intro cv hv)|(refine yT ?_ ?_<;>(intro e;(try simp only [nbT,nbF] at e);subst e;try contradiction)))
   refine hend _ _ (List.all_eq_true.2 fun x hx => h3 x (by rw [List.take_of_length_le (by omega)]; exact hx))
theorem every41 {α : Type} {R : α → List AV} {so : α → Bool} {v : AV} {l : List α} {m : Nat} (hvl : ASl 4 v (l.map R)) (hR : ∀ x, (R x).length = 4) {g : FuncId} (hc : ∀ x, x ∈ l → PT Try.prog false g [.agg (R x)] (.bool (so x))) (hl : l.length ≤ 9223372036854775807) : PT Try.prog false 87 [v, .int .i64 (.ofNat m), .fn g [] []] (.bool (decide (l.length ≤ m) && l.all so)) := by
 refine PT.of (CT.enter mixed comp87 (Nat.le_of_ble_eq_true rfl) ?_)
 have q1 := hvl.len
 rw [List.length_map] at q1
 by_cases hm : l.length ≤ m
 ·repeat' (first|intro _|refine yU ?_|(apply YA.mk;intro cv hv)|(refine yT ?_ ?_<;>(intro e;(try simp only [nbT,nbF] at e);subst e;try contradiction)))
  refine Cd.loop (k := l.length + 1) (Lp.weak ?hw (every41_loop hvl hR hc hl ?_ ?_ (l.length + 1) 0 (by omega) (by omega) (by intro x hx; simp at hx)))
  case hw => exact ⟨rfl, rfl, rfl, rfl, trivial⟩
  ·intro l' K h1 h2
   exact ⟨.inr rfl, _, .t h2 .nil, by rw [h1, Bool.and_false]; rfl⟩
  ·intro l' K h1
   show Cd _ _ _ _ _ _
   refine Cd.weak (l2 := []) trivial ?_
   repeat' (first|intro _|refine yU ?_|(apply YA.mk;intro cv hv)|(refine yT ?_ ?_<;>(intro e;(try simp only [nbT,nbF] at e);subst e;try contradiction)))
   refine yX ?_
   rw [h1]; simp [hm, packL]
 ·repeat' (first|intro _|refine yU ?_|(apply YA.mk;intro cv hv)|(refine yT ?_ ?_<;>(intro e;(try simp only [nbT,nbF] at e);subst e;try contradiction)))
  refine yX ?_
  simp [hm, packL]
theorem every19_loop {α : Type} {R : α → List AV} {so : α → Bool} {v : AV} {l : List α} (hvl : ASl 3 v (l.map R)) (hR : ∀ x, (R x).length = 3) {g : FuncId} (hc : ∀ x, x ∈ l → PT Try.prog false g [.agg (R x)] (.bool (so x))) (hl : l.length ≤ 9223372036854775807) {Q : AX → SL → Mem → Prop} (hret : ∀ l' K, l.all so = false → lkS l' 6 = some (.bool false) → Q .ret l' K) (hend : ∀ l' K, l.all so = true → Q (.ext 0) l' K) :
  ∀ (k i : Nat), l.length < i + k → i ≤ l.length → (∀ x, x ∈ l.take i → so x = true) → Lp Try.prog false b58_0 k [(2, .fn g [] []), (13, v), (14, .int .i64 (.ofNat l.length)), (15, .int .i64 (.ofNat i))] [] Q := by
 intro k
 induction k with
 | zero => intro i h1 h2; omega
 | succ k ih =>
  intro i h1 h2 h3
  refine Lp.round ?_
  by_cases hi : i < l.length
  ·obtain ⟨x, hx⟩ : ∃ x, l[i]? = some x := ⟨_, List.getElem?_eq_getElem hi⟩
   have q1 := hvl.iadr (i := i) (r := R x) (k := .i64) (by rw [List.getElem?_map, hx]; rfl)
   have q2 := hR x
   have q5 := hc x (List.mem_of_getElem? hx)
   repeat' (first|intro _|refine yU ?_|(apply YA.mk;intro cv hv)|(refine yT ?_ ?_<;>(intro e;(try simp only [nbT,nbF] at e);subst e;try contradiction)))
   ·refine hret _ _ ?_ rfl
    cases ha : l.all so with
    | false => rfl
    | true => rw [List.all_eq_true.1 ha x (List.mem_of_getElem? hx)] at hv; cases hv
   ·refine Lp.drop .nil (Lp.weak ?hw (ih (i + 1) (by omega) (by omega) ?_))
    case hw => exact ⟨rfl, rfl, rfl, rfl, trivial⟩
    intro y hy
    rw [List.take_add_one, hx] at hy
    rcases List.mem_append.1 hy with hy | hy
    ·exact h3 y hy
    ·simp at hy; subst hy; exact hv
  ·repeat' (first|intro _|refine yU ?_|(apply YA.mk;intro cv hv)|(refine yT ?_ ?_<;>(intro e;(try simp only [nbT,nbF] at e);subst e;try contradiction)))
   refine hend _ _ (List.all_eq_true.2 fun x hx => h3 x (by rw [List.take_of_length_le (by omega)]; exact hx))
theorem every19 {α : Type} {R : α → List AV} {so : α → Bool} {v : AV} {l : List α} {m : Nat} (hvl : ASl 3 v (l.map R)) (hR : ∀ x, (R x).length = 3) {g : FuncId} (hc : ∀ x, x ∈ l → PT Try.prog false g [.agg (R x)] (.bool (so x))) (hl : l.length ≤ 9223372036854775807) : PT Try.prog false 58 [v, .int .i64 (.ofNat m), .fn g [] []] (.bool (decide (l.length ≤ m) && l.all so)) := by
 refine PT.of (CT.enter mixed comp58 (Nat.le_of_ble_eq_true rfl) ?_)
 have q1 := hvl.len
 rw [List.length_map] at q1
 by_cases hm : l.length ≤ m
 ·repeat' (first|intro _|refine yU ?_|(apply YA.mk;intro cv hv)|(refine yT ?_ ?_<;>(intro e;(try simp only [nbT,nbF] at e);subst e;try contradiction)))
  refine Cd.loop (k := l.length + 1) (Lp.weak ?hw (every19_loop hvl hR hc hl ?_ ?_ (l.length + 1) 0 (by omega) (by omega) (by intro x hx; simp at hx)))
  case hw => exact ⟨rfl, rfl, rfl, rfl, trivial⟩
  ·intro l' K h1 h2
   exact ⟨.inr rfl, _, .t h2 .nil, by rw [h1, Bool.and_false]; rfl⟩
  ·intro l' K h1
   show Cd _ _ _ _ _ _
   refine Cd.weak (l2 := []) trivial ?_
   repeat' (first|intro _|refine yU ?_|(apply YA.mk;intro cv hv)|(refine yT ?_ ?_<;>(intro e;(try simp only [nbT,nbF] at e);subst e;try contradiction)))
   refine yX ?_
   rw [h1]; simp [hm, packL]
 ·repeat' (first|intro _|refine yU ?_|(apply YA.mk;intro cv hv)|(refine yT ?_ ?_<;>(intro e;(try simp only [nbT,nbF] at e);subst e;try contradiction)))
  refine yX ?_
  simp [hm, packL]
theorem every39_loop {α : Type} {R : α → List AV} {so : α → Bool} {v : AV} {l : List α} (hvl : ASl 3 v (l.map R)) (hR : ∀ x, (R x).length = 3) {g : FuncId} (hc : ∀ x, x ∈ l → PT Try.prog false g [.agg (R x)] (.bool (so x))) (hl : l.length ≤ 9223372036854775807) {Q : AX → SL → Mem → Prop} (hret : ∀ l' K, l.all so = false → lkS l' 6 = some (.bool false) → Q .ret l' K) (hend : ∀ l' K, l.all so = true → Q (.ext 0) l' K) :
  ∀ (k i : Nat), l.length < i + k → i ≤ l.length → (∀ x, x ∈ l.take i → so x = true) → Lp Try.prog false b85_0 k [(2, .fn g [] []), (13, v), (14, .int .i64 (.ofNat l.length)), (15, .int .i64 (.ofNat i))] [] Q := by
 intro k
 induction k with
 | zero => intro i h1 h2; omega
 | succ k ih =>
  intro i h1 h2 h3
  refine Lp.round ?_
  by_cases hi : i < l.length
  ·obtain ⟨x, hx⟩ : ∃ x, l[i]? = some x := ⟨_, List.getElem?_eq_getElem hi⟩
   have q1 := hvl.iadr (i := i) (r := R x) (k := .i64) (by rw [List.getElem?_map, hx]; rfl)
   have q2 := hR x
   have q5 := hc x (List.mem_of_getElem? hx)
   repeat' (first|intro _|refine yU ?_|(apply YA.mk;intro cv hv)|(refine yT ?_ ?_<;>(intro e;(try simp only [nbT,nbF] at e);subst e;try contradiction)))
   ·refine hret _ _ ?_ rfl
    cases ha : l.all so with
    | false => rfl
    | true => rw [List.all_eq_true.1 ha x (List.mem_of_getElem? hx)] at hv; cases hv
   ·refine Lp.drop .nil (Lp.weak ?hw (ih (i + 1) (by omega) (by omega) ?_))
    case hw => exact ⟨rfl, rfl, rfl, rfl, trivial⟩
    intro y hy
    rw [List.take_add_one, hx] at hy
    rcases List.mem_append.1 hy with hy | hy
    ·exact h3 y hy
    ·simp at hy; subst hy; exact hv
  ·repeat' (first|intro _|refine yU ?_|(apply YA.mk;intro cv hv)|(refine yT ?_ ?_<;>(intro e;(try simp only [nbT,nbF] at e);subst e;try contradiction)))
   refine hend _ _ (List.all_eq_true.2 fun x hx => h3 x (by rw [List.take_of_length_le (by omega)]; exact hx))
theorem every39 {α : Type} {R : α → List AV} {so : α → Bool} {v : AV} {l : List α} {m : Nat} (hvl : ASl 3 v (l.map R)) (hR : ∀ x, (R x).length = 3) {g : FuncId} (hc : ∀ x, x ∈ l → PT Try.prog false g [.agg (R x)] (.bool (so x))) (hl : l.length ≤ 9223372036854775807) : PT Try.prog false 85 [v, .int .i64 (.ofNat m), .fn g [] []] (.bool (decide (l.length ≤ m) && l.all so)) := by
 refine PT.of (CT.enter mixed comp85 (Nat.le_of_ble_eq_true rfl) ?_)
 have q1 := hvl.len
 rw [List.length_map] at q1
 by_cases hm : l.length ≤ m
 ·repeat' (first|intro _|refine yU ?_|(apply YA.mk;intro cv hv)|(refine yT ?_ ?_<;>(intro e;(try simp only [nbT,nbF] at e);subst e;try contradiction)))
  refine Cd.loop (k := l.length + 1) (Lp.weak ?hw (every39_loop hvl hR hc hl ?_ ?_ (l.length + 1) 0 (by omega) (by omega) (by intro x hx; simp at hx)))
  case hw => exact ⟨rfl, rfl, rfl, rfl, trivial⟩
  ·intro l' K h1 h2
   exact ⟨.inr rfl, _, .t h2 .nil, by rw [h1, Bool.and_false]; rfl⟩
  ·intro l' K h1
   show Cd _ _ _ _ _ _
   refine Cd.weak (l2 := []) trivial ?_
   repeat' (first|intro _|refine yU ?_|(apply YA.mk;intro cv hv)|(refine yT ?_ ?_<;>(intro e;(try simp only [nbT,nbF] at e);subst e;try contradiction)))
   refine yX ?_
   rw [h1]; simp [hm, packL]
 ·repeat' (first|intro _|refine yU ?_|(apply YA.mk;intro cv hv)|(refine yT ?_ ?_<;>(intro e;(try simp only [nbT,nbF] at e);subst e;try contradiction)))
  refine yX ?_
  simp [hm, packL]
theorem every37_loop {α : Type} {R : α → List AV} {so : α → Bool} {v : AV} {l : List α} (hvl : ASl 2 v (l.map R)) (hR : ∀ x, (R x).length = 2) {g : FuncId} (hc : ∀ x, x ∈ l → PT Try.prog false g [.agg (R x)] (.bool (so x))) (hl : l.length ≤ 9223372036854775807) {Q : AX → SL → Mem → Prop} (hret : ∀ l' K, l.all so = false → lkS l' 6 = some (.bool false) → Q .ret l' K) (hend : ∀ l' K, l.all so = true → Q (.ext 0) l' K) :
  ∀ (k i : Nat), l.length < i + k → i ≤ l.length → (∀ x, x ∈ l.take i → so x = true) → Lp Try.prog false b83_0 k [(2, .fn g [] []), (13, v), (14, .int .i64 (.ofNat l.length)), (15, .int .i64 (.ofNat i))] [] Q := by
 intro k
 induction k with
 | zero => intro i h1 h2; omega
 | succ k ih =>
  intro i h1 h2 h3
  refine Lp.round ?_
  by_cases hi : i < l.length
  ·obtain ⟨x, hx⟩ : ∃ x, l[i]? = some x := ⟨_, List.getElem?_eq_getElem hi⟩
   have q1 := hvl.iadr (i := i) (r := R x) (k := .i64) (by rw [List.getElem?_map, hx]; rfl)
   have q2 := hR x
   have q5 := hc x (List.mem_of_getElem? hx)
   repeat' (first|intro _|refine yU ?_|(apply YA.mk;intro cv hv)|(refine yT ?_ ?_<;>(intro e;(try simp only [nbT,nbF] at e);subst e;try contradiction)))
   ·refine hret _ _ ?_ rfl
    cases ha : l.all so with
    | false => rfl
    | true => rw [List.all_eq_true.1 ha x (List.mem_of_getElem? hx)] at hv; cases hv
   ·refine Lp.drop .nil (Lp.weak ?hw (ih (i + 1) (by omega) (by omega) ?_))
    case hw => exact ⟨rfl, rfl, rfl, rfl, trivial⟩
    intro y hy
    rw [List.take_add_one, hx] at hy
    rcases List.mem_append.1 hy with hy | hy
    ·exact h3 y hy
    ·simp at hy; subst hy; exact hv
  ·repeat' (first|intro _|refine yU ?_|(apply YA.mk;intro cv hv)|(refine yT ?_ ?_<;>(intro e;(try simp only [nbT,nbF] at e);subst e;try contradiction)))
   refine hend _ _ (List.all_eq_true.2 fun x hx => h3 x (by rw [List.take_of_length_le (by omega)]; exact hx))
theorem every37 {α : Type} {R : α → List AV} {so : α → Bool} {v : AV} {l : List α} {m : Nat} (hvl : ASl 2 v (l.map R)) (hR : ∀ x, (R x).length = 2) {g : FuncId} (hc : ∀ x, x ∈ l → PT Try.prog false g [.agg (R x)] (.bool (so x))) (hl : l.length ≤ 9223372036854775807) : PT Try.prog false 83 [v, .int .i64 (.ofNat m), .fn g [] []] (.bool (decide (l.length ≤ m) && l.all so)) := by
 refine PT.of (CT.enter mixed comp83 (Nat.le_of_ble_eq_true rfl) ?_)
 have q1 := hvl.len
 rw [List.length_map] at q1
 by_cases hm : l.length ≤ m
 ·repeat' (first|intro _|refine yU ?_|(apply YA.mk;intro cv hv)|(refine yT ?_ ?_<;>(intro e;(try simp only [nbT,nbF] at e);subst e;try contradiction)))
  refine Cd.loop (k := l.length + 1) (Lp.weak ?hw (every37_loop hvl hR hc hl ?_ ?_ (l.length + 1) 0 (by omega) (by omega) (by intro x hx; simp at hx)))
  case hw => exact ⟨rfl, rfl, rfl, rfl, trivial⟩
  ·intro l' K h1 h2
   exact ⟨.inr rfl, _, .t h2 .nil, by rw [h1, Bool.and_false]; rfl⟩
  ·intro l' K h1
   show Cd _ _ _ _ _ _
   refine Cd.weak (l2 := []) trivial ?_
   repeat' (first|intro _|refine yU ?_|(apply YA.mk;intro cv hv)|(refine yT ?_ ?_<;>(intro e;(try simp only [nbT,nbF] at e);subst e;try contradiction)))
   refine yX ?_
   rw [h1]; simp [hm, packL]
 ·repeat' (first|intro _|refine yU ?_|(apply YA.mk;intro cv hv)|(refine yT ?_ ?_<;>(intro e;(try simp only [nbT,nbF] at e);subst e;try contradiction)))
  refine yX ?_
  simp [hm, packL]
end Go.Proofs.YtlimjjilakldgaaGreat
namespace Go.Proofs.YtlimjjilakldgaaGreat
open Go Go.Abs
attribute [local irreducible] Cmp Rg Dw Cd Lp Ev Rdk CT Upd InK
def constB (v : Val) : Bool := if v.k = 0 then decide (v.n = 0 ∧ v.s = []) else if v.k = 1 then decide (v.s = []) else if v.k = 2 then decide (v.n = 0 ∧ v.s.length ≤ 1024) else false
theorem plain40 (v : Val) : PT Try.prog false 86 [valA v] (.bool (constB v)) := by
 refine PT.of (CT.enter mixed comp86 (Nat.le_of_ble_eq_true rfl) ?_)
 have q : aeq (.flat true [.i, .i, .s]) (.agg (valR v)) (.agg [.int .i64 (.ofNat 0), .int .i64 (.ofNat 0), .str []]) = some (decide (v = ⟨0, 0, []⟩)) := flatVal v ⟨0, 0, []⟩
 have e : decide (v = ⟨0, 0, []⟩) = (decide (v.k = 0) && decide (v.n = 0 ∧ v.s = [])) := by cases v; simp
 rw [e] at q
 repeat' (first|intro _|refine yU ?_|(apply YA.mk;intro cv hv)|(refine yT ?_ ?_<;>(intro e;(try simp only [nbT,nbF] at e);subst e;try contradiction)))
 all_goals refine yX ?_
 all_goals (refine congrArg AV.bool ?_; rw [Bool.eq_iff_iff]; simp only [constB]; clear q e; simp_all)
theorem const46 (v : Val) : PT Try.prog false 92 [valA v] (.bool (constB v)) := by
 refine PT.of (CT.enter mixed comp92 (Nat.le_of_ble_eq_true rfl) ?_)
 repeat' (first|intro _|refine yU ?_|(apply YA.mk;intro cv hv)|(refine yT ?_ ?_<;>(intro e;(try simp only [nbT,nbF] at e);subst e;try contradiction)))
 all_goals refine yX ?_
 all_goals (refine congrArg AV.bool ?_; rw [Bool.eq_iff_iff]; simp only [constB]; simp_all)
structure Use where
 m : List Nat
 n : List Nat
 p : Int
def useR (x : Use) : List AV := [.str x.m, .str x.n, .int .i64 x.p]
def useB (x : Use) : Bool := isName x.m && isName x.n && decide (0 ≤ x.p ∧ x.p ≤ 8)
theorem used20 (x : Use) (h1 : Txt x.m) (h2 : Txt x.n) : PT Try.prog false 59 [.agg (useR x)] (.bool (useB x)) := by
 refine PT.of (CT.enter mixed comp59 (Nat.le_of_ble_eq_true rfl) ?_)
 repeat' (first|(refine zq (name17 h1) ?_;intro cv hv)|refine zs (name17 h1) ?_|(refine zqv (name17 h1) ?_;intro cv hv)|(refine zqd (name17 h1) ?_;intro cv hv)|refine zsd (name17 h1) ?_|(refine zq (name17 h2) ?_;intro cv hv)|refine zs (name17 h2) ?_|(refine zqv (name17 h2) ?_;intro cv hv)|(refine zqd (name17 h2) ?_;intro cv hv)|refine zsd (name17 h2) ?_|(refine zq between_ ?_;intro cv hv)|refine zs between_ ?_|(refine zqv between_ ?_;intro cv hv)|(refine zqd between_ ?_;intro cv hv)|refine zsd between_ ?_|intro _|refine yU ?_|(apply YA.mk;intro cv hv)|(refine yT ?_ ?_<;>(intro e;(try simp only [nbT,nbF] at e);subst e;try contradiction)))
 all_goals refine yX ?_
 all_goals (refine congrArg AV.bool ?_; simp only [useB]; simp_all)
structure Cap where
 up : Bool
 i : Int
def capR (x : Cap) : List AV := [.bool x.up, .int .i64 x.i]
def capB (x : Cap) : Bool := decide (0 ≤ x.i ∧ x.i ≤ 255)
theorem cap38 (x : Cap) : PT Try.prog false 84 [.agg (capR x)] (.bool (capB x)) := by
 refine PT.of (CT.enter mixed comp84 (Nat.le_of_ble_eq_true rfl) ?_)
 repeat' (first|(refine zq between_ ?_;intro cv hv)|refine zs between_ ?_|(refine zqv between_ ?_;intro cv hv)|(refine zqd between_ ?_;intro cv hv)|refine zsd between_ ?_|intro _|refine yU ?_|(apply YA.mk;intro cv hv)|(refine yT ?_ ?_<;>(intro e;(try simp only [nbT,nbF] at e);subst e;try contradiction)))
 all_goals refine yX ?_
 all_goals (refine congrArg AV.bool ?_; simp only [capB]; simp_all)
structure Proto where
 name : List Nat
 params : Int
 regs : Int
 codeV : AV
 code : List Ins
 constsV : AV
 consts : List Val
 capsV : AV
 caps : List Cap
def protoR (p : Proto) : List AV := [.str p.name, .int .i64 p.params, .int .i64 p.regs, p.codeV, p.constsV, p.capsV]
structure OkP (p : Proto) : Prop where
 name : Txt p.name
 code : ASl 4 p.codeV (p.code.map insR)
 consts : ASl 3 p.constsV (p.consts.map valR)
 caps : ASl 2 p.capsV (p.caps.map capR)
 lcode : p.code.length ≤ 9223372036854775807
 lconsts : p.consts.length ≤ 9223372036854775807
 lcaps : p.caps.length ≤ 9223372036854775807
def headB (p : Proto) (top : Bool) : Bool := if top = true then isName p.name && decide (p.caps.length = 0) else decide (p.name = []) && (decide (p.caps.length ≤ 255) && p.caps.all capB)
def shapedB (p : Proto) : Bool := decide (0 ≤ p.params ∧ p.params ≤ 8) && decide (max 1 p.params ≤ p.regs ∧ p.regs ≤ 100) && (decide (p.consts.length ≤ 200) && p.consts.all constB) && (decide (p.code.length ≤ 8000) && p.code.all rightI)
def protoB (p : Proto) (top : Bool) : Bool := headB p top && shapedB p
theorem OkP.lens {p : Proto} (h : OkP p) : apure .e (.len false (.c p.codeV)) = some (.int .i64 (.ofNat p.code.length)) ∧ apure .e (.len false (.c p.constsV)) = some (.int .i64 (.ofNat p.consts.length)) ∧ apure .e (.len false (.c p.capsV)) = some (.int .i64 (.ofNat p.caps.length)) := by
 have h1 := h.code.len
 have h2 := h.consts.len
 have h3 := h.caps.len
 rw [List.length_map] at h1 h2 h3
 exact ⟨h1, h2, h3⟩
theorem headed23 {p : Proto} (h : OkP p) (top : Bool) : PT Try.prog false 62 [.agg (protoR p), .bool top] (.bool (headB p top)) := by
 refine PT.of (CT.enter mixed comp62 (Nat.le_of_ble_eq_true rfl) ?_)
 obtain ⟨l1, l2, l3⟩ := h.lens
 have hn := name17 h.name
 have he := every37 (m := 255) h.caps (fun _ => rfl) (fun x _ => cap38 x) h.lcaps
 cases top with
 | true =>
  repeat' (first|intro _|refine yU ?_|(apply YA.mk;intro cv hv)|(refine yT ?_ ?_<;>(intro e;(try simp only [nbT,nbF] at e);subst e;try contradiction)))
  all_goals refine yX ?_
  all_goals (clear he hn l1 l2 l3 h; (refine congrArg AV.bool ?_; simp only [headB, if_true, if_false, Bool.false_eq_true]; first | (simp_all only [Bool.and_true, Bool.true_and, Bool.and_false, Bool.false_and, Bool.or_true, Bool.or_false, Bool.true_or, Bool.false_or, Bool.not_true, Bool.not_false]; done) | (rw [Bool.eq_iff_iff]; simp_all; done) | (rw [Bool.eq_iff_iff]; simp_all; omega) | (simp; omega)))
 | false =>
  repeat' (first|intro _|refine yU ?_|(apply YA.mk;intro cv hv)|(refine yT ?_ ?_<;>(intro e;(try simp only [nbT,nbF] at e);subst e;try contradiction)))
  all_goals refine yX ?_
  all_goals (clear he hn l1 l2 l3 h; (refine congrArg AV.bool ?_; simp only [headB, if_true, if_false, Bool.false_eq_true]; first | (simp_all only [Bool.and_true, Bool.true_and, Bool.and_false, Bool.false_and, Bool.or_true, Bool.or_false, Bool.true_or, Bool.false_or, Bool.not_true, Bool.not_false]; done) | (rw [Bool.eq_iff_iff]; simp_all; done) | (rw [Bool.eq_iff_iff]; simp_all; omega) | (simp; omega)))
theorem amax2 {k j : IntKind} {a b : Int} : amax k a [.int j b] = some (.int k (max a b)) := by
 simp only [amax, ilt_dec]
 by_cases h : a < b
 ·simp [h]; omega
 ·simp [h]; omega
theorem amin2 {k j : IntKind} {a b : Int} : amin k a [.int j b] = some (.int k (min a b)) := by
 simp only [amin, ilt_dec]
 by_cases h : b < a
 ·simp [h]; omega
 ·simp [h]; omega
theorem shaped24 {p : Proto} (h : OkP p) : PT Try.prog false 63 [.agg (protoR p)] (.bool (shapedB p)) := by
 refine PT.of (CT.enter mixed comp63 (Nat.le_of_ble_eq_true rfl) ?_)
 have h1 := every39 (m := 200) h.consts (fun _ => rfl) (fun x _ => plain40 x) h.lconsts
 have h2 := every41 (m := 8000) h.code (fun _ => rfl) (fun x _ => right42 x) h.lcode
 have h3 : amax .i64 (.ofNat 1) [.int .i64 p.params] = some (.int .i64 (max 1 p.params)) := amax2
 repeat' (first|(refine zq between_ ?_;intro cv hv)|refine zs between_ ?_|(refine zqv between_ ?_;intro cv hv)|(refine zqd between_ ?_;intro cv hv)|refine zsd between_ ?_|intro _|refine yU ?_|(apply YA.mk;intro cv hv)|(refine yT ?_ ?_<;>(intro e;(try simp only [nbT,nbF] at e);subst e;try contradiction)))
 all_goals refine yX ?_
 all_goals (clear h1 h2 h3 h; (refine congrArg AV.bool ?_; simp only [shapedB]; first | (simp_all only [Bool.and_true, Bool.true_and, Bool.and_false, Bool.false_and, Bool.or_true, Bool.or_false, Bool.true_or, Bool.false_or, Bool.not_true, Bool.not_false]; done) | (rw [Bool.eq_iff_iff]; simp_all; done) | (rw [Bool.eq_iff_iff]; simp_all; omega) | (simp; omega)))
end Go.Proofs.YtlimjjilakldgaaGreat
namespace Go.Proofs.YtlimjjilakldgaaGreat
open Go Go.Abs
attribute [local irreducible] Cmp Rg Dw Cd Lp Ev Rdk CT Upd InK
structure Unt where
 name : List Nat
 version : Int
 usesV : AV
 uses : List Use
 funs : Int
 protosV : AV
 protos : List Proto
def unitR (u : Unt) : List AV := [.str u.name, .int .i64 u.version, u.usesV, .int .i64 u.funs, u.protosV]
structure OkU (u : Unt) : Prop where
 name : Txt u.name
 uses : ASl 3 u.usesV (u.uses.map useR)
 protos : ASl 6 u.protosV (u.protos.map protoR)
 luses : u.uses.length ≤ 9223372036854775807
 lprotos : u.protos.length ≤ 9223372036854775807
 um : ∀ x, x ∈ u.uses → Txt x.m ∧ Txt x.n
 ps : ∀ p, p ∈ u.protos → OkP p
theorem OkU.lens {u : Unt} (h : OkU u) : apure .e (.len false (.c u.usesV)) = some (.int .i64 (.ofNat u.uses.length)) ∧ apure .e (.len false (.c u.protosV)) = some (.int .i64 (.ofNat u.protos.length)) := by
 have h1 := h.uses.len
 have h2 := h.protos.len
 rw [List.length_map] at h1 h2
 exact ⟨h1, h2⟩
abbrev boxI (b i : Nat) : Chk := [(b, .cells [.int .i64 (.ofNat i)] 0 0 false)]
abbrev boxU (b : Nat) (u : Unt) : Chk := [(b, .cells (unitR u) 0 0 false)]
theorem right22 {p : Proto} {u : Unt} {bi bu i : Nat} (h : OkP p) (hi : i < 9223372036854775807) :
  CT Try.prog false 61 [.agg (protoR p), .ptr bi 0 0 1, .ptr bu 0 0 5] [boxI bi i, boxU bu u] (fun w K' => w = .bool (protoB p (decide (((i + 1 : Nat) : Int) ≤ u.funs))) ∧ K' = [boxI bi (i + 1), boxU bu u]) := by
 have key : CT Try.prog false 61 [.agg (protoR p), .ptr bi 0 0 1, .ptr bu 0 0 5] [boxI bi i, boxU bu u] (fun w K' => w = .bool (protoB p (decide (((i + 1 : Nat) : Int) ≤ u.funs))) ∧ ∃ c, K' = [c, boxI bi (i + 1), boxU bu u]) := by
  refine CT.enter mixed comp61 (Nat.le_of_ble_eq_true rfl) ?_
  have hs := shaped24 h
  have hh := headed23 h
  repeat' (first|(refine zq (hh _) ?_;intro cv hv)|refine zs (hh _) ?_|(refine zqv (hh _) ?_;intro cv hv)|(refine zqd (hh _) ?_;intro cv hv)|refine zsd (hh _) ?_|intro _|refine yU ?_|(apply YA.mk;intro cv hv)|(refine yT ?_ ?_<;>(intro e;(try simp only [nbT,nbF] at e);subst e;try contradiction)))
  all_goals refine yX ?_
  all_goals (refine ⟨?_, _, rfl⟩)
  ·rename_i _ c1 h1 h2
   rw [protoB, show decide (((i + 1 : Nat) : Int) ≤ u.funs) = c1 by rw [Bool.eq_iff_iff, h1]; simp, h2, hv]; rfl
  ·rename_i _ h1
   rw [protoB, show decide (((i + 1 : Nat) : Int) ≤ u.funs) = cv by rw [Bool.eq_iff_iff, h1]; simp, hv]; rfl
 refine key.dropR ?_
 rintro v K' ⟨rfl, c, rfl⟩
 exact ⟨_, _, .cons (.there .here) (.cons (.there .here) .nil), rfl, rfl⟩
def protosB (funs : Int) : Nat → List Proto → Bool
 | _, [] => true
 | i, p :: r => protoB p (decide (((i + 1 : Nat) : Int) ≤ funs)) && protosB funs (i + 1) r
theorem protosB_drop {funs : Int} {l : List Proto} {i : Nat} {p : Proto} (h : l[i]? = some p) (j : Nat) : protosB funs j (l.drop i) = (protoB p (decide (((j + 1 : Nat) : Int) ≤ funs)) && protosB funs (j + 1) (l.drop (i + 1))) := by
 obtain ⟨h1, h2⟩ := List.getElem?_eq_some_iff.1 h
 rw [List.drop_eq_getElem_cons h1, h2]; rfl
theorem every21_loop {u : Unt} (hu : OkU u) {bi bu : Nat} {Q : AX → SL → Mem → Prop} (hret : ∀ l' K, protosB u.funs 0 u.protos = false → lkS l' 6 = some (.bool false) → Q .ret l' K) (hend : ∀ l' K, protosB u.funs 0 u.protos = true → Q (.ext 0) l' K) :
  ∀ (k i : Nat), u.protos.length < i + k → i ≤ u.protos.length → protosB u.funs i (u.protos.drop i) = protosB u.funs 0 u.protos → Lp Try.prog false b60_0 k [(2, .fn 61 [] [.ptr bi 0 0 1, .ptr bu 0 0 5]), (13, u.protosV), (14, .int .i64 (.ofNat u.protos.length)), (15, .int .i64 (.ofNat i))] [boxI bi i, boxU bu u] Q := by
 have hl := hu.lprotos
 intro k
 induction k with
 | zero => intro i h1 h2; omega
 | succ k ih =>
  intro i h1 h2 h3
  refine Lp.round ?_
  by_cases hi : i < u.protos.length
  ·obtain ⟨x, hx⟩ : ∃ x, u.protos[i]? = some x := ⟨_, List.getElem?_eq_getElem hi⟩
   have q1 := hu.protos.iadr (i := i) (r := protoR x) (k := .i64) (by rw [List.getElem?_map, hx]; rfl)
   have hx2 := hu.ps x (List.mem_of_getElem? hx)
   rw [protosB_drop hx] at h3
   repeat (first|intro _|refine yU ?_|(apply YA.mk;intro cv hv)|(refine yT ?_ ?_<;>(intro e;(try simp only [nbT,nbF] at e);subst e;try contradiction)))
   have hc := right22 (u := u) (bi := bi) (bu := bu) (i := i) hx2 (by omega)
   refine Rg.callvM (first := []) (vs := [.agg (protoR x)]) (cap := [.ptr bi 0 0 1, .ptr bu 0 0 5]) (m := [boxI bi i, boxU bu u]) (r := ?_) ?_ ?_ hc ?_ ?_
   rotate_left
   exact rfl
   exact rfl
   (repeat (first | exact Sel.nil | (apply Sel.cons; (repeat (first | exact Take.here | apply Take.there)))))
   rintro v K' ⟨rfl, rfl⟩
   generalize hg : protoB x (decide (((i + 1 : Nat) : Int) ≤ u.funs)) = cv at h3 ⊢
   repeat' (first|intro _|refine yU ?_|(apply YA.mk;intro cv hv)|(refine yT ?_ ?_<;>(intro e;(try simp only [nbT,nbF] at e);subst e;try contradiction)))
   ·exact hret _ _ (by rw [← h3]; rfl) rfl
   ·refine Lp.drop (m := [boxI bi (i + 1), boxU bu u]) (.cons .here (.cons .here .nil)) (Lp.weak ?hw (ih (i + 1) (by omega) (by omega) ?_))
    case hw => exact ⟨rfl, rfl, rfl, rfl, trivial⟩
    rw [← h3]; rfl
  ·repeat' (first|intro _|refine yU ?_|(apply YA.mk;intro cv hv)|(refine yT ?_ ?_<;>(intro e;(try simp only [nbT,nbF] at e);subst e;try contradiction)))
   refine hend _ _ ?_
   rw [← h3, List.drop_of_length_le (by omega)]; rfl
theorem every21 {u : Unt} (hu : OkU u) {bi bu : Nat} : CT Try.prog false 60 [u.protosV, .int .i64 (.ofNat 64), .fn 61 [] [.ptr bi 0 0 1, .ptr bu 0 0 5]] [boxI bi 0, boxU bu u] (fun w _ => w = .bool (decide (u.protos.length ≤ 64) && protosB u.funs 0 u.protos)) := by
 refine CT.enter mixed comp60 (Nat.le_of_ble_eq_true rfl) ?_
 obtain ⟨_, q1⟩ := hu.lens
 by_cases hm : u.protos.length ≤ 64
 ·repeat' (first|intro _|refine yU ?_|(apply YA.mk;intro cv hv)|(refine yT ?_ ?_<;>(intro e;(try simp only [nbT,nbF] at e);subst e;try contradiction)))
  refine Cd.loop (k := u.protos.length + 1) (Lp.weak ?hw (every21_loop hu ?_ ?_ (u.protos.length + 1) 0 (by omega) (by omega) rfl))
  case hw => exact ⟨rfl, rfl, rfl, rfl, trivial⟩
  ·intro l' K h1 h2
   exact ⟨.inr rfl, _, .t h2 .nil, by rw [h1, Bool.and_false]; rfl⟩
  ·intro l' K h1
   show Cd _ _ _ _ _ _
   refine Cd.weak (l2 := []) trivial ?_
   repeat' (first|intro _|refine yU ?_|(apply YA.mk;intro cv hv)|(refine yT ?_ ?_<;>(intro e;(try simp only [nbT,nbF] at e);subst e;try contradiction)))
   refine yX ?_
   rw [h1]; simp [hm, packL]
 ·repeat' (first|intro _|refine yU ?_|(apply YA.mk;intro cv hv)|(refine yT ?_ ?_<;>(intro e;(try simp only [nbT,nbF] at e);subst e;try contradiction)))
  refine yX ?_
  simp [hm, packL]
def unitB (u : Unt) : Bool := isName u.name && decide (1 ≤ u.version ∧ u.version ≤ 2147483647) && decide (0 ≤ u.funs ∧ u.funs ≤ min 32 (u.protos.length : Int)) && (decide (u.uses.length ≤ 16) && u.uses.all useB) && (decide (u.protos.length ≤ 64) && protosB u.funs 0 u.protos)
theorem right11 {u : Unt} (hu : OkU u) : PT Try.prog false 46 [.agg (unitR u)] (.bool (unitB u)) := by
 refine PT.of (CT.enter mixed comp46 (Nat.le_of_ble_eq_true rfl) ?_)
 obtain ⟨l1, l2⟩ := hu.lens
 have hn := name17 hu.name
 have he := every19 (m := 16) hu.uses (fun _ => rfl) (fun x hx => used20 x (hu.um x hx).1 (hu.um x hx).2) hu.luses
 have h3 : amin .i64 (.ofNat 32) [.int .i64 (.ofNat u.protos.length)] = some (.int .i64 (min 32 (u.protos.length : Int))) := amin2
 repeat' (first|(refine zq between_ ?_;intro cv hv)|refine zs between_ ?_|(refine zqv between_ ?_;intro cv hv)|(refine zqd between_ ?_;intro cv hv)|refine zsd between_ ?_|intro _|refine yU ?_|(apply YA.mk;intro cv hv)|(refine yT ?_ ?_<;>(intro e;(try simp only [nbT,nbF] at e);subst e;try contradiction)))
 all_goals (try (refine yX ?_; (refine congrArg AV.bool ?_; simp only [unitB]; first | (simp_all only [Bool.and_true, Bool.true_and, Bool.and_false, Bool.false_and, Bool.or_true, Bool.or_false, Bool.true_or, Bool.false_or, Bool.not_true, Bool.not_false]; done) | (rw [Bool.eq_iff_iff]; simp_all; done) | (rw [Bool.eq_iff_iff]; simp_all; omega) | (simp; omega)); done))
 rename_i bu _ _ _ bi
 refine Rg.callM (vs := [u.protosV, .int .i64 (.ofNat 64), .fn 61 [] [.ptr bi 0 0 1, .ptr bu 0 0 5]]) (m := [boxI bi 0, boxU bu u]) (r := ?_) ?_ (every21 hu) ?_ ?_
 rotate_left
 exact rfl
 (repeat (first | exact Sel.nil | (apply Sel.cons; (repeat (first | exact Take.here | apply Take.there)))))
 rintro v K' rfl
 generalize hg : (decide (u.protos.length ≤ 64) && protosB u.funs 0 u.protos) = cv
 repeat' (first|intro _|refine yU ?_|(apply YA.mk;intro cv hv)|(refine yT ?_ ?_<;>(intro e;(try simp only [nbT,nbF] at e);subst e;try contradiction)))
 refine yX ?_
 (refine congrArg AV.bool ?_; simp only [unitB]; first | (simp_all only [Bool.and_true, Bool.true_and, Bool.and_false, Bool.false_and, Bool.or_true, Bool.or_false, Bool.true_or, Bool.false_or, Bool.not_true, Bool.not_false]; done) | (rw [Bool.eq_iff_iff]; simp_all; done) | (rw [Bool.eq_iff_iff]; simp_all; omega) | (simp; omega))
end Go.Proofs.YtlimjjilakldgaaGreat
namespace Go.Proofs.YtlimjjilakldgaaGreat
open Go Go.Abs
attribute [local irreducible] Cmp Rg Dw Cd Lp Ev Rdk CT Upd InK
theorem fitD_le {ch : Nat} {n : Int} (h : fitD ch n = true) : 0 ≤ n ∧ n ≤ 255 := by
 unfold fitD at h
 split at h
 ·have := of_decide_eq_true h; omega
 ·exact of_decide_eq_true h
theorem rightI_op {x : Ins} (h : rightI x = true) : 0 ≤ x.op ∧ x.op < 38 := by
 by_cases hk : 0 ≤ x.op ∧ x.op < 38
 ·exact hk
 ·rw [rightI, shape, if_neg hk] at h; cases h
theorem rightI_le {x : Ins} (h : rightI x = true) : (0 ≤ x.a ∧ x.a ≤ 255) ∧ (0 ≤ x.b ∧ x.b ≤ 255) ∧ 0 ≤ x.c ∧ x.c ≤ 255 := by
 unfold rightI at h
 rcases shape_cases x.op with e | ⟨p, e⟩ | ⟨p, q, r, e⟩ <;> rw [e] at h <;> simp only [fit3, Bool.and_eq_true, Bool.false_eq_true] at h
 ·exact ⟨fitD_le h.1.1, fitD_le h.1.2, fitD_le h.2⟩
 ·exact ⟨fitD_le h.1.1, fitD_le h.1.2, fitD_le h.2⟩
def wide (x : Ins) : Nat := if rightI x = true then (x.b + 256 * x.c).toNat else 0
theorem or_byte {a b : Nat} (ha : a ≤ 255) (hb : b ≤ 255) : abin .or (.int .i64 (.ofNat b)) (.int .i64 (.ofNat (a * 256))) = some (.int .i64 (.ofNat (b + a * 256))) := by
 have h : Nat.lor b (a * 256) = b + a * 256 := by
  have := Nat.shiftLeft_add_eq_or_of_lt (i := 8) (b := b) (by omega) a
  rw [Nat.shiftLeft_eq, show (2 : Nat) ^ 8 = 256 from rfl] at this
  have e : Nat.lor b (a * 256) = a * 256 ||| b := Nat.or_comm _ _
  rw [e]
  omega
 show abitw .or .i64 Nat.lor (.ofNat b) (.ofNat (a * 256)) = _
 simp only [abitw, top]
 rw [Nat.ble_eq_true_of_le (by omega), Nat.ble_eq_true_of_le (by omega), h]; rfl
theorem shl_byte {a : Nat} (ha : a ≤ 255) : abin .shl (.int .i64 (.ofNat a)) (.int .u64 (.ofNat 8)) = some (.int .i64 (.ofNat (a * 256))) := by
 show some (AV.int .i64 (awrap .i64 (.ofNat (a * 2 ^ 8)))) = _
 simp only [awrap, top]
 rw [Nat.ble_eq_true_of_le (by omega)]; rfl
theorem mul_nat {a b : Nat} (h : a * b ≤ 9223372036854775807) : abin .mul (.int .i64 (.ofNat a)) (.int .i64 (.ofNat b)) = some (.int .i64 (.ofNat (a * b))) := by
 show some (AV.int .i64 (awrap .i64 (.ofNat (a * b)))) = _
 simp only [awrap, top]
 rw [Nat.ble_eq_true_of_le h]; rfl
theorem wide25 (x : Ins) : PT Try.prog false 64 [insA x] (.int .i64 (.ofNat (wide x))) := by
 refine PT.of (CT.enter mixed comp64 (Nat.le_of_ble_eq_true rfl) ?_)
 have hr := right42 x
 cases h : rightI x with
 | false =>
  rw [h] at hr
  repeat' (first|intro _|refine yU ?_|(apply YA.mk;intro cv hv)|(refine yT ?_ ?_<;>(intro e;(try simp only [nbT,nbF] at e);subst e;try contradiction)))
  ·refine yX ?_
   rw [wide, h]; rfl
 | true =>
  rw [h] at hr
  obtain ⟨_, hb, hc⟩ := rightI_le h
  obtain ⟨op, a, b, c⟩ := x
  simp only at hb hc
  obtain ⟨b, rfl⟩ := Int.eq_ofNat_of_zero_le hb.1
  obtain ⟨c, rfl⟩ := Int.eq_ofNat_of_zero_le hc.1
  have q1 := shl_byte (a := c) (by omega)
  have q2 := or_byte (a := c) (b := b) (by omega) (by omega)
  repeat' (first|intro _|refine yU ?_|(apply YA.mk;intro cv hv)|(refine yT ?_ ?_<;>(intro e;(try simp only [nbT,nbF] at e);subst e;try contradiction)))
  ·refine yX ?_
   rw [wide, h, if_pos rfl]
   show AV.int .i64 (.ofNat (b + c * 256)) = AV.int .i64 (.ofNat ((b : Int) + 256 * (c : Int)).toNat)
   congr 2; omega
theorem wide32 (x : Ins) : PT Try.prog false 71 [insA x] (.int .i64 (.ofNat (wide x))) := by
 refine PT.of (CT.enter mixed comp71 (Nat.le_of_ble_eq_true rfl) ?_)
 have hr := right47 x
 cases h : rightI x with
 | false =>
  rw [h] at hr
  repeat' (first|intro _|refine yU ?_|(apply YA.mk;intro cv hv)|(refine yT ?_ ?_<;>(intro e;(try simp only [nbT,nbF] at e);subst e;try contradiction)))
  ·refine yX ?_
   rw [wide, h]; rfl
 | true =>
  rw [h] at hr
  obtain ⟨_, hb, hc⟩ := rightI_le h
  obtain ⟨op, a, b, c⟩ := x
  simp only at hb hc
  obtain ⟨b, rfl⟩ := Int.eq_ofNat_of_zero_le hb.1
  obtain ⟨c, rfl⟩ := Int.eq_ofNat_of_zero_le hc.1
  have q1 := mul_nat (a := 256) (b := c) (by omega)
  have q2 := add_nat (a := b) (b := 256 * c) (by omega)
  repeat' (first|intro _|refine yU ?_|(apply YA.mk;intro cv hv)|(refine yT ?_ ?_<;>(intro e;(try simp only [nbT,nbF] at e);subst e;try contradiction)))
  ·refine yX ?_
   rw [wide, h, if_pos rfl]
   show AV.int .i64 (.ofNat (b + 256 * c)) = AV.int .i64 (.ofNat ((b : Int) + 256 * (c : Int)).toNat)
   congr 2
theorem ends12 (x : Ins) : PT Try.prog false 47 [insA x] (.bool (decide (x.op = 37 ∨ x.op = 25))) := by
 refine PT.of (CT.enter mixed comp47 (Nat.le_of_ble_eq_true rfl) ?_)
 repeat' (first|intro _|refine yU ?_|(apply YA.mk;intro cv hv)|(refine yT ?_ ?_<;>(intro e;(try simp only [nbT,nbF] at e);subst e;try contradiction)))
 all_goals refine yX ?_
 all_goals (refine congrArg AV.bool ?_; rw [Bool.eq_iff_iff]; (try simp_all); (try omega))
def regs3 (n : Int) (s : List Nat) (x : Ins) : Bool := match s with
 | [p, q] => !(decide (p = 114 ∧ n ≤ x.a)) && !(decide (q = 114 ∧ n ≤ x.b))
 | [p, q, r] => !(decide (p = 114 ∧ n ≤ x.a)) && !(decide (q = 114 ∧ n ≤ x.b)) && !(decide (r = 114 ∧ n ≤ x.c))
 | _ => true
end Go.Proofs.YtlimjjilakldgaaGreat
namespace Go.Proofs.YtlimjjilakldgaaGreat
open Go Go.Abs
attribute [local irreducible] Cmp Rg Dw Cd Lp Ev Rdk CT Upd InK
theorem registers26 (u : Unt) (p : Proto) (x : Ins) : PT Try.prog false 65 [.agg (unitR u ++ protoR p), insA x] (.bool (regs3 p.regs (shape x.op) x)) := by
 refine PT.of (CT.enter mixed comp65 (Nat.le_of_ble_eq_true rfl) ?_)
 have hs := @shape43 x.op
 rcases shape_cases x.op with h | ⟨c0, h⟩ | ⟨c0, c1, c2, h⟩ <;> rw [h] at hs ⊢
 ·repeat' (first|intro _|refine yU ?_|(apply YA.mk;intro cv hv)|(refine yT ?_ ?_<;>(intro e;(try simp only [nbT,nbF] at e);subst e;try contradiction)))
  rename_i b2 b3 b5
  refine Cd.weak (l2 := [(2, _), (5, _), (6, _), (19, _), (20, _)]) ⟨rfl, rfl, rfl, rfl, rfl, trivial⟩ ?_
  refine Cd.drop (m := [[(b5, .cells [.int .i64 x.a, .int .i64 x.b, .int .i64 x.c] 0 0 false)], [(b2, .cells (unitR u ++ protoR p) 0 0 false)]]) (.cons .here (.cons (.there .here) .nil)) (Cd.loop (k := 5) ?_)
  repeat' (first|intro _|refine yU ?_|(apply YA.mk;intro cv hv)|(refine yT ?_ ?_<;>(intro e;(try simp only [nbT,nbF] at e);subst e;try contradiction)))
  all_goals refine yX ?_
  all_goals first | rfl | (refine congrArg AV.bool ?_; rw [Bool.eq_iff_iff]; simp only [regs3]; clear hs h; first | (simp_all; done) | (simp_all; omega) | omega)
 ·repeat' (first|intro _|refine yU ?_|(apply YA.mk;intro cv hv)|(refine yT ?_ ?_<;>(intro e;(try simp only [nbT,nbF] at e);subst e;try contradiction)))
  rename_i b2 b3 b5
  refine Cd.weak (l2 := [(2, _), (5, _), (6, _), (19, _), (20, _)]) ⟨rfl, rfl, rfl, rfl, rfl, trivial⟩ ?_
  refine Cd.drop (m := [[(b5, .cells [.int .i64 x.a, .int .i64 x.b, .int .i64 x.c] 0 0 false)], [(b2, .cells (unitR u ++ protoR p) 0 0 false)]]) (.cons .here (.cons (.there .here) .nil)) (Cd.loop (k := 5) ?_)
  repeat' (first|intro _|refine yU ?_|(apply YA.mk;intro cv hv)|(refine yT ?_ ?_<;>(intro e;(try simp only [nbT,nbF] at e);subst e;try contradiction)))
  all_goals refine yX ?_
  all_goals first | rfl | (refine congrArg AV.bool ?_; rw [Bool.eq_iff_iff]; simp only [regs3]; clear hs h; first | (simp_all; done) | (simp_all; omega) | omega)
 ·repeat' (first|intro _|refine yU ?_|(apply YA.mk;intro cv hv)|(refine yT ?_ ?_<;>(intro e;(try simp only [nbT,nbF] at e);subst e;try contradiction)))
  rename_i b2 b3 b5
  refine Cd.weak (l2 := [(2, _), (5, _), (6, _), (19, _), (20, _)]) ⟨rfl, rfl, rfl, rfl, rfl, trivial⟩ ?_
  refine Cd.drop (m := [[(b5, .cells [.int .i64 x.a, .int .i64 x.b, .int .i64 x.c] 0 0 false)], [(b2, .cells (unitR u ++ protoR p) 0 0 false)]]) (.cons .here (.cons (.there .here) .nil)) (Cd.loop (k := 5) ?_)
  repeat' (first|intro _|refine yU ?_|(apply YA.mk;intro cv hv)|(refine yT ?_ ?_<;>(intro e;(try simp only [nbT,nbF] at e);subst e;try contradiction)))
  all_goals refine yX ?_
  all_goals first | rfl | (refine congrArg AV.bool ?_; rw [Bool.eq_iff_iff]; simp only [regs3]; clear hs h; first | (simp_all; done) | (simp_all; omega) | omega)
theorem registers33 (p : Proto) (x : Ins) (h0 : shape x.op ≠ []) : PT Try.prog false 72 [.agg (protoR p), insA x] (.bool (regs3 p.regs (shape x.op) x)) := by
 refine PT.of (CT.enter mixed comp72 (Nat.le_of_ble_eq_true rfl) ?_)
 have hs := @shape48 x.op
 rcases shape_cases x.op with h | ⟨c0, h⟩ | ⟨c0, c1, c2, h⟩
 ·exact absurd h h0
 ·rw [h] at hs ⊢
  repeat' (first|intro _|refine yU ?_|(apply YA.mk;intro cv hv)|(refine yT ?_ ?_<;>(intro e;(try simp only [nbT,nbF] at e);subst e;try contradiction)))
  all_goals refine yX ?_
  all_goals (refine congrArg AV.bool ?_; rw [Bool.eq_iff_iff]; simp only [regs3]; clear hs h h0; first | (simp_all; done) | (simp_all; omega) | omega)
 ·rw [h] at hs ⊢
  repeat' (first|intro _|refine yU ?_|(apply YA.mk;intro cv hv)|(refine yT ?_ ?_<;>(intro e;(try simp only [nbT,nbF] at e);subst e;try contradiction)))
  all_goals refine yX ?_
  all_goals (refine congrArg AV.bool ?_; rw [Bool.eq_iff_iff]; simp only [regs3]; clear hs h h0; first | (simp_all; done) | (simp_all; omega) | omega)
end Go.Proofs.YtlimjjilakldgaaGreat
