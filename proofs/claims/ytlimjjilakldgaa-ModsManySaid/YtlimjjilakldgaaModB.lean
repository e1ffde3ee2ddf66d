/- Contracts: words, keys, names. -/
import Derived.Test.YtlimjjilakldgaaModA
set_option autoImplicit false
set_option maxRecDepth 100000
set_option maxHeartbeats 2000000
set_option linter.unusedVariables false
set_option linter.unusedSimpArgs false
namespace Go.Proofs.Ytlimjjilakldgaa
open Go Go.Abs
attribute [local irreducible] Cmp Rg Dw Cd Lp Ev Rdk CT Upd InK
/-- A text that is handed in. -/
def Txt (s : List Nat) : Prop := s.length ≤ 9223372036854775807 ∧ ∀ c, c ∈ s → c < 256
theorem tw_all {p : Nat → Bool} : ∀ {s : List Nat} {pos : Nat}, s.length ≤ pos → (∀ i c, i < pos → s[i]? = some c → p c = true) → s.takeWhile p = s
  | [], _, _, _ => rfl
  | a :: s, 0, h, _ => by simp at h
  | a :: s, pos + 1, h, k => by
    rw [List.takeWhile_cons, k 0 a (by omega) rfl]
    simp only [if_true]
    rw [tw_all (pos := pos) (by simpa using h) fun i c hi hc => k (i + 1) c (by omega) (by simpa using hc)]
theorem tw_take {p : Nat → Bool} : ∀ {s : List Nat} {pos c : Nat}, s[pos]? = some c → p c = false → (∀ i d, i < pos → s[i]? = some d → p d = true) → s.takeWhile p = s.take pos
  | [], _, _, h, _, _ => by simp at h
  | a :: s, 0, c, h, hp, _ => by simp at h; subst h; simp [hp]
  | a :: s, pos + 1, c, h, hp, k => by
    rw [List.takeWhile_cons, k 0 a (by omega) rfl]
    simp only [if_true, List.take_succ_cons]
    rw [tw_take (pos := pos) (c := c) (by simpa using h) hp fun i d hi hd => k (i + 1) d (by omega) (by simpa using hd)]
theorem inW_big {n : Nat} (h : 128 ≤ n) : inW n = false := by
  simp only [inW, Bool.or_eq_false_iff, decide_eq_false_iff_not]
  omega
theorem head_loop {s : List Nat} (hs : Txt s) {Q : AX → SL → Mem → Prop} (hret : ∀ l K, lkS l 4 = some (.str (s.takeWhile inW)) → Q .ret l K) (hend : ∀ l K, s.takeWhile inW = s → lkS l 0 = some (.str s) → Q (.ext 0) l K) :
    ∀ (k pos b : Nat), s.length < pos + k → pos ≤ s.length → (∀ i c, i < pos → s[i]? = some c → inW c = true) → Lp Try.prog false b76_0 k [(0, .str s), (1, .fn 77 [] []), (8, .it b)] [[(b, .sit s pos)]] Q := by
  intro k
  induction k with
  | zero => intro pos b h1 h2; omega
  | succ k ih =>
    intro pos b h1 h2 h3
    refine Lp.round ?_
    have q := sstr_to (s := s) (k := .i64) (n := pos) h2
    by_cases hp : pos < s.length
    · have hc : s[pos]? = some s[pos] := List.getElem?_eq_getElem hp
      generalize s[pos] = c at hc
      have hcm := hs.2 c (List.mem_of_getElem? hc)
      (repeat refine Cd.seq ?_); refine Cd.reg ?_
      refine Rg.nextS rfl Upd.here hp ?_
      by_cases hsm : c < 128
      · rw [dec_small hc hsm]
        have hin := @inner_ c
        repeat' (first|refine zz ?_|(refine zv ?_;intro cv hv)|(refine za ?_;intro _)|refine zc ?_|(refine zd ?_;refine And.intro ?_ ?_<;>(intro e;(try simp only [Bool.not_eq_true',Bool.not_eq_false'] at e);subst e;try contradiction)))
        · exact hret _ _ (by rw [tw_take hc hv h3]; rfl)
        · refine Lp.weak ?hw (ih (pos + 1) b (by omega) (by omega) ?_)
          case hw => exact ⟨rfl, rfl, rfl, trivial⟩
          intro i d hi hd
          by_cases he : i = pos
          · subst he; rw [hc] at hd; cases hd; exact hv
          · exact h3 i d (by omega) hd
      · have hbig := dec_big hc (by omega) hcm
        generalize dec s pos = dd at hbig
        have hin := @inner_ dd.1
        rw [inW_big hbig] at hin
        repeat' (first|refine zz ?_|(refine zv ?_;intro cv hv)|(refine za ?_;intro _)|refine zc ?_|(refine zd ?_;refine And.intro ?_ ?_<;>(intro e;(try simp only [Bool.not_eq_true',Bool.not_eq_false'] at e);subst e;try contradiction)))
        · exact hret _ _ (by rw [tw_take hc (inW_big (by omega)) h3]; rfl)
        all_goals (cases hv)
    · (repeat refine Cd.seq ?_); refine Cd.reg ?_
      refine Rg.nextE rfl InK.here hp ?_
      repeat' (first|refine zz ?_|(refine zv ?_;intro cv hv)|(refine za ?_;intro _)|refine zc ?_|(refine zd ?_;refine And.intro ?_ ?_<;>(intro e;(try simp only [Bool.not_eq_true',Bool.not_eq_false'] at e);subst e;try contradiction)))
      exact hend _ _ (tw_all (by omega) h3) rfl
theorem head50 {s : List Nat} (hs : Txt s) : PT Try.prog false 76 [.str s, .fn 77 [] []] (.str (s.takeWhile inW)) := by
  refine PT.of (CT.enter mixed comp76 (Nat.le_of_ble_eq_true rfl) ?_)
  repeat' (first|refine zz ?_|(refine zv ?_;intro cv hv)|(refine za ?_;intro _)|refine zc ?_|(refine zd ?_;refine And.intro ?_ ?_<;>(intro e;(try simp only [Bool.not_eq_true',Bool.not_eq_false'] at e);subst e;try contradiction)))
  refine Rg.rngS rfl fun b => ?_
  refine Rg.nil ?_
  refine Cd.blk (Cd.loop (k := s.length + 1) ?_)
  refine Lp.weak (l2 := [(0, .str s), (1, .fn 77 [] []), (8, .it b)]) ⟨rfl, rfl, rfl, trivial⟩ (head_loop hs ?_ ?_ (s.length + 1) 0 b (by omega) (by omega) (by intro i c hi; omega))
  · intro l K h
    exact ⟨.inr rfl, _, .t h .nil, rfl⟩
  · intro l K h h0
    show Cd _ _ _ _ _ _
    refine Cd.weak (l2 := [(0, .str s)]) ⟨h0, trivial⟩ ?_
    repeat' (first|refine zz ?_|(refine zv ?_;intro cv hv)|(refine za ?_;intro _)|refine zc ?_|(refine zd ?_;refine And.intro ?_ ?_<;>(intro e;(try simp only [Bool.not_eq_true',Bool.not_eq_false'] at e);subst e;try contradiction)))
    (first|refine ⟨.inr rfl,_,.t rfl .nil,?_⟩|refine ⟨.inr rfl,_,.t rfl (.t rfl .nil),?_⟩|refine ⟨.inr rfl,_,.t rfl (.t rfl (.t rfl .nil)),?_⟩|refine ⟨.inr rfl,_,.nil,?_⟩|refine ⟨.inl rfl,_,.t rfl .nil,?_⟩|refine ⟨.inl rfl,_,.nil,?_⟩|refine ⟨.inr rfl,_,.cn rfl (by exact zN) .nil,?_⟩|refine ⟨.inr rfl,_,.cn rfl (by exact zN) (.t rfl .nil),?_⟩)
    rw [h]; rfl
def word (s : List Nat) : Bool := match s with
  | [] => false
  | c :: _ => decide (97 ≤ c ∧ c ≤ 122) && decide ((s.takeWhile inW).length = s.length)
theorem word35 {s : List Nat} (hs : Txt s) : PT Try.prog false 61 [.str s] (.bool (word s)) := by
  refine PT.of (CT.enter mixed comp61 (Nat.le_of_ble_eq_true rfl) ?_)
  cases s with
  | nil =>
    repeat' (first|refine zz ?_|(refine zv ?_;intro cv hv)|(refine za ?_;intro _)|refine zc ?_|(refine zd ?_;refine And.intro ?_ ?_<;>(intro e;(try simp only [Bool.not_eq_true',Bool.not_eq_false'] at e);subst e;try contradiction)))
    (first|refine ⟨.inr rfl,_,.t rfl .nil,?_⟩|refine ⟨.inr rfl,_,.t rfl (.t rfl .nil),?_⟩|refine ⟨.inr rfl,_,.t rfl (.t rfl (.t rfl .nil)),?_⟩|refine ⟨.inr rfl,_,.nil,?_⟩|refine ⟨.inl rfl,_,.t rfl .nil,?_⟩|refine ⟨.inl rfl,_,.nil,?_⟩|refine ⟨.inr rfl,_,.cn rfl (by exact zN) .nil,?_⟩|refine ⟨.inr rfl,_,.cn rfl (by exact zN) (.t rfl .nil),?_⟩); rfl
  | cons a s =>
    have h50 := head50 hs
    have ha : a < 256 := hs.2 a (by simp)
    have q1 : apure .e (.idxs (.c (.str (a :: s))) (.c (.int .i64 (.ofNat 0)))) = some (.int .u8 (.ofNat a)) := rfl
    have q2 := toInt_nat (j := .u8) (k := .i32) (n := a) (by simp [top]; omega)
    repeat' (first|(refine zq letter_ ?_;intro cv hv)|refine zs letter_ ?_|(refine zqv letter_ ?_;intro cv hv)|(refine zqd letter_ ?_;intro cv hv)|refine zsd letter_ ?_|refine zz ?_|(refine zv ?_;intro cv hv)|(refine za ?_;intro _)|refine zc ?_|(refine zd ?_;refine And.intro ?_ ?_<;>(intro e;(try simp only [Bool.not_eq_true',Bool.not_eq_false'] at e);subst e;try contradiction)))
    all_goals (first|refine ⟨.inr rfl,_,.t rfl .nil,?_⟩|refine ⟨.inr rfl,_,.t rfl (.t rfl .nil),?_⟩|refine ⟨.inr rfl,_,.t rfl (.t rfl (.t rfl .nil)),?_⟩|refine ⟨.inr rfl,_,.nil,?_⟩|refine ⟨.inl rfl,_,.t rfl .nil,?_⟩|refine ⟨.inl rfl,_,.nil,?_⟩|refine ⟨.inr rfl,_,.cn rfl (by exact zN) .nil,?_⟩|refine ⟨.inr rfl,_,.cn rfl (by exact zN) (.t rfl .nil),?_⟩)
    all_goals (refine congrArg AV.bool ?_; rw [Bool.eq_iff_iff]; simp only [word, Bool.and_eq_true, decide_eq_true_eq]; first | (simp_all; done) | (simp_all; omega) | omega)
/-- Does a text stand in another one? -/
def within (all s : List Nat) : Bool := (List.range (all.length + 1)).any fun i => decide (i + s.length ≤ all.length) && decide ((all.drop i).take s.length = s)
theorem within_loop {all s : List Nat} (h1 : all.length ≤ 1000) (h2 : s.length ≤ 562949953421312) {Q : AX → SL → Mem → Prop} (hret : ∀ l K, lkS l 4 = some (.bool true) → within all s = true → Q .ret l K) (hend : ∀ l K, within all s = false → Q (.ext 0) l K) :
    ∀ (k i : Nat), all.length + 1 < i + k → i ≤ all.length + 1 → (∀ j, j < i → j + s.length ≤ all.length → (all.drop j).take s.length ≠ s) → Lp Try.prog false b78_0 k [(0, .str all), (1, .str s), (5, .int .i64 (.ofNat i))] [] Q := by
  intro k
  induction k with
  | zero => intro i h1 h2; omega
  | succ k ih =>
    intro i k1 k2 k3
    refine Lp.round ?_
    by_cases hi : i + s.length ≤ all.length
    · have q1 := sstr_of (s := all) (k := .i64) (j := .i64) (m := i) (n := i + s.length) hi (by omega)
      rw [Nat.add_sub_cancel_left] at q1
      repeat' (first|refine zz ?_|(refine zv ?_;intro cv hv)|(refine za ?_;intro _)|refine zc ?_|(refine zd ?_;refine And.intro ?_ ?_<;>(intro e;(try simp only [Bool.not_eq_true',Bool.not_eq_false'] at e);subst e;try contradiction)))
      · exact hret _ _ rfl (List.any_eq_true.2 ⟨i, List.mem_range.2 (by omega), by simp [hi, hv.1 rfl]⟩)
      · refine Lp.weak ?hw (ih (i + 1) (by omega) (by omega) ?_)
        case hw => exact ⟨rfl, rfl, rfl, trivial⟩
        intro j hj hl
        by_cases he : j = i
        · subst he; intro h6; have := hv.2 h6; cases this
        · exact k3 j (by omega) hl
    · repeat' (first|refine zz ?_|(refine zv ?_;intro cv hv)|(refine za ?_;intro _)|refine zc ?_|(refine zd ?_;refine And.intro ?_ ?_<;>(intro e;(try simp only [Bool.not_eq_true',Bool.not_eq_false'] at e);subst e;try contradiction)))
      · refine hend _ _ ?_
        cases hw : within all s with
        | false => rfl
        | true =>
          obtain ⟨j, j1, j2⟩ := List.any_eq_true.1 hw
          simp only [Bool.and_eq_true, decide_eq_true_eq] at j2
          by_cases he : j < i
          · exact absurd j2.2 (k3 j he j2.1)
          · omega
theorem within52 {all s : List Nat} (h1 : all.length ≤ 1000) (h2 : s.length ≤ 562949953421312) : PT Try.prog false 78 [.str all, .str s] (.bool (within all s)) := by
  refine PT.of (CT.enter mixed comp78 (Nat.le_of_ble_eq_true rfl) ?_)
  repeat' (first|refine zz ?_|(refine zv ?_;intro cv hv)|(refine za ?_;intro _)|refine zc ?_|(refine zd ?_;refine And.intro ?_ ?_<;>(intro e;(try simp only [Bool.not_eq_true',Bool.not_eq_false'] at e);subst e;try contradiction)))
  refine Cd.loop (k := all.length + 2) (Lp.weak (l2 := [(0, .str all), (1, .str s), (5, .int .i64 (.ofNat 0))]) ⟨rfl, rfl, rfl, trivial⟩ (within_loop h1 h2 ?_ ?_ (all.length + 2) 0 (by omega) (by omega) (by intro j hj; omega)))
  · intro l K h h3
    exact ⟨.inr rfl, _, .t h .nil, by rw [h3]; rfl⟩
  · intro l K h
    show Cd _ _ _ _ _ _
    refine Cd.weak (l2 := []) trivial ?_
    repeat' (first|refine zz ?_|(refine zv ?_;intro cv hv)|(refine za ?_;intro _)|refine zc ?_|(refine zd ?_;refine And.intro ?_ ?_<;>(intro e;(try simp only [Bool.not_eq_true',Bool.not_eq_false'] at e);subst e;try contradiction)))
    (first|refine ⟨.inr rfl,_,.t rfl .nil,?_⟩|refine ⟨.inr rfl,_,.t rfl (.t rfl .nil),?_⟩|refine ⟨.inr rfl,_,.t rfl (.t rfl (.t rfl .nil)),?_⟩|refine ⟨.inr rfl,_,.nil,?_⟩|refine ⟨.inl rfl,_,.t rfl .nil,?_⟩|refine ⟨.inl rfl,_,.nil,?_⟩|refine ⟨.inr rfl,_,.cn rfl (by exact zN) .nil,?_⟩|refine ⟨.inr rfl,_,.cn rfl (by exact zN) (.t rfl .nil),?_⟩)
    rw [h]; rfl
end Go.Proofs.Ytlimjjilakldgaa

namespace Go.Proofs.Ytlimjjilakldgaa
open Go Go.Abs
attribute [local irreducible] Cmp Rg Dw Cd Lp Ev Rdk CT Upd InK
def keysT : List Nat := " module use fn let if else while break continue return put emit yield nil state spawn len not and or ".toList.map Char.toNat
def keyL : List (List Nat) := ["module", "use", "fn", "let", "if", "else", "while", "break", "continue", "return", "put", "emit", "yield", "nil", "state", "spawn", "len", "not", "and", "or"].map fun s => s.toList.map Char.toNat
theorem key36 {s : List Nat} (hs : Txt s) (hl : s.length ≤ 1000) : PT Try.prog false 62 [.str s] (.bool (word s && within keysT ([32] ++ s ++ [32]))) := by
  refine PT.of (CT.enter mixed comp62 (Nat.le_of_ble_eq_true rfl) ?_)
  have q1 := add_str (s := [32]) (t := s) (by simp [lim]; omega)
  have q2 := add_str (s := [32] ++ s) (t := [32]) (by simp [lim]; omega)
  have hw := word35 hs
  have hi := within52 (all := keysT) (s := [32] ++ s ++ [32]) (by decide) (by simp; omega)
  repeat' (first|refine zz ?_|(refine zv ?_;intro cv hv)|(refine za ?_;intro _)|refine zc ?_|(refine zd ?_;refine And.intro ?_ ?_<;>(intro e;(try simp only [Bool.not_eq_true',Bool.not_eq_false'] at e);subst e;try contradiction)))
  all_goals (first|refine ⟨.inr rfl,_,.t rfl .nil,?_⟩|refine ⟨.inr rfl,_,.t rfl (.t rfl .nil),?_⟩|refine ⟨.inr rfl,_,.t rfl (.t rfl (.t rfl .nil)),?_⟩|refine ⟨.inr rfl,_,.nil,?_⟩|refine ⟨.inl rfl,_,.t rfl .nil,?_⟩|refine ⟨.inl rfl,_,.nil,?_⟩|refine ⟨.inr rfl,_,.cn rfl (by exact zN) .nil,?_⟩|refine ⟨.inr rfl,_,.cn rfl (by exact zN) (.t rfl .nil),?_⟩)
  all_goals (refine congrArg AV.bool ?_; rw [Bool.eq_iff_iff]; simp only [Bool.and_eq_true]; simp_all)
theorem tw_stop {p : Nat → Bool} {s r : List Nat} {x : Nat} (h : ∀ c, c ∈ s → p c = true) (hx : p x = false) : (s ++ x :: r).takeWhile p = s := by
  rw [List.takeWhile_append_of_pos h, List.takeWhile_cons, hx]
  simp
theorem seg_keys : (List.range keysT.length).all (fun i => (keysT.drop (i + 1)).takeWhile (fun c => c != 32) == [] || keysT[i]?.getD 0 != 32 || keyL.contains ((keysT.drop (i + 1)).takeWhile fun c => c != 32)) = true := by kernel_rfl
theorem keys_seg : keyL.all (fun w => within keysT ([32] ++ w ++ [32])) = true := by kernel_rfl
theorem mem_tw {p : Nat → Bool} : ∀ {l : List Nat} {c : Nat}, c ∈ l.takeWhile p → p c = true
  | [], c, h => by simp at h
  | a :: l, c, h => by
    rw [List.takeWhile_cons] at h
    cases hp : p a with
    | true =>
      rw [hp] at h
      rcases List.mem_cons.1 h with rfl | h
      · exact hp
      · exact mem_tw h
    | false => rw [hp] at h; simp at h
theorem word_mem {s : List Nat} (h : word s = true) : s ≠ [] ∧ ∀ c, c ∈ s → inW c = true := by
  cases s with
  | nil => cases h
  | cons a s =>
    refine ⟨by simp, ?_⟩
    simp only [word, Bool.and_eq_true, decide_eq_true_eq] at h
    have : (a :: s).takeWhile inW = a :: s := (List.takeWhile_prefix inW).eq_of_length h.2
    intro c hc
    rw [← this] at hc
    exact mem_tw hc
theorem key_eq {s : List Nat} (h : word s = true) : within keysT ([32] ++ s ++ [32]) = keyL.contains s := by
  obtain ⟨h1, h2⟩ := word_mem h
  rw [Bool.eq_iff_iff]
  constructor
  · intro hw
    obtain ⟨i, i1, i2⟩ := List.any_eq_true.1 hw
    simp only [Bool.and_eq_true, decide_eq_true_eq] at i2
    obtain ⟨i2, i3⟩ := i2
    have hd : keysT.drop i = [32] ++ s ++ [32] ++ (keysT.drop i).drop ([32] ++ s ++ [32]).length := by
      have := (List.take_append_drop ([32] ++ s ++ [32]).length (keysT.drop i)).symm
      rw [i3] at this
      exact this
    generalize (keysT.drop i).drop ([32] ++ s ++ [32]).length = r at hd
    have hi : i < keysT.length := by simp at i2; omega
    have h0 : keysT[i]? = some 32 := by
      have := List.getElem?_drop (xs := keysT) (i := i) (j := 0)
      rw [hd] at this
      simpa using this.symm
    have hd1 : keysT.drop (i + 1) = s ++ 32 :: r := by
      rw [← List.drop_drop, hd]; simp
    have := List.all_eq_true.1 seg_keys i (List.mem_range.2 hi)
    rw [hd1, tw_stop (fun c hc => by
      have := h2 c hc
      simp only [bne_iff_ne, ne_eq]
      rintro rfl
      revert this; decide) (by decide)] at this
    simp only [h0, Bool.or_eq_true] at this
    rcases this with (h3 | h3) | h3
    · exact absurd (by simpa using h3) h1
    · simp at h3
    · exact h3
  · intro hc
    exact List.all_eq_true.1 keys_seg s (by simpa using hc)
/-- A name. -/
def isName (s : List Nat) : Bool := word s && decide (s.length ≤ 16) && !keyL.contains s
theorem name17 {s : List Nat} (hs : Txt s) : PT Try.prog false 42 [.str s] (.bool (isName s)) := by
  refine PT.of (CT.enter mixed comp42 (Nat.le_of_ble_eq_true rfl) ?_)
  have hw := word35 hs
  by_cases hl : s.length ≤ 16
  · have hk := key36 hs (by omega)
    repeat' (first|refine zz ?_|(refine zv ?_;intro cv hv)|(refine za ?_;intro _)|refine zc ?_|(refine zd ?_;refine And.intro ?_ ?_<;>(intro e;(try simp only [Bool.not_eq_true',Bool.not_eq_false'] at e);subst e;try contradiction)))
    all_goals (first|refine ⟨.inr rfl,_,.t rfl .nil,?_⟩|refine ⟨.inr rfl,_,.t rfl (.t rfl .nil),?_⟩|refine ⟨.inr rfl,_,.t rfl (.t rfl (.t rfl .nil)),?_⟩|refine ⟨.inr rfl,_,.nil,?_⟩|refine ⟨.inl rfl,_,.t rfl .nil,?_⟩|refine ⟨.inl rfl,_,.nil,?_⟩|refine ⟨.inr rfl,_,.cn rfl (by exact zN) .nil,?_⟩|refine ⟨.inr rfl,_,.cn rfl (by exact zN) (.t rfl .nil),?_⟩)
    · refine congrArg AV.bool ?_
      cases hq : word s with
      | true => rw [isName, ← hv, key_eq hq, hq]; simp [hl]
      | false => simp_all
    · refine congrArg AV.bool ?_
      simp [isName, hv]
  · repeat' (first|refine zz ?_|(refine zv ?_;intro cv hv)|(refine za ?_;intro _)|refine zc ?_|(refine zd ?_;refine And.intro ?_ ?_<;>(intro e;(try simp only [Bool.not_eq_true',Bool.not_eq_false'] at e);subst e;try contradiction)))
    all_goals (first|refine ⟨.inr rfl,_,.t rfl .nil,?_⟩|refine ⟨.inr rfl,_,.t rfl (.t rfl .nil),?_⟩|refine ⟨.inr rfl,_,.t rfl (.t rfl (.t rfl .nil)),?_⟩|refine ⟨.inr rfl,_,.nil,?_⟩|refine ⟨.inl rfl,_,.t rfl .nil,?_⟩|refine ⟨.inl rfl,_,.nil,?_⟩|refine ⟨.inr rfl,_,.cn rfl (by exact zN) .nil,?_⟩|refine ⟨.inr rfl,_,.cn rfl (by exact zN) (.t rfl .nil),?_⟩)
    all_goals (refine congrArg AV.bool ?_; simp [isName, hl])
end Go.Proofs.Ytlimjjilakldgaa

namespace Go.Proofs.Ytlimjjilakldgaa
open Go Go.Abs
attribute [local irreducible] Cmp Rg Dw Cd Lp Ev Rdk CT Upd InK
end Go.Proofs.Ytlimjjilakldgaa

namespace Go.Proofs.Ytlimjjilakldgaa
open Go Go.Abs
attribute [local irreducible] Cmp Rg Dw Cd Lp Ev Rdk CT Upd InK
theorem every41_loop {α : Type} {R : α → List AV} {so : α → Bool} {v : AV} {l : List α} (hvl : ASl 4 v (l.map R)) (hR : ∀ x, (R x).length = 4) {g : FuncId} (hc : ∀ x, x ∈ l → PT Try.prog false g [.agg (R x)] (.bool (so x))) (hl : l.length ≤ 9223372036854775807) {Q : AX → SL → Mem → Prop} (hret : ∀ l' K, l.all so = false → lkS l' 6 = some (.bool false) → Q .ret l' K) (hend : ∀ l' K, l.all so = true → Q (.ext 0) l' K) :
    ∀ (k i : Nat), l.length < i + k → i ≤ l.length → (∀ x, x ∈ l.take i → so x = true) → Lp Try.prog false b67_0 k [(2, .fn g [] []), (13, v), (14, .int .i64 (.ofNat l.length)), (15, .int .i64 (.ofNat i))] [] Q := by
  intro k
  induction k with
  | zero => intro i h1 h2; omega
  | succ k ih =>
    intro i h1 h2 h3
    refine Lp.round ?_
    by_cases hi : i < l.length
    · obtain ⟨x, hx⟩ : ∃ x, l[i]? = some x := ⟨_, List.getElem?_eq_getElem hi⟩
      have q1 := hvl.iadr (i := i) (r := R x) (k := .i64) (by rw [List.getElem?_map, hx]; rfl)
      have q2 := hR x
      have q5 := hc x (List.mem_of_getElem? hx)
      repeat' (first|refine zz ?_|(refine zv ?_;intro cv hv)|(refine za ?_;intro _)|refine zc ?_|(refine zd ?_;refine And.intro ?_ ?_<;>(intro e;(try simp only [Bool.not_eq_true',Bool.not_eq_false'] at e);subst e;try contradiction)))
      · refine hret _ _ ?_ rfl
        cases ha : l.all so with
        | false => rfl
        | true => rw [List.all_eq_true.1 ha x (List.mem_of_getElem? hx)] at hv; cases hv
      · refine Lp.drop .nil (Lp.weak ?hw (ih (i + 1) (by omega) (by omega) ?_))
        case hw => exact ⟨rfl, rfl, rfl, rfl, trivial⟩
        intro y hy
        rw [List.take_add_one, hx] at hy
        rcases List.mem_append.1 hy with hy | hy
        · exact h3 y hy
        · simp at hy; subst hy; exact hv
    · repeat' (first|refine zz ?_|(refine zv ?_;intro cv hv)|(refine za ?_;intro _)|refine zc ?_|(refine zd ?_;refine And.intro ?_ ?_<;>(intro e;(try simp only [Bool.not_eq_true',Bool.not_eq_false'] at e);subst e;try contradiction)))
      refine hend _ _ (List.all_eq_true.2 fun x hx => h3 x (by rw [List.take_of_length_le (by omega)]; exact hx))
theorem every41 {α : Type} {R : α → List AV} {so : α → Bool} {v : AV} {l : List α} {m : Nat} (hvl : ASl 4 v (l.map R)) (hR : ∀ x, (R x).length = 4) {g : FuncId} (hc : ∀ x, x ∈ l → PT Try.prog false g [.agg (R x)] (.bool (so x))) (hl : l.length ≤ 9223372036854775807) : PT Try.prog false 67 [v, .int .i64 (.ofNat m), .fn g [] []] (.bool (decide (l.length ≤ m) && l.all so)) := by
  refine PT.of (CT.enter mixed comp67 (Nat.le_of_ble_eq_true rfl) ?_)
  have q1 := hvl.len
  rw [List.length_map] at q1
  by_cases hm : l.length ≤ m
  · repeat' (first|refine zz ?_|(refine zv ?_;intro cv hv)|(refine za ?_;intro _)|refine zc ?_|(refine zd ?_;refine And.intro ?_ ?_<;>(intro e;(try simp only [Bool.not_eq_true',Bool.not_eq_false'] at e);subst e;try contradiction)))
    refine Cd.loop (k := l.length + 1) (Lp.weak ?hw (every41_loop hvl hR hc hl ?_ ?_ (l.length + 1) 0 (by omega) (by omega) (by intro x hx; simp at hx)))
    case hw => exact ⟨rfl, rfl, rfl, rfl, trivial⟩
    · intro l' K h1 h2
      exact ⟨.inr rfl, _, .t h2 .nil, by rw [h1, Bool.and_false]; rfl⟩
    · intro l' K h1
      show Cd _ _ _ _ _ _
      refine Cd.weak (l2 := []) trivial ?_
      repeat' (first|refine zz ?_|(refine zv ?_;intro cv hv)|(refine za ?_;intro _)|refine zc ?_|(refine zd ?_;refine And.intro ?_ ?_<;>(intro e;(try simp only [Bool.not_eq_true',Bool.not_eq_false'] at e);subst e;try contradiction)))
      (first|refine ⟨.inr rfl,_,.t rfl .nil,?_⟩|refine ⟨.inr rfl,_,.t rfl (.t rfl .nil),?_⟩|refine ⟨.inr rfl,_,.t rfl (.t rfl (.t rfl .nil)),?_⟩|refine ⟨.inr rfl,_,.nil,?_⟩|refine ⟨.inl rfl,_,.t rfl .nil,?_⟩|refine ⟨.inl rfl,_,.nil,?_⟩|refine ⟨.inr rfl,_,.cn rfl (by exact zN) .nil,?_⟩|refine ⟨.inr rfl,_,.cn rfl (by exact zN) (.t rfl .nil),?_⟩)
      rw [h1]; simp [hm, packL]
  · repeat' (first|refine zz ?_|(refine zv ?_;intro cv hv)|(refine za ?_;intro _)|refine zc ?_|(refine zd ?_;refine And.intro ?_ ?_<;>(intro e;(try simp only [Bool.not_eq_true',Bool.not_eq_false'] at e);subst e;try contradiction)))
    (first|refine ⟨.inr rfl,_,.t rfl .nil,?_⟩|refine ⟨.inr rfl,_,.t rfl (.t rfl .nil),?_⟩|refine ⟨.inr rfl,_,.t rfl (.t rfl (.t rfl .nil)),?_⟩|refine ⟨.inr rfl,_,.nil,?_⟩|refine ⟨.inl rfl,_,.t rfl .nil,?_⟩|refine ⟨.inl rfl,_,.nil,?_⟩|refine ⟨.inr rfl,_,.cn rfl (by exact zN) .nil,?_⟩|refine ⟨.inr rfl,_,.cn rfl (by exact zN) (.t rfl .nil),?_⟩)
    simp [hm, packL]
theorem every19_loop {α : Type} {R : α → List AV} {so : α → Bool} {v : AV} {l : List α} (hvl : ASl 3 v (l.map R)) (hR : ∀ x, (R x).length = 3) {g : FuncId} (hc : ∀ x, x ∈ l → PT Try.prog false g [.agg (R x)] (.bool (so x))) (hl : l.length ≤ 9223372036854775807) {Q : AX → SL → Mem → Prop} (hret : ∀ l' K, l.all so = false → lkS l' 6 = some (.bool false) → Q .ret l' K) (hend : ∀ l' K, l.all so = true → Q (.ext 0) l' K) :
    ∀ (k i : Nat), l.length < i + k → i ≤ l.length → (∀ x, x ∈ l.take i → so x = true) → Lp Try.prog false b44_0 k [(2, .fn g [] []), (13, v), (14, .int .i64 (.ofNat l.length)), (15, .int .i64 (.ofNat i))] [] Q := by
  intro k
  induction k with
  | zero => intro i h1 h2; omega
  | succ k ih =>
    intro i h1 h2 h3
    refine Lp.round ?_
    by_cases hi : i < l.length
    · obtain ⟨x, hx⟩ : ∃ x, l[i]? = some x := ⟨_, List.getElem?_eq_getElem hi⟩
      have q1 := hvl.iadr (i := i) (r := R x) (k := .i64) (by rw [List.getElem?_map, hx]; rfl)
      have q2 := hR x
      have q5 := hc x (List.mem_of_getElem? hx)
      repeat' (first|refine zz ?_|(refine zv ?_;intro cv hv)|(refine za ?_;intro _)|refine zc ?_|(refine zd ?_;refine And.intro ?_ ?_<;>(intro e;(try simp only [Bool.not_eq_true',Bool.not_eq_false'] at e);subst e;try contradiction)))
      · refine hret _ _ ?_ rfl
        cases ha : l.all so with
        | false => rfl
        | true => rw [List.all_eq_true.1 ha x (List.mem_of_getElem? hx)] at hv; cases hv
      · refine Lp.drop .nil (Lp.weak ?hw (ih (i + 1) (by omega) (by omega) ?_))
        case hw => exact ⟨rfl, rfl, rfl, rfl, trivial⟩
        intro y hy
        rw [List.take_add_one, hx] at hy
        rcases List.mem_append.1 hy with hy | hy
        · exact h3 y hy
        · simp at hy; subst hy; exact hv
    · repeat' (first|refine zz ?_|(refine zv ?_;intro cv hv)|(refine za ?_;intro _)|refine zc ?_|(refine zd ?_;refine And.intro ?_ ?_<;>(intro e;(try simp only [Bool.not_eq_true',Bool.not_eq_false'] at e);subst e;try contradiction)))
      refine hend _ _ (List.all_eq_true.2 fun x hx => h3 x (by rw [List.take_of_length_le (by omega)]; exact hx))
theorem every19 {α : Type} {R : α → List AV} {so : α → Bool} {v : AV} {l : List α} {m : Nat} (hvl : ASl 3 v (l.map R)) (hR : ∀ x, (R x).length = 3) {g : FuncId} (hc : ∀ x, x ∈ l → PT Try.prog false g [.agg (R x)] (.bool (so x))) (hl : l.length ≤ 9223372036854775807) : PT Try.prog false 44 [v, .int .i64 (.ofNat m), .fn g [] []] (.bool (decide (l.length ≤ m) && l.all so)) := by
  refine PT.of (CT.enter mixed comp44 (Nat.le_of_ble_eq_true rfl) ?_)
  have q1 := hvl.len
  rw [List.length_map] at q1
  by_cases hm : l.length ≤ m
  · repeat' (first|refine zz ?_|(refine zv ?_;intro cv hv)|(refine za ?_;intro _)|refine zc ?_|(refine zd ?_;refine And.intro ?_ ?_<;>(intro e;(try simp only [Bool.not_eq_true',Bool.not_eq_false'] at e);subst e;try contradiction)))
    refine Cd.loop (k := l.length + 1) (Lp.weak ?hw (every19_loop hvl hR hc hl ?_ ?_ (l.length + 1) 0 (by omega) (by omega) (by intro x hx; simp at hx)))
    case hw => exact ⟨rfl, rfl, rfl, rfl, trivial⟩
    · intro l' K h1 h2
      exact ⟨.inr rfl, _, .t h2 .nil, by rw [h1, Bool.and_false]; rfl⟩
    · intro l' K h1
      show Cd _ _ _ _ _ _
      refine Cd.weak (l2 := []) trivial ?_
      repeat' (first|refine zz ?_|(refine zv ?_;intro cv hv)|(refine za ?_;intro _)|refine zc ?_|(refine zd ?_;refine And.intro ?_ ?_<;>(intro e;(try simp only [Bool.not_eq_true',Bool.not_eq_false'] at e);subst e;try contradiction)))
      (first|refine ⟨.inr rfl,_,.t rfl .nil,?_⟩|refine ⟨.inr rfl,_,.t rfl (.t rfl .nil),?_⟩|refine ⟨.inr rfl,_,.t rfl (.t rfl (.t rfl .nil)),?_⟩|refine ⟨.inr rfl,_,.nil,?_⟩|refine ⟨.inl rfl,_,.t rfl .nil,?_⟩|refine ⟨.inl rfl,_,.nil,?_⟩|refine ⟨.inr rfl,_,.cn rfl (by exact zN) .nil,?_⟩|refine ⟨.inr rfl,_,.cn rfl (by exact zN) (.t rfl .nil),?_⟩)
      rw [h1]; simp [hm, packL]
  · repeat' (first|refine zz ?_|(refine zv ?_;intro cv hv)|(refine za ?_;intro _)|refine zc ?_|(refine zd ?_;refine And.intro ?_ ?_<;>(intro e;(try simp only [Bool.not_eq_true',Bool.not_eq_false'] at e);subst e;try contradiction)))
    (first|refine ⟨.inr rfl,_,.t rfl .nil,?_⟩|refine ⟨.inr rfl,_,.t rfl (.t rfl .nil),?_⟩|refine ⟨.inr rfl,_,.t rfl (.t rfl (.t rfl .nil)),?_⟩|refine ⟨.inr rfl,_,.nil,?_⟩|refine ⟨.inl rfl,_,.t rfl .nil,?_⟩|refine ⟨.inl rfl,_,.nil,?_⟩|refine ⟨.inr rfl,_,.cn rfl (by exact zN) .nil,?_⟩|refine ⟨.inr rfl,_,.cn rfl (by exact zN) (.t rfl .nil),?_⟩)
    simp [hm, packL]
theorem every39_loop {α : Type} {R : α → List AV} {so : α → Bool} {v : AV} {l : List α} (hvl : ASl 3 v (l.map R)) (hR : ∀ x, (R x).length = 3) {g : FuncId} (hc : ∀ x, x ∈ l → PT Try.prog false g [.agg (R x)] (.bool (so x))) (hl : l.length ≤ 9223372036854775807) {Q : AX → SL → Mem → Prop} (hret : ∀ l' K, l.all so = false → lkS l' 6 = some (.bool false) → Q .ret l' K) (hend : ∀ l' K, l.all so = true → Q (.ext 0) l' K) :
    ∀ (k i : Nat), l.length < i + k → i ≤ l.length → (∀ x, x ∈ l.take i → so x = true) → Lp Try.prog false b65_0 k [(2, .fn g [] []), (13, v), (14, .int .i64 (.ofNat l.length)), (15, .int .i64 (.ofNat i))] [] Q := by
  intro k
  induction k with
  | zero => intro i h1 h2; omega
  | succ k ih =>
    intro i h1 h2 h3
    refine Lp.round ?_
    by_cases hi : i < l.length
    · obtain ⟨x, hx⟩ : ∃ x, l[i]? = some x := ⟨_, List.getElem?_eq_getElem hi⟩
      have q1 := hvl.iadr (i := i) (r := R x) (k := .i64) (by rw [List.getElem?_map, hx]; rfl)
      have q2 := hR x
      have q5 := hc x (List.mem_of_getElem? hx)
      repeat' (first|refine zz ?_|(refine zv ?_;intro cv hv)|(refine za ?_;intro _)|refine zc ?_|(refine zd ?_;refine And.intro ?_ ?_<;>(intro e;(try simp only [Bool.not_eq_true',Bool.not_eq_false'] at e);subst e;try contradiction)))
      · refine hret _ _ ?_ rfl
        cases ha : l.all so with
        | false => rfl
        | true => rw [List.all_eq_true.1 ha x (List.mem_of_getElem? hx)] at hv; cases hv
      · refine Lp.drop .nil (Lp.weak ?hw (ih (i + 1) (by omega) (by omega) ?_))
        case hw => exact ⟨rfl, rfl, rfl, rfl, trivial⟩
        intro y hy
        rw [List.take_add_one, hx] at hy
        rcases List.mem_append.1 hy with hy | hy
        · exact h3 y hy
        · simp at hy; subst hy; exact hv
    · repeat' (first|refine zz ?_|(refine zv ?_;intro cv hv)|(refine za ?_;intro _)|refine zc ?_|(refine zd ?_;refine And.intro ?_ ?_<;>(intro e;(try simp only [Bool.not_eq_true',Bool.not_eq_false'] at e);subst e;try contradiction)))
      refine hend _ _ (List.all_eq_true.2 fun x hx => h3 x (by rw [List.take_of_length_le (by omega)]; exact hx))
theorem every39 {α : Type} {R : α → List AV} {so : α → Bool} {v : AV} {l : List α} {m : Nat} (hvl : ASl 3 v (l.map R)) (hR : ∀ x, (R x).length = 3) {g : FuncId} (hc : ∀ x, x ∈ l → PT Try.prog false g [.agg (R x)] (.bool (so x))) (hl : l.length ≤ 9223372036854775807) : PT Try.prog false 65 [v, .int .i64 (.ofNat m), .fn g [] []] (.bool (decide (l.length ≤ m) && l.all so)) := by
  refine PT.of (CT.enter mixed comp65 (Nat.le_of_ble_eq_true rfl) ?_)
  have q1 := hvl.len
  rw [List.length_map] at q1
  by_cases hm : l.length ≤ m
  · repeat' (first|refine zz ?_|(refine zv ?_;intro cv hv)|(refine za ?_;intro _)|refine zc ?_|(refine zd ?_;refine And.intro ?_ ?_<;>(intro e;(try simp only [Bool.not_eq_true',Bool.not_eq_false'] at e);subst e;try contradiction)))
    refine Cd.loop (k := l.length + 1) (Lp.weak ?hw (every39_loop hvl hR hc hl ?_ ?_ (l.length + 1) 0 (by omega) (by omega) (by intro x hx; simp at hx)))
    case hw => exact ⟨rfl, rfl, rfl, rfl, trivial⟩
    · intro l' K h1 h2
      exact ⟨.inr rfl, _, .t h2 .nil, by rw [h1, Bool.and_false]; rfl⟩
    · intro l' K h1
      show Cd _ _ _ _ _ _
      refine Cd.weak (l2 := []) trivial ?_
      repeat' (first|refine zz ?_|(refine zv ?_;intro cv hv)|(refine za ?_;intro _)|refine zc ?_|(refine zd ?_;refine And.intro ?_ ?_<;>(intro e;(try simp only [Bool.not_eq_true',Bool.not_eq_false'] at e);subst e;try contradiction)))
      (first|refine ⟨.inr rfl,_,.t rfl .nil,?_⟩|refine ⟨.inr rfl,_,.t rfl (.t rfl .nil),?_⟩|refine ⟨.inr rfl,_,.t rfl (.t rfl (.t rfl .nil)),?_⟩|refine ⟨.inr rfl,_,.nil,?_⟩|refine ⟨.inl rfl,_,.t rfl .nil,?_⟩|refine ⟨.inl rfl,_,.nil,?_⟩|refine ⟨.inr rfl,_,.cn rfl (by exact zN) .nil,?_⟩|refine ⟨.inr rfl,_,.cn rfl (by exact zN) (.t rfl .nil),?_⟩)
      rw [h1]; simp [hm, packL]
  · repeat' (first|refine zz ?_|(refine zv ?_;intro cv hv)|(refine za ?_;intro _)|refine zc ?_|(refine zd ?_;refine And.intro ?_ ?_<;>(intro e;(try simp only [Bool.not_eq_true',Bool.not_eq_false'] at e);subst e;try contradiction)))
    (first|refine ⟨.inr rfl,_,.t rfl .nil,?_⟩|refine ⟨.inr rfl,_,.t rfl (.t rfl .nil),?_⟩|refine ⟨.inr rfl,_,.t rfl (.t rfl (.t rfl .nil)),?_⟩|refine ⟨.inr rfl,_,.nil,?_⟩|refine ⟨.inl rfl,_,.t rfl .nil,?_⟩|refine ⟨.inl rfl,_,.nil,?_⟩|refine ⟨.inr rfl,_,.cn rfl (by exact zN) .nil,?_⟩|refine ⟨.inr rfl,_,.cn rfl (by exact zN) (.t rfl .nil),?_⟩)
    simp [hm, packL]
theorem every37_loop {α : Type} {R : α → List AV} {so : α → Bool} {v : AV} {l : List α} (hvl : ASl 2 v (l.map R)) (hR : ∀ x, (R x).length = 2) {g : FuncId} (hc : ∀ x, x ∈ l → PT Try.prog false g [.agg (R x)] (.bool (so x))) (hl : l.length ≤ 9223372036854775807) {Q : AX → SL → Mem → Prop} (hret : ∀ l' K, l.all so = false → lkS l' 6 = some (.bool false) → Q .ret l' K) (hend : ∀ l' K, l.all so = true → Q (.ext 0) l' K) :
    ∀ (k i : Nat), l.length < i + k → i ≤ l.length → (∀ x, x ∈ l.take i → so x = true) → Lp Try.prog false b63_0 k [(2, .fn g [] []), (13, v), (14, .int .i64 (.ofNat l.length)), (15, .int .i64 (.ofNat i))] [] Q := by
  intro k
  induction k with
  | zero => intro i h1 h2; omega
  | succ k ih =>
    intro i h1 h2 h3
    refine Lp.round ?_
    by_cases hi : i < l.length
    · obtain ⟨x, hx⟩ : ∃ x, l[i]? = some x := ⟨_, List.getElem?_eq_getElem hi⟩
      have q1 := hvl.iadr (i := i) (r := R x) (k := .i64) (by rw [List.getElem?_map, hx]; rfl)
      have q2 := hR x
      have q5 := hc x (List.mem_of_getElem? hx)
      repeat' (first|refine zz ?_|(refine zv ?_;intro cv hv)|(refine za ?_;intro _)|refine zc ?_|(refine zd ?_;refine And.intro ?_ ?_<;>(intro e;(try simp only [Bool.not_eq_true',Bool.not_eq_false'] at e);subst e;try contradiction)))
      · refine hret _ _ ?_ rfl
        cases ha : l.all so with
        | false => rfl
        | true => rw [List.all_eq_true.1 ha x (List.mem_of_getElem? hx)] at hv; cases hv
      · refine Lp.drop .nil (Lp.weak ?hw (ih (i + 1) (by omega) (by omega) ?_))
        case hw => exact ⟨rfl, rfl, rfl, rfl, trivial⟩
        intro y hy
        rw [List.take_add_one, hx] at hy
        rcases List.mem_append.1 hy with hy | hy
        · exact h3 y hy
        · simp at hy; subst hy; exact hv
    · repeat' (first|refine zz ?_|(refine zv ?_;intro cv hv)|(refine za ?_;intro _)|refine zc ?_|(refine zd ?_;refine And.intro ?_ ?_<;>(intro e;(try simp only [Bool.not_eq_true',Bool.not_eq_false'] at e);subst e;try contradiction)))
      refine hend _ _ (List.all_eq_true.2 fun x hx => h3 x (by rw [List.take_of_length_le (by omega)]; exact hx))
theorem every37 {α : Type} {R : α → List AV} {so : α → Bool} {v : AV} {l : List α} {m : Nat} (hvl : ASl 2 v (l.map R)) (hR : ∀ x, (R x).length = 2) {g : FuncId} (hc : ∀ x, x ∈ l → PT Try.prog false g [.agg (R x)] (.bool (so x))) (hl : l.length ≤ 9223372036854775807) : PT Try.prog false 63 [v, .int .i64 (.ofNat m), .fn g [] []] (.bool (decide (l.length ≤ m) && l.all so)) := by
  refine PT.of (CT.enter mixed comp63 (Nat.le_of_ble_eq_true rfl) ?_)
  have q1 := hvl.len
  rw [List.length_map] at q1
  by_cases hm : l.length ≤ m
  · repeat' (first|refine zz ?_|(refine zv ?_;intro cv hv)|(refine za ?_;intro _)|refine zc ?_|(refine zd ?_;refine And.intro ?_ ?_<;>(intro e;(try simp only [Bool.not_eq_true',Bool.not_eq_false'] at e);subst e;try contradiction)))
    refine Cd.loop (k := l.length + 1) (Lp.weak ?hw (every37_loop hvl hR hc hl ?_ ?_ (l.length + 1) 0 (by omega) (by omega) (by intro x hx; simp at hx)))
    case hw => exact ⟨rfl, rfl, rfl, rfl, trivial⟩
    · intro l' K h1 h2
      exact ⟨.inr rfl, _, .t h2 .nil, by rw [h1, Bool.and_false]; rfl⟩
    · intro l' K h1
      show Cd _ _ _ _ _ _
      refine Cd.weak (l2 := []) trivial ?_
      repeat' (first|refine zz ?_|(refine zv ?_;intro cv hv)|(refine za ?_;intro _)|refine zc ?_|(refine zd ?_;refine And.intro ?_ ?_<;>(intro e;(try simp only [Bool.not_eq_true',Bool.not_eq_false'] at e);subst e;try contradiction)))
      (first|refine ⟨.inr rfl,_,.t rfl .nil,?_⟩|refine ⟨.inr rfl,_,.t rfl (.t rfl .nil),?_⟩|refine ⟨.inr rfl,_,.t rfl (.t rfl (.t rfl .nil)),?_⟩|refine ⟨.inr rfl,_,.nil,?_⟩|refine ⟨.inl rfl,_,.t rfl .nil,?_⟩|refine ⟨.inl rfl,_,.nil,?_⟩|refine ⟨.inr rfl,_,.cn rfl (by exact zN) .nil,?_⟩|refine ⟨.inr rfl,_,.cn rfl (by exact zN) (.t rfl .nil),?_⟩)
      rw [h1]; simp [hm, packL]
  · repeat' (first|refine zz ?_|(refine zv ?_;intro cv hv)|(refine za ?_;intro _)|refine zc ?_|(refine zd ?_;refine And.intro ?_ ?_<;>(intro e;(try simp only [Bool.not_eq_true',Bool.not_eq_false'] at e);subst e;try contradiction)))
    (first|refine ⟨.inr rfl,_,.t rfl .nil,?_⟩|refine ⟨.inr rfl,_,.t rfl (.t rfl .nil),?_⟩|refine ⟨.inr rfl,_,.t rfl (.t rfl (.t rfl .nil)),?_⟩|refine ⟨.inr rfl,_,.nil,?_⟩|refine ⟨.inl rfl,_,.t rfl .nil,?_⟩|refine ⟨.inl rfl,_,.nil,?_⟩|refine ⟨.inr rfl,_,.cn rfl (by exact zN) .nil,?_⟩|refine ⟨.inr rfl,_,.cn rfl (by exact zN) (.t rfl .nil),?_⟩)
    simp [hm, packL]
end Go.Proofs.Ytlimjjilakldgaa
