/- What a heap's value is in bytes. Plain laws. -/
import Derived.Test.YtlflpjjmkigepaaPlnF
set_option autoImplicit false
set_option linter.unusedVariables false
set_option linter.unusedSimpArgs false
set_option maxRecDepth 100000
set_option maxHeartbeats 4000000
namespace Go.Proofs.Ytlflpjjmkigepaa
open Go Go.Abs
/-- A value's bytes, how many values may come yet, how many tables and keys there are. -/
abbrev ER := Option (List Nat × Nat × Nat)
def encL (g : Val → Nat → ER) : List KV → Nat → ER
  | [], left => some ([], left, 0)
  | e :: r, left => match g e.2 left with
    | none => none
    | some (t, l, m) => match encL g r l with
      | none => none
      | some (s, l2, m2) => some (sc e.1 ++ (t ++ s), l2, m + m2)
def enc (H : MH) : Nat → Val → Nat → ER
  | 0, _, _ => none
  | _ + 1, _, 0 => none
  | f + 1, v, left + 1 => if v.k = 3 then match tabI H v with
      | none => none
      | some i => match encL (enc H f) (tabL H i) left with
        | none => none
        | some (s, l, m) => some (3 :: (leB (tabL H i).length 2 ++ s), l, 1 + (tabL H i).length + m)
    else if v.k = 0 ∨ v.k = 1 ∨ v.k = 2 then some (sc v, left, 0) else none
/-- A value as it should be. -/
def VOk (v : Val) : Prop := ScOk v ∨ (v.k = 3 ∨ v.k = 4 ∨ v.k = 5) ∧ v.s = []
/-- All that stands in a heap is as it should be. -/
structure WOk (H : MH) : Prop where
  ok : H.ok
  len : ∀ L, L ∈ H.tabs → L.length ≤ 1000
  key : ∀ L, L ∈ H.tabs → ∀ e, e ∈ L → ScOk e.1 ∧ keyB e.1 = true
  val : ∀ L, L ∈ H.tabs → ∀ e, e ∈ L → VOk e.2 ∧ e.2.k ≠ 0
theorem sc_len {v : Val} (h : v.s.length ≤ 1024) : (sc v).length ≤ 1029 := by
  unfold sc
  split
  · simp [leB_len]
  · split
    · simp [leB_len]; omega
    · simp
theorem ScOk.len {v : Val} (h : ScOk v) : v.s.length ≤ 1024 := by
  rcases h with rfl | ⟨_, h, _⟩ | ⟨_, _, h⟩
  · simp [v0]
  · simp [h]
  · exact h.1
theorem VOk.len {v : Val} (h : VOk v) : v.s.length ≤ 1024 := by
  rcases h with h | ⟨_, h⟩
  · exact h.len
  · simp [h]
theorem sc_lt {v : Val} (h : ∀ x, x ∈ v.s → x < 256) : ∀ x, x ∈ sc v → x < 256 := by
  intro x hx
  unfold sc at hx
  split at hx
  · rcases List.mem_cons.1 hx with rfl | hx
    · omega
    · exact leB_lt x hx
  · split at hx
    · rcases List.mem_cons.1 hx with rfl | hx
      · omega
      · rcases List.mem_append.1 hx with hx | hx
        · exact leB_lt x hx
        · exact h x hx
    · simp at hx; omega
/-- How long, how many values, how many tables and keys. -/
theorem encL_size {g : Val → Nat → ER} (hg : ∀ v left s l m, VOk v → g v left = some (s, l, m) → l < left ∧ s.length + 1040 ≤ 2100 * (left - l) ∧ m + 1 ≤ 2 * (left - l)) :
    ∀ {L : List KV} {left l m : Nat} {s : List Nat}, (∀ e, e ∈ L → VOk e.2 ∧ e.1.s.length ≤ 1024) → encL g L left = some (s, l, m) → l ≤ left ∧ s.length ≤ 2100 * (left - l) ∧ m + L.length ≤ 2 * (left - l)
  | [], left, l, m, s, _, h => by
    simp only [encL, Option.some.injEq, Prod.mk.injEq] at h
    obtain ⟨rfl, rfl, rfl⟩ := h
    simp
  | e :: r, left, l, m, s, hL, h => by
    simp only [encL] at h
    split at h
    · cases h
    · rename_i t l1 m1 h1
      split at h
      · cases h
      · rename_i s2 l2 m2 h2
        simp only [Option.some.injEq, Prod.mk.injEq] at h
        obtain ⟨rfl, rfl, rfl⟩ := h
        obtain ⟨a1, a2, a3⟩ := hg _ _ _ _ _ (hL e (by simp)).1 h1
        obtain ⟨b1, b2, b3⟩ := encL_size hg (fun x hx => hL x (List.mem_cons_of_mem _ hx)) h2
        have := sc_len (hL e (by simp)).2
        simp only [List.length_append, List.length_cons]
        omega
theorem enc_size {H : MH} (hH : WOk H) : ∀ {f : Nat} {v : Val} {left l m : Nat} {s : List Nat}, VOk v → enc H f v left = some (s, l, m) → l < left ∧ s.length + 1040 ≤ 2100 * (left - l) ∧ m + 1 ≤ 2 * (left - l)
  | 0, v, left, l, m, s, _, h => by simp [enc] at h
  | f + 1, v, 0, l, m, s, _, h => by simp [enc] at h
  | f + 1, v, left + 1, l, m, s, hv, h => by
    simp only [enc] at h
    split at h
    · split at h
      · cases h
      · rename_i i hi
        split at h
        · cases h
        · rename_i s1 l1 m1 h1
          simp only [Option.some.injEq, Prod.mk.injEq] at h
          obtain ⟨rfl, rfl, rfl⟩ := h
          have hm := tabL_mem (tabI_some hi).2
          obtain ⟨a1, a2, a3⟩ := encL_size (fun v left s l m hv h => enc_size hH hv h) (fun e he => ⟨(hH.val _ hm e he).1, (hH.key _ hm e he).1.len⟩) h1
          simp only [List.length_cons, List.length_append, leB_len]
          omega
    · split at h
      · simp only [Option.some.injEq, Prod.mk.injEq] at h
        obtain ⟨rfl, rfl, rfl⟩ := h
        have := sc_len hv.len
        omega
      · cases h
theorem ScOk.byte {v : Val} (h : ScOk v) : ∀ x, x ∈ v.s → x < 256 := by
  rcases h with rfl | ⟨_, h, _⟩ | ⟨_, _, _, h⟩
  · intro x hx; cases hx
  · intro x hx; rw [h] at hx; cases hx
  · exact h
theorem VOk.byte {v : Val} (h : VOk v) : ∀ x, x ∈ v.s → x < 256 := by
  rcases h with h | ⟨_, h⟩
  · exact h.byte
  · intro x hx; rw [h] at hx; cases hx
theorem encL_lt {g : Val → Nat → ER} (hg : ∀ v left s l m, VOk v → g v left = some (s, l, m) → ∀ x, x ∈ s → x < 256) :
    ∀ {L : List KV} {left l m : Nat} {s : List Nat}, (∀ e, e ∈ L → VOk e.2 ∧ ScOk e.1) → encL g L left = some (s, l, m) → ∀ x, x ∈ s → x < 256
  | [], left, l, m, s, _, h => by
    simp only [encL, Option.some.injEq, Prod.mk.injEq] at h
    obtain ⟨rfl, rfl, rfl⟩ := h
    intro x hx; cases hx
  | e :: r, left, l, m, s, hL, h => by
    simp only [encL] at h
    split at h
    · cases h
    · rename_i t l1 m1 h1
      split at h
      · cases h
      · rename_i s2 l2 m2 h2
        simp only [Option.some.injEq, Prod.mk.injEq] at h
        obtain ⟨rfl, rfl, rfl⟩ := h
        intro x hx
        rcases List.mem_append.1 hx with hx | hx
        · exact sc_lt (hL e (by simp)).2.byte x hx
        · rcases List.mem_append.1 hx with hx | hx
          · exact hg _ _ _ _ _ (hL e (by simp)).1 h1 x hx
          · exact encL_lt hg (fun x hx => hL x (List.mem_cons_of_mem _ hx)) h2 x hx
theorem enc_lt {H : MH} (hH : WOk H) : ∀ {f : Nat} {v : Val} {left l m : Nat} {s : List Nat}, VOk v → enc H f v left = some (s, l, m) → ∀ x, x ∈ s → x < 256
  | 0, v, left, l, m, s, _, h => by simp [enc] at h
  | f + 1, v, 0, l, m, s, _, h => by simp [enc] at h
  | f + 1, v, left + 1, l, m, s, hv, h => by
    simp only [enc] at h
    split at h
    · split at h
      · cases h
      · rename_i i hi
        split at h
        · cases h
        · rename_i s1 l1 m1 h1
          simp only [Option.some.injEq, Prod.mk.injEq] at h
          obtain ⟨rfl, rfl, rfl⟩ := h
          have hm := tabL_mem (tabI_some hi).2
          intro x hx
          rcases List.mem_cons.1 hx with rfl | hx
          · omega
          · rcases List.mem_append.1 hx with hx | hx
            · exact leB_lt x hx
            · exact encL_lt (fun v left s l m hv h => enc_lt hH hv h) (fun e he => ⟨(hH.val _ hm e he).1, (hH.key _ hm e he).1⟩) h1 x hx
    · split at h
      · simp only [Option.some.injEq, Prod.mk.injEq] at h
        obtain ⟨rfl, rfl, rfl⟩ := h
        exact sc_lt hv.byte
      · cases h
end Go.Proofs.Ytlflpjjmkigepaa

namespace Go.Proofs.Ytlflpjjmkigepaa
open Go Go.Abs
attribute [local irreducible] Cmp Rg Dw Cd Lp Ev Rdk CT Upd InK
theorem mGet_at {H : MH} {v : Val} {i j : Nat} {e : KV} (hi : tabI H v = some i) (hs : Srt (tabL H i)) (hj : (tabL H i)[j]? = some e) (hk : keyB e.1 = true) : mGet H v e.1 = (e.2, 0) := by
  rw [mGet, hi]
  simp only [hk, if_true]
  rw [getL_of (v := e.2) hs (List.mem_of_getElem? hj)]
theorem ScOk.kind {v : Val} (h : ScOk v) : v.k = 0 ∨ v.k = 1 ∨ v.k = 2 := by
  rcases h with rfl | ⟨h, _⟩ | ⟨h, _⟩
  · exact .inl rfl
  · exact .inr (.inl h)
  · exact .inr (.inr h)
theorem VOk.kind {v : Val} (h : VOk v) : v.k = 0 ∨ v.k = 1 ∨ v.k = 2 ∨ v.k = 3 ∨ v.k = 4 ∨ v.k = 5 := by
  rcases h with h | ⟨h, _⟩
  · have := h.kind; omega
  · omega
def refE (e : ER) : AV := match e with
  | some (s, l, _) => .tup [.str s, .int .i64 (.ofNat l)]
  | none => .tup [.str [], .int .i64 (.negSucc 0)]
section
variable {r : Nat} {H : MH} {fs : List OS} {c : Chk}
theorem laid40_loop {g : Val → Nat → ER} {v : Val} {j : Nat} {O : OS} {b4 B : Nat} {Q : AX → SL → Mem → Prop} (hB : B ≤ 199) (hX : RC r H fs c) (hW : WOk H) (hj : tabI H v = some j) (hO : O.ok 3) (hr : O.rows = (tabL H j).map fun e => valR e.1)
    (hg : ∀ x left, VOk x → left ≤ B → CT Try.prog false 40 [rP r, valA x, .int .i64 (.ofNat left)] [c] fun w K' => w = refE (g x left) ∧ K' = [c])
    (hsz : ∀ v left s l m, VOk v → g v left = some (s, l, m) → l < left ∧ s.length + 1040 ≤ 2100 * (left - l) ∧ m + 1 ≤ 2 * (left - l))
:
    ∀ (f i left : Nat) (acc : List Nat), (tabL H j).length < i + f → i ≤ (tabL H j).length → left ≤ B → acc.length + 2100 * left ≤ 1000000 →
      (hend : ∀ l' s l m, encL g ((tabL H j).drop i) left = some (s, l, m) → lkS l' 12 = some (.str (acc ++ s)) → lkS l' 2 = some (.int .i64 (.ofNat l)) → Q (.ext 0) l' [c, O.c, [(b4, .cells (valR v) 0 0 false)]]) →
      (hret : encL g ((tabL H j).drop i) left = none → ∀ l' K', lkS l' 6 = some (.str []) → lkS l' 7 = some (.int .i64 (.negSucc 0)) → (∃ r, Sel K' [c] r) → Q .ret l' K') →
      Lp Try.prog false b40_0 f [(0, rP r), (2, .int .i64 (.ofNat left)), (4, .ptr b4 0 0 3), (12, .str acc), (13, O.v 3), (14, .int .i64 (.ofNat i))] [c, O.c, [(b4, .cells (valR v) 0 0 false)]] Q := by
  have hOl := hO.len
  rw [hr, List.length_map] at hOl
  have hlen := hW.len _ (tabL_mem (tabI_some hj).2)
  intro f
  induction f with
  | zero => intro i left acc h1 h2; omega
  | succ f ih =>
    intro i left acc h1 h2 h3 h4 hend hret
    refine Lp.round ?_
    by_cases hi : i < (tabL H j).length
    · have hmem := tabL_mem (tabI_some hj).2
      have he : (tabL H j)[i]? = some (tabL H j)[i] := List.getElem?_eq_getElem hi
      have hdrop : (tabL H j).drop i = (tabL H j)[i] :: (tabL H j).drop (i + 1) := List.drop_eq_getElem_cons hi
      generalize (tabL H j)[i] = e at he hdrop
      have hem : e ∈ tabL H j := List.mem_of_getElem? he
      obtain ⟨hk1, hk2⟩ := hW.key _ hmem e hem
      obtain ⟨hv1, hv2⟩ := hW.val _ hmem e hem
      have hget := mGet_at hj (hW.ok.srt _ hmem) he hk2
      have cg := getR hX hW.ok (t := v) (k := e.1)
      rw [hget] at cg
      have ra : ((tabL H j).map fun e => valR e.1)[i]? = some (valR e.1) := by rw [List.getElem?_map, he]; rfl
      obtain ⟨ia, ga, ea⟩ := hO.at (by rw [hr]; exact ra)
      rw [hr] at ea
      subst ea
      have q1 := iadr_slc (sz := 3) (b := ia) (g := ga) (off := 0) (len := ((tabL H j).map fun e => valR e.1).length) (cap := ((tabL H j).map fun e => valR e.1).length) (i := i) (k := .i64) (by rw [List.length_map]; exact hi)
      have hrow : ∀ r, r ∈ ((tabL H j).map fun e => valR e.1) → r.length = 3 := by
        intro r h
        obtain ⟨e, _, rfl⟩ := List.mem_map.1 h
        rfl
      have hp : ∀ K, InK K ia (.cells ((tabL H j).map fun e => valR e.1).flatten ga ga true) → Rdk K (.loadn 3) (.ptr ia ga (0 + i * 3) 3) (.ptr ia ga (0 + i * 3) 3) (valA e.1) := fun K h => Rdk.row h hrow ra
      have c57 := scalar57 (v := e.1) (by have := hk1.len; omega)
      have hdec := hg e.2 left hv1 h3
      have hs := hsz e.2 left
      repeat' (first|(refine Dw.r rfl rfl (hp _ (by repeat (first | exact InK.here | refine InK.there ?_))) (by repeat (first | exact trivial | refine And.intro (Or.inl rfl) ?_ | (refine And.intro (Or.inr ?_) ?_; (focus (first | exact Rdk.i1 | assumption | (refine Rdk.in ?_; first | assumption | exact rfl) | (refine Rdk.b1 (cs := ?_) ?_ ?_; rotate_left; (repeat (first | exact InK.here | refine InK.there ?_)); exact rfl) | (refine Rdk.bw ?_ ?_; (repeat (first | exact InK.here | refine InK.there ?_)); first | assumption | exact rfl) | (refine Rdk.bw (cs := ?_) ?_ ?_; rotate_left; (repeat (first | exact InK.here | refine InK.there ?_)); first | assumption | exact rfl) | (refine Rdk.bn ?_ ?_; (repeat (first | exact InK.here | refine InK.there ?_)); exact rfl) | (refine Rdk.bn (cs := ?_) ?_ ?_; rotate_left; (repeat (first | exact InK.here | refine InK.there ?_)); exact rfl)))))) ?_)|(refine Dw.callM rfl cg (.cons (.here) (.nil)) ?_; rintro _ _ ⟨rfl, rfl⟩; refine ⟨by repeat (first | exact trivial | refine rdsB rfl ?_ | (refine rdsR ?_ ?_; (focus (first | assumption | (refine Rdk.b1 (cs := ?_) ?_ ?_; rotate_left; (repeat (first | exact InK.here | refine InK.there ?_)); exact rfl) | (refine Rdk.bw ?_ ?_; (repeat (first | exact InK.here | refine InK.there ?_)); first | assumption | exact rfl) | (refine Rdk.bn ?_ ?_; (repeat (first | exact InK.here | refine InK.there ?_)); exact rfl) | (refine Rdk.in ?_; first | assumption | exact rfl) | exact Rdk.i1)))), ?_⟩)|(refine Dw.a (Mk.box rfl rfl) fun b2 => ?_)|(refine Dw.e (Ef.storeW rfl rfl Upd.here rfl (Nat.le_of_ble_eq_true rfl) rfl) ?_; rintro _ _ ⟨rfl, rfl⟩; refine ⟨by repeat (first | exact trivial | refine rdsB rfl ?_ | (refine rdsR ?_ ?_; (focus (first | assumption | (refine Rdk.b1 (cs := ?_) ?_ ?_; rotate_left; (repeat (first | exact InK.here | refine InK.there ?_)); exact rfl) | (refine Rdk.bw ?_ ?_; (repeat (first | exact InK.here | refine InK.there ?_)); first | assumption | exact rfl) | (refine Rdk.bn ?_ ?_; (repeat (first | exact InK.here | refine InK.there ?_)); exact rfl) | (refine Rdk.in ?_; first | assumption | exact rfl) | exact Rdk.i1)))), ?_⟩)|refine zz ?_|(refine zw ?_;refine And.intro ?_ ?_<;>intro hc)|(refine zv ?_;intro cv hv)|(refine za ?_;intro _)|refine zc ?_|(refine zd ?_;refine And.intro ?_ ?_<;>(intro e;(try simp only [Bool.not_eq_true',Bool.not_eq_false'] at e);subst e;try contradiction)))
      cases hgv : g e.2 left with
      | none =>
        rw [hgv] at hdec
        simp only [refE] at hdec
        repeat' (first|(refine Rg.callM rfl hdec (.cons (.there (.here)) (.nil)) ?_; rintro _ _ ⟨rfl, rfl⟩)|refine zz ?_|(refine zw ?_;refine And.intro ?_ ?_<;>intro hc)|(refine zv ?_;intro cv hv)|(refine za ?_;intro _)|refine zc ?_|(refine zd ?_;refine And.intro ?_ ?_<;>(intro e;(try simp only [Bool.not_eq_true',Bool.not_eq_false'] at e);subst e;try contradiction)))
        refine hret (by rw [hdrop, encL, hgv]) _ _ rfl rfl ⟨_, (.cons (.here) (.nil))⟩
      | some p =>
        obtain ⟨t, l1, m1⟩ := p
        obtain ⟨z1, z2, z3⟩ := hs t l1 m1 hv1 hgv
        rw [hgv] at hdec
        simp only [refE] at hdec
        have hsl := sc_len hk1.len
        have e1 := str_add (a := acc) (b := sc e.1) (by omega)
        have e2 := str_add (a := acc ++ sc e.1) (b := t) (by rw [List.length_append]; omega)
        repeat' (first|(refine Rg.callM rfl hdec (.cons (.there (.here)) (.nil)) ?_; rintro _ _ ⟨rfl, rfl⟩)|(refine Rg.r rfl rfl (hp _ (by repeat (first | exact InK.here | refine InK.there ?_))) ?_)|refine zz ?_|(refine zw ?_;refine And.intro ?_ ?_<;>intro hc)|(refine zv ?_;intro cv hv)|(refine za ?_;intro _)|refine zc ?_|(refine zd ?_;refine And.intro ?_ ?_<;>(intro e;(try simp only [Bool.not_eq_true',Bool.not_eq_false'] at e);subst e;try contradiction)))
        have := ih (i + 1) l1 (acc ++ sc e.1 ++ t) (by omega) hi (by omega) (by simp only [List.length_append]; omega) (fun l' s l m hl h12 h2 => hend l' (sc e.1 ++ (t ++ s)) l (m1 + m) (by rw [hdrop, encL, hgv]; simp only [hl]) (by rw [h12]; simp only [List.append_assoc]) h2)
          (fun hno => hret (by rw [hdrop, encL, hgv]; simp only [hno]))
        refine Lp.drop (.cons (.here) (.cons (.there (.here)) (.cons (.there (.here)) (.nil)))) (Lp.weak ?hw this)
        case hw => exact ⟨rfl, rfl, rfl, rfl, rfl, rfl, trivial⟩
    · obtain rfl : i = (tabL H j).length := by omega
      repeat' (first|refine zz ?_|(refine zw ?_;refine And.intro ?_ ?_<;>intro hc)|(refine zv ?_;intro cv hv)|(refine za ?_;intro _)|refine zc ?_|(refine zd ?_;refine And.intro ?_ ?_<;>(intro e;(try simp only [Bool.not_eq_true',Bool.not_eq_false'] at e);subst e;try contradiction)))
      refine hend _ [] left 0 ?_ ?_ rfl
      · rw [List.drop_length]; rfl
      · rw [List.append_nil]; rfl
theorem sub_one {n : Nat} (h : n < 1000000) : abin .sub (.int .i64 (.ofNat (n + 1))) (.int .i64 (.ofNat 1)) = some (.int .i64 (.ofNat n)) := sub_nat (a := n + 1) (by omega) (by omega)
theorem sub_zero : abin .sub (.int .i64 (.ofNat 0)) (.int .i64 (.ofNat 1)) = some (.int .i64 (.negSucc 0)) := rfl
theorem laid40 (hX : RC r H fs c) (hW : WOk H) : ∀ (f : Nat) {v : Val} {left : Nat}, left ≤ f → left ≤ 200 → VOk v → CT Try.prog false 40 [rP r, valA v, .int .i64 (.ofNat left)] [c] fun w K' => w = refE (enc H f v left) ∧ K' = [c] := by
  intro f
  induction f with
  | zero =>
    intro v left h1 h2 hv
    obtain rfl : left = 0 := by omega
    have e0 := sub_zero
    refine CT.enterS mixed comp40 (Nat.le_of_ble_eq_true rfl) ?_
    repeat' (first|refine zz ?_|(refine zw ?_;refine And.intro ?_ ?_<;>intro hc)|(refine zv ?_;intro cv hv)|(refine za ?_;intro _)|refine zc ?_|(refine zd ?_;refine And.intro ?_ ?_<;>(intro e;(try simp only [Bool.not_eq_true',Bool.not_eq_false'] at e);subst e;try contradiction)))
    (first|refine ⟨.inr rfl,_,.t rfl .nil,?_⟩|refine ⟨.inr rfl,_,.t rfl (.t rfl .nil),?_⟩|refine ⟨.inr rfl,_,.t rfl (.t rfl (.t rfl .nil)),?_⟩|refine ⟨.inr rfl,_,.nil,?_⟩|refine ⟨.inl rfl,_,.t rfl .nil,?_⟩|refine ⟨.inl rfl,_,.nil,?_⟩|refine ⟨.inr rfl,_,.cn rfl (by exact zN) .nil,?_⟩|refine ⟨.inr rfl,_,.cn rfl (by exact zN) (.t rfl .nil),?_⟩)
    exact ⟨_, _, (.cons (.there (.here)) (.nil)), rfl, rfl⟩
  | succ f ih =>
    intro v left h1 h2 hv
    refine CT.enterS mixed comp40 (Nat.le_of_ble_eq_true rfl) ?_
    cases left with
    | zero =>
      have e0 := sub_zero
      repeat' (first|refine zz ?_|(refine zw ?_;refine And.intro ?_ ?_<;>intro hc)|(refine zv ?_;intro cv hv)|(refine za ?_;intro _)|refine zc ?_|(refine zd ?_;refine And.intro ?_ ?_<;>(intro e;(try simp only [Bool.not_eq_true',Bool.not_eq_false'] at e);subst e;try contradiction)))
      (first|refine ⟨.inr rfl,_,.t rfl .nil,?_⟩|refine ⟨.inr rfl,_,.t rfl (.t rfl .nil),?_⟩|refine ⟨.inr rfl,_,.t rfl (.t rfl (.t rfl .nil)),?_⟩|refine ⟨.inr rfl,_,.nil,?_⟩|refine ⟨.inl rfl,_,.t rfl .nil,?_⟩|refine ⟨.inl rfl,_,.nil,?_⟩|refine ⟨.inr rfl,_,.cn rfl (by exact zN) .nil,?_⟩|refine ⟨.inr rfl,_,.cn rfl (by exact zN) (.t rfl .nil),?_⟩)
      exact ⟨_, _, (.cons (.there (.here)) (.nil)), rfl, rfl⟩
    | succ left =>
      have e0 := sub_one (n := left) (by omega)
      have c57 := scalar57 (v := v) (by have := hv.len; omega)
      by_cases hk : v.k = 3
      · have hl := lenR hX (t := v)
        cases hj : tabI H v with
        | none =>
          simp only [mLen, hj] at hl
          repeat' (first|(refine Rg.callM rfl hl (.cons (.there (.here)) (.nil)) ?_; rintro _ _ ⟨rfl, rfl⟩)|refine zz ?_|(refine zw ?_;refine And.intro ?_ ?_<;>intro hc)|(refine zv ?_;intro cv hv)|(refine za ?_;intro _)|refine zc ?_|(refine zd ?_;refine And.intro ?_ ?_<;>(intro e;(try simp only [Bool.not_eq_true',Bool.not_eq_false'] at e);subst e;try contradiction)))
          (first|refine ⟨.inr rfl,_,.t rfl .nil,?_⟩|refine ⟨.inr rfl,_,.t rfl (.t rfl .nil),?_⟩|refine ⟨.inr rfl,_,.t rfl (.t rfl (.t rfl .nil)),?_⟩|refine ⟨.inr rfl,_,.nil,?_⟩|refine ⟨.inl rfl,_,.t rfl .nil,?_⟩|refine ⟨.inl rfl,_,.nil,?_⟩|refine ⟨.inr rfl,_,.cn rfl (by exact zN) .nil,?_⟩|refine ⟨.inr rfl,_,.cn rfl (by exact zN) (.t rfl .nil),?_⟩)
          refine ⟨_, _, (.cons (.here) (.nil)), ?_, rfl⟩
          simp only [enc, hk, if_true, hj]
          rfl
        | some j =>
          simp only [mLen, hj] at hl
          have hmem := tabL_mem (tabI_some hj).2
          have hlen := hW.len _ hmem
          have c59 := put59 (n := (tabL H j).length) (w := 2) (.inr ⟨.inl rfl, by omega, by simp; omega⟩)
          have e1 := str_add (a := [3]) (b := leB (tabL H j).length 2) (by rw [leB_len]; decide)
          have hks := keysR hX hW.ok (t := v)
          simp only [mKeys, hj] at hks
          repeat' (first|(refine Rg.callM rfl hl (.cons (.there (.here)) (.nil)) ?_; rintro _ _ ⟨rfl, rfl⟩)|(refine Rg.callM rfl hks (.cons (.here) (.nil)) ?_; rintro _ _ ⟨O, hO, hr, rfl, rfl⟩)|refine zz ?_|(refine zw ?_;refine And.intro ?_ ?_<;>intro hc)|(refine zv ?_;intro cv hv)|(refine za ?_;intro _)|refine zc ?_|(refine zd ?_;refine And.intro ?_ ?_<;>(intro e;(try simp only [Bool.not_eq_true',Bool.not_eq_false'] at e);subst e;try contradiction)))
          rename_i b
          refine Cd.loop (k := (tabL H j).length + 1) (Lp.weak (l2 := [(0, rP r), (2, .int .i64 (.ofNat left)), (4, .ptr b 0 0 3), (12, .str ([3] ++ leB (tabL H j).length 2)), (13, O.v 3), (14, .int .i64 (.ofNat 0))]) ⟨rfl, rfl, rfl, rfl, rfl, rfl, trivial⟩ (laid40_loop (g := enc H f) (b4 := b) (B := left) (by omega) hX hW hj hO (by rw [hr, List.map_map]; rfl) (fun x l hx hl => ih (by omega) (by omega) hx) (fun _ _ _ _ _ hx h => enc_size hW hx h) _ 0 left _ (by omega) (by omega) (by omega) (by rw [List.length_append, leB_len, List.length_singleton]; omega) ?_ ?_))
          · intro l' s l m he h12 h2
            rw [List.drop_zero] at he
            show Cd _ _ _ _ _ _
            refine Cd.weak (l2 := [(12, _), (2, _)]) (And.intro h12 (And.intro h2 trivial)) ?_
            repeat' (first|refine zz ?_|(refine zw ?_;refine And.intro ?_ ?_<;>intro hc)|(refine zv ?_;intro cv hv)|(refine za ?_;intro _)|refine zc ?_|(refine zd ?_;refine And.intro ?_ ?_<;>(intro e;(try simp only [Bool.not_eq_true',Bool.not_eq_false'] at e);subst e;try contradiction)))
            (first|refine ⟨.inr rfl,_,.t rfl .nil,?_⟩|refine ⟨.inr rfl,_,.t rfl (.t rfl .nil),?_⟩|refine ⟨.inr rfl,_,.t rfl (.t rfl (.t rfl .nil)),?_⟩|refine ⟨.inr rfl,_,.nil,?_⟩|refine ⟨.inl rfl,_,.t rfl .nil,?_⟩|refine ⟨.inl rfl,_,.nil,?_⟩|refine ⟨.inr rfl,_,.cn rfl (by exact zN) .nil,?_⟩|refine ⟨.inr rfl,_,.cn rfl (by exact zN) (.t rfl .nil),?_⟩)
            refine ⟨_, _, (.cons (.here) (.nil)), ?_, rfl⟩
            simp only [enc, hk, if_true, hj, he, refE]
            rfl
          · intro he l' K' h6 h7 hsel
            rw [List.drop_zero] at he
            refine ⟨.inr rfl, _, .t h6 (.t h7 .nil), ?_⟩
            obtain ⟨r', hsel⟩ := hsel
            refine ⟨_, _, hsel, ?_, rfl⟩
            simp only [enc, hk, if_true, hj, he, refE]
            rfl
      · repeat' (first|refine zz ?_|(refine zw ?_;refine And.intro ?_ ?_<;>intro hc)|(refine zv ?_;intro cv hv)|(refine za ?_;intro _)|refine zc ?_|(refine zd ?_;refine And.intro ?_ ?_<;>(intro e;(try simp only [Bool.not_eq_true',Bool.not_eq_false'] at e);subst e;try contradiction)))
        all_goals (first|refine ⟨.inr rfl,_,.t rfl .nil,?_⟩|refine ⟨.inr rfl,_,.t rfl (.t rfl .nil),?_⟩|refine ⟨.inr rfl,_,.t rfl (.t rfl (.t rfl .nil)),?_⟩|refine ⟨.inr rfl,_,.nil,?_⟩|refine ⟨.inl rfl,_,.t rfl .nil,?_⟩|refine ⟨.inl rfl,_,.nil,?_⟩|refine ⟨.inr rfl,_,.cn rfl (by exact zN) .nil,?_⟩|refine ⟨.inr rfl,_,.cn rfl (by exact zN) (.t rfl .nil),?_⟩)
        all_goals (refine ⟨_, _, (.cons (.there (.here)) (.nil)), ?_, rfl⟩)
        · simp only [enc, hk, if_false, hc]
          rfl
        · simp only [enc, hk, if_false, hc]
          rfl
        · have : v.k = 0 ∨ v.k = 1 ∨ v.k = 2 := by have := hv.kind; omega
          simp only [enc, hk, if_false, this, if_true]
          rfl
/-- What Save tells. -/
def svE (e : ER) : AV := match e with
  | some (s, _, _) => .tup [.str s, .int .i64 (.ofNat 0)]
  | none => .tup [.str [], .int .i64 (.ofNat 11)]
theorem save13 (hX : RC r H fs c) (hW : WOk H) {v : Val} (hv : VOk v) : CT Try.prog false 13 [rP r, valA v] [c] fun w K' => w = svE (enc H 200 v 200) ∧ K' = [c] := by
  have hl := laid40 hX hW 200 (v := v) (left := 200) (Nat.le_refl _) (Nat.le_refl _) hv
  refine CT.enterS mixed comp13 (Nat.le_of_ble_eq_true rfl) ?_
  cases he : enc H 200 v 200 with
  | none =>
    rw [he] at hl
    simp only [refE] at hl
    repeat' (first|(refine Rg.callM rfl hl (.cons (.there (.here)) (.nil)) ?_; rintro _ _ ⟨rfl, rfl⟩)|refine zz ?_|(refine zw ?_;refine And.intro ?_ ?_<;>intro hc)|(refine zv ?_;intro cv hv)|(refine za ?_;intro _)|refine zc ?_|(refine zd ?_;refine And.intro ?_ ?_<;>(intro e;(try simp only [Bool.not_eq_true',Bool.not_eq_false'] at e);subst e;try contradiction)))
    (first|refine ⟨.inr rfl,_,.t rfl .nil,?_⟩|refine ⟨.inr rfl,_,.t rfl (.t rfl .nil),?_⟩|refine ⟨.inr rfl,_,.t rfl (.t rfl (.t rfl .nil)),?_⟩|refine ⟨.inr rfl,_,.nil,?_⟩|refine ⟨.inl rfl,_,.t rfl .nil,?_⟩|refine ⟨.inl rfl,_,.nil,?_⟩|refine ⟨.inr rfl,_,.cn rfl (by exact zN) .nil,?_⟩|refine ⟨.inr rfl,_,.cn rfl (by exact zN) (.t rfl .nil),?_⟩)
    exact ⟨_, _, (.cons (.here) (.nil)), rfl, rfl⟩
  | some p =>
    obtain ⟨s, l, m⟩ := p
    rw [he] at hl
    simp only [refE] at hl
    repeat' (first|(refine Rg.callM rfl hl (.cons (.there (.here)) (.nil)) ?_; rintro _ _ ⟨rfl, rfl⟩)|refine zz ?_|(refine zw ?_;refine And.intro ?_ ?_<;>intro hc)|(refine zv ?_;intro cv hv)|(refine za ?_;intro _)|refine zc ?_|(refine zd ?_;refine And.intro ?_ ?_<;>(intro e;(try simp only [Bool.not_eq_true',Bool.not_eq_false'] at e);subst e;try contradiction)))
    (first|refine ⟨.inr rfl,_,.t rfl .nil,?_⟩|refine ⟨.inr rfl,_,.t rfl (.t rfl .nil),?_⟩|refine ⟨.inr rfl,_,.t rfl (.t rfl (.t rfl .nil)),?_⟩|refine ⟨.inr rfl,_,.nil,?_⟩|refine ⟨.inl rfl,_,.t rfl .nil,?_⟩|refine ⟨.inl rfl,_,.nil,?_⟩|refine ⟨.inr rfl,_,.cn rfl (by exact zN) .nil,?_⟩|refine ⟨.inr rfl,_,.cn rfl (by exact zN) (.t rfl .nil),?_⟩)
    exact ⟨_, _, (.cons (.here) (.nil)), rfl, rfl⟩
end
end Go.Proofs.Ytlflpjjmkigepaa

namespace Go.Proofs.Ytlflpjjmkigepaa
open Go Go.Abs
attribute [local irreducible] Cmp Rg Dw Cd Lp Ev Rdk CT Upd InK
theorem Rw.str {K : Mem} {s : List Nat} : Rw K 1 (.str s) (byR s).flatten s.length := by
  rw [byR_flat]
  intro st _
  refine ⟨rfl, ?_⟩
  simp only [St.row]
  rw [show (Nat.beq 1 1 && Nat.ble s.length s.length) = true by simp, cond_true, List.take_length]
  rfl
theorem _root_.Go.Abs.Sel.app_right {K m r m2 : Mem} (h : Sel K m r) : Sel (K ++ m2) m (r ++ m2) := by
  induction h with
  | nil => exact .nil
  | cons h _ ih => exact .cons h.app ih
abbrev bx (i : Nat) (v : AV) : Chk := [(i, .cells [v] 0 0 false)]
abbrev pt (i : Nat) : AV := .ptr i 0 0 1
abbrev fn36v (i1 i2 i3 i4 : Nat) : AV := .fn 36 [] [pt i1, pt i2, pt i3, pt i4]
abbrev K36 (i1 i2 i3 i4 b left : Nat) (B : OS) (c : Chk) : Mem := [bx i1 (.int .i64 (.ofNat left)), bx i2 (B.v 1), B.c, bx i3 (hP b), c, bx i4 (fn36v i1 i2 i3 i4)]
section
variable {i1 i2 i3 i4 b : Nat} {c : Chk}
theorem lay36_sc {v : Val} {left : Nat} {B : OS} {bs : List Nat} (hv : ScOk v) (hl : left < 1000) (hB : B.ok 1) (hr : B.rows = byR bs) (hbs : bs.length ≤ 1000000) :
    CT Try.prog false 36 [valA v, pt i1, pt i2, pt i3, pt i4] (K36 i1 i2 i3 i4 b (left + 1) B c) fun w K' => w = .bool true ∧ ∃ B' : OS, B'.ok 1 ∧ B'.rows = byR (bs ++ sc v) ∧ K' = K36 i1 i2 i3 i4 b left B' c := by
  have hBl : B.rows.length = bs.length := by rw [hr]; simp [byR]
  have hvl := hv.len
  have k37 := num37 (n := v.n) (w := 8) (.inl rfl)
  have k38 := text38 (s := v.s) (by omega)
  have e0 := sub_one (n := left) (by omega)
  refine CT.enterS mixed comp36 (Nat.le_of_ble_eq_true rfl) ?_
  by_cases h0 : v.k = 0
  · repeat' (first|(refine Rg.e (Ef.appO (rs := byR [0]) (n := 1) rfl rfl hB byR_one (.there (.there (.there (.there (.here))))) rfl (by decide) (Rw.slc (InK.there InK.here) (Nat.le_refl _) (Nat.le_refl _) rfl) (by simp only [lim]; omega)) ?_; rintro _ _ ⟨B', hB', hr', rfl, rfl⟩)|refine zz ?_|(refine zw ?_;refine And.intro ?_ ?_<;>intro hc)|(refine zv ?_;intro cv hv)|(refine za ?_;intro _)|refine zc ?_|(refine zd ?_;refine And.intro ?_ ?_<;>(intro e;(try simp only [Bool.not_eq_true',Bool.not_eq_false'] at e);subst e;try contradiction)))
    refine Rg.e (Ef.store1 rfl rfl (B'.one 1) (.there (.there (.there (.there (Upd.here))))) (Nat.le_of_ble_eq_true rfl)) ?_
    rintro _ _ ⟨rfl, rfl⟩
    repeat' (first|refine zz ?_|(refine zw ?_;refine And.intro ?_ ?_<;>intro hc)|(refine zv ?_;intro cv hv)|(refine za ?_;intro _)|refine zc ?_|(refine zd ?_;refine And.intro ?_ ?_<;>(intro e;(try simp only [Bool.not_eq_true',Bool.not_eq_false'] at e);subst e;try contradiction)))
    (first|refine ⟨.inr rfl,_,.t rfl .nil,?_⟩|refine ⟨.inr rfl,_,.t rfl (.t rfl .nil),?_⟩|refine ⟨.inr rfl,_,.t rfl (.t rfl (.t rfl .nil)),?_⟩|refine ⟨.inr rfl,_,.nil,?_⟩|refine ⟨.inl rfl,_,.t rfl .nil,?_⟩|refine ⟨.inl rfl,_,.nil,?_⟩|refine ⟨.inr rfl,_,.cn rfl (by exact zN) .nil,?_⟩|refine ⟨.inr rfl,_,.cn rfl (by exact zN) (.t rfl .nil),?_⟩)
    refine ⟨_, _, (.cons (.there (.there (.there (.here)))) (.cons (.there (.there (.there (.here)))) (.cons (.here) (.cons (.there (.there (.here))) (.cons (.there (.there (.here))) (.cons (.there (.there (.here))) (.nil))))))), rfl, B', hB', ?_, rfl⟩
    rw [hr', hr, ← byR_add]
    simp [sc, h0]
  · by_cases h1 : v.k = 1
    · repeat' (first|refine zz ?_|(refine zw ?_;refine And.intro ?_ ?_<;>intro hc)|(refine zv ?_;intro cv hv)|(refine za ?_;intro _)|refine zc ?_|(refine zd ?_;refine And.intro ?_ ?_<;>(intro e;(try simp only [Bool.not_eq_true',Bool.not_eq_false'] at e);subst e;try contradiction)))
      refine Dw.e (Ef.appO (rs := byR [1]) (n := 1) rfl rfl hB byR_one (.there (.there (.there (.there (.here))))) rfl (by decide) (Rw.slc (InK.there InK.here) (Nat.le_refl _) (Nat.le_refl _) rfl) (by simp only [lim]; omega)) ?_
      rintro _ _ ⟨B1, hB1, hr1, rfl, rfl⟩
      refine ⟨by repeat (first | exact trivial | refine rdsB rfl ?_ | (refine rdsR ?_ ?_; (focus (first | assumption | (refine Rdk.b1 (cs := ?_) ?_ ?_; rotate_left; (repeat (first | exact InK.here | refine InK.there ?_)); exact rfl) | (refine Rdk.bw ?_ ?_; (repeat (first | exact InK.here | refine InK.there ?_)); first | assumption | exact rfl) | (refine Rdk.bn ?_ ?_; (repeat (first | exact InK.here | refine InK.there ?_)); exact rfl) | (refine Rdk.in ?_; first | assumption | exact rfl) | exact Rdk.i1)))), ?_⟩
      repeat' (first|refine zz ?_|(refine zw ?_;refine And.intro ?_ ?_<;>intro hc)|(refine zv ?_;intro cv hv)|(refine za ?_;intro _)|refine zc ?_|(refine zd ?_;refine And.intro ?_ ?_<;>(intro e;(try simp only [Bool.not_eq_true',Bool.not_eq_false'] at e);subst e;try contradiction)))
      refine Dw.e (Ef.appO (rs := byR (leB v.n 8)) (n := (leB v.n 8).length) rfl rfl hB1 byR_one (.here) (by simp [byR]) (by simp [leB_len]) Rw.str (by rw [hr1]; simp only [lim, List.length_append, leB_len]; simp [byR]; omega)) ?_
      rintro _ _ ⟨B2, hB2, hr2, rfl, rfl⟩
      refine ⟨by repeat (first | exact trivial | refine rdsB rfl ?_ | (refine rdsR ?_ ?_; (focus (first | assumption | (refine Rdk.b1 (cs := ?_) ?_ ?_; rotate_left; (repeat (first | exact InK.here | refine InK.there ?_)); exact rfl) | (refine Rdk.bw ?_ ?_; (repeat (first | exact InK.here | refine InK.there ?_)); first | assumption | exact rfl) | (refine Rdk.bn ?_ ?_; (repeat (first | exact InK.here | refine InK.there ?_)); exact rfl) | (refine Rdk.in ?_; first | assumption | exact rfl) | exact Rdk.i1)))), ?_⟩
      refine Dw.e (Ef.store1 rfl rfl (B2.one 1) (.there (.there (.there (.there (Upd.here))))) (Nat.le_of_ble_eq_true rfl)) ?_
      rintro _ _ ⟨rfl, rfl⟩
      refine ⟨by repeat (first | exact trivial | refine rdsB rfl ?_ | (refine rdsR ?_ ?_; (focus (first | assumption | (refine Rdk.b1 (cs := ?_) ?_ ?_; rotate_left; (repeat (first | exact InK.here | refine InK.there ?_)); exact rfl) | (refine Rdk.bw ?_ ?_; (repeat (first | exact InK.here | refine InK.there ?_)); first | assumption | exact rfl) | (refine Rdk.bn ?_ ?_; (repeat (first | exact InK.here | refine InK.there ?_)); exact rfl) | (refine Rdk.in ?_; first | assumption | exact rfl) | exact Rdk.i1)))), ?_⟩
      repeat' (first|refine zz ?_|(refine zw ?_;refine And.intro ?_ ?_<;>intro hc)|(refine zv ?_;intro cv hv)|(refine za ?_;intro _)|refine zc ?_|(refine zd ?_;refine And.intro ?_ ?_<;>(intro e;(try simp only [Bool.not_eq_true',Bool.not_eq_false'] at e);subst e;try contradiction)))
      (first|refine ⟨.inr rfl,_,.t rfl .nil,?_⟩|refine ⟨.inr rfl,_,.t rfl (.t rfl .nil),?_⟩|refine ⟨.inr rfl,_,.t rfl (.t rfl (.t rfl .nil)),?_⟩|refine ⟨.inr rfl,_,.nil,?_⟩|refine ⟨.inl rfl,_,.t rfl .nil,?_⟩|refine ⟨.inl rfl,_,.nil,?_⟩|refine ⟨.inr rfl,_,.cn rfl (by exact zN) .nil,?_⟩|refine ⟨.inr rfl,_,.cn rfl (by exact zN) (.t rfl .nil),?_⟩)
      refine ⟨_, _, (.cons (.there (.there (.there (.here)))) (.cons (.there (.there (.there (.here)))) (.cons (.here) (.cons (.there (.there (.here))) (.cons (.there (.there (.here))) (.cons (.there (.there (.here))) (.nil))))))), rfl, B2, hB2, ?_, rfl⟩
      rw [hr2, hr1, hr, ← byR_add, ← byR_add]
      simp [sc, h1]
    · have h2 : v.k = 2 := by have := hv.kind; omega
      repeat' (first|refine zz ?_|(refine zw ?_;refine And.intro ?_ ?_<;>intro hc)|(refine zv ?_;intro cv hv)|(refine za ?_;intro _)|refine zc ?_|(refine zd ?_;refine And.intro ?_ ?_<;>(intro e;(try simp only [Bool.not_eq_true',Bool.not_eq_false'] at e);subst e;try contradiction)))
      refine Dw.e (Ef.appO (rs := byR [2]) (n := 1) rfl rfl hB byR_one (.there (.there (.there (.there (.here))))) rfl (by decide) (Rw.slc (InK.there InK.here) (Nat.le_refl _) (Nat.le_refl _) rfl) (by simp only [lim]; omega)) ?_
      rintro _ _ ⟨B1, hB1, hr1, rfl, rfl⟩
      refine ⟨by repeat (first | exact trivial | refine rdsB rfl ?_ | (refine rdsR ?_ ?_; (focus (first | assumption | (refine Rdk.b1 (cs := ?_) ?_ ?_; rotate_left; (repeat (first | exact InK.here | refine InK.there ?_)); exact rfl) | (refine Rdk.bw ?_ ?_; (repeat (first | exact InK.here | refine InK.there ?_)); first | assumption | exact rfl) | (refine Rdk.bn ?_ ?_; (repeat (first | exact InK.here | refine InK.there ?_)); exact rfl) | (refine Rdk.in ?_; first | assumption | exact rfl) | exact Rdk.i1)))), ?_⟩
      repeat' (first|refine zz ?_|(refine zw ?_;refine And.intro ?_ ?_<;>intro hc)|(refine zv ?_;intro cv hv)|(refine za ?_;intro _)|refine zc ?_|(refine zd ?_;refine And.intro ?_ ?_<;>(intro e;(try simp only [Bool.not_eq_true',Bool.not_eq_false'] at e);subst e;try contradiction)))
      refine Dw.e (Ef.appO (rs := byR (leB v.s.length 4 ++ v.s)) (n := (leB v.s.length 4 ++ v.s).length) rfl rfl hB1 byR_one (.here) (by simp [byR]) (by simp [leB_len]) Rw.str (by rw [hr1]; simp only [lim, List.length_append, leB_len]; simp [byR]; omega)) ?_
      rintro _ _ ⟨B2, hB2, hr2, rfl, rfl⟩
      refine ⟨by repeat (first | exact trivial | refine rdsB rfl ?_ | (refine rdsR ?_ ?_; (focus (first | assumption | (refine Rdk.b1 (cs := ?_) ?_ ?_; rotate_left; (repeat (first | exact InK.here | refine InK.there ?_)); exact rfl) | (refine Rdk.bw ?_ ?_; (repeat (first | exact InK.here | refine InK.there ?_)); first | assumption | exact rfl) | (refine Rdk.bn ?_ ?_; (repeat (first | exact InK.here | refine InK.there ?_)); exact rfl) | (refine Rdk.in ?_; first | assumption | exact rfl) | exact Rdk.i1)))), ?_⟩
      refine Dw.e (Ef.store1 rfl rfl (B2.one 1) (.there (.there (.there (.there (Upd.here))))) (Nat.le_of_ble_eq_true rfl)) ?_
      rintro _ _ ⟨rfl, rfl⟩
      refine ⟨by repeat (first | exact trivial | refine rdsB rfl ?_ | (refine rdsR ?_ ?_; (focus (first | assumption | (refine Rdk.b1 (cs := ?_) ?_ ?_; rotate_left; (repeat (first | exact InK.here | refine InK.there ?_)); exact rfl) | (refine Rdk.bw ?_ ?_; (repeat (first | exact InK.here | refine InK.there ?_)); first | assumption | exact rfl) | (refine Rdk.bn ?_ ?_; (repeat (first | exact InK.here | refine InK.there ?_)); exact rfl) | (refine Rdk.in ?_; first | assumption | exact rfl) | exact Rdk.i1)))), ?_⟩
      repeat' (first|refine zz ?_|(refine zw ?_;refine And.intro ?_ ?_<;>intro hc)|(refine zv ?_;intro cv hv)|(refine za ?_;intro _)|refine zc ?_|(refine zd ?_;refine And.intro ?_ ?_<;>(intro e;(try simp only [Bool.not_eq_true',Bool.not_eq_false'] at e);subst e;try contradiction)))
      (first|refine ⟨.inr rfl,_,.t rfl .nil,?_⟩|refine ⟨.inr rfl,_,.t rfl (.t rfl .nil),?_⟩|refine ⟨.inr rfl,_,.t rfl (.t rfl (.t rfl .nil)),?_⟩|refine ⟨.inr rfl,_,.nil,?_⟩|refine ⟨.inl rfl,_,.t rfl .nil,?_⟩|refine ⟨.inl rfl,_,.nil,?_⟩|refine ⟨.inr rfl,_,.cn rfl (by exact zN) .nil,?_⟩|refine ⟨.inr rfl,_,.cn rfl (by exact zN) (.t rfl .nil),?_⟩)
      refine ⟨_, _, (.cons (.there (.there (.there (.here)))) (.cons (.there (.there (.there (.here)))) (.cons (.here) (.cons (.there (.there (.here))) (.cons (.there (.there (.here))) (.cons (.there (.there (.here))) (.nil))))))), rfl, B2, hB2, ?_, rfl⟩
      rw [hr2, hr1, hr, ← byR_add, ← byR_add]
      simp [sc, h2]
abbrev KL36 (i1 i2 i3 i4 b left : Nat) (B : OS) (c : Chk) (O : OS) (b5 : Nat) (v : Val) : Mem := [bx i1 (.int .i64 (.ofNat left)), bx i2 (B.v 1), B.c, bx i3 (hP b), c, bx i4 (fn36v i1 i2 i3 i4), O.c, [(b5, .cells (valR v) 0 0 false)]]
def Lay (i1 i2 i3 i4 b : Nat) (c : Chk) (g : Val → Nat → ER) (x : Val) (left : Nat) (bs : List Nat) (w : AV) (K' : Mem) : Prop :=
  (∃ s l m, ∃ B' : OS, g x left = some (s, l, m) ∧ w = .bool true ∧ B'.ok 1 ∧ B'.rows = byR (bs ++ s) ∧ K' = K36 i1 i2 i3 i4 b l B' c) ∨ (g x left = none ∧ w = .bool false ∧ ∃ r, Sel K' [c] r)
theorem lay36_loop {H : MH} {fs : List OS} {g : Val → Nat → ER} {v : Val} {j : Nat} {O : OS} {b5 Bd : Nat} {Q : AX → SL → Mem → Prop} (hBd : Bd ≤ 199) (hX : HC b H fs c) (hW : WOk H) (hj : tabI H v = some j) (hO : O.ok 3) (hr : O.rows = (tabL H j).map fun e => valR e.1)
    (hg : ∀ (x : Val) (left : Nat) (B : OS) (bs : List Nat), VOk x → left ≤ Bd → B.ok 1 → B.rows = byR bs → bs.length + 2100 * left ≤ 1000000 → CT Try.prog true 36 [valA x, pt i1, pt i2, pt i3, pt i4] (K36 i1 i2 i3 i4 b left B c) (Lay i1 i2 i3 i4 b c g x left bs))
    (hsz : ∀ v left s l m, VOk v → g v left = some (s, l, m) → l < left ∧ s.length + 1040 ≤ 2100 * (left - l) ∧ m + 1 ≤ 2 * (left - l)) :
    ∀ (f i left : Nat) (B : OS) (bs : List Nat), (tabL H j).length < i + f → i ≤ (tabL H j).length → left ≤ Bd → B.ok 1 → B.rows = byR bs → bs.length + 2100 * left + 1100 ≤ 1000000 →
      (hend : ∀ (l' : SL) s l m, ∀ B' : OS, encL g ((tabL H j).drop i) left = some (s, l, m) → B'.ok 1 → B'.rows = byR (bs ++ s) → Q (.ext 1) l' (KL36 i1 i2 i3 i4 b l B' c O b5 v)) →
      (hret : encL g ((tabL H j).drop i) left = none → ∀ l' K', lkS l' 6 = some (.bool false) → (∃ r, Sel K' [c] r) → Q .ret l' K') →
      Lp Try.prog true b36_0 f [(1, pt i1), (2, pt i2), (3, pt i3), (4, pt i4), (5, .ptr b5 0 0 3), (62, O.v 3), (63, .int .i64 (.ofNat (tabL H j).length)), (64, .int .i64 (.ofNat i))] (KL36 i1 i2 i3 i4 b left B c O b5 v) Q := by
  have hOl := hO.len
  rw [hr, List.length_map] at hOl
  have hlen := hW.len _ (tabL_mem (tabI_some hj).2)
  intro f
  induction f with
  | zero => intro i left B bs h1 h2; omega
  | succ f ih =>
    intro i left B bs h1 h2 h3 hB hBr h4 hend hret
    refine Lp.round ?_
    by_cases hi : i < (tabL H j).length
    · have hmem := tabL_mem (tabI_some hj).2
      have he : (tabL H j)[i]? = some (tabL H j)[i] := List.getElem?_eq_getElem hi
      have hdrop : (tabL H j).drop i = (tabL H j)[i] :: (tabL H j).drop (i + 1) := List.drop_eq_getElem_cons hi
      generalize (tabL H j)[i] = e at he hdrop
      have hem : e ∈ tabL H j := List.mem_of_getElem? he
      obtain ⟨hk1, hk2⟩ := hW.key _ hmem e hem
      obtain ⟨hv1, hv2⟩ := hW.val _ hmem e hem
      have hget := mGet_at hj (hW.ok.srt _ hmem) he hk2
      have cg := getH hX (t := v) (k := e.1)
      rw [hget] at cg
      have ra : ((tabL H j).map fun e => valR e.1)[i]? = some (valR e.1) := by rw [List.getElem?_map, he]; rfl
      obtain ⟨ia, ga, ea⟩ := hO.at (by rw [hr]; exact ra)
      rw [hr] at ea
      subst ea
      have q1 := iadr_slc (sz := 3) (b := ia) (g := ga) (off := 0) (len := ((tabL H j).map fun e => valR e.1).length) (cap := ((tabL H j).map fun e => valR e.1).length) (i := i) (k := .i64) (by rw [List.length_map]; exact hi)
      have hrow : ∀ r, r ∈ ((tabL H j).map fun e => valR e.1) → r.length = 3 := by
        intro r h
        obtain ⟨e, _, rfl⟩ := List.mem_map.1 h
        rfl
      have hp : ∀ K, InK K ia (.cells ((tabL H j).map fun e => valR e.1).flatten ga ga true) → Rdk K (.loadn 3) (.ptr ia ga (0 + i * 3) 3) (.ptr ia ga (0 + i * 3) 3) (valA e.1) := fun K h => Rdk.row h hrow ra
      have hsl := sc_len hk1.len
      have ck := lay36_sc (i1 := i1) (i2 := i2) (i3 := i3) (i4 := i4) (b := b) (c := c) (left := left) hk1 (by omega) hB hBr (by omega)
      repeat' (first|(refine Rg.r rfl rfl (hp _ (by repeat (first | exact InK.here | refine InK.there ?_))) ?_)|(refine Rg.callM rfl cg.up (.cons (.there (.there (.there (.there (.there (.here)))))) (.nil)) ?_; rintro _ _ ⟨rfl, rfl⟩)|(refine Rg.callvM rfl rfl ck.up (.cons (.there (.there (.there (.here)))) (.cons (.there (.there (.there (.here)))) (.cons (.there (.there (.there (.here)))) (.cons (.there (.there (.there (.here)))) (.cons (.there (.here)) (.cons (.there (.there (.here))) (.nil))))))) ?_; rintro _ _ ⟨rfl, B1, hB1, hr1, rfl⟩)|refine zz ?_|(refine zw ?_;refine And.intro ?_ ?_<;>intro hc)|(refine zv ?_;intro cv hv)|(refine za ?_;intro _)|refine zc ?_|(refine zd ?_;refine And.intro ?_ ?_<;>(intro e;(try simp only [Bool.not_eq_true',Bool.not_eq_false'] at e);subst e;try contradiction)))
      have hc := hg e.2 left B1 (bs ++ sc e.1) hv1 h3 hB1 hr1 (by rw [List.length_append]; omega)
      have hs := hsz e.2 left
      cases hgv : g e.2 left with
      | none =>
        repeat' (first|(refine Rg.callvM rfl rfl hc (.cons (.here) (.cons (.here) (.cons (.here) (.cons (.here) (.cons (.here) (.cons (.here) (.nil))))))) ?_; rintro _ _ (⟨s, l, m, B2, h, _⟩ | ⟨h, rfl, r0, hr0⟩); (rw [hgv] at h; cases h))|refine zz ?_|(refine zw ?_;refine And.intro ?_ ?_<;>intro hc)|(refine zv ?_;intro cv hv)|(refine za ?_;intro _)|refine zc ?_|(refine zd ?_;refine And.intro ?_ ?_<;>(intro e;(try simp only [Bool.not_eq_true',Bool.not_eq_false'] at e);subst e;try contradiction)))
        exact hret (by rw [hdrop, encL, hgv]) _ _ rfl ⟨_, hr0.app_right⟩
      | some p =>
        obtain ⟨t, l1, m1⟩ := p
        obtain ⟨z1, z2, z3⟩ := hs t l1 m1 hv1 hgv
        repeat' (first|(refine Rg.callvM rfl rfl hc (.cons (.here) (.cons (.here) (.cons (.here) (.cons (.here) (.cons (.here) (.cons (.here) (.nil))))))) ?_; rintro _ _ (⟨s, l, m, B2, h, rfl, hB2, hr2, rfl⟩ | ⟨h, _⟩); rotate_left; (rw [hgv] at h; cases h))|refine zz ?_|(refine zw ?_;refine And.intro ?_ ?_<;>intro hc)|(refine zv ?_;intro cv hv)|(refine za ?_;intro _)|refine zc ?_|(refine zd ?_;refine And.intro ?_ ?_<;>(intro e;(try simp only [Bool.not_eq_true',Bool.not_eq_false'] at e);subst e;try contradiction)))
        rw [hgv] at h
        cases h
        have := ih (i + 1) l1 B2 (bs ++ sc e.1 ++ t) (by omega) hi (by omega) hB2 hr2 (by simp only [List.length_append]; omega) (fun l' s l m B3 hl hB3 hr3 => hend l' (sc e.1 ++ (t ++ s)) l (m1 + m) B3 (by rw [hdrop, encL, hgv]; simp only [hl]) hB3 (by rw [hr3]; simp only [List.append_assoc]))
          (fun hno => hret (by rw [hdrop, encL, hgv]; simp only [hno]))
        refine Lp.drop (.cons (.here) (.cons (.here) (.cons (.here) (.cons (.here) (.cons (.here) (.cons (.here) (.cons (.there (.there (.here))) (.cons (.there (.there (.here))) (.nil))))))))) (Lp.weak ?hw this)
        case hw => exact ⟨rfl, rfl, rfl, rfl, rfl, rfl, rfl, rfl, trivial⟩
    · obtain rfl : i = (tabL H j).length := by omega
      repeat' (first|refine zz ?_|(refine zw ?_;refine And.intro ?_ ?_<;>intro hc)|(refine zv ?_;intro cv hv)|(refine za ?_;intro _)|refine zc ?_|(refine zd ?_;refine And.intro ?_ ?_<;>(intro e;(try simp only [Bool.not_eq_true',Bool.not_eq_false'] at e);subst e;try contradiction)))
      refine hend _ [] left 0 B ?_ hB ?_
      · rw [List.drop_length]; rfl
      · rw [List.append_nil]; exact hBr
theorem lay36 {H : MH} {fs : List OS} (hX : HC b H fs c) (hW : WOk H) : ∀ (f : Nat) {v : Val} {left : Nat} {B : OS} {bs : List Nat}, left ≤ f → left ≤ 200 → VOk v → B.ok 1 → B.rows = byR bs → bs.length + 2100 * left ≤ 1000000 →
    CT Try.prog true 36 [valA v, pt i1, pt i2, pt i3, pt i4] (K36 i1 i2 i3 i4 b left B c) (Lay i1 i2 i3 i4 b c (enc H f) v left bs) := by
  intro f
  induction f with
  | zero =>
    intro v left B bs h1 h2 hv hB hr h4
    obtain rfl : left = 0 := by omega
    have e0 := sub_zero
    refine CT.enterS mixed comp36 (Nat.le_of_ble_eq_true rfl) ?_
    repeat' (first|refine zz ?_|(refine zw ?_;refine And.intro ?_ ?_<;>intro hc)|(refine zv ?_;intro cv hv)|(refine za ?_;intro _)|refine zc ?_|(refine zd ?_;refine And.intro ?_ ?_<;>(intro e;(try simp only [Bool.not_eq_true',Bool.not_eq_false'] at e);subst e;try contradiction)))
    (first|refine ⟨.inr rfl,_,.t rfl .nil,?_⟩|refine ⟨.inr rfl,_,.t rfl (.t rfl .nil),?_⟩|refine ⟨.inr rfl,_,.t rfl (.t rfl (.t rfl .nil)),?_⟩|refine ⟨.inr rfl,_,.nil,?_⟩|refine ⟨.inl rfl,_,.t rfl .nil,?_⟩|refine ⟨.inl rfl,_,.nil,?_⟩|refine ⟨.inr rfl,_,.cn rfl (by exact zN) .nil,?_⟩|refine ⟨.inr rfl,_,.cn rfl (by exact zN) (.t rfl .nil),?_⟩)
    exact ⟨[c], _, (.cons (.there (.there (.there (.there (.there (.here)))))) (.nil)), .inr ⟨rfl, rfl, [], (.cons (.here) (.nil))⟩⟩
  | succ f ih =>
    intro v left B bs h1 h2 hv hB hr h4
    cases left with
    | zero =>
      have e0 := sub_zero
      refine CT.enterS mixed comp36 (Nat.le_of_ble_eq_true rfl) ?_
      repeat' (first|refine zz ?_|(refine zw ?_;refine And.intro ?_ ?_<;>intro hc)|(refine zv ?_;intro cv hv)|(refine za ?_;intro _)|refine zc ?_|(refine zd ?_;refine And.intro ?_ ?_<;>(intro e;(try simp only [Bool.not_eq_true',Bool.not_eq_false'] at e);subst e;try contradiction)))
      (first|refine ⟨.inr rfl,_,.t rfl .nil,?_⟩|refine ⟨.inr rfl,_,.t rfl (.t rfl .nil),?_⟩|refine ⟨.inr rfl,_,.t rfl (.t rfl (.t rfl .nil)),?_⟩|refine ⟨.inr rfl,_,.nil,?_⟩|refine ⟨.inl rfl,_,.t rfl .nil,?_⟩|refine ⟨.inl rfl,_,.nil,?_⟩|refine ⟨.inr rfl,_,.cn rfl (by exact zN) .nil,?_⟩|refine ⟨.inr rfl,_,.cn rfl (by exact zN) (.t rfl .nil),?_⟩)
      exact ⟨[c], _, (.cons (.there (.there (.there (.there (.there (.here)))))) (.nil)), .inr ⟨rfl, rfl, [], (.cons (.here) (.nil))⟩⟩
    | succ left =>
      by_cases hsc : ScOk v
      · have hk := hsc.kind
        refine CT.mono (lay36_sc (i1 := i1) (i2 := i2) (i3 := i3) (i4 := i4) (b := b) (c := c) (left := left) hsc (by omega) hB hr (by omega)).up ?_
        rintro w K' ⟨rfl, B', hB', hr', rfl⟩
        refine .inl ⟨sc v, left, 0, B', ?_, rfl, hB', hr', rfl⟩
        simp only [enc]
        rw [if_neg (by omega), if_pos (by omega)]
      · have hk : v.k = 3 ∨ v.k = 4 ∨ v.k = 5 := by
          rcases hv with h | ⟨h, _⟩
          · exact absurd h hsc
          · exact h
        have hBl : B.rows.length = bs.length := by rw [hr]; simp [byR]
        have e0 := sub_one (n := left) (by omega)
        have hl := lenH hX (t := v)
        refine CT.enterS mixed comp36 (Nat.le_of_ble_eq_true rfl) ?_
        cases hj : tabI H v with
        | none =>
          simp only [mLen, hj] at hl
          repeat' (first|(refine Rg.callM rfl hl.up (.cons (.there (.there (.there (.there (.there (.here)))))) (.nil)) ?_; rintro _ _ ⟨rfl, rfl⟩)|refine zz ?_|(refine zw ?_;refine And.intro ?_ ?_<;>intro hc)|(refine zv ?_;intro cv hv)|(refine za ?_;intro _)|refine zc ?_|(refine zd ?_;refine And.intro ?_ ?_<;>(intro e;(try simp only [Bool.not_eq_true',Bool.not_eq_false'] at e);subst e;try contradiction)))
          (first|refine ⟨.inr rfl,_,.t rfl .nil,?_⟩|refine ⟨.inr rfl,_,.t rfl (.t rfl .nil),?_⟩|refine ⟨.inr rfl,_,.t rfl (.t rfl (.t rfl .nil)),?_⟩|refine ⟨.inr rfl,_,.nil,?_⟩|refine ⟨.inl rfl,_,.t rfl .nil,?_⟩|refine ⟨.inl rfl,_,.nil,?_⟩|refine ⟨.inr rfl,_,.cn rfl (by exact zN) .nil,?_⟩|refine ⟨.inr rfl,_,.cn rfl (by exact zN) (.t rfl .nil),?_⟩)
          refine ⟨[c], _, (.cons (.here) (.nil)), .inr ⟨?_, rfl, [], (.cons (.here) (.nil))⟩⟩
          simp only [enc, hj]
          split
          · rfl
          · rw [if_neg (by omega)]
        | some j =>
          simp only [mLen, hj] at hl
          have hmem := tabL_mem (tabI_some hj).2
          have hlen := hW.len _ hmem
          have c37 : PT Try.prog true 37 [.int .i64 (tabL H j).length, .int .i64 (.ofNat 2)] (.str (leB (tabL H j).length 2)) := CT.up (num37 (n := (tabL H j).length) (w := 2) (.inr ⟨.inl rfl, by omega, by simp; omega⟩))
          have hks := keysH hX (t := v) hW.len
          simp only [mKeys, hj] at hks
          have h3 : v.k = 3 := by have := (tabI_some hj).1; rw [this]
          repeat' (first|(refine Rg.callM rfl hl.up (.cons (.there (.there (.there (.there (.there (.here)))))) (.nil)) ?_; rintro _ _ ⟨rfl, rfl⟩)|refine zz ?_|(refine zw ?_;refine And.intro ?_ ?_<;>intro hc)|(refine zv ?_;intro cv hv)|(refine za ?_;intro _)|refine zc ?_|(refine zd ?_;refine And.intro ?_ ?_<;>(intro e;(try simp only [Bool.not_eq_true',Bool.not_eq_false'] at e);subst e;try contradiction)))
          refine Rg.e (Ef.appO (rs := byR [3]) (n := 1) rfl rfl hB byR_one (.there (.there (.there (.there (.there (.here)))))) rfl (by decide) (Rw.slc (InK.there InK.here) (Nat.le_refl _) (Nat.le_refl _) rfl) (by simp only [lim]; omega)) ?_
          rintro _ _ ⟨B1, hB1, hr1, rfl, rfl⟩
          repeat' (first|refine zz ?_|(refine zw ?_;refine And.intro ?_ ?_<;>intro hc)|(refine zv ?_;intro cv hv)|(refine za ?_;intro _)|refine zc ?_|(refine zd ?_;refine And.intro ?_ ?_<;>(intro e;(try simp only [Bool.not_eq_true',Bool.not_eq_false'] at e);subst e;try contradiction)))
          refine Rg.e (Ef.appO (bytes := 1) (rs := byR (leB (tabL H j).length 2)) (n := (leB (tabL H j).length 2).length) rfl rfl hB1 byR_one (.here) (by simp [byR]) (by simp [leB_len]) Rw.str (by rw [hr1]; simp only [lim, List.length_append, leB_len]; simp [byR]; omega)) ?_
          rintro _ _ ⟨B2, hB2, hr2, rfl, rfl⟩
          refine Rg.e (Ef.store1 rfl rfl (B2.one 1) (.there (.there (.there (.there (.there (Upd.here)))))) (Nat.le_of_ble_eq_true rfl)) ?_
          rintro _ _ ⟨rfl, rfl⟩
          have hB2r : B2.rows = byR (bs ++ 3 :: leB (tabL H j).length 2) := by
            rw [hr2, hr1, hr, ← byR_add, ← byR_add]
            simp
          repeat' (first|(refine Rg.callM rfl hks (.cons (.there (.there (.here))) (.nil)) ?_; rintro _ _ ⟨O, hO, hOr, rfl, rfl⟩)|refine zz ?_|(refine zw ?_;refine And.intro ?_ ?_<;>intro hc)|(refine zv ?_;intro cv hv)|(refine za ?_;intro _)|refine zc ?_|(refine zd ?_;refine And.intro ?_ ?_<;>(intro e;(try simp only [Bool.not_eq_true',Bool.not_eq_false'] at e);subst e;try contradiction)))
          have hOl := hO.len
          rw [hOr, List.length_map, List.length_map] at hOl
          repeat' (first|refine zz ?_|(refine zw ?_;refine And.intro ?_ ?_<;>intro hc)|(refine zv ?_;intro cv hv)|(refine za ?_;intro _)|refine zc ?_|(refine zd ?_;refine And.intro ?_ ?_<;>(intro e;(try simp only [Bool.not_eq_true',Bool.not_eq_false'] at e);subst e;try contradiction)))
          rename_i vb lb
          refine Cd.loop (k := (tabL H j).length + 1) (Lp.drop (.cons (.there (.there (.there (.there (.there (.here)))))) (.cons (.there (.there (.there (.there (.there (.here)))))) (.cons (.there (.there (.here))) (.cons (.there (.there (.there (.there (.here))))) (.cons (.here) (.cons (.there (.there (.there (.here)))) (.cons (.here) (.cons (.there (.here)) (.nil))))))))) (Lp.weak (l2 := [(1, pt i1), (2, pt i2), (3, pt i3), (4, pt i4), (5, .ptr vb 0 0 3), (62, O.v 3), (63, .int .i64 (.ofNat (tabL H j).length)), (64, .int .i64 (.ofNat 0))]) ⟨rfl, rfl, rfl, rfl, rfl, rfl, rfl, rfl, trivial⟩ (lay36_loop (g := enc H f) (b5 := vb) (Bd := left) (by omega) hX hW hj hO (by rw [hOr, List.map_map]; rfl) (fun x l B bs hx hl hB hr h => ih (by omega) (by omega) hx hB hr h) (fun _ _ _ _ _ hx h => enc_size hW hx h) _ 0 left B2 _ (by omega) (by omega) (by omega) hB2 hB2r (by rw [List.length_append, List.length_cons, leB_len]; omega) ?_ ?_)))
          · intro l' s l m B' he hB' hr'
            rw [List.drop_zero] at he
            show Cd _ _ _ _ _ _
            repeat' (first|refine zz ?_|(refine zw ?_;refine And.intro ?_ ?_<;>intro hc)|(refine zv ?_;intro cv hv)|(refine za ?_;intro _)|refine zc ?_|(refine zd ?_;refine And.intro ?_ ?_<;>(intro e;(try simp only [Bool.not_eq_true',Bool.not_eq_false'] at e);subst e;try contradiction)))
            (first|refine ⟨.inr rfl,_,.t rfl .nil,?_⟩|refine ⟨.inr rfl,_,.t rfl (.t rfl .nil),?_⟩|refine ⟨.inr rfl,_,.t rfl (.t rfl (.t rfl .nil)),?_⟩|refine ⟨.inr rfl,_,.nil,?_⟩|refine ⟨.inl rfl,_,.t rfl .nil,?_⟩|refine ⟨.inl rfl,_,.nil,?_⟩|refine ⟨.inr rfl,_,.cn rfl (by exact zN) .nil,?_⟩|refine ⟨.inr rfl,_,.cn rfl (by exact zN) (.t rfl .nil),?_⟩)
            refine ⟨_, _, (.cons (.here) (.cons (.here) (.cons (.here) (.cons (.here) (.cons (.here) (.cons (.here) (.nil))))))), .inl ⟨3 :: (leB (tabL H j).length 2 ++ s), l, 1 + (tabL H j).length + m, B', ?_, rfl, hB', hr'.trans ?_, rfl⟩⟩
            · simp only [enc, h3, if_true, hj, he]
            · simp
          · intro he l' K' h6 hsel
            rw [List.drop_zero] at he
            obtain ⟨r0, hr0⟩ := hsel
            refine ⟨.inr rfl, _, .t h6 .nil, ⟨[c], _, hr0, .inr ⟨?_, rfl, [], (.cons (.here) (.nil))⟩⟩⟩
            simp only [enc, h3, if_true, hj, he]
theorem save12 {H : MH} {fs : List OS} (hX : HC b H fs c) (hW : WOk H) {v : Val} (hv : VOk v) : CT Try.prog true 12 [hP b, valA v] [c] fun w K' => w = svE (enc H 200 v 200) ∧ K' = [c] := by
  refine CT.enterS mixed comp12 (Nat.le_of_ble_eq_true rfl) ?_
  refine Cd.perm (K2 := [OS.c ⟨none, []⟩, c]) (.refl _) ?_
  repeat' (first|refine zz ?_|(refine zw ?_;refine And.intro ?_ ?_<;>intro hc)|(refine zv ?_;intro cv hv)|(refine za ?_;intro _)|refine zc ?_|(refine zd ?_;refine And.intro ?_ ?_<;>(intro e;(try simp only [Bool.not_eq_true',Bool.not_eq_false'] at e);subst e;try contradiction)))
  rename_i hb vb j1 j2 j4
  have hc := lay36 (i1 := j1) (i2 := j2) (i3 := hb) (i4 := j4) hX hW 200 (v := v) (left := 200) (B := ⟨none, []⟩) (bs := []) (Nat.le_refl _) (Nat.le_refl _) hv OS.ok.nil rfl (by decide)
  cases he : enc H 200 v 200 with
  | none =>
    repeat' (first|(refine Rg.callvM rfl rfl hc (.cons (.there (.there (.here))) (.cons (.there (.here)) (.cons (.there (.there (.there (.here)))) (.cons (.there (.there (.here))) (.cons (.there (.there (.here))) (.cons (.here) (.nil))))))) ?_; rintro _ _ (⟨s, l, m, B2, h, _⟩ | ⟨h, rfl, r0, hr0⟩); (rw [he] at h; cases h))|refine zz ?_|(refine zw ?_;refine And.intro ?_ ?_<;>intro hc)|(refine zv ?_;intro cv hv)|(refine za ?_;intro _)|refine zc ?_|(refine zd ?_;refine And.intro ?_ ?_<;>(intro e;(try simp only [Bool.not_eq_true',Bool.not_eq_false'] at e);subst e;try contradiction)))
    (first|refine ⟨.inr rfl,_,.t rfl .nil,?_⟩|refine ⟨.inr rfl,_,.t rfl (.t rfl .nil),?_⟩|refine ⟨.inr rfl,_,.t rfl (.t rfl (.t rfl .nil)),?_⟩|refine ⟨.inr rfl,_,.nil,?_⟩|refine ⟨.inl rfl,_,.t rfl .nil,?_⟩|refine ⟨.inl rfl,_,.nil,?_⟩|refine ⟨.inr rfl,_,.cn rfl (by exact zN) .nil,?_⟩|refine ⟨.inr rfl,_,.cn rfl (by exact zN) (.t rfl .nil),?_⟩)
    exact ⟨_, _, hr0.app_right, rfl, rfl⟩
  | some p =>
    obtain ⟨t, l1, m1⟩ := p
    repeat' (first|(refine Rg.callvM rfl rfl hc (.cons (.there (.there (.here))) (.cons (.there (.here)) (.cons (.there (.there (.there (.here)))) (.cons (.there (.there (.here))) (.cons (.there (.there (.here))) (.cons (.here) (.nil))))))) ?_; rintro _ _ (⟨s, l, m, B2, h, rfl, hB2, hr2, rfl⟩ | ⟨h, _⟩); rotate_left; (rw [he] at h; cases h))|refine zz ?_|(refine zw ?_;refine And.intro ?_ ?_<;>intro hc)|(refine zv ?_;intro cv hv)|(refine za ?_;intro _)|refine zc ?_|(refine zd ?_;refine And.intro ?_ ?_<;>(intro e;(try simp only [Bool.not_eq_true',Bool.not_eq_false'] at e);subst e;try contradiction)))
    rw [he] at h
    cases h
    have hd := fun K hi => Rdk.b2sO (K := K) (y := B2.v 1) hB2 hr2 (enc_lt hW hv he) hi
    repeat' (first|(refine Rg.r rfl rfl (hd _ ?_) ?_; (intro id o h; exact .there (.there (.mem h))))|refine zz ?_|(refine zw ?_;refine And.intro ?_ ?_<;>intro hc)|(refine zv ?_;intro cv hv)|(refine za ?_;intro _)|refine zc ?_|(refine zd ?_;refine And.intro ?_ ?_<;>(intro e;(try simp only [Bool.not_eq_true',Bool.not_eq_false'] at e);subst e;try contradiction)))
    (first|refine ⟨.inr rfl,_,.t rfl .nil,?_⟩|refine ⟨.inr rfl,_,.t rfl (.t rfl .nil),?_⟩|refine ⟨.inr rfl,_,.t rfl (.t rfl (.t rfl .nil)),?_⟩|refine ⟨.inr rfl,_,.nil,?_⟩|refine ⟨.inl rfl,_,.t rfl .nil,?_⟩|refine ⟨.inl rfl,_,.nil,?_⟩|refine ⟨.inr rfl,_,.cn rfl (by exact zN) .nil,?_⟩|refine ⟨.inr rfl,_,.cn rfl (by exact zN) (.t rfl .nil),?_⟩)
    exact ⟨_, _, (.cons (.there (.there (.there (.there (.here))))) (.nil)), rfl, rfl⟩
end
end Go.Proofs.Ytlflpjjmkigepaa
