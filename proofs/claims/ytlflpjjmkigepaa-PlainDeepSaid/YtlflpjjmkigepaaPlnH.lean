/- The program's Load. -/
import Derived.Test.YtlflpjjmkigepaaPlnG
import Derived.Test.YtlflpjjmkigepaaPlnE
set_option autoImplicit false
set_option maxRecDepth 900000
set_option maxHeartbeats 4000000
set_option linter.unusedVariables false
set_option linter.unusedSimpArgs false
set_option maxRecDepth 100000
namespace Go.Proofs.Ytlflpjjmkigepaa
open Go Go.Abs
attribute [local irreducible] Cmp Rg Dw Cd Lp Ev Rdk CT Upd InK
section
variable {b ih : Nat} {fs : List OS} {s : List Nat}
end
end Go.Proofs.Ytlflpjjmkigepaa

namespace Go.Proofs.Ytlflpjjmkigepaa
open Go Go.Abs
attribute [local irreducible] Cmp Rg Dw Cd Lp Ev Rdk CT Upd InK
theorem stopAtD {P : Program} {nd : Bool} {l : SL} {K : Mem} {c : List AOper} {b : ACode} {Q : AX → SL → Mem → Prop} (h : Mrk (Cd P nd (.seq (.draw c) b) l K Q)) : Cd P nd (.seq (.draw c) b) l K Q := h.go
section
variable {b r : Nat} {H : MH} {c d : Chk}
end
end Go.Proofs.Ytlflpjjmkigepaa

namespace Go.Proofs.Ytlflpjjmkigepaa
open Go Go.Abs
theorem ahead_v0' {k : Val} (hk : keyB k = true) : aheadB v0 k = true := by
  simp only [keyB, Bool.or_eq_true, decide_eq_true_eq] at hk
  have h0 : v0.k = 0 := rfl
  rw [aheadB, if_pos (by omega), decide_eq_true (by omega)]
theorem encL_dec {s : List Nat} {g : Val → Nat → ER} {gU : Unit → Nat → Nat → DR Unit} {tU : Val}
    (hg : ∀ v l t l2 m p q, VOk v → g v l = some (t, l2, m) → s = p ++ (t ++ q) → ∃ vU, gU () p.length l = some (vU, (), p.length + t.length, l2, m) ∧ vU.k = v.k) :
    ∀ {L : List KV} {last : Val} {l l2 m : Nat} {t p q : List Nat}, (∀ e, e ∈ L → ScOk e.1 ∧ keyB e.1 = true ∧ VOk e.2 ∧ e.2.k ≠ 0 ∧ aheadB last e.1 = true) → (L.Pairwise fun a b => aheadB a.1 b.1 = true) → encL g L l = some (t, l2, m) → s = p ++ (t ++ q) →
      decL openB s gU tU L.length last () p.length l = some ((), p.length + t.length, l2, m)
  | [], last, l, l2, m, t, p, q, hL, hp, h, hs => by
    simp only [encL, Option.some.injEq, Prod.mk.injEq] at h
    obtain ⟨rfl, rfl, rfl⟩ := h
    simp [decL]
  | e :: L, last, l, l2, m, t, p, q, hL, hp, h, hs => by
    simp only [encL] at h
    split at h
    · cases h
    · rename_i t1 l1 m1 h1
      split at h
      · cases h
      · rename_i t2 l3 m2 h2
        simp only [Option.some.injEq, Prod.mk.injEq] at h
        obtain ⟨rfl, rfl, rfl⟩ := h
        obtain ⟨hk, hkb, hv, hv0, hah⟩ := hL e (by simp)
        have hp2 := List.pairwise_cons.1 hp
        have es1 : s = p ++ (sc e.1 ++ (t1 ++ (t2 ++ q))) := by rw [hs]; simp
        have hrd : rdK s p.length = some (e.1, p.length + (sc e.1).length) := by
          unfold rdK
          rw [es1, sc_rdS hk]
          simp only [hkb, if_true]
        obtain ⟨vU, hgU, hvk⟩ := hg e.2 l t1 l1 m1 (p ++ sc e.1) (t2 ++ q) hv h1 (by rw [es1]; simp)
        have hr := encL_dec hg (L := L) (last := e.1) (p := p ++ sc e.1 ++ t1) (q := q) (tU := tU) (fun x hx => ⟨(hL x (by simp [hx])).1, (hL x (by simp [hx])).2.1, (hL x (by simp [hx])).2.2.1, (hL x (by simp [hx])).2.2.2.1, hp2.1 x hx⟩) hp2.2 h2 (by rw [es1]; simp)
        rw [List.length_append] at hgU
        rw [List.length_append, List.length_append] at hr
        simp only [List.length_cons, decL, hrd, hah, if_true, hgU]
        rw [if_neg (by rw [hvk]; exact hv0), show openB.pt () tU e.1 vU = () from rfl, hr]
        simp only [List.length_append]
        congr 2
        simp only [Prod.mk.injEq, and_true, true_and]
        omega
theorem enc_dec {H : MH} {s : List Nat} (hW : WOk H) : ∀ {f : Nat} {v : Val} {l l2 m : Nat} {t p q : List Nat}, VOk v → enc H f v l = some (t, l2, m) → s = p ++ (t ++ q) → ∃ vU, dec openB s f () p.length l = some (vU, (), p.length + t.length, l2, m) ∧ vU.k = v.k
  | 0, v, l, l2, m, t, p, q, _, h, _ => by simp [enc] at h
  | f + 1, v, 0, l2, m, t, p, q, _, h, _ => by simp [enc] at h
  | f + 1, v, l + 1, l2, m, t, p, q, hv, h, hs => by
    simp only [enc] at h
    split at h
    · rename_i hk3
      split at h
      · cases h
      · rename_i i hi
        split at h
        · cases h
        · rename_i t1 l1 m1 h1
          simp only [Option.some.injEq, Prod.mk.injEq] at h
          obtain ⟨rfl, rfl, rfl⟩ := h
          have hm := tabL_mem (tabI_some hi).2
          have hlen := hW.len _ hm
          have hsrt := hW.ok.srt _ hm
          have hx : s[p.length]? = some 3 := by rw [hs, List.getElem?_append_right (Nat.le_refl _)]; simp
          have hsl : s.length = p.length + (3 + (t1.length + q.length)) := by rw [hs]; simp [leB_len]; omega
          have hseg : sgm s (p.length + 1) (p.length + 3) = leB (tabL H i).length 2 := by
            have := seg_mid (p := p ++ [3]) (t := leB (tabL H i).length 2) (q := t1 ++ q) (a := p.length + 1) (b := p.length + 3) (by simp) (by simp [leB_len])
            rw [hs]
            simpa using this
          have hd : deB (leB (tabL H i).length 2) = (tabL H i).length := by
            have e := deB_leB (w := 2) (n := (tabL H i).length)
            have e2 : ((256 ^ 2 : Nat) : Int) = 65536 := by decide
            rw [e2] at e
            omega
          have hr := encL_dec (s := s) (gU := dec openB s f) (tU := ⟨3, 0, []⟩) (last := v0) (p := p ++ 3 :: leB (tabL H i).length 2) (q := q) (fun v l t l2 m p q hv h hs => enc_dec hW hv h hs)
            (fun e he => ⟨(hW.key _ hm e he).1, (hW.key _ hm e he).2, (hW.val _ hm e he).1, (hW.val _ hm e he).2, ahead_v0' (hW.key _ hm e he).2⟩) hsrt.ord h1 (by rw [hs]; simp)
          have hpl : (p ++ 3 :: leB (tabL H i).length 2).length = p.length + 3 := by simp [leB_len]
          rw [hpl] at hr
          refine ⟨⟨3, 0, []⟩, ?_, hk3.symm⟩
          simp only [dec, hx, if_true]
          rw [if_pos (by omega)]
          simp only [hseg, hd, show openB.tb () = ((), ⟨3, 0, []⟩) from rfl, hr]
          simp only [List.length_cons, List.length_append, leB_len]
          congr 2
          simp only [Prod.mk.injEq, and_true, true_and]
          omega
    · rename_i hk3
      split at h
      · rename_i hk
        simp only [Option.some.injEq, Prod.mk.injEq] at h
        obtain ⟨rfl, rfl, rfl⟩ := h
        have hok : ScOk v := by
          rcases hv with hv | ⟨hv, _⟩
          · exact hv
          · omega
        have hr := sc_rdS hok p q
        rw [← hs] at hr
        have hx : ∃ c, s[p.length]? = some c ∧ c ≠ 3 := by
          rw [hs, List.getElem?_append_right (Nat.le_refl _), Nat.sub_self]
          unfold sc
          split
          · exact ⟨1, by simp, by decide⟩
          · split
            · exact ⟨2, by simp, by decide⟩
            · exact ⟨0, by simp, by decide⟩
        obtain ⟨c, hx, hc⟩ := hx
        refine ⟨v, ?_, rfl⟩
        simp only [dec, hx, if_neg hc, hr]
      · cases h
end Go.Proofs.Ytlflpjjmkigepaa

namespace Go.Proofs.Ytlflpjjmkigepaa
open Go Go.Abs
abbrev tv (i : Nat) : Val := ⟨3, (i : Int), []⟩
abbrev iv (i : Nat) : Val := ⟨1, (i : Int), []⟩
/-- Tables, each in the one ahead of it; the last one holds what is said. -/
def chT (j : Nat) (e : List KV) : List (List KV) := ((List.range j).map fun i => [(iv (i + 1), tv (i + 1))]) ++ [e]
def chM (j : Nat) (e : List KV) : MH := ⟨2000, 2 * j + 1 + e.length, chT j e, [], []⟩
theorem chT_len {j : Nat} {e : List KV} : (chT j e).length = j + 1 := by simp [chT]
theorem chT_at {j i : Nat} {e : List KV} (h : i < j) : tabL (chM j e) i = [(iv (i + 1), tv (i + 1))] := by
  show ((chT j e)[i]?).getD [] = _
  unfold chT
  rw [List.getElem?_append_left (by simpa using h), List.getElem?_map, List.getElem?_range h]
  rfl
theorem chT_end {j : Nat} {e : List KV} : tabL (chM j e) j = e := by
  show ((chT j e)[j]?).getD [] = _
  unfold chT
  rw [List.getElem?_append_right (by simp)]
  simp
theorem chT_set {j : Nat} {e f : List KV} : (chT j e).set j f = chT j f := by
  unfold chT
  rw [List.set_append_right _ _ (by simp)]
  simp
theorem chT_snoc {j : Nat} : chT j [(iv (j + 1), tv (j + 1))] ++ [[]] = chT (j + 1) [] := by
  unfold chT
  rw [List.range_succ, List.map_append]
  simp
theorem chI {j i : Nat} {e : List KV} (h : i ≤ j) : tabI (chM j e) (tv i) = some i := by
  unfold tabI
  have : (chM j e).tabs.length = j + 1 := chT_len
  rw [if_pos ⟨rfl, by simp, by rw [this]; simp; omega⟩]
  simp
theorem ch_new : mTable (mNew 2000) = (chM 0 [], tv 0, 0) := by
  unfold mTable
  rw [if_pos (by decide)]
  rfl
theorem ch_table {j : Nat} (h : j < 900) : mTable (chM j []) = (⟨2000, 2 * j + 2, chT j [] ++ [[]], [], []⟩, tv (j + 1), 0) := by
  have : (chM j []).tabs.length = j + 1 := chT_len
  unfold mTable
  rw [if_pos (by show 2 * j + 1 + 0 < 2000; omega), this]
  rfl
theorem ch_put {j : Nat} (h : j < 900) : mPut ⟨2000, 2 * j + 2, chT j [] ++ [[]], [], []⟩ (tv j) (iv (j + 1)) (tv (j + 1)) = (chM (j + 1) [], 0) := by
  have hl : (chT j ([] : List KV)).length = j + 1 := chT_len
  have ht : tabI ⟨2000, 2 * j + 2, chT j [] ++ [[]], [], []⟩ (tv j) = some j := by
    unfold tabI
    rw [if_pos ⟨rfl, by simp, by simp [hl]; omega⟩]
    simp
  have hL : tabL ⟨2000, 2 * j + 2, chT j [] ++ [[]], [], []⟩ j = [] := by
    show ((chT j [] ++ [[]])[j]?).getD [] = _
    rw [List.getElem?_append_left (by rw [hl]; omega)]
    exact chT_end
  unfold mPut
  rw [ht]
  simp only [hL]
  rw [if_pos (show keyB (iv (j + 1)) = true from rfl), if_neg (by rintro ⟨_, _, h⟩; revert h; show ¬ 2 * j + 2 = 2000; omega)]
  have e : setL (iv (j + 1)) (tv (j + 1)) [] = [(iv (j + 1), tv (j + 1))] := by
    rw [setL, if_neg (show ¬ (3 : Int) = 0 by decide)]; rfl
  simp only [e]
  rw [List.set_append_left _ _ (by rw [hl]; omega), chT_set, chT_snoc]
  rfl
abbrev meV : Val := ⟨2, 0, [109, 101]⟩
theorem ch_ring {j : Nat} (h : j < 900) : mPut (chM j []) (tv j) meV (tv 0) = (chM j [(meV, tv 0)], 0) := by
  unfold mPut
  rw [chI (Nat.le_refl j)]
  simp only [chT_end]
  rw [if_pos (by decide), if_neg (by rintro ⟨_, _, h⟩; revert h; show ¬ 2 * j + 1 + 0 = 2000; omega)]
  have e : setL meV (tv 0) [] = [(meV, tv 0)] := by
    rw [setL, if_neg (by decide)]; rfl
  simp only [e]
  show (MH.mk 2000 (2 * j + 1 + 0 - 0 + 1) ((chT j []).set j [(meV, tv 0)]) [] [], 0) = _
  rw [chT_set]
  rfl
theorem chW : ∀ {j : Nat}, j ≤ 256 → WOk (chM j [])
  | 0, _ => by
    have := (WOk.new (room := 2000) (by omega)).table
    rwa [ch_new] at this
  | j + 1, h => by
    have h1 := (chW (j := j) (by omega)).table
    rw [ch_table (by omega)] at h1
    have h2 := h1.put (t := tv j) (k := iv (j + 1)) (v := tv (j + 1)) (.inr (.inl ⟨rfl, rfl, by unfold rng; simp; omega⟩)) (.inr ⟨.inl rfl, rfl⟩) (by rw [ch_put (by omega)]; show 2 * (j + 1) + 1 + 0 ≤ 1000; omega)
    rwa [ch_put (by omega)] at h2
theorem chWr {j : Nat} (h : j ≤ 256) : WOk (chM j [(meV, tv 0)]) := by
  have h2 := (chW h).put (t := tv j) (k := meV) (v := tv 0) (.inr (.inr ⟨rfl, rfl, by decide, by decide⟩)) (.inr ⟨.inl rfl, rfl⟩) (by rw [ch_ring (by omega)]; show 2 * j + 1 + 1 ≤ 1000; omega)
  rwa [ch_ring (by omega)] at h2
/-- A table that is in itself. -/
theorem ring_none {H : MH} {n : Nat} (h : ∀ i, i < n → tabI H (tv i) = some i ∧ ∃ k j, tabL H i = [(k, tv j)] ∧ j < n) : ∀ {f i l : Nat}, i < n → enc H f (tv i) l = none
  | 0, i, l, _ => rfl
  | f + 1, i, 0, _ => rfl
  | f + 1, i, l + 1, hi => by
    obtain ⟨h1, k, j, h2, h3⟩ := h i hi
    simp only [enc, if_true, h1, h2, encL, ring_none h h3]
theorem ch_ring_none {j f l : Nat} : enc (chM j [(meV, tv 0)]) f (tv 0) l = none := by
  refine ring_none (n := j + 1) (fun i hi => ⟨chI (by omega), ?_⟩) (by omega)
  by_cases h : i < j
  · exact ⟨_, _, chT_at h, by omega⟩
  · obtain rfl : i = j := by omega
    exact ⟨_, _, chT_end, by omega⟩
theorem ch_none {j : Nat} : ∀ {f i l : Nat}, i ≤ j → l < j + 1 - i → enc (chM j []) f (tv i) l = none
  | 0, i, l, _, _ => rfl
  | f + 1, i, 0, _, _ => rfl
  | f + 1, i, l + 1, hi, hl => by
    have h : i < j := by omega
    simp only [enc, if_true, chI hi, chT_at h, encL, ch_none (j := j) (f := f) (i := i + 1) (l := l) (by omega) (by omega)]
theorem ch_some {j : Nat} : ∀ {f i l : Nat}, i ≤ j → j + 1 - i ≤ l → l ≤ f → ∃ s, enc (chM j []) f (tv i) l = some (s, l - (j + 1 - i), 2 * (j + 1 - i) - 1)
  | 0, i, l, _, _, _ => by omega
  | f + 1, i, 0, _, _, _ => by omega
  | f + 1, i, l + 1, hi, hl, hf => by
    by_cases h : i < j
    · obtain ⟨s, hs⟩ := ch_some (j := j) (f := f) (i := i + 1) (l := l) (by omega) (by omega) (by omega)
      simp only [enc, if_true, chI hi, chT_at h, encL, hs]
      refine ⟨3 :: (leB 1 2 ++ (sc (iv (i + 1)) ++ (s ++ []))), ?_⟩
      simp only [Option.some.injEq, Prod.mk.injEq, List.length_singleton]
      exact ⟨rfl, by omega, by omega⟩
    · obtain rfl : i = j := by omega
      simp only [enc, if_true, chI hi, chT_end, encL]
      refine ⟨3 :: (leB 0 2 ++ []), ?_⟩
      simp only [Option.some.injEq, Prod.mk.injEq, List.length_nil]
      exact ⟨rfl, by omega, by omega⟩
end Go.Proofs.Ytlflpjjmkigepaa

namespace Go.Proofs.Ytlflpjjmkigepaa
open Go Go.Abs
attribute [local irreducible] Cmp Rg Dw Cd Lp Ev Rdk CT Upd InK
theorem right_of {s : List Nat} {vU : Val} {l m : Nat} (hd : dec openB s 200 () 0 200 = some (vU, (), s.length, l, m)) : rightB s = true ∧ needsN s = m := by
  unfold rightB needsN decU
  rw [hd]
  simp
section
variable {b : Nat} {c : Chk}
theorem m10 {j b8 b10 b12 : Nat} {z5 z8 z14 : AV} (hj : j < 900) (hX : HC b ⟨2000, 2 * j + 2, chT j [] ++ [[]], [], []⟩ [] c) (hok : MH.ok ⟨2000, 2 * j + 2, chT j [] ++ [[]], [], []⟩) :
    Cd Try.prog true (.draw r8_10) [(1, z14), (5, z5), (6, hP b), (8, z8), (10, .ptr b10 0 0 3), (11, .int .i64 (.ofNat (j + 1))), (12, .ptr b12 0 0 3), (13, .int .i64 (.ofNat 0))] [b3 b12 (tv (j + 1)), c, b3 b8 (tv 0), b3 b10 (tv j)]
      fun e l K => e = .nrm ∧ Sub2 [(1, z14), (5, z5), (6, hP b), (8, z8), (10, .ptr b10 0 0 3), (11, .int .i64 (.ofNat (j + 1))), (12, .ptr b12 0 0 3), (57, .bool false)] l ∧ ∃ c', HC b (chM (j + 1) []) [] c' ∧ K = [c', b3 b12 (tv (j + 1)), b3 b8 (tv 0), b3 b10 (tv j)] := by
  have kp := putH hX hok (t := tv j) (k := iv (j + 1)) (v := tv (j + 1)) (fun _ => .inl ⟨rfl, rfl⟩)
  rw [ch_put hj] at kp
  have k31 := int31 (n := .ofNat (j + 1))
  have hr2 : ∀ K, InK K b12 (.cells (valR (tv (j + 1))) 0 0 false) → Rdk K (.loadn 3) (.ptr b12 0 0 3) (.ptr b12 0 0 3) (valA (tv (j + 1))) := fun K h => Rdk.bn h rfl
  have hr0 : ∀ K, InK K b10 (.cells (valR (tv j)) 0 0 false) → Rdk K (.loadn 3) (.ptr b10 0 0 3) (.ptr b10 0 0 3) (valA (tv j)) := fun K h => Rdk.bn h rfl
  repeat' (first|(refine Dw.r rfl rfl (hr2 _ (by repeat (first | exact InK.here | refine InK.there ?_))) (by repeat (first | exact trivial | refine And.intro (Or.inl rfl) ?_ | (refine And.intro (Or.inr ?_) ?_; (focus (first | exact hr2 _ (by repeat (first | exact InK.here | refine InK.there ?_)) | first | exact Rdk.i1 | assumption | (refine Rdk.in ?_; first | assumption | exact rfl) | (refine Rdk.b1 (cs := ?_) ?_ ?_; rotate_left; (repeat (first | exact InK.here | refine InK.there ?_)); exact rfl) | (refine Rdk.bw ?_ ?_; (repeat (first | exact InK.here | refine InK.there ?_)); first | assumption | exact rfl) | (refine Rdk.bw (cs := ?_) ?_ ?_; rotate_left; (repeat (first | exact InK.here | refine InK.there ?_)); first | assumption | exact rfl) | (refine Rdk.bn ?_ ?_; (repeat (first | exact InK.here | refine InK.there ?_)); exact rfl) | (refine Rdk.bn (cs := ?_) ?_ ?_; rotate_left; (repeat (first | exact InK.here | refine InK.there ?_)); exact rfl)))))) ?_)|(refine Dw.r rfl rfl (hr0 _ (by repeat (first | exact InK.here | refine InK.there ?_))) (by repeat (first | exact trivial | refine And.intro (Or.inl rfl) ?_ | (refine And.intro (Or.inr ?_) ?_; (focus (first | exact hr0 _ (by repeat (first | exact InK.here | refine InK.there ?_)) | first | exact Rdk.i1 | assumption | (refine Rdk.in ?_; first | assumption | exact rfl) | (refine Rdk.b1 (cs := ?_) ?_ ?_; rotate_left; (repeat (first | exact InK.here | refine InK.there ?_)); exact rfl) | (refine Rdk.bw ?_ ?_; (repeat (first | exact InK.here | refine InK.there ?_)); first | assumption | exact rfl) | (refine Rdk.bw (cs := ?_) ?_ ?_; rotate_left; (repeat (first | exact InK.here | refine InK.there ?_)); first | assumption | exact rfl) | (refine Rdk.bn ?_ ?_; (repeat (first | exact InK.here | refine InK.there ?_)); exact rfl) | (refine Rdk.bn (cs := ?_) ?_ ?_; rotate_left; (repeat (first | exact InK.here | refine InK.there ?_)); exact rfl)))))) ?_)|refine zz ?_|(refine zw ?_;refine And.intro ?_ ?_<;>intro hc)|(refine zv ?_;intro cv hv)|(refine za ?_;intro _)|refine zc ?_|(refine zd ?_;refine And.intro ?_ ?_<;>(intro e;(try simp only [Bool.not_eq_true',Bool.not_eq_false'] at e);subst e;try contradiction)))
  refine Dw.callM rfl kp (.cons (.there (.here)) (.nil)) ?_
  rintro _ _ ⟨rfl, c', hX', rfl⟩
  refine ⟨by repeat (first | exact trivial | refine rdsB rfl ?_ | (refine rdsR ?_ ?_; (focus (first | assumption | (refine Rdk.b1 (cs := ?_) ?_ ?_; rotate_left; (repeat (first | exact InK.here | refine InK.there ?_)); exact rfl) | (refine Rdk.bw ?_ ?_; (repeat (first | exact InK.here | refine InK.there ?_)); first | assumption | exact rfl) | (refine Rdk.bn ?_ ?_; (repeat (first | exact InK.here | refine InK.there ?_)); exact rfl) | (refine Rdk.in ?_; first | assumption | exact rfl) | exact Rdk.i1)))), ?_⟩
  repeat' (first|refine zz ?_|(refine zw ?_;refine And.intro ?_ ?_<;>intro hc)|(refine zv ?_;intro cv hv)|(refine za ?_;intro _)|refine zc ?_|(refine zd ?_;refine And.intro ?_ ?_<;>(intro e;(try simp only [Bool.not_eq_true',Bool.not_eq_false'] at e);subst e;try contradiction)))
  exact ⟨rfl, ⟨rfl, rfl, rfl, rfl, rfl, rfl, rfl, rfl, trivial⟩, c', hX', rfl⟩
theorem deep8_loop {k : Nat} {b8 b10 : Nat} {z1 : AV} {Q : AX → SL → Mem → Prop} (hk : 1 ≤ k) (hk2 : k ≤ 256)
    (hend : ∀ l' c, Sub2 [(1, z1), (5, .int .i64 (.ofNat k)), (6, hP b), (8, .ptr b8 0 0 3), (10, .ptr b10 0 0 3)] l' → HC b (chM (k - 1) []) [] c → Q (.ext 0) l' [c, b3 b8 (tv 0), b3 b10 (tv (k - 1))]) :
    ∀ (f j : Nat) (c : Chk), k < j + 1 + f → j + 1 ≤ k → HC b (chM j []) [] c → Lp Try.prog true b8_0 f [(1, z1), (5, .int .i64 (.ofNat k)), (6, hP b), (8, .ptr b8 0 0 3), (10, .ptr b10 0 0 3), (11, .int .i64 (.ofNat (j + 1)))] [c, b3 b8 (tv 0), b3 b10 (tv j)] Q := by
  intro f
  induction f with
  | zero => intro j c h1; omega
  | succ f ih =>
    intro j c h1 h2 hX
    refine Lp.round ?_
    by_cases hj : j + 1 < k
    · have hW := chW (j := j) (by omega)
      have kt := (tableH hX hW.ok).up (nd := true)
      have hWt := hW.table
      rw [ch_table (by omega)] at kt hWt
      repeat' (first|(refine Rg.callM rfl kt (.cons (.here) (.nil)) ?_; rintro _ _ ⟨rfl, c1, hX1, rfl⟩)|(refine stopAtD (c := r8_10) ?_)|refine zz ?_|(refine zw ?_;refine And.intro ?_ ?_<;>intro hc)|(refine zv ?_;intro cv hv)|(refine za ?_;intro _)|refine zc ?_|(refine zd ?_;refine And.intro ?_ ?_<;>(intro e;(try simp only [Bool.not_eq_true',Bool.not_eq_false'] at e);subst e;try contradiction)))
      rename_i b12
      refine ⟨?_⟩
      refine Cd.seq (Cd.weak (l2 := [(1, z1), (5, .int .i64 (.ofNat k)), (6, hP b), (8, .ptr b8 0 0 3), (10, .ptr b10 0 0 3), (11, .int .i64 (.ofNat (j + 1))), (12, .ptr b12 0 0 3), (13, .int .i64 (.ofNat 0))]) ⟨rfl, rfl, rfl, rfl, rfl, rfl, rfl, rfl, trivial⟩ (Cd.mono (m10 (by omega) hX1 hWt.ok) ?_))
      rintro _ l' _ ⟨rfl, hsub, c2, hX2, rfl⟩
      show Cd _ _ _ _ _ _
      refine Cd.weak hsub ?_
      repeat' (first|refine zz ?_|(refine zw ?_;refine And.intro ?_ ?_<;>intro hc)|(refine zv ?_;intro cv hv)|(refine za ?_;intro _)|refine zc ?_|(refine zd ?_;refine And.intro ?_ ?_<;>(intro e;(try simp only [Bool.not_eq_true',Bool.not_eq_false'] at e);subst e;try contradiction)))
      exact Lp.drop (.cons (.here) (.cons (.there (.here)) (.cons (.there (.here)) (.nil)))) (Lp.weak (by exact ⟨rfl, rfl, rfl, rfl, rfl, rfl, trivial⟩) (ih (j + 1) c2 (by omega) (by omega) hX2))
    · obtain rfl : k = j + 1 := by omega
      repeat' (first|refine zz ?_|(refine zw ?_;refine And.intro ?_ ?_<;>intro hc)|(refine zv ?_;intro cv hv)|(refine za ?_;intro _)|refine zc ?_|(refine zd ?_;refine And.intro ?_ ?_<;>(intro e;(try simp only [Bool.not_eq_true',Bool.not_eq_false'] at e);subst e;try contradiction)))
      exact hend _ c ⟨rfl, rfl, rfl, rfl, rfl, trivial⟩ hX
theorem m15 {j b8 b10 : Nat} {z5 : AV} (hj : j ≤ 256) (hX : HC b (chM j []) [] c) :
    Cd Try.prog true (.draw r8_15) [(5, z5), (6, hP b), (8, .ptr b8 0 0 3), (10, .ptr b10 0 0 3)] [c, b3 b8 (tv 0), b3 b10 (tv j)]
      fun e l K => e = .nrm ∧ Sub2 [(5, z5), (6, hP b), (8, .ptr b8 0 0 3), (65, .bool false)] l ∧ ∃ c', HC b (chM j [(meV, tv 0)]) [] c' ∧ K = [c', b3 b8 (tv 0), b3 b10 (tv j)] := by
  have kp := putH hX (chW hj).ok (t := tv j) (k := meV) (v := tv 0) (fun _ => .inr ⟨rfl, rfl⟩)
  rw [ch_ring (by omega)] at kp
  have k32 := text32 (s := [109, 101])
  have hr2 : ∀ K, InK K b8 (.cells (valR (tv 0)) 0 0 false) → Rdk K (.loadn 3) (.ptr b8 0 0 3) (.ptr b8 0 0 3) (valA (tv 0)) := fun K h => Rdk.bn h rfl
  have hr0 : ∀ K, InK K b10 (.cells (valR (tv j)) 0 0 false) → Rdk K (.loadn 3) (.ptr b10 0 0 3) (.ptr b10 0 0 3) (valA (tv j)) := fun K h => Rdk.bn h rfl
  repeat' (first|(refine Dw.r rfl rfl (hr2 _ (by repeat (first | exact InK.here | refine InK.there ?_))) (by repeat (first | exact trivial | refine And.intro (Or.inl rfl) ?_ | (refine And.intro (Or.inr ?_) ?_; (focus (first | exact hr2 _ (by repeat (first | exact InK.here | refine InK.there ?_)) | first | exact Rdk.i1 | assumption | (refine Rdk.in ?_; first | assumption | exact rfl) | (refine Rdk.b1 (cs := ?_) ?_ ?_; rotate_left; (repeat (first | exact InK.here | refine InK.there ?_)); exact rfl) | (refine Rdk.bw ?_ ?_; (repeat (first | exact InK.here | refine InK.there ?_)); first | assumption | exact rfl) | (refine Rdk.bw (cs := ?_) ?_ ?_; rotate_left; (repeat (first | exact InK.here | refine InK.there ?_)); first | assumption | exact rfl) | (refine Rdk.bn ?_ ?_; (repeat (first | exact InK.here | refine InK.there ?_)); exact rfl) | (refine Rdk.bn (cs := ?_) ?_ ?_; rotate_left; (repeat (first | exact InK.here | refine InK.there ?_)); exact rfl)))))) ?_)|(refine Dw.r rfl rfl (hr0 _ (by repeat (first | exact InK.here | refine InK.there ?_))) (by repeat (first | exact trivial | refine And.intro (Or.inl rfl) ?_ | (refine And.intro (Or.inr ?_) ?_; (focus (first | exact hr0 _ (by repeat (first | exact InK.here | refine InK.there ?_)) | first | exact Rdk.i1 | assumption | (refine Rdk.in ?_; first | assumption | exact rfl) | (refine Rdk.b1 (cs := ?_) ?_ ?_; rotate_left; (repeat (first | exact InK.here | refine InK.there ?_)); exact rfl) | (refine Rdk.bw ?_ ?_; (repeat (first | exact InK.here | refine InK.there ?_)); first | assumption | exact rfl) | (refine Rdk.bw (cs := ?_) ?_ ?_; rotate_left; (repeat (first | exact InK.here | refine InK.there ?_)); first | assumption | exact rfl) | (refine Rdk.bn ?_ ?_; (repeat (first | exact InK.here | refine InK.there ?_)); exact rfl) | (refine Rdk.bn (cs := ?_) ?_ ?_; rotate_left; (repeat (first | exact InK.here | refine InK.there ?_)); exact rfl)))))) ?_)|refine zz ?_|(refine zw ?_;refine And.intro ?_ ?_<;>intro hc)|(refine zv ?_;intro cv hv)|(refine za ?_;intro _)|refine zc ?_|(refine zd ?_;refine And.intro ?_ ?_<;>(intro e;(try simp only [Bool.not_eq_true',Bool.not_eq_false'] at e);subst e;try contradiction)))
  refine Dw.callM rfl kp (.cons (.here) (.nil)) ?_
  rintro _ _ ⟨rfl, c', hX', rfl⟩
  refine ⟨by repeat (first | exact trivial | refine rdsB rfl ?_ | (refine rdsR ?_ ?_; (focus (first | assumption | (refine Rdk.b1 (cs := ?_) ?_ ?_; rotate_left; (repeat (first | exact InK.here | refine InK.there ?_)); exact rfl) | (refine Rdk.bw ?_ ?_; (repeat (first | exact InK.here | refine InK.there ?_)); first | assumption | exact rfl) | (refine Rdk.bn ?_ ?_; (repeat (first | exact InK.here | refine InK.there ?_)); exact rfl) | (refine Rdk.in ?_; first | assumption | exact rfl) | exact Rdk.i1)))), ?_⟩
  repeat' (first|refine zz ?_|(refine zw ?_;refine And.intro ?_ ?_<;>intro hc)|(refine zv ?_;intro cv hv)|(refine za ?_;intro _)|refine zc ?_|(refine zd ?_;refine And.intro ?_ ?_<;>(intro e;(try simp only [Bool.not_eq_true',Bool.not_eq_false'] at e);subst e;try contradiction)))
  exact ⟨rfl, ⟨rfl, rfl, rfl, rfl, trivial⟩, c', hX', rfl⟩
theorem u8_i64 {x : Nat} (hx : x < 256) : apure .e (.toInt .i64 (.c (.int .u8 (.ofNat x)))) = some (.int .i64 (.ofNat x)) := by
  have e : apure .e (.toInt .i64 (.c (.int .u8 (.ofNat x)))) = some (.int .i64 (awrap .i64 (.ofNat x))) := rfl
  rw [e, awrap_eq]
  congr 2
  simp only [IntKind.wrap, IntKind.bits, IntKind.signed]
  simp
  omega
theorem mul2 {k : Nat} (hk : k ≤ 256) : abin .mul (.int .i64 (.ofNat 2)) (.int .i64 (.ofNat k)) = some (.int .i64 (.ofNat (2 * k))) := by
  have e : abin .mul (.int .i64 (.ofNat 2)) (.int .i64 (.ofNat k)) = some (.int .i64 (awrap .i64 (.ofNat (2 * k)))) := rfl
  rw [e, awrap_eq]
  congr 2
  simp only [IntKind.wrap, IntKind.bits, IntKind.signed]
  simp
  omega
theorem deep8 {n : Nat} {ring : Bool} (hn : n < 256) : CT Try.prog true 8 [.int .u8 (.ofNat n), .bool ring] [] fun w _ => w = .bool true := by
  have k11 := known11r.up (nd := true)
  have q0 := u8_i64 hn
  have k19 := (new19 (room := 2000) (by omega)).up (nd := true)
  have qk : abin .add (.int .i64 (.ofNat 1)) (.int .i64 (.ofNat n)) = some (.int .i64 (.ofNat (n + 1))) := by rw [Nat.add_comm]; exact add_nat (by omega)
  obtain ⟨k, hk⟩ : ∃ k, k = n + 1 := ⟨_, rfl⟩
  rw [← hk] at qk
  have hv0 : VOk (tv 0) := .inr ⟨.inl rfl, rfl⟩
  refine CT.enter mixed comp8 (Nat.le_of_ble_eq_true rfl) ?_
  repeat' (first|(refine zz ?_ (by refine iP (v:=?_) ?_; rotate_left; refine Ev.toInt rfl ?_; exact q0))|refine zz ?_|(refine zw ?_;refine And.intro ?_ ?_<;>intro hc)|(refine zv ?_;intro cv hv)|(refine za ?_;intro _)|refine zc ?_|(refine zd ?_;refine And.intro ?_ ?_<;>(intro e;(try simp only [Bool.not_eq_true',Bool.not_eq_false'] at e);subst e;try contradiction)))
  refine Rg.callM (m := []) rfl k19 .nil ?_
  rintro _ _ ⟨b, c, rfl, hX, rfl⟩
  have kt := (tableH hX (WOk.new (by omega)).ok).up (nd := true)
  rw [ch_new] at kt
  repeat' (first|(refine Rg.callM rfl kt (.cons (.here) (.nil)) ?_; rintro _ _ ⟨rfl, c1, hX1, rfl⟩)|refine zz ?_|(refine zw ?_;refine And.intro ?_ ?_<;>intro hc)|(refine zv ?_;intro cv hv)|(refine za ?_;intro _)|refine zc ?_|(refine zd ?_;refine And.intro ?_ ?_<;>(intro e;(try simp only [Bool.not_eq_true',Bool.not_eq_false'] at e);subst e;try contradiction)))
  rename_i b8 b10
  refine Cd.loop (k := k + 1) (Lp.drop (.cons (.there (.there (.here))) (.cons (.there (.here)) (.cons (.here) (.nil)))) (Lp.weak (l2 := [(1, .bool ring), (5, .int .i64 (.ofNat k)), (6, hP b), (8, .ptr b8 0 0 3), (10, .ptr b10 0 0 3), (11, .int .i64 (.ofNat (0 + 1)))]) ⟨rfl, rfl, rfl, rfl, rfl, rfl, trivial⟩ (deep8_loop (by omega) (by omega) ?_ (k + 1) 0 c1 (by omega) (by omega) hX1)))
  intro l' c2 hsub hX2
  show Cd _ _ _ _ _ _
  refine Cd.weak hsub ?_
  cases ring with
  | true =>
    repeat' (first|(refine stopAtD (c := r8_15) ?_)|refine zz ?_|(refine zw ?_;refine And.intro ?_ ?_<;>intro hc)|(refine zv ?_;intro cv hv)|(refine za ?_;intro _)|refine zc ?_|(refine zd ?_;refine And.intro ?_ ?_<;>(intro e;(try simp only [Bool.not_eq_true',Bool.not_eq_false'] at e);subst e;try contradiction)))
    refine ⟨?_⟩
    refine Cd.seq (Cd.weak (l2 := [(5, .int .i64 (.ofNat k)), (6, hP b), (8, .ptr b8 0 0 3), (10, .ptr b10 0 0 3)]) ⟨rfl, rfl, rfl, rfl, trivial⟩ (Cd.mono (m15 (by omega) hX2) ?_))
    rintro _ l' _ ⟨rfl, hsub, c3, hX3, rfl⟩
    show Cd _ _ _ _ _ _
    refine Cd.weak hsub ?_
    have ks := save12 hX3 (chWr (by omega)) hv0
    rw [ch_ring_none] at ks
    simp only [svE] at ks
    repeat' (first|(refine Rg.callM rfl ks (.cons (.here) (.nil)) ?_; rintro _ _ ⟨rfl, rfl⟩)|refine zz ?_|(refine zw ?_;refine And.intro ?_ ?_<;>intro hc)|(refine zv ?_;intro cv hv)|(refine za ?_;intro _)|refine zc ?_|(refine zd ?_;refine And.intro ?_ ?_<;>(intro e;(try simp only [Bool.not_eq_true',Bool.not_eq_false'] at e);subst e;try contradiction)))
    all_goals (first|refine ⟨.inr rfl,_,.t rfl .nil,?_⟩|refine ⟨.inr rfl,_,.t rfl (.t rfl .nil),?_⟩|refine ⟨.inr rfl,_,.t rfl (.t rfl (.t rfl .nil)),?_⟩|refine ⟨.inr rfl,_,.nil,?_⟩|refine ⟨.inl rfl,_,.t rfl .nil,?_⟩|refine ⟨.inl rfl,_,.nil,?_⟩|refine ⟨.inr rfl,_,.cn rfl (by exact zN) .nil,?_⟩|refine ⟨.inr rfl,_,.cn rfl (by exact zN) (.t rfl .nil),?_⟩)
    all_goals (subst_vars; rfl)
  | false =>
    have hW := chW (j := k - 1) (by omega)
    have ks := save12 hX2 hW hv0
    by_cases h200 : 200 < k
    · rw [ch_none (by omega) (by omega)] at ks
      simp only [svE] at ks
      repeat' (first|(refine Rg.callM rfl ks (.cons (.here) (.nil)) ?_; rintro _ _ ⟨rfl, rfl⟩)|refine zz ?_|(refine zw ?_;refine And.intro ?_ ?_<;>intro hc)|(refine zv ?_;intro cv hv)|(refine za ?_;intro _)|refine zc ?_|(refine zd ?_;refine And.intro ?_ ?_<;>(intro e;(try simp only [Bool.not_eq_true',Bool.not_eq_false'] at e);subst e;try contradiction)))
      all_goals (first|refine ⟨.inr rfl,_,.t rfl .nil,?_⟩|refine ⟨.inr rfl,_,.t rfl (.t rfl .nil),?_⟩|refine ⟨.inr rfl,_,.t rfl (.t rfl (.t rfl .nil)),?_⟩|refine ⟨.inr rfl,_,.nil,?_⟩|refine ⟨.inl rfl,_,.t rfl .nil,?_⟩|refine ⟨.inl rfl,_,.nil,?_⟩|refine ⟨.inr rfl,_,.cn rfl (by exact zN) .nil,?_⟩|refine ⟨.inr rfl,_,.cn rfl (by exact zN) (.t rfl .nil),?_⟩)
      all_goals (subst_vars; rfl)
    · obtain ⟨s, he⟩ := ch_some (j := k - 1) (f := 200) (i := 0) (l := 200) (by omega) (by omega) (by omega)
      have hs := enc_lt hW hv0 he
      obtain ⟨z1, z2, z3⟩ := enc_size hW hv0 he
      obtain ⟨vU, hd, _⟩ := enc_dec (s := s) (p := []) (q := []) hW hv0 he (by simp)
      simp only [List.length_nil, Nat.zero_add] at hd
      obtain ⟨hr, hnd⟩ := right_of hd
      have k14 := (right14 hs (by omega)).up (nd := true)
      have k16 := (needs16 hs (by omega)).up (nd := true)
      rw [hr] at k14
      rw [hnd, show 2 * (k - 1 + 1 - 0) - 1 = 2 * k - 1 by omega] at k16
      rw [he] at ks
      simp only [svE] at ks
      have e1 := mul2 (k := k) (by omega)
      have e2 := sub2 (n := 2 * k) (a := 1) (by omega) (by omega)
      repeat' (first|(refine Rg.callM rfl ks (.cons (.here) (.nil)) ?_; rintro _ _ ⟨rfl, rfl⟩)|refine zz ?_|(refine zw ?_;refine And.intro ?_ ?_<;>intro hc)|(refine zv ?_;intro cv hv)|(refine za ?_;intro _)|refine zc ?_|(refine zd ?_;refine And.intro ?_ ?_<;>(intro e;(try simp only [Bool.not_eq_true',Bool.not_eq_false'] at e);subst e;try contradiction)))
      all_goals (first|refine ⟨.inr rfl,_,.t rfl .nil,?_⟩|refine ⟨.inr rfl,_,.t rfl (.t rfl .nil),?_⟩|refine ⟨.inr rfl,_,.t rfl (.t rfl (.t rfl .nil)),?_⟩|refine ⟨.inr rfl,_,.nil,?_⟩|refine ⟨.inl rfl,_,.t rfl .nil,?_⟩|refine ⟨.inl rfl,_,.nil,?_⟩|refine ⟨.inr rfl,_,.cn rfl (by exact zN) .nil,?_⟩|refine ⟨.inr rfl,_,.cn rfl (by exact zN) (.t rfl .nil),?_⟩)
      all_goals (subst_vars; rfl)
end
end Go.Proofs.Ytlflpjjmkigepaa
