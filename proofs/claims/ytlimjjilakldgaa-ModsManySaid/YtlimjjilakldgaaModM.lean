/- ModsMany: what is known of the table; a name is added. -/
import Derived.Test.YtlimjjilakldgaaModL
set_option autoImplicit false
set_option maxRecDepth 100000
set_option maxHeartbeats 4000000
set_option linter.unusedVariables false
set_option linter.unusedSimpArgs false
namespace Go.Proofs.Ytlimjjilakldgaa
open Go Go.Abs
section
variable {α : Type} [DecidableEq α]
theorem under_self (k : α) (v : AV) (ck : Nat) : ∀ es : List (EntG α), ∃ j, underG k (putG k v ck es) = some (v, j)
  | [] => ⟨ck, by simp [putG, underG]⟩
  | (a, x, n) :: r => by
    by_cases h : k = a
    · exact ⟨n, by simp [putG, underG, h]⟩
    · obtain ⟨j, hj⟩ := under_self k v ck r
      exact ⟨j, by simp [putG, underG, h, hj]⟩
theorem under_ne {k k' : α} (h : k ≠ k') (v : AV) (ck : Nat) : ∀ es : List (EntG α), underG k (putG k' v ck es) = underG k es
  | [] => by simp [putG, underG, h]
  | (a, x, n) :: r => by
    by_cases e : k' = a
    · subst e
      simp [putG, underG, h]
    · simp only [putG, if_neg e, underG, under_ne h v ck r]
end
structure Inv (os : List (List Nat)) (tes : List (EntG (List Nat))) (ues : List (EntG Nat)) (n : Nat) : Prop where
  len : os.length = n
  max : n ≤ 16
  sorted : os.Pairwise fun a b => nless a b = true
  out : ∀ s, s ∉ os → underG s tes = none
  inn : ∀ s, s ∈ os → ∃ i j p g j', underG s tes = some (valA ⟨((i : Nat) : Int), -1, [0]⟩, j) ∧ underG i ues = some (.agg (sR s 1 (sV p g)), j') ∧ i < n
theorem Inv.none : Inv [] [] [] 0 := ⟨rfl, by decide, .nil, fun _ _ => rfl, fun _ h => by cases h⟩
theorem Inv.more {os : List (List Nat)} {tes : List (EntG (List Nat))} {ues : List (EntG Nat)} {n ck ck2 p g : Nat} {s : List Nat} (h : Inv os tes ues n) (hn : n < 16) (hs : s ∉ os) : Inv (insK s os) (putG s (valA ⟨(n : Int), -1, [0]⟩) ck tes) (putG n (.agg (sR s 1 (sV p g))) ck2 ues) (n + 1) where
  len := by rw [(insK_perm s os).length_eq, List.length_cons, h.len]
  max := hn
  sorted := insK_sorted h.sorted hs
  out := fun x hx => by
    rw [(insK_perm s os).mem_iff, List.mem_cons, not_or] at hx
    rw [under_ne hx.1]
    exact h.out x hx.2
  inn := fun x hx => by
    rw [(insK_perm s os).mem_iff, List.mem_cons] at hx
    rcases hx with rfl | hx
    · obtain ⟨j, hj⟩ := under_self x (valA ⟨(n : Int), -1, [0]⟩) ck tes
      obtain ⟨j', hj'⟩ := under_self n (.agg (sR x 1 (sV p g))) ck2 ues
      exact ⟨n, j, p, g, j', hj, hj', Nat.lt_succ_self n⟩
    · obtain ⟨i, j, p', g', j', h1, h2, h3⟩ := h.inn x hx
      refine ⟨i, j, p', g', j', ?_, ?_, Nat.lt_succ_of_lt h3⟩
      · rw [under_ne (fun e => hs (by rw [← e]; exact hx))]
        exact h1
      · rw [under_ne (by omega)]
        exact h2
abbrev MM (b : Nat) (N : OS) (mt mu n ck : Nat) (tes : List (EntG (List Nat))) (ck2 : Nat) (ues : List (EntG Nat)) : Mem := [mB b (N.v 1) mt mu n, tC mt ck tes, uC mu ck2 ues, N.c]
section
variable {b mt mu n ck ck2 q r : Nat} {N : OS} {os : List (List Nat)} {tes : List (EntG (List Nat))} {ues : List (EntG Nat)} {s : List Nat}
/-- What comes of one more name. -/
def After (b mt mu n : Nat) (os : List (List Nat)) (s : List Nat) (w : AV) (K' : Mem) : Prop := ∃ id e N' os' n' ck' tes' ck2' ues', w = .tup [.int .i64 (.ofNat id), .int .i64 (.ofNat e)] ∧ N'.ok 1 ∧ N'.rows = os'.map txR ∧ Inv os' tes' ues' n' ∧ K' = MM b N' mt mu n' ck' tes' ck2' ues' ∧ ((e = 0 ∧ n' = n + 1 ∧ s ∉ os) ∨ (e ≠ 0 ∧ n' = n ∧ (e = 3 → n = 16)))
theorem addM (h1 : Txt s) (hN : N.ok 1) (hr : N.rows = os.map txR) (I : Inv os tes ues n) : CT Try.prog false 11 [mP b, .agg (sR s 1 (sV q 0))] [mB b (N.v 1) mt mu n, tC mt ck tes, uC mu ck2 ues, pK q 0 r 0 [102] false, cK r 0 false, N.c] (After b mt mu n os s) := by
  have hf : Txt [102] := ⟨by decide, by decide⟩
  have hbad : ∀ e : Nat, e ≠ 0 → (e = 3 → n = 16) → CT Try.prog false 11 [mP b, .agg (sR s 1 (sV q 0))] (aM b (N.v 1) mt mu n ck tes ck2 ues q 0 r 0 [102] false false) (fun w K' => w = .tup [.int .i64 (.ofNat 0), .int .i64 (.ofNat e)] ∧ K' = aM b (N.v 1) mt mu n ck tes ck2 ues q 0 r 0 [102] false false) → CT Try.prog false 11 [mP b, .agg (sR s 1 (sV q 0))] [mB b (N.v 1) mt mu n, tC mt ck tes, uC mu ck2 ues, pK q 0 r 0 [102] false, cK r 0 false, N.c] (After b mt mu n os s) := by
    intro e he h3 k
    refine CT.dropR (k.sel (.cons (.here) (.cons (.here) (.cons (.here) (.cons (.here) (.cons (.here) (.nil))))))) ?_
    rintro w K' ⟨m', rfl, rfl, rfl⟩
    exact ⟨_, _, (.cons (.here) (.cons (.here) (.cons (.here) (.cons (.there (.there (.here))) (.nil))))), _, _, N, os, n, ck, tes, ck2, ues, rfl, hN, hr, I, rfl, .inr ⟨he, rfl, h3⟩⟩
  cases hB : sB s 1 [102] with
  | false => exact hbad 4 (by decide) (fun e => by omega) (add11B h1 hf hB)
  | true =>
    by_cases hs : s ∈ os
    · obtain ⟨i, j, p, g, j', hu, hv, _⟩ := I.inn s hs
      have km := may19S (b := b) (nv := N.v 1) (mt := mt) (mu := mu) (next := n) (ck := ck) (ck2 := ck2) (s := s) (ver := 1) (x := ⟨(i : Int), -1, [0]⟩) (c := i) hu rfl rfl hv
      rw [if_pos (by decide)] at km
      exact hbad 15 (by decide) (fun e => by omega) (add11E h1 hf hB (by decide) km)
    · have hu := I.out s hs
      by_cases hn : n < 16
      · refine (add11G h1 hf hB (by omega) hN hr (by rw [I.len]; exact hn) hu).mono ?_
        rintro w K' ⟨rfl, N', p', g', hN', hr', rfl⟩
        exact ⟨_, _, N', _, _, _, _, _, _, rfl, hN', hr', I.more hn hs, rfl, .inl ⟨rfl, rfl, hs⟩⟩
      · have hm := I.max
        have km := (may19F (b := b) (mt := mt) (mu := mu) (next := n) (ck := ck) (s := s) (ver := 1) hN (by rw [hr, List.length_map, I.len]; omega) hu).sel (K := [mB b (N.v 1) mt mu n, tC mt ck tes, uC mu ck2 ues]) (.cons (.here) (.cons (.here) (.nil)))
        refine hbad 3 (by decide) (fun _ => by omega) (add11E h1 hf hB (by decide) (km.mono ?_))
        rintro w K' ⟨m', rfl, rfl, rfl⟩
        exact ⟨rfl, rfl⟩
theorem cur14M (I : Inv os tes ues n) : CT Try.prog false 14 [mP b, .str s] [mB b (N.v 1) mt mu n, tC mt ck tes] fun w K' => (∃ id, w = .tup [.int .i64 id, .bool (decide (s ∈ os))]) ∧ K' = [mB b (N.v 1) mt mu n, tC mt ck tes] := by
  by_cases hs : s ∈ os
  · obtain ⟨i, j, p, g, j', hu, hv, _⟩ := I.inn s hs
    refine (cur14S (x := ⟨(i : Int), -1, [0]⟩) hu (by simp)).mono ?_
    rintro w K' ⟨rfl, rfl⟩
    exact ⟨⟨_, by rw [decide_eq_true hs]⟩, rfl⟩
  · refine (cur14N (I.out s hs)).mono ?_
    rintro w K' ⟨rfl, rfl⟩
    exact ⟨⟨_, by rw [decide_eq_false hs]⟩, rfl⟩
end
end Go.Proofs.Ytlimjjilakldgaa

namespace Go.Proofs.Ytlimjjilakldgaa
open Go Go.Abs
attribute [local irreducible] Cmp Rg Dw Cd Lp Ev Rdk CT Upd InK
abbrev mS (nV : AV) (b n i : Nat) : SL := [(0, nV), (3, mP b), (4, .int .i64 (.ofNat n)), (5, .int .i64 (.ofNat i))]
section
variable {b mt mu n ck ck2 i e k : Nat} {nV : AV} {N L : OS} {os ns : List (List Nat)} {tes : List (EntG (List Nat))} {ues : List (EntG Nat)} {s : List Nat} {M : Mem} {met : Bool}
theorem n6m (hV : ASl 1 nV (ns.map txR)) (hl : ns.length ≤ 9223372036854775807) (hi : i ≤ 40) : Cd Try.prog false (.seq (.reg r5_6) (.cond (.t 22) .skip (.ext 0))) (mS nV b n i) M fun x l K => Sub2 (mS nV b n i) l ∧ K = M ∧ ((x = .nrm ∧ i < 40 ∧ i < ns.length) ∨ x = .ext 0) := by
  have l1 := hV.len
  rw [List.length_map] at l1
  by_cases h1 : i < ns.length
  · by_cases h2 : i < 40
    · repeat' (first|refine zz ?_|(refine zv ?_;intro cv hv)|(refine za ?_;intro _)|refine zc ?_|(refine zd ?_;refine And.intro ?_ ?_<;>(intro e;(try simp only [Bool.not_eq_true',Bool.not_eq_false'] at e);subst e;try contradiction)))
      exact ⟨⟨rfl, rfl, rfl, rfl, trivial⟩, rfl, .inl ⟨rfl, h2, h1⟩⟩
    · repeat' (first|refine zz ?_|(refine zv ?_;intro cv hv)|(refine za ?_;intro _)|refine zc ?_|(refine zd ?_;refine And.intro ?_ ?_<;>(intro e;(try simp only [Bool.not_eq_true',Bool.not_eq_false'] at e);subst e;try contradiction)))
      exact ⟨⟨rfl, rfl, rfl, rfl, trivial⟩, rfl, .inr rfl⟩
  · repeat' (first|refine zz ?_|(refine zv ?_;intro cv hv)|(refine za ?_;intro _)|refine zc ?_|(refine zd ?_;refine And.intro ?_ ?_<;>(intro e;(try simp only [Bool.not_eq_true',Bool.not_eq_false'] at e);subst e;try contradiction)))
    exact ⟨⟨rfl, rfl, rfl, rfl, trivial⟩, rfl, .inr rfl⟩
theorem n7m (hV : ASl 1 nV (ns.map txR)) (hi : ns[i]? = some s) (h1 : Txt s) : Cd Try.prog false (.seq (.reg r5_7) (.cond (.t 30) (.ext 1) .skip)) (mS nV b n i) M fun x l K => Sub2 (mS nV b n i) l ∧ K = M ∧ (x = .nrm ∨ x = .ext 1) := by
  have hla := h1.1
  have q1 := hV.iadr (i := i) (r := txR s) (k := .i64) (by rw [List.getElem?_map, hi]; rfl)
  by_cases h : 100 < s.length
  · repeat' (first|refine zz ?_|(refine zv ?_;intro cv hv)|(refine za ?_;intro _)|refine zc ?_|(refine zd ?_;refine And.intro ?_ ?_<;>(intro e;(try simp only [Bool.not_eq_true',Bool.not_eq_false'] at e);subst e;try contradiction)))
    exact ⟨⟨rfl, rfl, rfl, rfl, trivial⟩, rfl, .inr rfl⟩
  · repeat' (first|refine zz ?_|(refine zv ?_;intro cv hv)|(refine za ?_;intro _)|refine zc ?_|(refine zd ?_;refine And.intro ?_ ?_<;>(intro e;(try simp only [Bool.not_eq_true',Bool.not_eq_false'] at e);subst e;try contradiction)))
    exact ⟨⟨rfl, rfl, rfl, rfl, trivial⟩, rfl, .inl rfl⟩
theorem n8m (hV : ASl 1 nV (ns.map txR)) (hi : ns[i]? = some s) (I : Inv os tes ues n) : Cd Try.prog false (.reg r5_8) (mS nV b n i) (MM b N mt mu n ck tes ck2 ues) fun x l K => x = .nrm ∧ Sub2 ((7, .bool (decide (s ∈ os))) :: mS nV b n i) l ∧ ∃ r, Sel K (MM b N mt mu n ck tes ck2 ues) r := by
  have q1 := hV.iadr (i := i) (r := txR s) (k := .i64) (by rw [List.getElem?_map, hi]; rfl)
  repeat' (first|refine zz ?_|(refine zv ?_;intro cv hv)|(refine za ?_;intro _)|refine zc ?_|(refine zd ?_;refine And.intro ?_ ?_<;>(intro e;(try simp only [Bool.not_eq_true',Bool.not_eq_false'] at e);subst e;try contradiction)))
  refine Rg.callM rfl (cur14M I) (.cons (.here) (.cons (.here) (.nil))) ?_
  rintro _ _ ⟨⟨id, rfl⟩, rfl⟩
  repeat' (first|refine zz ?_|(refine zv ?_;intro cv hv)|(refine za ?_;intro _)|refine zc ?_|(refine zd ?_;refine And.intro ?_ ?_<;>(intro e;(try simp only [Bool.not_eq_true',Bool.not_eq_false'] at e);subst e;try contradiction)))
  exact ⟨rfl, ⟨rfl, rfl, rfl, rfl, rfl, trivial⟩, _, Sel.all _⟩
theorem n9m (hV : ASl 1 nV (ns.map txR)) (hi : ns[i]? = some s) (h1 : Txt s) (hN : N.ok 1) (hr : N.rows = os.map txR) (I : Inv os tes ues n) : Cd Try.prog false (.reg r5_9) ((7, .bool met) :: mS nV b n i) (MM b N mt mu n ck tes ck2 ues) fun x l K => x = .nrm ∧ ∃ e N' os' n' ck' tes' ck2' ues', Sub2 ((9, .int .i64 (.ofNat e)) :: (7, .bool met) :: mS nV b n i) l ∧ N'.ok 1 ∧ N'.rows = os'.map txR ∧ Inv os' tes' ues' n' ∧ (∃ r, Sel K (MM b N' mt mu n' ck' tes' ck2' ues') r) ∧ ((e = 0 ∧ n' = n + 1 ∧ s ∉ os) ∨ (e ≠ 0 ∧ n' = n ∧ (e = 3 → n = 16))) := by
  have q1 := hV.iadr (i := i) (r := txR s) (k := .i64) (by rw [List.getElem?_map, hi]; rfl)
  repeat' (first|refine zz ?_|(refine zv ?_;intro cv hv)|(refine za ?_;intro _)|refine zc ?_|(refine zd ?_;refine And.intro ?_ ?_<;>(intro e;(try simp only [Bool.not_eq_true',Bool.not_eq_false'] at e);subst e;try contradiction)))
  refine Rg.callM rfl simple10s .nil ?_
  rintro _ _ ⟨q, r, rfl, rfl⟩
  refine Rg.callM rfl (addM h1 hN hr I) (.cons (.there (.there (.here))) (.cons (.there (.there (.here))) (.cons (.there (.there (.here))) (.cons (.here) (.cons (.here) (.cons (.here) (.nil))))))) ?_
  rintro _ _ ⟨id, e, N', os', n', ck', tes', ck2', ues', rfl, hN', hr', I', rfl, hx⟩
  repeat' (first|refine zz ?_|(refine zv ?_;intro cv hv)|(refine za ?_;intro _)|refine zc ?_|(refine zd ?_;refine And.intro ?_ ?_<;>(intro e;(try simp only [Bool.not_eq_true',Bool.not_eq_false'] at e);subst e;try contradiction)))
  exact ⟨rfl, e, N', os', n', ck', tes', ck2', ues', ⟨rfl, rfl, rfl, rfl, rfl, rfl, trivial⟩, hN', hr', I', ⟨_, Sel.all _⟩, hx⟩
theorem n10m (hn : n ≤ 16) : Cd Try.prog false (.seq (.reg r5_10) (.cond (.t 51) (.reg r5_11) .skip)) ((9, .int .i64 (.ofNat e)) :: (7, .bool met) :: mS nV b n i) M fun x l K => x = .nrm ∧ Sub2 ((9, .int .i64 (.ofNat e)) :: (7, .bool met) :: mS nV b (if e = 0 then n + 1 else n) i) l ∧ K = M := by
  by_cases h : e = 0
  · rw [if_pos h]
    subst h
    repeat' (first|refine zz ?_|(refine zv ?_;intro cv hv)|(refine za ?_;intro _)|refine zc ?_|(refine zd ?_;refine And.intro ?_ ?_<;>(intro e;(try simp only [Bool.not_eq_true',Bool.not_eq_false'] at e);subst e;try contradiction)))
    exact ⟨rfl, ⟨rfl, rfl, rfl, rfl, rfl, rfl, trivial⟩, rfl⟩
  · rw [if_neg h]
    repeat' (first|refine zz ?_|(refine zv ?_;intro cv hv)|(refine za ?_;intro _)|refine zc ?_|(refine zd ?_;refine And.intro ?_ ?_<;>(intro e;(try simp only [Bool.not_eq_true',Bool.not_eq_false'] at e);subst e;try contradiction)))
    exact ⟨rfl, ⟨rfl, rfl, rfl, rfl, rfl, rfl, trivial⟩, rfl⟩
theorem n12m (hn : n ≤ 16) (h : (e = 0 ∧ met = false) ∨ (e ≠ 0 ∧ (e = 3 → n = 16))) : Cd Try.prog false (.seq (.reg r5_12) (.cond (.t 70) (.seq (.reg r5_13) .ret) .skip)) ((9, .int .i64 (.ofNat e)) :: (7, .bool met) :: mS nV b n i) M fun x l K => x = .nrm ∧ Sub2 (mS nV b n i) l ∧ K = M := by
  rcases h with ⟨rfl, rfl⟩ | ⟨h0, h3⟩
  · repeat' (first|refine zz ?_|(refine zv ?_;intro cv hv)|(refine za ?_;intro _)|refine zc ?_|(refine zd ?_;refine And.intro ?_ ?_<;>(intro e;(try simp only [Bool.not_eq_true',Bool.not_eq_false'] at e);subst e;try contradiction)))
    exact ⟨rfl, ⟨rfl, rfl, rfl, rfl, trivial⟩, rfl⟩
  · by_cases he : e = 3
    · have := h3 he
      subst he this
      repeat' (first|refine zz ?_|(refine zv ?_;intro cv hv)|(refine za ?_;intro _)|refine zc ?_|(refine zd ?_;refine And.intro ?_ ?_<;>(intro e;(try simp only [Bool.not_eq_true',Bool.not_eq_false'] at e);subst e;try contradiction)))
      exact ⟨rfl, ⟨rfl, rfl, rfl, rfl, trivial⟩, rfl⟩
    · repeat' (first|refine zz ?_|(refine zv ?_;intro cv hv)|(refine za ?_;intro _)|refine zc ?_|(refine zd ?_;refine And.intro ?_ ?_<;>(intro e;(try simp only [Bool.not_eq_true',Bool.not_eq_false'] at e);subst e;try contradiction)))
      exact ⟨rfl, ⟨rfl, rfl, rfl, rfl, trivial⟩, rfl⟩
theorem n14m (hN : N.ok 1) (hr : N.rows = os.map txR) (I : Inv os tes ues n) : Cd Try.prog false (.reg r5_14) (mS nV b n i) (MM b N mt mu n ck tes ck2 ues) fun x l K => x = .nrm ∧ ∃ L : OS, L.ok 1 ∧ L.rows = os.map txR ∧ Sub2 ((10, L.v 1) :: mS nV b n i) l ∧ ∃ r, Sel K (L.c :: MM b N mt mu n ck tes ck2 ues) r := by
  have hlen := I.len
  have hmx := I.max
  repeat' (first|(refine Rg.callM rfl (names17 hN hr (by omega)) (.cons (.here) (.cons (.there (.there (.here))) (.nil))) ?_; rintro _ _ ⟨L, hL, hr', rfl, rfl⟩)|refine zz ?_|(refine zv ?_;intro cv hv)|(refine za ?_;intro _)|refine zc ?_|(refine zd ?_;refine And.intro ?_ ?_<;>(intro e;(try simp only [Bool.not_eq_true',Bool.not_eq_false'] at e);subst e;try contradiction)))
  exact ⟨rfl, L, hL, hr', ⟨rfl, rfl, rfl, rfl, rfl, trivial⟩, _, (.cons (.there (.there (.here))) (.cons (.here) (.cons (.there (.here)) (.cons (.there (.here)) (.cons (.here) (.nil))))))⟩
theorem n15m (hL : L.ok 1) (hr : L.rows = os.map txR) (I : Inv os tes ues n) : Cd Try.prog false (.seq (.reg r5_15) (.cond (.t 76) (.seq (.reg r5_16) .ret) .skip)) ((10, L.v 1) :: mS nV b n i) M fun x l K => x = .nrm ∧ Sub2 ((10, L.v 1) :: mS nV b n i) l ∧ K = M := by
  have l1 := hL.len
  rw [hr, List.length_map, I.len] at l1
  have hmx := I.max
  repeat' (first|refine zz ?_|(refine zv ?_;intro cv hv)|(refine za ?_;intro _)|refine zc ?_|(refine zd ?_;refine And.intro ?_ ?_<;>(intro e;(try simp only [Bool.not_eq_true',Bool.not_eq_false'] at e);subst e;try contradiction)))
  exact ⟨rfl, ⟨rfl, rfl, rfl, rfl, rfl, trivial⟩, rfl⟩
theorem n18m (hL : L.ok 1) (hr : L.rows = os.map txR) (hol : os.length ≤ 16) (hk : k ≤ os.length + 1) : Cd Try.prog false (.seq (.reg r5_18) (.cond (.t 80) .skip (.ext 2))) ((11, .int .i64 (.ofNat k)) :: (10, L.v 1) :: mS nV b n i) M fun x l K => Sub2 ((11, .int .i64 (.ofNat k)) :: (10, L.v 1) :: mS nV b n i) l ∧ K = M ∧ ((x = .nrm ∧ k < os.length) ∨ x = .ext 2) := by
  have l1 := hL.len
  rw [hr, List.length_map] at l1
  by_cases h1 : k < os.length
  · repeat' (first|refine zz ?_|(refine zv ?_;intro cv hv)|(refine za ?_;intro _)|refine zc ?_|(refine zd ?_;refine And.intro ?_ ?_<;>(intro e;(try simp only [Bool.not_eq_true',Bool.not_eq_false'] at e);subst e;try contradiction)))
    exact ⟨⟨rfl, rfl, rfl, rfl, rfl, rfl, trivial⟩, rfl, .inl ⟨rfl, h1⟩⟩
  · repeat' (first|refine zz ?_|(refine zv ?_;intro cv hv)|(refine za ?_;intro _)|refine zc ?_|(refine zd ?_;refine And.intro ?_ ?_<;>(intro e;(try simp only [Bool.not_eq_true',Bool.not_eq_false'] at e);subst e;try contradiction)))
    exact ⟨⟨rfl, rfl, rfl, rfl, rfl, rfl, trivial⟩, rfl, .inr rfl⟩
theorem n19m (hL : L.ok 1) (hr : L.rows = os.map txR) (hol : os.length ≤ 16) (hs : os.Pairwise fun a b => nless a b = true) (hk : k + 1 < os.length) : Cd Try.prog false (.seq (.draw r5_19) (.cond (.t 92) (.seq (.reg r5_20) .ret) .skip)) ((11, .int .i64 (.ofNat (k + 1))) :: (10, L.v 1) :: mS nV b n i) (L.c :: M) fun x l K => x = .nrm ∧ Sub2 ((11, .int .i64 (.ofNat (k + 1))) :: (10, L.v 1) :: mS nV b n i) l ∧ K = L.c :: M := by
  obtain ⟨x, hx⟩ : ∃ x, os[k]? = some x := ⟨_, List.getElem?_eq_getElem (by omega)⟩
  obtain ⟨y, hy⟩ : ∃ y, os[k + 1]? = some y := ⟨_, List.getElem?_eq_getElem hk⟩
  have hxy : nless x y = true := by
    have := List.pairwise_iff_getElem.1 hs k (k + 1) (by omega) hk (by omega)
    rw [List.getElem?_eq_getElem (by omega)] at hx hy
    cases hx; cases hy
    exact this
  have hrx : (os.map txR)[k]? = some (txR x) := by rw [List.getElem?_map, hx]; rfl
  have hry : (os.map txR)[k + 1]? = some (txR y) := by rw [List.getElem?_map, hy]; rfl
  obtain ⟨id, g, e⟩ := hL.at (i := k) (r := txR x) (by rw [hr]; exact hrx)
  rw [hr] at e
  subst e
  have a1 : abin .sub (.int .i64 (.ofNat (k + 1))) (.int .i64 (.ofNat 1)) = some (.int .i64 (.ofNat k)) := by
    have := sub_nat (a := k + 1) (b := 1) (by omega) (by omega)
    simpa using this
  have q1 := iadr_slc (sz := 1) (b := id) (g := g) (off := 0) (len := (os.map txR).length) (cap := (os.map txR).length) (i := k) (k := .i64) (by rw [List.length_map]; omega)
  have q2 := iadr_slc (sz := 1) (b := id) (g := g) (off := 0) (len := (os.map txR).length) (cap := (os.map txR).length) (i := k + 1) (k := .i64) (by rw [List.length_map]; omega)
  have r1 : Rdk (OS.c ⟨some (id, g), os.map txR⟩ :: M) .load1 (.ptr id g (0 + k * 1) 1) (.ptr id g (0 + k * 1) 1) (.str x) := Rdk.cel0 (lm := 0) .here (txRows os) hrx rfl
  have r2 : Rdk (OS.c ⟨some (id, g), os.map txR⟩ :: M) .load1 (.ptr id g (0 + (k + 1) * 1) 1) (.ptr id g (0 + (k + 1) * 1) 1) (.str y) := Rdk.cel0 (lm := 0) .here (txRows os) hry rfl
  have e3 : abin .geq (.str x) (.str y) = some (.bool false) := by
    show some (AV.bool (!nless x y)) = _
    rw [hxy]; rfl
  repeat' (first|refine zz ?_|(refine zv ?_;intro cv hv)|(refine za ?_;intro _)|refine zc ?_|(refine zd ?_;refine And.intro ?_ ?_<;>(intro e;(try simp only [Bool.not_eq_true',Bool.not_eq_false'] at e);subst e;try contradiction)))
  exact ⟨rfl, ⟨rfl, rfl, rfl, rfl, rfl, rfl, trivial⟩, rfl⟩
theorem n21m (hk : k ≤ 16) : Cd Try.prog false (.reg r5_21) ((11, .int .i64 (.ofNat k)) :: (10, L.v 1) :: mS nV b n i) M fun x l K => x = .nrm ∧ Sub2 ((11, .int .i64 (.ofNat (k + 1))) :: (10, L.v 1) :: mS nV b n i) l ∧ K = M := by
  repeat' (first|refine zz ?_|(refine zv ?_;intro cv hv)|(refine za ?_;intro _)|refine zc ?_|(refine zd ?_;refine And.intro ?_ ?_<;>(intro e;(try simp only [Bool.not_eq_true',Bool.not_eq_false'] at e);subst e;try contradiction)))
  exact ⟨rfl, ⟨rfl, rfl, rfl, rfl, rfl, rfl, trivial⟩, rfl⟩
theorem n22m (hi : i < 40) : Cd Try.prog false (.reg r5_22) (mS nV b n i) M fun x l K => x = .nrm ∧ Sub2 (mS nV b n (i + 1)) l ∧ K = M := by
  repeat' (first|refine zz ?_|(refine zv ?_;intro cv hv)|(refine za ?_;intro _)|refine zc ?_|(refine zd ?_;refine And.intro ?_ ?_<;>(intro e;(try simp only [Bool.not_eq_true',Bool.not_eq_false'] at e);subst e;try contradiction)))
  exact ⟨rfl, ⟨rfl, rfl, rfl, rfl, trivial⟩, rfl⟩
theorem inner5 (hL : L.ok 1) (hr : L.rows = os.map txR) (hol : os.length ≤ 16) (hs : os.Pairwise fun a b => nless a b = true) :
    ∀ (f k : Nat), k ≤ os.length → os.length + 1 ≤ k + f → 1 ≤ f → Lp Try.prog false b5_0 f ((11, .int .i64 (.ofNat (k + 1))) :: (10, L.v 1) :: mS nV b n i) (L.c :: M) fun x l K => x = .ext 2 ∧ Sub2 (mS nV b n i) l ∧ K = L.c :: M := by
  intro f
  induction f with
  | zero => intro k h1 h2 h3; omega
  | succ f ih =>
    intro k h1 h2 h3
    refine Lp.round ?_
    refine Cd.seq (Cd.mono (n18m hL hr hol (by omega)) ?_)
    rintro x l _ ⟨hl0, rfl, hx⟩
    rcases hx with ⟨rfl, hk⟩ | rfl
    · show Cd _ _ _ _ _ _
      refine Cd.weak hl0 (Cd.seq (Cd.blk (Cd.mono (n19m hL hr hol hs hk) ?_)))
      rintro _ l _ ⟨rfl, hl1, rfl⟩
      show Cd _ _ _ _ _ _
      refine Cd.weak hl1 (Cd.mono (n21m (by omega)) ?_)
      rintro _ l _ ⟨rfl, hl2, rfl⟩
      exact Lp.weak hl2 (ih (k + 1) (by omega) (by omega) (by omega))
    · exact ⟨rfl, by obtain ⟨_, _, h⟩ := hl0; exact h, rfl⟩
theorem round5 (hV : ASl 1 nV (ns.map txR)) (hi : ns[i]? = some s) (h1 : Txt s) (hN : N.ok 1) (hr : N.rows = os.map txR) (I : Inv os tes ues n) :
    Cd Try.prog false (.blk 1 (.seq (.seq (.reg r5_7) (.cond (.t 30) (.ext 1) .skip)) (.seq (.reg r5_8) (.seq (.reg r5_9) (.seq (.seq (.reg r5_10) (.cond (.t 51) (.reg r5_11) .skip)) (.seq (.seq (.reg r5_12) (.cond (.t 70) (.seq (.reg r5_13) .ret) .skip)) (.seq (.reg r5_14) (.seq (.seq (.reg r5_15) (.cond (.t 76) (.seq (.reg r5_16) .ret) .skip)) (.seq (.reg r5_17) (.blk 2 (.loop b5_0))))))))))) (mS nV b n i) (MM b N mt mu n ck tes ck2 ues)
      fun x l K => x = .nrm ∧ ∃ N' os' n' ck' tes' ck2' ues', Sub2 (mS nV b n' i) l ∧ N'.ok 1 ∧ N'.rows = os'.map txR ∧ Inv os' tes' ues' n' ∧ ∃ r, Sel K (MM b N' mt mu n' ck' tes' ck2' ues') r := by
  refine Cd.blk (Cd.seq (Cd.mono (n7m hV hi h1) ?_))
  rintro x l _ ⟨hl, rfl, rfl | rfl⟩
  rotate_left
  · exact ⟨rfl, N, os, n, ck, tes, ck2, ues, hl, hN, hr, I, _, Sel.all _⟩
  show Cd _ _ _ _ _ _
  refine Cd.weak hl (Cd.seq (Cd.mono (n8m hV hi I) ?_))
  rintro _ l K ⟨rfl, hl, r, hs⟩
  show Cd _ _ _ _ _ _
  refine Cd.weak hl (Cd.drop hs (Cd.seq (Cd.mono (n9m hV hi h1 hN hr I) ?_)))
  rintro _ l K ⟨rfl, e, N', os', n', ck', tes', ck2', ues', hl, hN', hr', I', ⟨r, hs⟩, hx⟩
  show Cd _ _ _ _ _ _
  have hmx := I.max
  have hmx' := I'.max
  refine Cd.weak hl (Cd.drop hs (Cd.seq (Cd.mono (n10m hmx) ?_)))
  rintro _ l _ ⟨rfl, hl, rfl⟩
  show Cd _ _ _ _ _ _
  obtain rfl : (if e = 0 then n + 1 else n) = n' := by
    rcases hx with ⟨h0, h1, _⟩ | ⟨h0, h1, _⟩
    · rw [if_pos h0, h1]
    · rw [if_neg h0, h1]
  refine Cd.weak hl (Cd.seq (Cd.mono (n12m hmx' ?_) ?_))
  · rcases hx with ⟨h0, h1, h2⟩ | ⟨h0, h1, h2⟩
    · exact .inl ⟨h0, decide_eq_false h2⟩
    · exact .inr ⟨h0, fun h => by rw [if_neg h0]; exact h2 h⟩
  rintro _ l _ ⟨rfl, hl, rfl⟩
  show Cd _ _ _ _ _ _
  refine Cd.weak hl (Cd.seq (Cd.mono (n14m hN' hr' I') ?_))
  rintro _ l K ⟨rfl, L, hL, hrL, hl, r, hs⟩
  show Cd _ _ _ _ _ _
  refine Cd.weak hl (Cd.drop hs (Cd.seq (Cd.mono (n15m hL hrL I') ?_)))
  rintro _ l _ ⟨rfl, hl, rfl⟩
  show Cd _ _ _ _ _ _
  refine Cd.weak hl ?_
  have hlen := I'.len
  repeat' (first|(refine stopC (c := .blk 2 (.loop b5_0)) ?_)|refine zz ?_|(refine zv ?_;intro cv hv)|(refine za ?_;intro _)|refine zc ?_|(refine zd ?_;refine And.intro ?_ ?_<;>(intro e;(try simp only [Bool.not_eq_true',Bool.not_eq_false'] at e);subst e;try contradiction)))
  refine ⟨?_⟩
  refine Cd.weak (l2 := (11, .int .i64 (.ofNat (0 + 1))) :: (10, L.v 1) :: mS nV b _ i) ⟨rfl, rfl, rfl, rfl, rfl, rfl, trivial⟩ ?_
  refine Cd.blk (Cd.loop (k := os'.length + 1) (Lp.mono (inner5 hL hrL (by omega) I'.sorted (os'.length + 1) 0 (by omega) (by omega) (by omega)) ?_))
  rintro _ l _ ⟨rfl, hl, rfl⟩
  exact ⟨rfl, N', os', _, ck', tes', ck2', ues', hl, hN', hr', I', _, (.cons (.there (.here)) (.cons (.there (.here)) (.cons (.there (.here)) (.cons (.there (.here)) (.nil)))))⟩
theorem loop5m (hV : ASl 1 nV (ns.map txR)) (hl : ns.length ≤ 9223372036854775807) (hns : ∀ s, s ∈ ns → Txt s) :
    ∀ (f i n ck ck2 : Nat) (N : OS) (os : List (List Nat)) (tes : List (EntG (List Nat))) (ues : List (EntG Nat)), i ≤ 40 → 41 ≤ i + f → N.ok 1 → N.rows = os.map txR → Inv os tes ues n → Lp Try.prog false b5_1 f (mS nV b n i) (MM b N mt mu n ck tes ck2 ues) fun x l K => x = .ext 0 := by
  intro f
  induction f with
  | zero => intro i n ck ck2 N os tes ues h1 h2; omega
  | succ f ih =>
    intro i n ck ck2 N os tes ues h1 h2 hN hr I
    refine Lp.round ?_
    refine Cd.seq (Cd.mono (n6m hV hl h1) ?_)
    rintro x l _ ⟨hl0, rfl, hx⟩
    rcases hx with ⟨rfl, hi, hj⟩ | rfl
    · show Cd _ _ _ _ _ _
      obtain ⟨s, hs⟩ : ∃ s, ns[i]? = some s := ⟨_, List.getElem?_eq_getElem hj⟩
      refine Cd.weak hl0 (Cd.seq (Cd.mono (round5 hV hs (hns s (List.mem_of_getElem? hs)) hN hr I) ?_))
      rintro _ l K ⟨rfl, N', os', n', ck', tes', ck2', ues', hl', hN', hr', I', r, hsel⟩
      show Cd _ _ _ _ _ _
      refine Cd.weak hl' (Cd.drop hsel (Cd.mono (n22m hi) ?_))
      rintro _ l _ ⟨rfl, hl', rfl⟩
      exact Lp.weak hl' (ih (i + 1) n' ck' ck2' N' os' tes' ues' (by omega) (by omega) hN' hr' I')
    · rfl
end
theorem new7m : CT Try.prog false 7 [] [] fun w K' => ∃ b m1 m2, w = .ptr b 0 0 4 ∧ K' = [mB b .nilslc m1 m2 0, tC m1 0 [], uC m2 0 []] := by
  refine CT.enterS mixed comp7 (Nat.le_of_ble_eq_true rfl) ?_
  repeat' (first|(refine Rg.a Mk.mkmap fun m => ?_)|refine zz ?_|(refine zv ?_;intro cv hv)|(refine za ?_;intro _)|refine zc ?_|(refine zd ?_;refine And.intro ?_ ?_<;>(intro e;(try simp only [Bool.not_eq_true',Bool.not_eq_false'] at e);subst e;try contradiction)))
  (first|refine ⟨.inr rfl,_,.t rfl .nil,?_⟩|refine ⟨.inr rfl,_,.t rfl (.t rfl .nil),?_⟩|refine ⟨.inr rfl,_,.t rfl (.t rfl (.t rfl .nil)),?_⟩|refine ⟨.inr rfl,_,.nil,?_⟩|refine ⟨.inl rfl,_,.t rfl .nil,?_⟩|refine ⟨.inl rfl,_,.nil,?_⟩|refine ⟨.inr rfl,_,.cn rfl (by exact zN) .nil,?_⟩|refine ⟨.inr rfl,_,.cn rfl (by exact zN) (.t rfl .nil),?_⟩)
  exact ⟨_, _, (.cons (.here) (.cons (.there (.here)) (.cons (.here) (.nil)))), _, _, _, rfl, rfl⟩
theorem many5 {nV : AV} {ns : List (List Nat)} (hV : ASl 1 nV (ns.map txR)) (hl : ns.length ≤ 9223372036854775807) (hns : ∀ s, s ∈ ns → Txt s) : CT Try.prog false 5 [nV] [] fun w _ => w = .bool true := by
  have k8 := known8
  refine CT.enter mixed comp5 (Nat.le_of_ble_eq_true rfl) ?_
  repeat' (first|(refine Rg.callM rfl new7m .nil ?_; rintro _ _ ⟨b, m1, m2, rfl, rfl⟩)|(refine stopC (c := .blk 0 (.loop b5_1)) ?_)|refine zz ?_|(refine zv ?_;intro cv hv)|(refine za ?_;intro _)|refine zc ?_|(refine zd ?_;refine And.intro ?_ ?_<;>(intro e;(try simp only [Bool.not_eq_true',Bool.not_eq_false'] at e);subst e;try contradiction)))
  refine ⟨?_⟩
  refine Cd.weak (l2 := mS nV b 0 0) ⟨rfl, rfl, rfl, rfl, trivial⟩ ?_
  refine Cd.drop (m := [mB b .nilslc m1 m2 0, tC m1 0 [], uC m2 0 []]) (.cons (.here) (.cons (.here) (.cons (.here) (.nil)))) ?_
  refine Cd.perm (K2 := MM b ⟨none, []⟩ m1 m2 0 0 [] 0 []) (by simp [OS.c, OS.v]) ?_
  refine Cd.blk (Cd.loop (k := 41) (Lp.mono (loop5m hV hl hns 41 0 0 0 0 ⟨none, []⟩ [] [] [] (by omega) (by omega) OS.ok.nil rfl Inv.none) ?_))
  rintro _ l K rfl
  show Cd _ _ _ _ _ _
  refine Cd.weak (l2 := []) trivial ?_
  repeat' (first|refine zz ?_|(refine zv ?_;intro cv hv)|(refine za ?_;intro _)|refine zc ?_|(refine zd ?_;refine And.intro ?_ ?_<;>(intro e;(try simp only [Bool.not_eq_true',Bool.not_eq_false'] at e);subst e;try contradiction)))
  (first|refine ⟨.inr rfl,_,.t rfl .nil,?_⟩|refine ⟨.inr rfl,_,.t rfl (.t rfl .nil),?_⟩|refine ⟨.inr rfl,_,.t rfl (.t rfl (.t rfl .nil)),?_⟩|refine ⟨.inr rfl,_,.nil,?_⟩|refine ⟨.inl rfl,_,.t rfl .nil,?_⟩|refine ⟨.inl rfl,_,.nil,?_⟩|refine ⟨.inr rfl,_,.cn rfl (by exact zN) .nil,?_⟩|refine ⟨.inr rfl,_,.cn rfl (by exact zN) (.t rfl .nil),?_⟩)
  rw [← hv]; rfl
end Go.Proofs.Ytlimjjilakldgaa
