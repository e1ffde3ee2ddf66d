/- The table of modules by what it holds: a unit more. Plain laws. -/
import Derived.Test.YtlimjjilakldgaaGreatPlnE
set_option autoImplicit false
set_option maxRecDepth 100000
set_option linter.unusedVariables false
set_option linter.unusedSimpArgs false
set_option maxHeartbeats 4000000
namespace Go.Proofs.YtlimjjilakldgaaGreat
open Go Go.Abs
theorem fM_ins {V U : List Unt} {x : MO} {m : List Nat} : ∀ {L : List MO}, (∀ y, y ∈ L → y.nm ≠ x.nm) → fM ⟨insM x L, V⟩ m = if m = x.nm then some x else fM ⟨L, U⟩ m
 | [], _ => by
  simp only [fM, insM, List.find?_cons, List.find?_nil]
  by_cases h : x.nm = m
  ·rw [decide_eq_true h, if_pos h.symm]
  ·rw [decide_eq_false h, if_neg (fun e => h e.symm)]
 | y :: L, hn => by
  have ih := fM_ins (V := V) (U := U) (x := x) (m := m) (L := L) fun z hz => hn z (List.mem_cons_of_mem _ hz)
  have hy := hn y List.mem_cons_self
  simp only [fM] at ih
  simp only [fM, insM]
  split
  ·simp only [List.find?_cons]
   by_cases h : y.nm = m
   ·rw [decide_eq_true h, if_neg (fun e => hy (h.trans e))]
   ·rw [decide_eq_false h]
    exact ih
  ·simp only [List.find?_cons]
   by_cases h : x.nm = m
   ·rw [decide_eq_true h, if_pos h.symm]
   ·rw [decide_eq_false h, if_neg (fun e => h e.symm)]
theorem mem_ins {x y : MO} {L : List MO} : y ∈ insM x L ↔ y = x ∨ y ∈ L := by
 rw [insM_perm.mem_iff, List.mem_cons]
theorem insM_names {x : MO} : ∀ {L : List MO}, (insM x L).map (fun y => y.nm) = insK x.nm (L.map fun y => y.nm)
 | [] => rfl
 | y :: L => by
  have ih := insM_names (x := x) (L := L)
  simp only [insM]
  cases e : nless y.nm x.nm with
  | true =>
   simp only [if_true, List.map_cons, ih]
   simp [insK, insAt, List.takeWhile_cons, e]
  | false =>
   simp [insK, insAt, List.takeWhile_cons, e]
theorem insM_sorted {x : MO} {L : List MO} (h : L.Pairwise fun a b => nless a.nm b.nm = true) (hn : ∀ y, y ∈ L → y.nm ≠ x.nm) : (insM x L).Pairwise fun a b => nless a.nm b.nm = true := by
 have h1 : (L.map fun y => y.nm).Pairwise fun a b => nless a b = true := List.pairwise_map.2 h
 have h2 := insK_sorted (k := x.nm) h1 (by
  intro hc
  obtain ⟨y, hy, e⟩ := List.mem_map.1 hc
  exact hn y hy e)
 rw [← insM_names] at h2
 exact List.pairwise_map.1 h2
theorem hasU_ins {U V : List Unt} {x : MO} {L : List MO} {i : Nat} : hasU ⟨insM x L, V⟩ i = true ↔ hasU ⟨L, U⟩ i = true ∨ x.cur = i ∨ x.old = some i := by
 rw [hasU_iff, hasU_iff]
 constructor
 ·rintro ⟨y, hy, h⟩
  rcases mem_ins.1 hy with rfl | hy
  ·exact .inr h
  ·exact .inl ⟨y, hy, h⟩
 ·rintro (⟨y, hy, h⟩ | h)
  ·exact ⟨y, mem_ins.2 (.inr hy), h⟩
  ·exact ⟨x, mem_ins.2 (.inl rfl), h⟩
abbrev addF (k : Nat) (x : MO) : MO := ⟨x.nm, k, some x.cur, x.st⟩
theorem mem_upd {n : List Nat} {f : MO → MO} {L : List MO} {y : MO} (h : y ∈ updM n f L) : ∃ x, x ∈ L ∧ ((x.nm = n ∧ y = f x) ∨ (x.nm ≠ n ∧ y = x)) := by
 obtain ⟨x, hx, rfl⟩ := List.mem_map.1 h
 refine ⟨x, hx, ?_⟩
 split
 ·exact .inl ⟨by assumption, rfl⟩
 ·exact .inr ⟨by assumption, rfl⟩
theorem hasU_addF {U V : List Unt} {n : List Nat} {k : Nat} {L : List MO} {i : Nat} (hn : ∀ x, x ∈ L → x.nm = n → x.old = none) (he : ∃ x, x ∈ L ∧ x.nm = n) : hasU ⟨updM n (addF k) L, V⟩ i = true ↔ hasU ⟨L, U⟩ i = true ∨ i = k := by
 rw [hasU_iff, hasU_iff]
 constructor
 ·rintro ⟨y, hy, h⟩
  obtain ⟨x, hx, ⟨hxn, rfl⟩ | ⟨hxn, rfl⟩⟩ := mem_upd hy
  ·rcases h with h | h
   ·exact .inr h.symm
   ·exact .inl ⟨x, hx, .inl (Option.some.inj h)⟩
  ·exact .inl ⟨y, hx, h⟩
 ·rintro (⟨x, hx, h⟩ | rfl)
  ·refine ⟨_, List.mem_map.2 ⟨x, hx, rfl⟩, ?_⟩
   split
   ·rename_i hxn
    rcases h with h | h
    ·exact .inr (by rw [← h])
    ·rw [hn x hx hxn] at h; cases h
   ·exact h
  ·obtain ⟨x, hx, hxn⟩ := he
   exact ⟨_, List.mem_map.2 ⟨x, hx, rfl⟩, by rw [if_pos hxn]; exact .inl rfl⟩
theorem upd_sorted {n : List Nat} {f : MO → MO} (hf : ∀ x, (f x).nm = x.nm) {L : List MO} (h : L.Pairwise fun a b => nless a.nm b.nm = true) : (updM n f L).Pairwise fun a b => nless a.nm b.nm = true := by
 have h1 : (L.map fun y => y.nm).Pairwise fun a b => nless a b = true := List.pairwise_map.2 h
 rw [← updM_names (n := n) hf] at h1
 exact List.pairwise_map.1 h1
theorem may_old {s : MS} (hs : s.ok) {n : List Nat} {ver : Int} {x : MO} (hf : fM s n = some x) (hm : mMay s n ver = 0) : x.old = none ∧ ∃ u, s.U[x.cur]? = some u := by
 have hx := (fM_mem hf).1
 unfold mMay at hm
 rw [hf] at hm
 simp only at hm
 cases ho : x.old with
 | some o => rw [ho] at hm; cases hm
 | none => exact ⟨rfl, s.U[x.cur]'(hs.cur x hx), List.getElem?_eq_getElem _⟩
theorem MS.ok.lt {s : MS} (hs : s.ok) {i : Nat} (h : hasU s i = true) : i < s.U.length := by
 obtain ⟨x, hx, h⟩ := hasU_iff.1 h
 rcases h with rfl | h
 ·exact hs.cur x hx
 ·exact hs.old x i hx h
theorem MS.ok.add {s : MS} (hs : s.ok) {u : Unt} (hu : OkU u) : (mAdd s u).1.ok := by
 unfold mAdd
 split
 ·exact hs
 ·rename_i hc
  split
  ·exact hs
  ·rename_i hm
   have hm : mMay s u.name u.version = 0 := Decidable.not_not.1 hm
   have hc : (check u).1 = 0 := Decidable.not_not.1 hc
   have hck : ∀ v, v ∈ s.U ++ [u] → OkU v ∧ (check v).1 = 0 := by
    intro v hv
    rcases List.mem_append.1 hv with hv | hv
    ·exact hs.chk v hv
    ·rw [List.mem_singleton] at hv; subst hv; exact ⟨hu, hc⟩
   cases hf : fM s u.name with
   | some x =>
    obtain ⟨ho, _⟩ := may_old hs hf hm
    obtain ⟨hx, hxn⟩ := fM_mem hf
    have hno : ∀ y, y ∈ s.L → y.nm = u.name → y.old = none := fun y hy e => by rw [hs.uniq hy hx (e.trans hxn.symm)]; exact ho
    have h1 : ∀ y, y ∈ s.L → ∀ i, (y.cur = i ∨ y.old = some i) → i < s.U.length := fun y hy i h => hs.lt (hasU_iff.2 ⟨y, hy, h⟩)
    refine ⟨upd_sorted (f := addF s.U.length) (fun _ => rfl) hs.ord, by rw [updM_len]; exact hs.len, ?_, ?_, ?_, ?_, hck⟩
    ·intro y hy
     rw [List.length_append]
     obtain ⟨z, hz, ⟨_, rfl⟩ | ⟨_, rfl⟩⟩ := mem_upd hy
     ·show s.U.length < _ + 1; omega
     ·have := hs.cur y hz; show _ < _ + 1; omega
    ·intro y o hy h
     rw [List.length_append]
     obtain ⟨z, hz, ⟨_, rfl⟩ | ⟨_, rfl⟩⟩ := mem_upd hy
     ·have := hs.cur z hz
      have e : z.cur = o := Option.some.inj h
      show _ < _ + 1; omega
     ·have := hs.old y o hz h; show _ < _ + 1; omega
    ·intro y z i hy hz h k
     obtain ⟨y', hy', hy2⟩ := mem_upd hy
     obtain ⟨z', hz', hz2⟩ := mem_upd hz
     have key : ∀ w w' : MO, w' ∈ s.L → (w'.nm = u.name ∧ w = ⟨w'.nm, s.U.length, some w'.cur, w'.st⟩ ∨ w'.nm ≠ u.name ∧ w = w') → (w.cur = i ∨ w.old = some i) → (w'.nm = u.name ∧ i = s.U.length) ∨ ((w'.cur = i ∨ w'.old = some i) ∧ i < s.U.length) := by
      rintro w w' hw' (⟨e, rfl⟩ | ⟨_, rfl⟩) h
      ·rcases h with h | h
       ·exact .inl ⟨e, h.symm⟩
       ·have e2 : w'.cur = i := Option.some.inj h
        exact .inr ⟨.inl e2, by rw [← e2]; exact hs.cur w' hw'⟩
      ·exact .inr ⟨h, h1 _ hw' i h⟩
     have heq : y' = z' := by
      rcases key y y' hy' hy2 h with ⟨e1, e2⟩ | ⟨e1, e2⟩
      ·rcases key z z' hz' hz2 k with ⟨e3, e4⟩ | ⟨e3, e4⟩
       ·exact hs.uniq hy' hz' (e1.trans e3.symm)
       ·omega
      ·rcases key z z' hz' hz2 k with ⟨e3, e4⟩ | ⟨e3, e4⟩
       ·omega
       ·exact hs.inj y' z' i hy' hz' e1 e3
     subst heq
     rcases hy2 with ⟨e, rfl⟩ | ⟨e, rfl⟩
     ·rcases hz2 with ⟨_, rfl⟩ | ⟨e2, _⟩
      ·rfl
      ·exact absurd e e2
     ·rcases hz2 with ⟨e2, _⟩ | ⟨_, rfl⟩
      ·exact absurd e2 e
      ·rfl
    ·intro y hy h
     obtain ⟨z, hz, ⟨_, rfl⟩ | ⟨_, rfl⟩⟩ := mem_upd hy
     ·have e : z.cur = s.U.length := Option.some.inj h
      have := hs.cur z hz
      omega
     ·exact hs.ne y hz h
   | none =>
    have hnn := fM_none hf
    have hlen : s.L.length < 16 := by
     unfold mMay at hm
     rw [hf] at hm
     simp only at hm
     split at hm
     ·cases hm
     ·omega
    refine ⟨insM_sorted hs.ord hnn, by rw [insM_len]; omega, ?_, ?_, ?_, ?_, hck⟩
    ·intro y hy
     rw [List.length_append]
     rcases mem_ins.1 hy with rfl | hy
     ·show s.U.length < _ + 1; omega
     ·have := hs.cur y hy; show _ < _ + 1; omega
    ·intro y o hy h
     rw [List.length_append]
     rcases mem_ins.1 hy with rfl | hy
     ·cases h
     ·have := hs.old y o hy h; show _ < _ + 1; omega
    ·intro y z i hy hz h k
     have h1 : ∀ y, y ∈ s.L → ∀ i, (y.cur = i ∨ y.old = some i) → i < s.U.length := fun y hy i h => hs.lt (hasU_iff.2 ⟨y, hy, h⟩)
     rcases mem_ins.1 hy with rfl | hy
     ·rcases mem_ins.1 hz with rfl | hz
      ·rfl
      ·have := h1 z hz i k
       rcases h with h | h
       ·have h : s.U.length = i := h
        omega
       ·cases h
     ·rcases mem_ins.1 hz with rfl | hz
      ·have := h1 y hy i h
       rcases k with k | k
       ·have k : s.U.length = i := k
        omega
       ·cases k
      ·exact hs.inj y z i hy hz h k
    ·intro y hy h
     rcases mem_ins.1 hy with rfl | hy
     ·cases h
     ·exact hs.ne y hy h
theorem MS.ok.upd {s : MS} (hs : s.ok) {n : List Nat} {f : MO → MO} (hf : ∀ x, (f x).nm = x.nm ∧ (f x).cur = x.cur ∧ ((f x).old = x.old ∨ (f x).old = none)) : MS.ok ⟨updM n f s.L, s.U⟩ := by
 have key : ∀ y, y ∈ updM n f s.L → ∃ x, x ∈ s.L ∧ y.cur = x.cur ∧ (y.old = x.old ∨ y.old = none) ∧ ((x.nm = n ∧ y = f x) ∨ (x.nm ≠ n ∧ y = x)) := by
  intro y hy
  obtain ⟨x, hx, h⟩ := mem_upd hy
  refine ⟨x, hx, ?_, ?_, h⟩
  ·rcases h with ⟨_, rfl⟩ | ⟨_, rfl⟩
   ·exact (hf x).2.1
   ·rfl
  ·rcases h with ⟨_, rfl⟩ | ⟨_, rfl⟩
   ·exact (hf x).2.2
   ·exact .inl rfl
 refine ⟨upd_sorted (fun x => (hf x).1) hs.ord, by rw [updM_len]; exact hs.len, ?_, ?_, ?_, ?_, hs.chk⟩
 ·intro y hy
  obtain ⟨x, hx, h1, h2, h3⟩ := key y hy
  rw [h1]; exact hs.cur x hx
 ·intro y o hy ho
  obtain ⟨x, hx, h1, h2, h3⟩ := key y hy
  rcases h2 with h2 | h2
  ·exact hs.old x o hx (by rw [← h2]; exact ho)
  ·rw [h2] at ho; cases ho
 ·intro y z i hy hz h k
  obtain ⟨y', hy', a1, a2, a3⟩ := key y hy
  obtain ⟨z', hz', b1, b2, b3⟩ := key z hz
  have e : y' = z' := by
   refine hs.inj y' z' i hy' hz' ?_ ?_
   ·rcases h with h | h
    ·exact .inl (by rw [← a1]; exact h)
    ·rcases a2 with a2 | a2
     ·exact .inr (by rw [← a2]; exact h)
     ·rw [a2] at h; cases h
   ·rcases k with h | h
    ·exact .inl (by rw [← b1]; exact h)
    ·rcases b2 with a2 | a2
     ·exact .inr (by rw [← a2]; exact h)
     ·rw [a2] at h; cases h
  subst e
  rcases a3 with ⟨e, rfl⟩ | ⟨e, rfl⟩
  ·rcases b3 with ⟨_, rfl⟩ | ⟨e2, _⟩
   ·rfl
   ·exact absurd e e2
  ·rcases b3 with ⟨e2, _⟩ | ⟨_, rfl⟩
   ·exact absurd e2 e
   ·rfl
 ·intro y hy ho
  obtain ⟨x, hx, h1, h2, h3⟩ := key y hy
  rcases h2 with h2 | h2
  ·exact hs.ne x hx (by rw [← h2, ← h1]; exact ho)
  ·rw [h2] at ho; cases ho
theorem MS.ok.setS {s : MS} (hs : s.ok) {n st : List Nat} {r : Bool} : (mSetS s n st r).1.ok := by
 unfold mSetS
 split
 ·exact hs
 ·split
  ·exact hs.upd fun x => ⟨rfl, rfl, .inl rfl⟩
  ·exact hs
theorem MS.ok.purge {s : MS} (hs : s.ok) {n : List Nat} : (mPurge s n).1.ok := by
 unfold mPurge
 split
 ·exact hs
 ·split
  ·exact hs
  ·exact hs.upd fun x => ⟨rfl, rfl, .inr rfl⟩
theorem mAdd_len {s : MS} {u : Unt} : (mAdd s u).1.U.length ≤ s.U.length + 1 := by
 unfold mAdd
 split
 ·show s.U.length ≤ _; omega
 ·split
  ·show s.U.length ≤ _; omega
  ·split
   ·show (s.U ++ [u]).length ≤ _; simp
   ·show (s.U ++ [u]).length ≤ _; simp
theorem mSetS_U {s : MS} {n st : List Nat} {r : Bool} : (mSetS s n st r).1.U = s.U := by
 unfold mSetS
 split
 ·rfl
 ·split <;> rfl
theorem mPurge_U {s : MS} {n : List Nat} : (mPurge s n).1.U = s.U := by
 unfold mPurge
 split
 ·rfl
 ·split <;> rfl
end Go.Proofs.YtlimjjilakldgaaGreat
namespace Go.Proofs.YtlimjjilakldgaaGreat
open Go Go.Abs
theorem fpM_same {fn : List Nat} {pr : Int} {l m : List Proto} (h : SamePs l m) : ∀ {F i : Nat}, fpM fn pr (l.take F) i = fpM fn pr (m.take F) i := by
 induction h with
 | nil => intro F i; rfl
 | cons h1 _ ih =>
  intro F i
  cases F with
  | zero => rfl
  | succ F =>
   simp only [List.take_succ_cons, fpM, h1.1, h1.2.1]
   rw [ih]
theorem unit_funs {u : Unt} (h : unitB u = true) : 0 ≤ u.funs ∧ u.funs ≤ u.protos.length ∧ u.funs ≤ 32 := by
 simp only [unitB, Bool.and_eq_true, decide_eq_true_eq] at h
 obtain ⟨⟨⟨_, h3⟩, h4, _⟩, h5, h6⟩ := h
 omega
section
variable {b : Nat} {P R c : Chk} {s : MS} {n fn : List Nat} {pr : Int} {u : Unt}
theorem findM (h : HM b P s c) (hs : s.ok) : CT Try.prog false 23 [mP b, .str n, .str fn, .int .i64 pr] [c, P] fun w K' => w = findR (mFind s n fn pr) ∧ K' = [c, P] := by
 obtain ⟨X, hX, rfl⟩ := h
 have ht := hX.t n
 cases hf : fM s n with
 | none =>
  rw [hf] at ht
  rw [show mFind s n fn pr = none by unfold mFind; rw [hf]]
  refine CT.over (m := [mB b (X.N.v 1) X.mt X.mu s.U.length, tC X.mt X.ck X.tes]) (r := [uC X.mu X.ck2 X.ues, X.N.c, P]) (by simp) (find23N ht) ?_
  rintro v m' ⟨rfl, rfl⟩
  exact ⟨[(X.mem b s).flatten, P], by simp, rfl, rfl⟩
 | some x =>
  rw [hf] at ht
  obtain ⟨u0, u', h1, h2, h3, h4⟩ := hX.unit (hasU_cur (fM_mem hf).1)
  have hu := unit_funs (check_unit (hs.chk u0 (List.mem_iff_getElem?.2 ⟨_, h1⟩)).2)
  have hsm := h4.sml (unit_sml (check_unit (hs.chk u0 (List.mem_iff_getElem?.2 ⟨_, h1⟩)).2))
  have e : mFind s n fn pr = (fpM fn pr (u'.protos.take u'.funs.toNat) 0).map fun i => (x.cur, i) := by
   unfold mFind
   rw [hf]
   simp only [h1]
   rw [h4.funs, fpM_same h4.ps]
  rw [e]
  refine CT.over (m := [mB b (X.N.v 1) X.mt X.mu s.U.length, tC X.mt X.ck X.tes, uC X.mu X.ck2 X.ues, P]) (r := [X.N.c]) ?_ (find23S ht h2 h3 hsm (by rw [← h4.funs, ← h4.ps.len]; exact ⟨hu.1, hu.2.1⟩)) ?_
  ·have := chunk_perm [mB b (X.N.v 1) X.mt X.mu s.U.length, tC X.mt X.ck X.tes, uC X.mu X.ck2 X.ues, X.N.c, P] [0, 1, 2, 3, 4] [0, 1, 2, 4, 3] (by decide)
   simpa using this
  ·rintro v m' ⟨rfl, rfl⟩
   refine ⟨[(X.mem b s).flatten, P], ?_, rfl, rfl⟩
   have := chunk_perm [mB b (X.N.v 1) X.mt X.mu s.U.length, tC X.mt X.ck X.tes, uC X.mu X.ck2 X.ues, X.N.c, P] [0, 1, 2, 4, 3] [0, 1, 2, 3, 4] (by decide)
   simpa using this
theorem may_walk {X : PM} (hX : X.ok P s) {ver : Int} : CT Try.prog false 6 [mP b, .str n, .int .i64 ver] [mB b (X.N.v 1) X.mt X.mu s.U.length, tC X.mt X.ck X.tes, uC X.mu X.ck2 X.ues] fun w K' => w = .int .i64 (.ofNat (mMay s n ver)) ∧ K' = [mB b (X.N.v 1) X.mt X.mu s.U.length, tC X.mt X.ck X.tes, uC X.mu X.ck2 X.ues] := by
 have hlen := hX.N1.len
 rw [hX.N2, List.length_map] at hlen
 have key : ∃ vr, (∀ x, fM s n = some x → x.old = none → ∃ u' : Unt, lkG x.cur X.ues = some (.agg (unitR u')) ∧ u'.version = vr) ∧ mayN (fM s n) s.L.length vr ver = mMay s n ver := by
  unfold mMay
  cases hf : fM s n with
  | none => exact ⟨0, fun x hx => (by cases hx), rfl⟩
  | some x =>
   cases ho : x.old with
   | some o => exact ⟨0, fun y hy hn => (by cases hy; rw [ho] at hn; cases hn), by simp [mayN, ho]⟩
   | none =>
    obtain ⟨u, u', h1, h2, h3, h4⟩ := hX.unit (hasU_cur (fM_mem hf).1)
    refine ⟨u.version, fun y hy _ => ?_, ?_⟩
    ·cases hy
     exact ⟨u', h2, h4.version.symm⟩
    ·simp [mayN, ho, h1]
 obtain ⟨vr, k1, k2⟩ := key
 rw [← k2]
 exact may6 (hX.t n) hlen k1
theorem nm_rows {L : List MO} : L.map nmR = (L.map fun x => x.nm).map txR := by simp [nmR, txR]
theorem PM.ok.put {X : PM} (hX : X.ok P s) (hs : s.ok) {Q : Chk} {s' : MS} {N' : OS} {x' : MO} {u' : Unt} (hN : N'.ok 1) (hNr : N'.rows = s'.L.map nmR) (hU : s'.U = s.U ++ [u]) (hu : MemU Q u') (hsu : SameU u u') (hfm : ∀ m, fM s' m = if m = u.name then some x' else fM s m) (hhu : ∀ i, hasU s' i = true ↔ hasU s i = true ∨ i = s.U.length) :
  PM.ok ⟨N', X.mt, putNG u.name X.ck X.tes, putG u.name (valA (moV x')) X.ck X.tes, X.mu, putNG s.U.length X.ck2 X.ues, putG s.U.length (.agg (unitR u')) X.ck2 X.ues⟩ (P ++ Q) s' := by
 refine ⟨hN, hNr, hX.g1.put, ?_, hX.g2.put, ?_, ?_⟩
 ·intro m
  show lkG m (putG _ _ _ _) = _
  rw [lk_put, hfm m]
  by_cases hm : m = u.name
  ·rw [if_pos hm, if_pos hm]; rfl
  ·rw [if_neg hm, if_neg hm]; exact hX.t m
 ·intro i v hv
  change lkG i (putG _ _ _ _) = _ at hv
  rw [lk_put] at hv
  by_cases hi : i = s.U.length
  ·rw [if_pos hi] at hv
   cases hv
   refine ⟨(hhu i).2 (.inr hi), u, u', ?_, rfl, hu.mono fun id o h => List.mem_append_right _ h, hsu⟩
   rw [hU, hi]; simp
  ·rw [if_neg hi] at hv
   obtain ⟨h1, v0, v', h2, h3, h4, h5⟩ := hX.u1 i v hv
   refine ⟨(hhu i).2 (.inl h1), v0, v', ?_, h3, h4.mono fun id o h => List.mem_append_left _ h, h5⟩
   rw [hU, List.getElem?_append_left (List.getElem?_eq_some_iff.1 h2).1]
   exact h2
 ·intro i hi
  show (lkG i (putG _ _ _ _)).isSome = true
  rw [lk_put]
  by_cases he : i = s.U.length
  ·rw [if_pos he]; rfl
  ·rw [if_neg he]
   rcases (hhu i).1 hi with h | h
   ·exact hX.u2 i h
   ·exact absurd h he
theorem addM (h : HM b P s c) (hs : s.ok) (hu : RdU R u) (hm : unitB u = true → Sml u) (hnx : s.U.length < 1000000) (hc : CT Try.prog false 37 [.agg (unitR u)] [R] fun w K' => w = tup3 (check u) ∧ K' = [R]) :
  CT Try.prog false 14 [mP b, .agg (unitR u)] [c, R] fun w K' => w = .tup [.int .i64 (.ofNat (mAdd s u).2.1), .int .i64 (.ofNat (mAdd s u).2.2)] ∧ ∃ c' Q, HM b (P ++ Q) (mAdd s u).1 c' ∧ K' = [c', R, Q] := by
 obtain ⟨X, hX, rfl⟩ := h
 have hsame : HM b (P ++ []) s (X.mem b s).flatten := by rw [List.append_nil]; exact ⟨X, hX, rfl⟩
 have p1 : ([(X.mem b s).flatten, R] : Mem).flatten.Perm (adM b (X.N.v 1) X.mt X.mu s.U.length X.ck X.tes X.ck2 X.ues X.N.c R ++ []).flatten := by simp
 rcases hck : check u with ⟨e, f, g⟩
 rw [hck] at hc
 by_cases he : e ≠ 0
 ·rw [show mAdd s u = (s, 0, e) by unfold mAdd; rw [hck, if_pos he]]
  refine CT.over (r := []) p1 (add14B hc he) ?_
  rintro v m' ⟨rfl, rfl⟩
  exact ⟨[(X.mem b s).flatten, R, []], by simp, rfl, _, [], hsame, rfl⟩
 ·obtain rfl : e = 0 := Decidable.not_not.1 he
  have hsm := hm (check_unit (by rw [hck]))
  have km := may_walk (b := b) (n := u.name) (ver := u.version) hX
  by_cases hmay : mMay s u.name u.version ≠ 0
  ·rw [show mAdd s u = (s, 0, mMay s u.name u.version) by unfold mAdd; rw [hck, if_neg (by simp), if_pos hmay]]
   refine CT.over (r := []) p1 (add14E hc hmay km) ?_
   rintro v m' ⟨rfl, rfl⟩
   exact ⟨[(X.mem b s).flatten, R, []], by simp, rfl, _, [], hsame, rfl⟩
  ·have hmay : mMay s u.name u.version = 0 := Decidable.not_not.1 hmay
   rw [hmay] at km
   cases hf : fM s u.name with
   | some x =>
    obtain ⟨hx, hxn⟩ := fM_mem hf
    obtain ⟨ho, _⟩ := may_old hs hf hmay
    rw [show mAdd s u = (⟨updM u.name (addF s.U.length) s.L, s.U ++ [u]⟩, s.U.length, 0) by unfold mAdd; rw [hck, if_neg (by simp), if_neg (by rw [hmay]; simp), hf]]
    refine CT.over (r := []) p1 (add14S hu hsm hnx hc km (by rw [hX.t, hf]; rfl)) ?_
    rintro v m' ⟨rfl, u', Q, k1, k2, rfl⟩
    have hno : ∀ y, y ∈ s.L → y.nm = u.name → y.old = none := fun y hy e => by rw [hs.uniq hy hx (e.trans hxn.symm)]; exact ho
    have hp := hX.put (u := u) (s' := ⟨updM u.name (addF s.U.length) s.L, s.U ++ [u]⟩) (x' := ⟨x.nm, s.U.length, some x.cur, x.st⟩) (N' := X.N) hs hX.N1 ?_ rfl k1 k2 ?_ ?_
    ·refine ⟨[_, R, Q], ?_, rfl, _, Q, ⟨_, hp, rfl⟩, rfl⟩
     simp
    ·rw [hX.N2, nm_rows, nm_rows]
     show _ = ((updM u.name _ s.L).map _).map txR
     rw [updM_names (f := addF s.U.length) (fun _ => rfl)]
    ·intro m
     rw [fM_upd (U := s.U) (f := addF s.U.length) (fun _ => rfl)]
     show Option.map _ (fM s m) = _
     by_cases hmn : m = u.name
     ·subst hmn
      rw [if_pos rfl, hf]
      simp
     ·rw [if_neg hmn]
      cases fM s m with
      | none => rfl
      | some y => simp [hmn]
    ·intro i
     exact hasU_addF (U := s.U) (L := s.L) hno ⟨x, hx, hxn⟩
   | none =>
    have hnn := fM_none hf
    rw [show mAdd s u = (⟨insM ⟨u.name, s.U.length, none, [0]⟩ s.L, s.U ++ [u]⟩, s.U.length, 0) by unfold mAdd; rw [hck, if_neg (by simp), if_neg (by rw [hmay]; simp), hf]]
    refine CT.over (r := []) p1 (add14N (os := s.L.map fun x => x.nm) hu hsm hnx hX.N1 (by rw [hX.N2, nm_rows]) (by rw [List.length_map]; have := hs.len; omega) hc km (by rw [hX.t, hf]; rfl)) ?_
    rintro v m' ⟨rfl, N', u', Q, n1, n2, k1, k2, rfl⟩
    have hp := hX.put (u := u) (s' := ⟨insM ⟨u.name, s.U.length, none, [0]⟩ s.L, s.U ++ [u]⟩) (x' := ⟨u.name, s.U.length, none, [0]⟩) hs n1 ?_ rfl k1 k2 ?_ ?_
    ·refine ⟨[_, R, Q], ?_, rfl, _, Q, ⟨_, hp, rfl⟩, rfl⟩
     simp
    ·rw [n2, nm_rows, insM_names]
    ·intro m
     rw [fM_ins (U := s.U) hnn]
    ·intro i
     rw [hasU_ins (U := s.U)]
     constructor
     ·rintro (h | h | h)
      ·exact .inl h
      ·exact .inr h.symm
      ·cases h
     ·rintro (h | h)
      ·exact .inl h
      ·exact .inr (.inl h.symm)
end
end Go.Proofs.YtlimjjilakldgaaGreat
namespace Go.Proofs.YtlimjjilakldgaaGreat
open Go Go.Abs
attribute [local irreducible] Cmp Rg Dw Cd Lp Ev Rdk CT Upd InK
section
variable {α : Type} [DecidableEq α]
def remG (seen : List Nat) (es : List (EntG α)) : Nat := (es.filter fun e => !seen.contains e.2.2).length
end
theorem remG_cons {α : Type} {seen : List Nat} {x : EntG α} {r : List (EntG α)} : remG seen (x :: r) = remG seen r + if x.2.2 ∈ seen then 0 else 1 := by
 unfold remG
 rw [List.filter_cons]
 by_cases h : x.2.2 ∈ seen
 ·simp [h]
 ·simp [h]
section
variable {α : Type}
theorem remG_le {seen : List Nat} {m : Nat} : ∀ {es : List (EntG α)}, remG (seen ++ [m]) es ≤ remG seen es
 | [] => Nat.le_refl _
 | x :: r => by
  have ih := remG_le (seen := seen) (m := m) (es := r)
  rw [remG_cons, remG_cons]
  by_cases h : x.2.2 ∈ seen
  ·simp only [List.mem_append, h, true_or, if_true]; exact ih
  ·rw [if_neg h]; split <;> omega
theorem remG_lt {seen : List Nat} {e : EntG α} (hs : e.2.2 ∉ seen) : ∀ {es : List (EntG α)}, e ∈ es → remG (seen ++ [e.2.2]) es < remG seen es
 | [], h => by cases h
 | x :: r, h => by
  rw [remG_cons, remG_cons]
  rcases List.mem_cons.1 h with rfl | h
  ·have := remG_le (seen := seen) (m := e.2.2) (es := r)
   rw [if_neg hs, if_pos (by simp)]
   omega
  ·have ih := remG_lt hs h
   by_cases h : x.2.2 ∈ seen
   ·simp only [List.mem_append, h, true_or, if_true]; omega
   ·rw [if_neg h]; split <;> omega
end
section
variable {α : Type} [DecidableEq α]
def lkS2 (seen : List Nat) (k : α) (es : List (EntG α)) : Option AV := (underG k es).bind fun p => if p.2 ∈ seen then some p.1 else none
theorem lkS2_nil {k : α} {es : List (EntG α)} : lkS2 [] k es = none := by
 unfold lkS2
 cases underG k es <;> rfl
theorem lkS2_all {seen : List Nat} {k : α} {es : List (EntG α)} (h : ∀ e, e ∈ es → e.2.2 ∈ seen) : lkS2 seen k es = lkG k es := by
 unfold lkS2 lkG
 cases hu : underG k es with
 | none => rfl
 | some p =>
  obtain ⟨v, n⟩ := p
  have := h _ (underG_mem hu)
  simp [this]
end
theorem st_inj {α : Type} : ∀ {es : List (EntG α)} {x e : EntG α}, (es.map fun e => e.2.2).Nodup → x ∈ es → e ∈ es → x.2.2 = e.2.2 → x = e
 | [], _, _, _, h, _, _ => by cases h
 | y :: r, x, e, hn, hx, he, h => by
  simp only [List.map_cons, List.nodup_cons] at hn
  rcases List.mem_cons.1 hx with h1 | h1
  ·rcases List.mem_cons.1 he with h2 | h2
   ·rw [h1, h2]
   ·subst h1; exact (hn.1 (List.mem_map.2 ⟨e, h2, h.symm⟩)).elim
  ·rcases List.mem_cons.1 he with h2 | h2
   ·subst h2; exact (hn.1 (List.mem_map.2 ⟨x, h1, h⟩)).elim
   ·exact st_inj hn.2 h1 h2 h
section
variable {α : Type} [DecidableEq α]
theorem lkS2_step {seen : List Nat} {es : List (EntG α)} {ck : Nat} {k a : α} {v : AV} {n : Nat} (g : GoodG es ck) (he : (k, v, n) ∈ es) : lkS2 (seen ++ [n]) a es = if a = k then some v else lkS2 seen a es := by
 by_cases h : a = k
 ·subst h
  rw [if_pos rfl]
  unfold lkS2
  rw [underG_of g.keys he]
  simp
 ·rw [if_neg h]
  unfold lkS2
  cases hu : underG a es with
  | none => rfl
  | some p =>
   obtain ⟨w, m⟩ := p
   have hm := underG_mem hu
   have : m ≠ n := fun e => h (by
    have := st_inj g.st hm he e
    exact congrArg (fun x => x.1) this)
   simp [this]
end
section
variable {b b' mt mt' mu mu' ck ck2 bi : Nat} {nv nv' : AV} {tes : List (EntG (List Nat))} {ues : List (EntG Nat)}
theorem copy25_t {Q : AX → SL → Mem → Prop} (G : GoodG tes ck) (hv : ∀ e, e ∈ tes → ∃ x : Val, e.2.1 = valA x)
  (hend : ∀ l' seen tes' ck', GoodG tes' ck' → (∀ n, lkG n tes' = lkG n tes) → Sub2 [(0, mP b), (3, mP b')] l' → Q (.ext 0) l' [[(bi, .mit (some mt) ck seen ck)], tC mt ck tes, tC mt' ck' tes', mB b' nv' mt' mu' 0]) :
  ∀ (f : Nat) (seen : List Nat) (tes' : List (EntG (List Nat))) (ck' : Nat), remG seen tes < f → GoodG tes' ck' → (∀ n, lkG n tes' = lkS2 seen n tes) → Lp Try.prog true b25_0 f [(0, mP b), (3, mP b'), (28, .it bi)] [[(bi, .mit (some mt) ck seen ck)], tC mt ck tes, tC mt' ck' tes', mB b' nv' mt' mu' 0] Q := by
 intro f
 induction f with
 | zero => intro seen tes' ck' h; omega
 | succ f ih =>
  intro seen tes' ck' hf hG hI
  obtain ⟨cs, hcs, hsome, hnone⟩ := cands_at (es := entsG keS tes) (ck := ck) (seen := seen) (by
   intro e he
   obtain ⟨x, hx, rfl⟩ := List.mem_map.1 he
   exact G.lt x hx)
  refine Lp.round ?_
  refine Cd.seq ?_
  refine Cd.reg ?_
  refine Rg.nextF (F := fun n => [[(bi, .mit (some mt) ck (seen ++ [n]) ck)], tC mt ck tes, tC mt' ck' tes', mB b' nv' mt' mu' 0]) rfl (fun n => Upd.here) (.there .here) hcs ?_ ?_
  ·intro a v n hmem
   obtain ⟨he, hs⟩ := hsome _ hmem
   obtain ⟨x, hx, he⟩ := List.mem_map.1 he
   obtain ⟨k, v0, n0⟩ := x
   obtain ⟨z, hz⟩ := hv _ hx
   cases he
   simp only at hz
   subst hz
   have hme : ∀ (K : Mem) y, InK K bi (.mit (some mt) ck (seen ++ [n0]) ck) → InK K mt (.map (entsG keS tes) ck) → Rdk K .ment (.it bi) y (.tup [.str k, valA z]) := fun K y h1 h2 =>
    Rdk.ment h1 h2 (List.mem_map.2 ⟨_, hx, rfl⟩) (by rw [entsG, List.map_map]; exact G.st)
   repeat' (first|refine Rg.r rfl rfl (hme _ _ (by repeat (first | exact InK.here | refine InK.there ?_)) (by repeat (first | exact InK.here | refine InK.there ?_))) ?_|intro _|refine yS ?_|(apply YB.mk<;>intro hc)|(apply YA.mk;intro cv hv)|(refine yT ?_ ?_<;>(intro e;(try simp only [nbT,nbF] at e);subst e;try contradiction)))
   refine Dw.e (Ef.mupdG keS (k := k) (es := tes') (v := valA z) rfl rfl rfl (.there (.there (.there Upd.here)))) ?_
   rintro _ _ ⟨rfl, rfl⟩
   refine yO ?_
   repeat' (first|intro _|refine yS ?_|(apply YB.mk<;>intro hc)|(apply YA.mk;intro cv hv)|(refine yT ?_ ?_<;>(intro e;(try simp only [nbT,nbF] at e);subst e;try contradiction)))
   refine Lp.drop (m := [[(bi, .mit (some mt) ck (seen ++ [n0]) ck)], tC mt ck tes, tC mt' (putNG k ck' tes') (putG k (valA z) ck' tes'), mB b' nv' mt' mu' 0]) (.cons (.there (.here)) (.cons (.there (.here)) (.cons (.there (.here)) (.cons (.there (.here)) (.nil))))) (Lp.weak (by exact ⟨rfl, rfl, rfl, trivial⟩) (ih (seen ++ [n0]) _ _ ?_ hG.put ?_))
   ·have := remG_lt (e := (k, valA z, n0)) hs hx
    simp only at this
    omega
   ·intro a
    rw [lk_put, lkS2_step G hx, hI]
  ·intro hm
   have hall := hnone hm
   repeat' (first|intro _|refine yS ?_|(apply YB.mk<;>intro hc)|(apply YA.mk;intro cv hv)|(refine yT ?_ ?_<;>(intro e;(try simp only [nbT,nbF] at e);subst e;try contradiction)))
   refine hend _ seen tes' ck' hG ?_ ⟨rfl, rfl, trivial⟩
   intro n
   rw [hI, lkS2_all fun (e : EntG (List Nat)) he => hall (keS.v e.1, e.2.1, e.2.2) (List.mem_map.2 ⟨e, he, rfl⟩)]
theorem copy25_u {next : Nat} {Q : AX → SL → Mem → Prop} (G : GoodG ues ck2) (hv : ∀ e, e ∈ ues → ∃ u : Unt, e.2.1 = .agg (unitR u))
  (hend : ∀ l' seen ues' ck2', GoodG ues' ck2' → (∀ n, lkG n ues' = lkG n ues) → Sub2 [(0, mP b), (3, mP b')] l' → Q (.ext 2) l' [[(bi, .mit (some mu) ck2 seen ck2)], uC mu ck2 ues, uC mu' ck2' ues', mB b' nv' mt' mu' 0]) :
  ∀ (f : Nat) (seen : List Nat) (ues' : List (EntG Nat)) (ck2' : Nat), remG seen ues < f → GoodG ues' ck2' → (∀ n, lkG n ues' = lkS2 seen n ues) → Lp Try.prog true b25_1 f [(0, mP b), (3, mP b'), (44, .it bi)] [[(bi, .mit (some mu) ck2 seen ck2)], uC mu ck2 ues, uC mu' ck2' ues', mB b' nv' mt' mu' 0] Q := by
 intro f
 induction f with
 | zero => intro seen ues' ck2' h; omega
 | succ f ih =>
  intro seen ues' ck2' hf hG hI
  obtain ⟨cs, hcs, hsome, hnone⟩ := cands_at (es := entsG keN ues) (ck := ck2) (seen := seen) (by
   intro e he
   obtain ⟨x, hx, rfl⟩ := List.mem_map.1 he
   exact G.lt x hx)
  refine Lp.round ?_
  refine Cd.seq ?_
  refine Cd.reg ?_
  refine Rg.nextF (F := fun n => [[(bi, .mit (some mu) ck2 (seen ++ [n]) ck2)], uC mu ck2 ues, uC mu' ck2' ues', mB b' nv' mt' mu' 0]) rfl (fun n => Upd.here) (.there .here) hcs ?_ ?_
  ·intro a v n hmem
   obtain ⟨he, hs⟩ := hsome _ hmem
   obtain ⟨x, hx, he⟩ := List.mem_map.1 he
   obtain ⟨k, v0, n0⟩ := x
   obtain ⟨z, hz⟩ := hv _ hx
   cases he
   simp only at hz
   subst hz
   have hme : ∀ (K : Mem) y, InK K bi (.mit (some mu) ck2 (seen ++ [n0]) ck2) → InK K mu (.map (entsG keN ues) ck2) → Rdk K .ment (.it bi) y (.tup [.int .i64 (.ofNat k), .agg (unitR z)]) := fun K y h1 h2 =>
    Rdk.ment h1 h2 (List.mem_map.2 ⟨_, hx, rfl⟩) (by rw [entsG, List.map_map]; exact G.st)
   repeat' (first|refine Rg.r rfl rfl (hme _ _ (by repeat (first | exact InK.here | refine InK.there ?_)) (by repeat (first | exact InK.here | refine InK.there ?_))) ?_|intro _|refine yS ?_|(apply YB.mk<;>intro hc)|(apply YA.mk;intro cv hv)|(refine yT ?_ ?_<;>(intro e;(try simp only [nbT,nbF] at e);subst e;try contradiction)))
   refine Dw.e (Ef.mupdG keN (k := k) (es := ues') (v := .agg (unitR z)) rfl rfl rfl (.there (.there (.there Upd.here)))) ?_
   rintro _ _ ⟨rfl, rfl⟩
   refine yO ?_
   repeat' (first|intro _|refine yS ?_|(apply YB.mk<;>intro hc)|(apply YA.mk;intro cv hv)|(refine yT ?_ ?_<;>(intro e;(try simp only [nbT,nbF] at e);subst e;try contradiction)))
   refine Lp.drop (m := [[(bi, .mit (some mu) ck2 (seen ++ [n0]) ck2)], uC mu ck2 ues, uC mu' (putNG k ck2' ues') (putG k (.agg (unitR z)) ck2' ues'), mB b' nv' mt' mu' 0]) (.cons (.there (.here)) (.cons (.there (.here)) (.cons (.there (.here)) (.cons (.there (.here)) (.nil))))) (Lp.weak (by exact ⟨rfl, rfl, rfl, trivial⟩) (ih (seen ++ [n0]) _ _ ?_ hG.put ?_))
   ·have := remG_lt (e := (k, .agg (unitR z), n0)) hs hx
    simp only at this
    omega
   ·intro a
    rw [lk_put, lkS2_step G hx, hI]
  ·intro hm
   have hall := hnone hm
   repeat' (first|intro _|refine yS ?_|(apply YB.mk<;>intro hc)|(apply YA.mk;intro cv hv)|(refine yT ?_ ?_<;>(intro e;(try simp only [nbT,nbF] at e);subst e;try contradiction)))
   refine hend _ seen ues' ck2' hG ?_ ⟨rfl, rfl, trivial⟩
   intro n
   rw [hI, lkS2_all fun (e : EntG Nat) he => hall (keN.v e.1, e.2.1, e.2.2) (List.mem_map.2 ⟨e, he, rfl⟩)]
end
end Go.Proofs.YtlimjjilakldgaaGreat
namespace Go.Proofs.YtlimjjilakldgaaGreat
open Go Go.Abs
attribute [local irreducible] Cmp Rg Dw Cd Lp Ev Rdk CT Upd InK
section
variable {b mt mu ck ck2 next : Nat} {N : OS} {tes : List (EntG (List Nat))} {ues : List (EntG Nat)}
theorem copy25 (hN : N.ok 1) (hl : N.rows.length ≤ 1000) (g1 : GoodG tes ck) (g2 : GoodG ues ck2) (v1 : ∀ e, e ∈ tes → ∃ x : Val, e.2.1 = valA x) (v2 : ∀ e, e ∈ ues → ∃ u : Unt, e.2.1 = .agg (unitR u)) :
  CT Try.prog true 25 [mP b] [mB b (N.v 1) mt mu next, tC mt ck tes, uC mu ck2 ues, N.c] fun w K' => ∃ (b' mt' mu' ck' ck2' : Nat) (N' : OS) (tes' : List (EntG (List Nat))) (ues' : List (EntG Nat)), w = mP b' ∧ N'.ok 1 ∧ N'.rows = N.rows ∧ GoodG tes' ck' ∧ (∀ n, lkG n tes' = lkG n tes) ∧ GoodG ues' ck2' ∧ (∀ n, lkG n ues' = lkG n ues) ∧
   K' = [mB b (N.v 1) mt mu next, tC mt ck tes, uC mu ck2 ues, N.c, mB b' (N'.v 1) mt' mu' next, tC mt' ck' tes', uC mu' ck2' ues', N'.c] := by
 have k12 := (there12 (b := b) (mt := mt) (mu := mu) (next := next) (nv := N.v 1)).up (nd := true)
 have k4 := new4.up (nd := true)
 refine CT.enterS mixed comp25 (Nat.le_of_ble_eq_true rfl) ?_
 repeat' (first|(refine Rg.callM rfl k12 (.cons (.here) (.nil)) ?_; rintro _ _ ⟨rfl, rfl⟩)|(refine Rg.callM rfl k4 .nil ?_; rintro _ _ ⟨b', mt', mu', rfl, rfl⟩)|intro _|refine yS ?_|(apply YB.mk<;>intro hc)|(apply YA.mk;intro cv hv)|(refine yT ?_ ?_<;>(intro e;(try simp only [nbT,nbF] at e);subst e;try contradiction)))
 refine Dw.e (Ef.appI (rs := N.rows) (n := N.rows.length) rfl rfl hN.row rfl (Rw.os hN fun id o h => .there (.there (.there (.there (.there (.there (.mem h))))))) (by simp only [lim]; omega)) ?_
 rintro _ _ ⟨N', hN', hNr, rfl, rfl⟩
 refine yO ?_
 repeat' (first|intro _|refine yS ?_|(apply YB.mk<;>intro hc)|(apply YA.mk;intro cv hv)|(refine yT ?_ ?_<;>(intro e;(try simp only [nbT,nbF] at e);subst e;try contradiction)))
 refine Dw.e (Ef.store1 rfl rfl (N'.one 1) (.there Upd.here) (Nat.le_of_ble_eq_true rfl)) ?_
 rintro _ _ ⟨rfl, rfl⟩
 refine yO ?_
 repeat' (first|intro _|refine yS ?_|(apply YB.mk<;>intro hc)|(apply YA.mk;intro cv hv)|(refine yT ?_ ?_<;>(intro e;(try simp only [nbT,nbF] at e);subst e;try contradiction)))
 refine Rg.e (Ef.rngM (es := entsG keS tes) (ck := ck) rfl (.there (.there (.there (.there (.there .here)))))) ?_
 rintro _ _ ⟨bi, rfl, rfl⟩
 repeat' (first|intro _|refine yS ?_|(apply YB.mk<;>intro hc)|(apply YA.mk;intro cv hv)|(refine yT ?_ ?_<;>(intro e;(try simp only [nbT,nbF] at e);subst e;try contradiction)))
 refine Cd.loop (k := remG [] tes + 1) (Lp.fr (m := [[(bi, .mit (some mt) ck [] ck)], tC mt ck tes, tC mt' 0 [], mB b' (N'.v 1) mt' mu' 0]) (.cons (.here) (.cons (.there (.there (.there (.there (.there (.here)))))) (.cons (.there (.there (.here))) (.cons (.there (.here)) (.nil))))) (Lp.weak (l2 := [(0, mP b), (3, mP b'), (28, .it bi)]) ⟨rfl, rfl, rfl, trivial⟩ (copy25_t g1 v1 ?_ (remG [] tes + 1) [] [] 0 (by omega) .nil fun n => lkS2_nil.symm)))
 intro l' seen tes' ck' hG1 hL1 hs1
 show Cd _ _ _ _ _ _
 refine Cd.weak hs1 ?_
 repeat' (first|intro _|refine yS ?_|(apply YB.mk<;>intro hc)|(apply YA.mk;intro cv hv)|(refine yT ?_ ?_<;>(intro e;(try simp only [nbT,nbF] at e);subst e;try contradiction)))
 refine Rg.e (Ef.rngM (es := entsG keN ues) (ck := ck2) rfl (.there (.there (.there (.there (.there (.there (.there .here)))))))) ?_
 rintro _ _ ⟨bj, rfl, rfl⟩
 repeat' (first|intro _|refine yS ?_|(apply YB.mk<;>intro hc)|(apply YA.mk;intro cv hv)|(refine yT ?_ ?_<;>(intro e;(try simp only [nbT,nbF] at e);subst e;try contradiction)))
 refine Cd.loop (k := remG [] ues + 1) (Lp.fr (m := [[(bj, .mit (some mu) ck2 [] ck2)], uC mu ck2 ues, uC mu' 0 [], mB b' (N'.v 1) mt' mu' 0]) (.cons (.here) (.cons (.there (.there (.there (.there (.there (.there (.there (.here)))))))) (.cons (.there (.there (.there (.there (.there (.here)))))) (.cons (.there (.there (.there (.here)))) (.nil))))) (Lp.weak (l2 := [(0, mP b), (3, mP b'), (44, .it bj)]) ⟨rfl, rfl, rfl, trivial⟩ (copy25_u (next := next) g2 v2 ?_ (remG [] ues + 1) [] [] 0 (by omega) .nil fun n => lkS2_nil.symm)))
 intro l2 seen2 ues' ck2' hG2 hL2 hs2
 show Cd _ _ _ _ _ _
 refine Cd.weak hs2 ?_
 repeat' (first|intro _|refine yS ?_|(apply YB.mk<;>intro hc)|(apply YA.mk;intro cv hv)|(refine yT ?_ ?_<;>(intro e;(try simp only [nbT,nbF] at e);subst e;try contradiction)))
 refine yX ?_
 exact ⟨_, _, (.cons (.there (.there (.there (.there (.there (.there (.there (.there (.here))))))))) (.cons (.there (.there (.there (.there (.there (.here)))))) (.cons (.there (.here)) (.cons (.there (.there (.there (.there (.there (.there (.here))))))) (.cons (.there (.there (.here))) (.cons (.there (.there (.there (.here)))) (.cons (.there (.here)) (.cons (.there (.there (.here))) (.nil))))))))), b', mt', mu', ck', ck2', N', tes', ues', rfl, hN', hNr, hG1, hL1, hG2, hL2, rfl⟩
end
theorem PM.ok.vals {X : PM} {P : Chk} {s : MS} (hX : X.ok P s) : (∀ e, e ∈ X.tes → ∃ x : Val, e.2.1 = valA x) ∧ (∀ e, e ∈ X.ues → ∃ u : Unt, e.2.1 = .agg (unitR u)) := by
 constructor
 ·rintro ⟨k, v, n⟩ he
  have h1 := hX.t k
  unfold lkG at h1
  rw [underG_of hX.g1.keys he] at h1
  cases hf : fM s k with
  | none => rw [hf] at h1; cases h1
  | some x => rw [hf] at h1; exact ⟨moV x, Option.some.inj h1⟩
 ·rintro ⟨k, v, n⟩ he
  obtain ⟨_, u, u', _, h2, _⟩ := hX.u1 k v (by unfold lkG; rw [underG_of hX.g2.keys he]; rfl)
  exact ⟨u', h2⟩
theorem copyM {b : Nat} {P c : Chk} {s : MS} (h : HM b P s c) (hs : s.ok) : CT Try.prog true 25 [mP b] [c] fun w K' => ∃ b' c', w = mP b' ∧ HM b' P s c' ∧ K' = [c, c'] := by
 obtain ⟨X, hX, rfl⟩ := h
 obtain ⟨v1, v2⟩ := hX.vals
 refine CT.over (m := [mB b (X.N.v 1) X.mt X.mu s.U.length, tC X.mt X.ck X.tes, uC X.mu X.ck2 X.ues, X.N.c]) (r := []) (by simp) (copy25 hX.N1 (by rw [hX.N2, List.length_map]; have := hs.len; omega) hX.g1 hX.g2 v1 v2) ?_
 rintro v m' ⟨b', mt', mu', ck', ck2', N', tes', ues', rfl, k1, k2, k3, k4, k5, k6, rfl⟩
 refine ⟨[_, _], ?_, b', _, rfl, ⟨⟨N', mt', ck', tes', mu', ck2', ues'⟩, ⟨k1, k2.trans hX.N2, k3, fun n => (k4 n).trans (hX.t n), k5, fun i v hv => hX.u1 i v ((k6 i).symm.trans hv), fun i hi => ?_⟩, rfl⟩, rfl⟩
 ·simp
 ·show (lkG i ues').isSome = true
  rw [k6]; exact hX.u2 i hi
end Go.Proofs.YtlimjjilakldgaaGreat
namespace Go.Proofs.YtlimjjilakldgaaGreat
open Go Go.Abs
attribute [local irreducible] Cmp Rg Dw Cd Lp Ev Rdk CT Upd InK
section
variable {b b2 mt mu next : Nat} {P cc : Chk} {s : MS} {nv : AV}
theorem take26 (h : HM b2 P s cc) (hs : s.ok) : CT Try.prog true 26 [mP b, mP b2] [mB b nv mt mu next, cc] fun w K' => w = .int .i64 (.ofNat 0) ∧ ∃ X : PM, X.ok P s ∧ K' = X.mem b s ++ [cc] := by
 have k25 : CT Try.prog true 25 [mP b2] [cc] fun w K' => ∃ b' X, w = mP b' ∧ PM.ok X P s ∧ K' = X.mem b' s ++ [cc] := by
  refine CT.re (copyM h hs) ?_
  rintro w K' ⟨b', _, rfl, ⟨X, hX, rfl⟩, rfl⟩
  refine ⟨X.mem b' s ++ [cc], ?_, b', X, rfl, hX, rfl⟩
  have := chunk_perm [cc, mB b' (X.N.v 1) X.mt X.mu s.U.length, tC X.mt X.ck X.tes, uC X.mu X.ck2 X.ues, X.N.c] [0, 1, 2, 3, 4] [1, 2, 3, 4, 0] (by decide)
  simpa using this
 have k12 := (there12 (b := b) (mt := mt) (mu := mu) (next := next) (nv := nv)).up (nd := true)
 refine CT.enterS mixed comp26 (Nat.le_of_ble_eq_true rfl) ?_
 repeat' (first|(refine Rg.callM rfl k12 (.cons (.there (.there (.there (.there (.there (.here)))))) (.nil)) ?_; rintro _ _ ⟨rfl, rfl⟩)|(refine Rg.callM rfl k25 (.cons (.there (.here)) (.nil)) ?_; rintro _ _ ⟨b', X, rfl, hX, rfl⟩)|intro _|refine yS ?_|(apply YB.mk<;>intro hc)|(apply YA.mk;intro cv hv)|(refine yT ?_ ?_<;>(intro e;(try simp only [nbT,nbF] at e);subst e;try contradiction)))
 refine yX ?_
 exact ⟨_, _, (.cons (.here) (.cons (.there (.here)) (.cons (.there (.here)) (.cons (.there (.here)) (.cons (.there (.here)) (.nil)))))), rfl, X, hX, rfl⟩
theorem takeM {P0 cm : Chk} {s0 : MS} (hm : HM b P0 s0 cm) (h : HM b2 P s cc) (hs : s.ok) : CT Try.prog true 26 [mP b, mP b2] [cm, cc] fun w K' => w = .int .i64 (.ofNat 0) ∧ ∃ c', HM b P s c' ∧ K' = [c', cc] := by
 obtain ⟨X0, hX0, rfl⟩ := hm
 refine CT.dropR (CT.over (m := [mB b (X0.N.v 1) X0.mt X0.mu s0.U.length, cc]) (r := [tC X0.mt X0.ck X0.tes, uC X0.mu X0.ck2 X0.ues, X0.N.c]) (R := fun w K' => w = .int .i64 (.ofNat 0) ∧ ∃ c', HM b P s c' ∧ ∃ r, K' = [c', cc, r]) ?_ (take26 h hs) ?_) ?_
 ·have := chunk_perm [mB b (X0.N.v 1) X0.mt X0.mu s0.U.length, tC X0.mt X0.ck X0.tes, uC X0.mu X0.ck2 X0.ues, X0.N.c, cc] [0, 1, 2, 3, 4] [0, 4, 1, 2, 3] (by decide)
  simpa using this
 ·rintro v m' ⟨rfl, X, hX, rfl⟩
  refine ⟨[(X.mem b s).flatten, cc, [tC X0.mt X0.ck X0.tes, uC X0.mu X0.ck2 X0.ues, X0.N.c].flatten], by simp, rfl, _, ⟨X, hX, rfl⟩, _, rfl⟩
 ·rintro v K' ⟨rfl, c', hc', r, rfl⟩
  exact ⟨_, _, (.cons (.here) (.cons (.here) (.nil))), rfl, c', hc', rfl⟩
end
end Go.Proofs.YtlimjjilakldgaaGreat
namespace Go.Proofs.YtlimjjilakldgaaGreat
open Go Go.Abs
attribute [local irreducible] Cmp Rg Dw Cd Lp Ev Rdk CT Upd InK
abbrev rP (r : Nat) : AV := .ptr r 0 0 2
abbrev rB (r : Nat) (lv uv : AV) : Chk := [(r, .cells [lv, uv] 0 0 false)]
def oldV (o : Option Nat) : AV := match o with
 | some i => .int .i64 (.ofNat i)
 | none => .int .i64 (.negSucc 0)
def roR (x : MO) : List AV := [.str x.nm, .int .i64 (.ofNat x.cur), oldV x.old, .str x.st]
theorem roR_len {L : List MO} : ∀ r, r ∈ L.map roR → r.length = 4 := by
 intro r h; obtain ⟨x, _, rfl⟩ := List.mem_map.1 h; rfl
theorem unitR_len {L : List Unt} : ∀ r, r ∈ L.map unitR → r.length = 5 := by
 intro r h; obtain ⟨x, _, rfl⟩ := List.mem_map.1 h; rfl
def iA (n : List Nat) : List MO → Nat → Option Nat
 | [], _ => none
 | x :: r, i => if x.nm = n then some i else iA n r (i + 1)
theorem iA_drop {n : List Nat} {l : List MO} {i : Nat} {x : MO} (h : l[i]? = some x) : iA n (l.drop i) i = if x.nm = n then some i else iA n (l.drop (i + 1)) (i + 1) := by
 obtain ⟨h1, h2⟩ := List.getElem?_eq_some_iff.1 h
 rw [List.drop_eq_getElem_cons h1, h2]; rfl
theorem iA_some {n : List Nat} : ∀ {l : List MO} {k i : Nat}, iA n l k = some i → ∃ j x, i = k + j ∧ l[j]? = some x ∧ l.find? (fun x => decide (x.nm = n)) = some x
 | [], k, i, h => by cases h
 | x :: r, k, i, h => by
  simp only [iA] at h
  by_cases e : x.nm = n
  ·rw [if_pos e] at h
   cases h
   exact ⟨0, x, by omega, rfl, by rw [List.find?_cons, decide_eq_true e]⟩
  ·rw [if_neg e] at h
   obtain ⟨j, y, h1, h2, h3⟩ := iA_some h
   exact ⟨j + 1, y, by omega, by simpa using h2, by rw [List.find?_cons, decide_eq_false e]; exact h3⟩
theorem iA_none {n : List Nat} : ∀ {l : List MO} {k : Nat}, iA n l k = none → l.find? (fun x => decide (x.nm = n)) = none
 | [], k, h => rfl
 | x :: r, k, h => by
  simp only [iA] at h
  by_cases e : x.nm = n
  ·rw [if_pos e] at h; cases h
  ·rw [if_neg e] at h
   rw [List.find?_cons, decide_eq_false e]
   exact iA_none h
theorem iA_fM (s : MS) (n : List Nat) : (iA n s.L 0 = none ∧ fM s n = none) ∨ ∃ i x, iA n s.L 0 = some i ∧ s.L[i]? = some x ∧ fM s n = some x := by
 cases h : iA n s.L 0 with
 | none => exact .inl ⟨rfl, iA_none h⟩
 | some i =>
  obtain ⟨j, x, h1, h2, h3⟩ := iA_some h
  exact .inr ⟨i, x, rfl, by rw [h1, Nat.zero_add]; exact h2, h3⟩
section
variable {r : Nat} {L U : OS} {uv : AV} {l : List MO} {n : List Nat}
theorem find13_in {Q : AX → SL → Mem → Prop} (hL : L.ok 4) (hr : L.rows = l.map roR) (hl : l.length ≤ 100000)
  (hret : ∀ l' i, iA n l 0 = some i → lkS l' 4 = some (.int .i64 (.ofNat i)) → Q .ret l' [rB r (L.v 4) uv, L.c])
  (hend : ∀ l', iA n l 0 = none → Q (.ext 0) l' [rB r (L.v 4) uv, L.c]) :
  ∀ (k i : Nat), l.length < i + k → i ≤ l.length → iA n (l.drop i) i = iA n l 0 → Lp Try.prog false b13_0 k [(0, rP r), (1, .str n), (5, .int .i64 (.ofNat i))] [rB r (L.v 4) uv, L.c] Q := by
 have hlen := hL.len
 rw [hr, List.length_map] at hlen
 intro k
 induction k with
 | zero => intro i h1 h2; omega
 | succ k ih =>
  intro i h1 h2 h3
  refine Lp.round ?_
  by_cases hi : i < l.length
  ·obtain ⟨x, hx⟩ : ∃ x, l[i]? = some x := ⟨_, List.getElem?_eq_getElem hi⟩
   rw [iA_drop hx] at h3
   have hri : (l.map roR)[i]? = some (roR x) := by rw [List.getElem?_map, hx]; rfl
   obtain ⟨id, g, e⟩ := hL.at (i := i) (r := roR x) (by rw [hr]; exact hri)
   rw [hr] at e
   subst e
   have q1 := iadr_slc (sz := 4) (b := id) (g := g) (off := 0) (len := (l.map roR).length) (cap := (l.map roR).length) (i := i) (k := .i64) (by rw [List.length_map]; exact hi)
   have r1 : Rdk [rB r (OS.v ⟨some (id, g), l.map roR⟩ 4) uv, OS.c ⟨some (id, g), l.map roR⟩] .load1 (.ptr id g (0 + i * 4) 1) (.ptr id g (0 + i * 4) 1) (.str x.nm) := Rdk.cel0 (lm := 0) (.there .here) roR_len hri rfl
   by_cases e1 : x.nm = n
   ·rw [if_pos e1] at h3
    repeat' (first|intro _|refine yS ?_|(apply YB.mk<;>intro hc)|(apply YA.mk;intro cv hv)|(refine yT ?_ ?_<;>(intro e;(try simp only [nbT,nbF] at e);subst e;try contradiction)))
    exact hret _ i h3.symm rfl
   ·rw [if_neg e1] at h3
    repeat' (first|intro _|refine yS ?_|(apply YB.mk<;>intro hc)|(apply YA.mk;intro cv hv)|(refine yT ?_ ?_<;>(intro e;(try simp only [nbT,nbF] at e);subst e;try contradiction)))
    exact Lp.weak (by exact ⟨rfl, rfl, rfl, trivial⟩) (ih (i + 1) (by omega) (by omega) h3)
  ·obtain rfl : i = l.length := by omega
   rw [List.drop_of_length_le (Nat.le_refl _)] at h3
   repeat' (first|intro _|refine yS ?_|(apply YB.mk<;>intro hc)|(apply YA.mk;intro cv hv)|(refine yT ?_ ?_<;>(intro e;(try simp only [nbT,nbF] at e);subst e;try contradiction)))
   exact hend _ h3.symm
theorem find13 (hL : L.ok 4) (hr : L.rows = l.map roR) (hl : l.length ≤ 100000) : CT Try.prog false 13 [rP r, .str n] [rB r (L.v 4) uv, L.c] fun w K' => w = oldV (iA n l 0) ∧ K' = [rB r (L.v 4) uv, L.c] := by
 refine CT.enterS mixed comp13 (Nat.le_of_ble_eq_true rfl) ?_
 repeat' (first|intro _|refine yS ?_|(apply YB.mk<;>intro hc)|(apply YA.mk;intro cv hv)|(refine yT ?_ ?_<;>(intro e;(try simp only [nbT,nbF] at e);subst e;try contradiction)))
 refine Cd.weak (l2 := [(0, rP r), (1, .str n), (5, .int .i64 (.ofNat 0))]) ⟨rfl, rfl, rfl, trivial⟩ ?_
 refine Cd.loop (k := l.length + 1) (find13_in hL hr hl ?_ ?_ (l.length + 1) 0 (by omega) (Nat.zero_le _) (by rw [List.drop_zero]))
 ·intro l' i hi e4
  rw [hi]
  exact ⟨.inr rfl, _, .t e4 .nil, _, _, (.cons (.here) (.cons (.here) (.nil))), rfl, rfl⟩
 ·intro l' hi
  rw [hi]
  show Cd _ _ _ _ _ _
  refine Cd.weak (l2 := []) trivial ?_
  repeat' (first|intro _|refine yS ?_|(apply YB.mk<;>intro hc)|(apply YA.mk;intro cv hv)|(refine yT ?_ ?_<;>(intro e;(try simp only [nbT,nbF] at e);subst e;try contradiction)))
  refine yX ?_
  exact ⟨_, _, (.cons (.here) (.cons (.here) (.nil))), rfl, rfl⟩
theorem at_row {x : MO} {i : Nat} (hL : L.ok 4) (hr : L.rows = l.map roR) (hx : l[i]? = some x) : ∃ id g, L = ⟨some (id, g), l.map roR⟩ ∧ apure .e (.iadr 4 (.c (.slc id g 0 (l.map roR).length (l.map roR).length 4)) (.c (.int .i64 (.ofNat i)))) = some (.ptr id g (0 + i * 4) 4) ∧ (l.map roR)[i]? = some (roR x) := by
 have hri : (l.map roR)[i]? = some (roR x) := by rw [List.getElem?_map, hx]; rfl
 obtain ⟨id, g, e⟩ := hL.at (i := i) (r := roR x) (by rw [hr]; exact hri)
 rw [hr] at e
 exact ⟨id, g, e, iadr_slc (by rw [List.length_map]; exact (List.getElem?_eq_some_iff.1 hx).1), hri⟩
theorem cur32 {s : MS} (hL : L.ok 4) (hr : L.rows = s.L.map roR) (hl : s.L.length ≤ 100000) : CT Try.prog false 32 [rP r, .str n] [rB r (L.v 4) uv, L.c] fun w K' => w = toldA (mCur s n) ∧ K' = [rB r (L.v 4) uv, L.c] := by
 have kf := find13 (r := r) (uv := uv) (n := n) hL hr hl
 refine CT.enterS mixed comp32 (Nat.le_of_ble_eq_true rfl) ?_
 unfold mCur
 rcases iA_fM s n with ⟨h1, h2⟩ | ⟨i, x, h1, h2, h3⟩
 ·rw [h1] at kf
  rw [h2]
  simp only [oldV] at kf
  have q1 : abin .lss (.int .i64 (.negSucc 0)) (.int .i64 (.ofNat 0)) = some (.bool true) := rfl
  repeat' (first|(refine Rg.callM rfl kf (.cons (.here) (.cons (.here) (.nil))) ?_; rintro _ _ ⟨rfl, rfl⟩)|intro _|refine yS ?_|(apply YB.mk<;>intro hc)|(apply YA.mk;intro cv hv)|(refine yT ?_ ?_<;>(intro e;(try simp only [nbT,nbF] at e);subst e;try contradiction)))
  refine yX ?_
  exact ⟨_, _, (.cons (.here) (.cons (.here) (.nil))), rfl, rfl⟩
 ·rw [h1] at kf
  rw [h3]
  simp only [oldV] at kf
  obtain ⟨id, g, rfl, q1, q2⟩ := at_row hL hr h2
  have hc : ∀ K, InK K id (.cells (s.L.map roR).flatten g g true) → Rdk K .load1 (.ptr id g (0 + i * 4 + 1) 1) (.ptr id g (0 + i * 4 + 1) 1) (.int .i64 (.ofNat x.cur)) := fun K h => Rdk.cel (lm := 0) h roR_len q2 rfl
  repeat' (first|(refine Rg.callM rfl kf (.cons (.here) (.cons (.here) (.nil))) ?_; rintro _ _ ⟨rfl, rfl⟩)|refine yR hc ?_|intro _|refine yS ?_|(apply YB.mk<;>intro hc)|(apply YA.mk;intro cv hv)|(refine yT ?_ ?_<;>(intro e;(try simp only [nbT,nbF] at e);subst e;try contradiction)))
  refine yX ?_
  exact ⟨_, _, (.cons (.here) (.cons (.here) (.nil))), rfl, rfl⟩
end
end Go.Proofs.YtlimjjilakldgaaGreat
namespace Go.Proofs.YtlimjjilakldgaaGreat
open Go Go.Abs
attribute [local irreducible] Cmp Rg Dw Cd Lp Ev Rdk CT Upd InK
section
variable {r : Nat} {L U : OS} {uv : AV} {s : MS} {n : List Nat}
theorem col_rd {id g i j : Nat} {l : List MO} {x : MO} {v : AV} (h : (l.map roR)[i]? = some (roR x)) (hv : (roR x)[j]? = some v) : ∀ K, InK K id (.cells (l.map roR).flatten g g true) → Rdk K .load1 (.ptr id g (0 + i * 4 + j) 1) (.ptr id g (0 + i * 4 + j) 1) v := fun K hK => Rdk.cel (lm := 0) hK roR_len h hv
theorem old34 (hL : L.ok 4) (hr : L.rows = s.L.map roR) (hl : s.L.length ≤ 100000) : CT Try.prog false 34 [rP r, .str n] [rB r (L.v 4) uv, L.c] fun w K' => w = toldA (mOld s n) ∧ K' = [rB r (L.v 4) uv, L.c] := by
 have kf := find13 (r := r) (uv := uv) (n := n) hL hr hl
 have q0 : abin .lss (.int .i64 (.negSucc 0)) (.int .i64 (.ofNat 0)) = some (.bool true) := rfl
 refine CT.enterS mixed comp34 (Nat.le_of_ble_eq_true rfl) ?_
 unfold mOld
 rcases iA_fM s n with ⟨h1, h2⟩ | ⟨i, x, h1, h2, h3⟩
 ·rw [h1] at kf
  rw [h2]
  simp only [oldV] at kf
  repeat' (first|(refine Rg.callM rfl kf (.cons (.here) (.cons (.here) (.nil))) ?_; rintro _ _ ⟨rfl, rfl⟩)|intro _|refine yS ?_|(apply YB.mk<;>intro hc)|(apply YA.mk;intro cv hv)|(refine yT ?_ ?_<;>(intro e;(try simp only [nbT,nbF] at e);subst e;try contradiction)))
  refine yX ?_
  exact ⟨_, _, (.cons (.here) (.cons (.here) (.nil))), rfl, rfl⟩
 ·rw [h1] at kf
  rw [h3]
  simp only [oldV] at kf
  obtain ⟨id, g, rfl, q1, q2⟩ := at_row hL hr h2
  obtain ⟨nm, cur, old, st⟩ := x
  cases old with
  | none =>
   have hc := col_rd (id := id) (g := g) (j := 2) (v := .int .i64 (.negSucc 0)) q2 rfl
   repeat' (first|(refine Rg.callM rfl kf (.cons (.here) (.cons (.here) (.nil))) ?_; rintro _ _ ⟨rfl, rfl⟩)|refine yR hc ?_|intro _|refine yS ?_|(apply YB.mk<;>intro hc)|(apply YA.mk;intro cv hv)|(refine yT ?_ ?_<;>(intro e;(try simp only [nbT,nbF] at e);subst e;try contradiction)))
   refine yX ?_
   exact ⟨_, _, (.cons (.here) (.cons (.here) (.nil))), rfl, rfl⟩
  | some o =>
   have hc := col_rd (id := id) (g := g) (j := 2) (v := .int .i64 (.ofNat o)) q2 rfl
   repeat' (first|(refine Rg.callM rfl kf (.cons (.here) (.cons (.here) (.nil))) ?_; rintro _ _ ⟨rfl, rfl⟩)|refine yR hc ?_|intro _|refine yS ?_|(apply YB.mk<;>intro hc)|(apply YA.mk;intro cv hv)|(refine yT ?_ ?_<;>(intro e;(try simp only [nbT,nbF] at e);subst e;try contradiction)))
   refine yX ?_
   exact ⟨_, _, (.cons (.here) (.cons (.here) (.nil))), rfl, rfl⟩
theorem state36 (hL : L.ok 4) (hr : L.rows = s.L.map roR) (hl : s.L.length ≤ 100000) : CT Try.prog false 36 [rP r, .str n] [rB r (L.v 4) uv, L.c] fun w K' => w = stA (mState s n) ∧ K' = [rB r (L.v 4) uv, L.c] := by
 have kf := find13 (r := r) (uv := uv) (n := n) hL hr hl
 have q0 : abin .lss (.int .i64 (.negSucc 0)) (.int .i64 (.ofNat 0)) = some (.bool true) := rfl
 refine CT.enterS mixed comp36 (Nat.le_of_ble_eq_true rfl) ?_
 unfold mState
 rcases iA_fM s n with ⟨h1, h2⟩ | ⟨i, x, h1, h2, h3⟩
 ·rw [h1] at kf
  rw [h2]
  simp only [oldV] at kf
  repeat' (first|(refine Rg.callM rfl kf (.cons (.here) (.cons (.here) (.nil))) ?_; rintro _ _ ⟨rfl, rfl⟩)|intro _|refine yS ?_|(apply YB.mk<;>intro hc)|(apply YA.mk;intro cv hv)|(refine yT ?_ ?_<;>(intro e;(try simp only [nbT,nbF] at e);subst e;try contradiction)))
  refine yX ?_
  exact ⟨_, _, (.cons (.here) (.cons (.here) (.nil))), rfl, rfl⟩
 ·rw [h1] at kf
  rw [h3]
  simp only [oldV] at kf
  obtain ⟨id, g, rfl, q1, q2⟩ := at_row hL hr h2
  have hc := col_rd (id := id) (g := g) (j := 3) (v := .str x.st) q2 rfl
  repeat' (first|(refine Rg.callM rfl kf (.cons (.here) (.cons (.here) (.nil))) ?_; rintro _ _ ⟨rfl, rfl⟩)|refine yR hc ?_|intro _|refine yS ?_|(apply YB.mk<;>intro hc)|(apply YA.mk;intro cv hv)|(refine yT ?_ ?_<;>(intro e;(try simp only [nbT,nbF] at e);subst e;try contradiction)))
  refine yX ?_
  exact ⟨_, _, (.cons (.here) (.cons (.here) (.nil))), rfl, rfl⟩
theorem at_unit {u : Unt} {i : Nat} {us : List Unt} (hU : U.ok 5) (hr : U.rows = us.map unitR) (hx : us[i]? = some u) : ∃ id g, U = ⟨some (id, g), us.map unitR⟩ ∧ apure .e (.iadr 5 (.c (.slc id g 0 (us.map unitR).length (us.map unitR).length 5)) (.c (.int .i64 (.ofNat i)))) = some (.ptr id g (0 + i * 5) 5) ∧ (us.map unitR)[i]? = some (unitR u) := by
 have hri : (us.map unitR)[i]? = some (unitR u) := by rw [List.getElem?_map, hx]; rfl
 obtain ⟨id, g, e⟩ := hU.at (i := i) (r := unitR u) (by rw [hr]; exact hri)
 rw [hr] at e
 exact ⟨id, g, e, iadr_slc (by rw [List.length_map]; exact (List.getElem?_eq_some_iff.1 hx).1), hri⟩
theorem may7 {ver : Int} (hs : s.ok) (hL : L.ok 4) (hr : L.rows = s.L.map roR) (hl : s.L.length ≤ 100000) (hU : U.ok 5) (hUr : U.rows = s.U.map unitR) : CT Try.prog false 7 [rP r, .str n, .int .i64 ver] [rB r (L.v 4) (U.v 5), L.c, U.c] fun w K' => w = .int .i64 (.ofNat (mMay s n ver)) ∧ K' = [rB r (L.v 4) (U.v 5), L.c, U.c] := by
 have kf := find13 (r := r) (uv := U.v 5) (n := n) hL hr hl
 have q0 : abin .lss (.int .i64 (.negSucc 0)) (.int .i64 (.ofNat 0)) = some (.bool true) := rfl
 have q3 : abin .geq (.int .i64 (.negSucc 0)) (.int .i64 (.ofNat 0)) = some (.bool false) := rfl
 have hlen := hL.len
 rw [hr, List.length_map] at hlen
 refine CT.enterS mixed comp7 (Nat.le_of_ble_eq_true rfl) ?_
 unfold mMay
 rcases iA_fM s n with ⟨h1, h2⟩ | ⟨i, x, h1, h2, h3⟩
 ·rw [h1] at kf
  rw [h2]
  simp only [oldV] at kf
  by_cases h : 16 ≤ s.L.length
  ·simp only [if_pos h]
   repeat' (first|(refine Rg.callM rfl kf (.cons (.here) (.cons (.here) (.nil))) ?_; rintro _ _ ⟨rfl, rfl⟩)|intro _|refine yS ?_|(apply YB.mk<;>intro hc)|(apply YA.mk;intro cv hv)|(refine yT ?_ ?_<;>(intro e;(try simp only [nbT,nbF] at e);subst e;try contradiction)))
   refine yX ?_
   exact ⟨_, _, (.cons (.here) (.cons (.here) (.cons (.here) (.nil)))), rfl, rfl⟩
  ·simp only [if_neg h]
   repeat' (first|(refine Rg.callM rfl kf (.cons (.here) (.cons (.here) (.nil))) ?_; rintro _ _ ⟨rfl, rfl⟩)|intro _|refine yS ?_|(apply YB.mk<;>intro hc)|(apply YA.mk;intro cv hv)|(refine yT ?_ ?_<;>(intro e;(try simp only [nbT,nbF] at e);subst e;try contradiction)))
   refine yX ?_
   exact ⟨_, _, (.cons (.here) (.cons (.here) (.cons (.here) (.nil)))), rfl, rfl⟩
 ·rw [h1] at kf
  rw [h3]
  simp only [oldV] at kf
  obtain ⟨id, g, rfl, q1, q2⟩ := at_row hL hr h2
  obtain ⟨nm, cur, old, st⟩ := x
  cases old with
  | some o =>
   have hc := col_rd (id := id) (g := g) (j := 2) (v := .int .i64 (.ofNat o)) q2 rfl
   repeat' (first|(refine Rg.callM rfl kf (.cons (.here) (.cons (.here) (.nil))) ?_; rintro _ _ ⟨rfl, rfl⟩)|refine yR hc ?_|intro _|refine yS ?_|(apply YB.mk<;>intro hc)|(apply YA.mk;intro cv hv)|(refine yT ?_ ?_<;>(intro e;(try simp only [nbT,nbF] at e);subst e;try contradiction)))
   refine yX ?_
   exact ⟨_, _, (.cons (.here) (.cons (.here) (.cons (.here) (.nil)))), rfl, rfl⟩
  | none =>
   have hcu := hs.cur _ (List.mem_iff_getElem?.2 ⟨_, h2⟩)
   obtain ⟨u, hu⟩ : ∃ u, s.U[cur]? = some u := ⟨_, List.getElem?_eq_getElem hcu⟩
   obtain ⟨id2, g2, rfl, q4, q5⟩ := at_unit hU hUr hu
   have hc := col_rd (id := id) (g := g) (j := 2) (v := .int .i64 (.negSucc 0)) q2 rfl
   have hd := col_rd (id := id) (g := g) (j := 1) (v := .int .i64 (.ofNat cur)) q2 rfl
   have he : ∀ K, InK K id2 (.cells (s.U.map unitR).flatten g2 g2 true) → Rdk K .load1 (.ptr id2 g2 (0 + cur * 5 + 1) 1) (.ptr id2 g2 (0 + cur * 5 + 1) 1) (.int .i64 u.version) := fun K hK => Rdk.cel (lm := 0) hK unitR_len q5 rfl
   simp only [hu]
   by_cases hv : ver ≤ u.version
   ·simp only [if_pos hv]
    repeat' (first|(refine Rg.callM rfl kf (.cons (.here) (.cons (.here) (.nil))) ?_; rintro _ _ ⟨rfl, rfl⟩)|refine yR hc ?_|refine yD hd ?_|refine yD he ?_|intro _|refine yS ?_|(apply YB.mk<;>intro hc)|(apply YA.mk;intro cv hv)|(refine yT ?_ ?_<;>(intro e;(try simp only [nbT,nbF] at e);subst e;try contradiction)))
    refine yX ?_
    exact ⟨_, _, (.cons (.here) (.cons (.here) (.cons (.here) (.nil)))), rfl, rfl⟩
   ·simp only [if_neg hv]
    repeat' (first|(refine Rg.callM rfl kf (.cons (.here) (.cons (.here) (.nil))) ?_; rintro _ _ ⟨rfl, rfl⟩)|refine yR hc ?_|refine yD hd ?_|refine yD he ?_|intro _|refine yS ?_|(apply YB.mk<;>intro hc)|(apply YA.mk;intro cv hv)|(refine yT ?_ ?_<;>(intro e;(try simp only [nbT,nbF] at e);subst e;try contradiction)))
    refine yX ?_
    exact ⟨_, _, (.cons (.here) (.cons (.here) (.cons (.here) (.nil)))), rfl, rfl⟩
end
end Go.Proofs.YtlimjjilakldgaaGreat
namespace Go.Proofs.YtlimjjilakldgaaGreat
open Go Go.Abs
attribute [local irreducible] Cmp Rg Dw Cd Lp Ev Rdk CT Upd InK
theorem upd_set {n : List Nat} {f : MO → MO} : ∀ {l : List MO} {i : Nat} {x : MO}, l.Pairwise (fun a b => nless a.nm b.nm = true) → l[i]? = some x → x.nm = n → updM n f l = l.set i (f x)
 | [], i, x, _, h, _ => by simp at h
 | a :: l, 0, x, hp, h, hn => by
  simp at h
  subst h
  have hp := (List.pairwise_cons.1 hp).1
  simp only [updM, List.map_cons, if_pos hn, List.set_cons_zero]
  congr 1
  have : ∀ y, y ∈ l → (if y.nm = n then f y else y) = y := fun y hy => if_neg fun e => by
   have := hp y hy
   rw [hn, e, nless_irr'] at this
   cases this
  rw [List.map_congr_left this]
  simp
 | a :: l, i + 1, x, hp, h, hn => by
  have hp := List.pairwise_cons.1 hp
  have h : l[i]? = some x := by simpa using h
  have ih := upd_set (f := f) hp.2 h hn
  have hne : a.nm ≠ n := fun e => by
   have := hp.1 x (List.mem_iff_getElem?.2 ⟨_, h⟩)
   rw [hn, e, nless_irr'] at this
   cases this
  simp only [updM] at ih
  simp only [updM, List.map_cons, if_neg hne, List.set_cons_succ, ih]
section
variable {r : Nat} {L U : OS} {uv : AV} {s : MS} {n st : List Nat}
theorem col_set {l : List MO} {i j : Nat} {x y : MO} {v : AV} (h : (l.map roR)[i]? = some (roR x)) (hj : j < 4) (hv : (roR x).set j v = roR y) : setSeg (l.map roR).flatten (0 + i * 4 + j) [v] = ((l.set i y).map roR).flatten := by
 rw [setSeg_cell roR_len h hj, hv, List.map_set]
theorem col_len {l : List MO} {i j : Nat} {x : MO} (h : (l.map roR)[i]? = some (roR x)) (hj : j < 4) : 0 + i * 4 + j + 1 ≤ (l.map roR).flatten.length := by
 have := (flatten_at (sz := 4) roR_len h).2
 omega
theorem set_ok {l : List MO} {id g i : Nat} {y : MO} : OS.ok ⟨some (id, g), (l.set i y).map roR⟩ 4 := ⟨fun h => (nomatch h), roR_len⟩
theorem set17 (hs : s.ok) (hst : ∀ x, x ∈ st → x < 256) (hsl : st.length ≤ 900000) (hL : L.ok 4) (hr : L.rows = s.L.map roR) (hl : s.L.length ≤ 100000) : CT Try.prog false 17 [rP r, .str n, .str st] [rB r (L.v 4) uv, L.c] fun w K' => w = .int .i64 (.ofNat (mSetS s n st (Q.rightB st)).2) ∧ ∃ O : OS, O.ok 4 ∧ O.rows = (mSetS s n st (Q.rightB st)).1.L.map roR ∧ K' = [rB r (O.v 4) uv, O.c] := by
 have kf := find13 (r := r) (uv := uv) (n := n) hL hr hl
 have q0 : abin .lss (.int .i64 (.negSucc 0)) (.int .i64 (.ofNat 0)) = some (.bool true) := rfl
 refine CT.enterS mixed comp17 (Nat.le_of_ble_eq_true rfl) ?_
 unfold mSetS
 rcases iA_fM s n with ⟨h1, h2⟩ | ⟨i, x, h1, h2, h3⟩
 ·rw [h1] at kf
  rw [h2]
  simp only [oldV] at kf
  repeat' (first|(refine Rg.callM rfl kf (.cons (.here) (.cons (.here) (.nil))) ?_; rintro _ _ ⟨rfl, rfl⟩)|intro _|refine yS ?_|(apply YB.mk<;>intro hc)|(apply YA.mk;intro cv hv)|(refine yT ?_ ?_<;>(intro e;(try simp only [nbT,nbF] at e);subst e;try contradiction)))
  refine yX ?_
  exact ⟨_, _, (.cons (.here) (.cons (.here) (.nil))), rfl, L, hL, hr, rfl⟩
 ·rw [h1] at kf
  rw [h3]
  simp only [oldV] at kf
  have kr := Q.right15 hst hsl
  cases hrb : Q.rightB st with
  | false =>
   rw [hrb] at kr
   repeat' (first|(refine Rg.callM rfl kf (.cons (.here) (.cons (.here) (.nil))) ?_; rintro _ _ ⟨rfl, rfl⟩)|intro _|refine yS ?_|(apply YB.mk<;>intro hc)|(apply YA.mk;intro cv hv)|(refine yT ?_ ?_<;>(intro e;(try simp only [nbT,nbF] at e);subst e;try contradiction)))
   refine yX ?_
   exact ⟨_, _, (.cons (.here) (.cons (.here) (.nil))), rfl, L, hL, hr, rfl⟩
  | true =>
   rw [hrb] at kr
   repeat' (first|(refine Rg.callM rfl kf (.cons (.here) (.cons (.here) (.nil))) ?_; rintro _ _ ⟨rfl, rfl⟩)|intro _|refine yS ?_|(apply YB.mk<;>intro hc)|(apply YA.mk;intro cv hv)|(refine yT ?_ ?_<;>(intro e;(try simp only [nbT,nbF] at e);subst e;try contradiction)))
   refine Rg.e (Ef.appI (rs := s.L.map roR) (n := L.rows.length) rfl rfl roR_len (by rw [hr]) (by rw [← hr]; exact Rw.os hL fun id o h => .there (.mem h)) (by rw [hr, List.length_map]; simp only [lim]; omega)) ?_
   rintro _ _ ⟨O, hO, hOr, rfl, rfl⟩
   obtain ⟨id, g, rfl, q1, q2⟩ := at_row hO hOr h2
   repeat' (first|intro _|refine yS ?_|(apply YB.mk<;>intro hc)|(apply YA.mk;intro cv hv)|(refine yT ?_ ?_<;>(intro e;(try simp only [nbT,nbF] at e);subst e;try contradiction)))
   refine Rg.e (Ef.store1 rfl rfl ⟨rfl, rfl⟩ Upd.here (col_len q2 (by omega))) ?_
   rintro _ _ ⟨rfl, rfl⟩
   rw [col_set (y := ⟨x.nm, x.cur, x.old, st⟩) q2 (by omega) rfl]
   repeat' (first|intro _|refine yS ?_|(apply YB.mk<;>intro hc)|(apply YA.mk;intro cv hv)|(refine yT ?_ ?_<;>(intro e;(try simp only [nbT,nbF] at e);subst e;try contradiction)))
   refine yX ?_
   refine ⟨_, _, (.cons (.there (.here)) (.cons (.here) (.nil))), rfl, ⟨some (id, g), (s.L.set i ⟨x.nm, x.cur, x.old, st⟩).map roR⟩, set_ok, ?_, ?_⟩
   ·rw [if_pos rfl]
    show _ = (updM n (fun x => ⟨x.nm, x.cur, x.old, st⟩) s.L).map roR
    rw [upd_set hs.ord h2 (fM_mem h3).2]
   ·simp only [OS.v, OS.c, List.length_map, List.length_set, rB]
    rfl
theorem purge19 (hs : s.ok) (hL : L.ok 4) (hr : L.rows = s.L.map roR) (hl : s.L.length ≤ 100000) : CT Try.prog false 19 [rP r, .str n] [rB r (L.v 4) uv, L.c] fun w K' => w = .int .i64 (.ofNat (mPurge s n).2) ∧ ∃ O : OS, O.ok 4 ∧ O.rows = (mPurge s n).1.L.map roR ∧ K' = [rB r (O.v 4) uv, O.c] := by
 have kf := find13 (r := r) (uv := uv) (n := n) hL hr hl
 have q0 : abin .lss (.int .i64 (.negSucc 0)) (.int .i64 (.ofNat 0)) = some (.bool true) := rfl
 refine CT.enterS mixed comp19 (Nat.le_of_ble_eq_true rfl) ?_
 unfold mPurge
 rcases iA_fM s n with ⟨h1, h2⟩ | ⟨i, x, h1, h2, h3⟩
 ·rw [h1] at kf
  rw [h2]
  simp only [oldV] at kf
  repeat' (first|(refine Rg.callM rfl kf (.cons (.here) (.cons (.here) (.nil))) ?_; rintro _ _ ⟨rfl, rfl⟩)|intro _|refine yS ?_|(apply YB.mk<;>intro hc)|(apply YA.mk;intro cv hv)|(refine yT ?_ ?_<;>(intro e;(try simp only [nbT,nbF] at e);subst e;try contradiction)))
  refine yX ?_
  exact ⟨_, _, (.cons (.here) (.cons (.here) (.nil))), rfl, L, hL, hr, rfl⟩
 ·rw [h1] at kf
  rw [h3]
  simp only [oldV] at kf
  obtain ⟨id, g, rfl, q1, q2⟩ := at_row hL hr h2
  obtain ⟨nm, cur, old, st⟩ := x
  cases old with
  | none =>
   have hc := col_rd (id := id) (g := g) (j := 2) (v := .int .i64 (.negSucc 0)) q2 rfl
   repeat' (first|(refine Rg.callM rfl kf (.cons (.here) (.cons (.here) (.nil))) ?_; rintro _ _ ⟨rfl, rfl⟩)|refine yR hc ?_|intro _|refine yS ?_|(apply YB.mk<;>intro hc)|(apply YA.mk;intro cv hv)|(refine yT ?_ ?_<;>(intro e;(try simp only [nbT,nbF] at e);subst e;try contradiction)))
   refine yX ?_
   exact ⟨_, _, (.cons (.here) (.cons (.here) (.nil))), rfl, _, hL, hr, rfl⟩
  | some o =>
   have hc := col_rd (id := id) (g := g) (j := 2) (v := .int .i64 (.ofNat o)) q2 rfl
   repeat' (first|(refine Rg.callM rfl kf (.cons (.here) (.cons (.here) (.nil))) ?_; rintro _ _ ⟨rfl, rfl⟩)|refine yR hc ?_|intro _|refine yS ?_|(apply YB.mk<;>intro hc)|(apply YA.mk;intro cv hv)|(refine yT ?_ ?_<;>(intro e;(try simp only [nbT,nbF] at e);subst e;try contradiction)))
   refine Rg.e (Ef.appI (rs := s.L.map roR) (n := (s.L.map roR).length) rfl rfl roR_len rfl (Rw.os hL fun id o h => .there (.mem h)) (by rw [List.length_map]; simp only [lim]; omega)) ?_
   rintro _ _ ⟨O, hO, hOr, rfl, rfl⟩
   obtain ⟨id2, g2, rfl, q4, q5⟩ := at_row hO hOr h2
   repeat' (first|intro _|refine yS ?_|(apply YB.mk<;>intro hc)|(apply YA.mk;intro cv hv)|(refine yT ?_ ?_<;>(intro e;(try simp only [nbT,nbF] at e);subst e;try contradiction)))
   refine Rg.e (Ef.store1 rfl rfl ⟨rfl, rfl⟩ Upd.here (col_len q5 (by omega))) ?_
   rintro _ _ ⟨rfl, rfl⟩
   rw [col_set (y := ⟨nm, cur, none, st⟩) q5 (by omega) rfl]
   repeat' (first|intro _|refine yS ?_|(apply YB.mk<;>intro hc)|(apply YA.mk;intro cv hv)|(refine yT ?_ ?_<;>(intro e;(try simp only [nbT,nbF] at e);subst e;try contradiction)))
   refine yX ?_
   refine ⟨_, _, (.cons (.there (.here)) (.cons (.here) (.nil))), rfl, ⟨some (id2, g2), (s.L.set i ⟨nm, cur, none, st⟩).map roR⟩, set_ok, ?_, ?_⟩
   ·show _ = (updM n (fun x => ⟨x.nm, x.cur, none, x.st⟩) s.L).map roR
    rw [upd_set hs.ord h2 (fM_mem h3).2]
   ·simp only [OS.v, OS.c, List.length_map, List.length_set, rB]
    rfl
end
end Go.Proofs.YtlimjjilakldgaaGreat
namespace Go.Proofs.YtlimjjilakldgaaGreat
open Go Go.Abs
attribute [local irreducible] Cmp Rg Dw Cd Lp Ev Rdk CT Upd InK
section
variable {r : Nat} {L U : OS} {uv : AV} {s : MS} {n : List Nat} {l : List MO}
theorem names30_in {Q : AX → SL → Mem → Prop} (hL : L.ok 4) (hr : L.rows = l.map roR) (hl : l.length ≤ 100000)
  (hend : ∀ l' N, OS.ok N 1 → N.rows = l.map nmR → lkS l' 3 = some (N.v 1) → Q (.ext 0) l' [rB r (L.v 4) uv, L.c, N.c]) :
  ∀ (k i : Nat) (N : OS), l.length < i + k → i ≤ l.length → N.ok 1 → N.rows = (l.take i).map nmR → Lp Try.prog false b30_0 k [(0, rP r), (3, N.v 1), (4, .int .i64 (.ofNat i))] [rB r (L.v 4) uv, L.c, N.c] Q := by
 have hlen := hL.len
 rw [hr, List.length_map] at hlen
 intro k
 induction k with
 | zero => intro i N h1 h2; omega
 | succ k ih =>
  intro i N h1 h2 hN hNr
  refine Lp.round ?_
  by_cases hi : i < l.length
  ·obtain ⟨x, hx⟩ : ∃ x, l[i]? = some x := ⟨_, List.getElem?_eq_getElem hi⟩
   obtain ⟨id, g, rfl, q1, q2⟩ := at_row hL hr hx
   have r1 : ∀ K, InK K id (.cells (l.map roR).flatten g g true) → Rdk K .load1 (.ptr id g (0 + i * 4) 1) (.ptr id g (0 + i * 4) 1) (.str x.nm) := fun K h => Rdk.cel0 (lm := 0) h roR_len q2 rfl
   repeat' (first|refine yR r1 ?_|intro _|refine yS ?_|(apply YB.mk<;>intro hc)|(apply YA.mk;intro cv hv)|(refine yT ?_ ?_<;>(intro e;(try simp only [nbT,nbF] at e);subst e;try contradiction)))
   refine Rg.e (Ef.appO (rs := [nmR x]) (n := 1) rfl rfl hN (by intro r hr; simp at hr; subst hr; rfl) (.there (.there (.there (.here)))) rfl (by decide) (Rw.slc (InK.there InK.here) (Nat.le_refl _) (Nat.le_refl _) rfl) (by rw [hNr, List.length_map, List.length_take]; simp only [lim]; omega)) ?_
   rintro _ _ ⟨N', hN', hNr', rfl, rfl⟩
   repeat' (first|intro _|refine yS ?_|(apply YB.mk<;>intro hc)|(apply YA.mk;intro cv hv)|(refine yT ?_ ?_<;>(intro e;(try simp only [nbT,nbF] at e);subst e;try contradiction)))
   refine Lp.drop (.cons (.there (.there (.here))) (.cons (.there (.there (.here))) (.cons (.here) (.nil)))) (Lp.weak ?hw (ih (i + 1) N' (by omega) (by omega) hN' ?_))
   case hw => exact ⟨rfl, rfl, rfl, trivial⟩
   rw [hNr', hNr, List.take_add_one, hx, List.map_append]
   rfl
  ·obtain rfl : i = l.length := by omega
   rw [List.take_length] at hNr
   repeat' (first|intro _|refine yS ?_|(apply YB.mk<;>intro hc)|(apply YA.mk;intro cv hv)|(refine yT ?_ ?_<;>(intro e;(try simp only [nbT,nbF] at e);subst e;try contradiction)))
   exact hend _ N hN hNr rfl
theorem names30 (hL : L.ok 4) (hr : L.rows = l.map roR) (hl : l.length ≤ 100000) : CT Try.prog false 30 [rP r] [rB r (L.v 4) uv, L.c] fun w K' => ∃ N : OS, N.ok 1 ∧ N.rows = l.map nmR ∧ w = N.v 1 ∧ K' = [rB r (L.v 4) uv, L.c, N.c] := by
 refine CT.enterS mixed comp30 (Nat.le_of_ble_eq_true rfl) ?_
 repeat' (first|intro _|refine yS ?_|(apply YB.mk<;>intro hc)|(apply YA.mk;intro cv hv)|(refine yT ?_ ?_<;>(intro e;(try simp only [nbT,nbF] at e);subst e;try contradiction)))
 refine Cd.weak (l2 := [(0, rP r), (3, OS.v ⟨none, []⟩ 1), (4, .int .i64 (.ofNat 0))]) ⟨rfl, rfl, rfl, trivial⟩ ?_
 refine Cd.perm (K2 := [rB r (L.v 4) uv, L.c, OS.c ⟨none, []⟩]) (by simp [OS.c]) ?_
 refine Cd.loop (k := l.length + 1) (names30_in hL hr hl ?_ (l.length + 1) 0 ⟨none, []⟩ (by omega) (Nat.zero_le _) OS.ok.nil rfl)
 intro l' N hN hNr e3
 show Cd _ _ _ _ _ _
 refine Cd.weak (l2 := [(3, N.v 1)]) ⟨e3, trivial⟩ ?_
 repeat' (first|intro _|refine yS ?_|(apply YB.mk<;>intro hc)|(apply YA.mk;intro cv hv)|(refine yT ?_ ?_<;>(intro e;(try simp only [nbT,nbF] at e);subst e;try contradiction)))
 refine yX ?_
 exact ⟨_, _, (.cons (.here) (.cons (.here) (.cons (.here) (.nil)))), N, hN, hNr, rfl, rfl⟩
theorem texts29_in {A B : OS} {Q : AX → SL → Mem → Prop} (hA : A.ok 1) (hB : B.ok 1) (hAr : A.rows = l.map nmR) (hBr : B.rows = l.map nmR) (hl : l.length ≤ 100000)
  (hend : ∀ l', Q (.ext 0) l' [A.c, B.c]) :
  ∀ (k i : Nat), l.length < i + k → i ≤ l.length → Lp Try.prog false b29_0 k [(0, A.v 1), (1, B.v 1), (5, .int .i64 (.ofNat i))] [A.c, B.c] Q := by
 have hlen := hA.len
 rw [hAr, List.length_map] at hlen
 intro k
 induction k with
 | zero => intro i h1 h2; omega
 | succ k ih =>
  intro i h1 h2
  refine Lp.round ?_
  by_cases hi : i < l.length
  ·obtain ⟨x, hx⟩ : ∃ x, l[i]? = some x := ⟨_, List.getElem?_eq_getElem hi⟩
   have hri : (l.map nmR)[i]? = some (nmR x) := by rw [List.getElem?_map, hx]; rfl
   have hrow : ∀ r, r ∈ l.map nmR → r.length = 1 := by
    intro r h; obtain ⟨x, _, rfl⟩ := List.mem_map.1 h; rfl
   obtain ⟨ia, ga, ea⟩ := hA.at (i := i) (r := nmR x) (by rw [hAr]; exact hri)
   obtain ⟨ib, gb, eb⟩ := hB.at (i := i) (r := nmR x) (by rw [hBr]; exact hri)
   rw [hAr] at ea
   rw [hBr] at eb
   subst ea
   subst eb
   have q1 := iadr_slc (sz := 1) (b := ia) (g := ga) (off := 0) (len := (l.map nmR).length) (cap := (l.map nmR).length) (i := i) (k := .i64) (by rw [List.length_map]; exact hi)
   have q2 := iadr_slc (sz := 1) (b := ib) (g := gb) (off := 0) (len := (l.map nmR).length) (cap := (l.map nmR).length) (i := i) (k := .i64) (by rw [List.length_map]; exact hi)
   have ra : ∀ K, InK K ia (.cells (l.map nmR).flatten ga ga true) → Rdk K .load1 (.ptr ia ga (0 + i * 1) 1) (.ptr ia ga (0 + i * 1) 1) (.str x.nm) := fun K h => Rdk.cel0 (lm := 0) h hrow hri rfl
   have rb : ∀ K, InK K ib (.cells (l.map nmR).flatten gb gb true) → Rdk K .load1 (.ptr ib gb (0 + i * 1) 1) (.ptr ib gb (0 + i * 1) 1) (.str x.nm) := fun K h => Rdk.cel0 (lm := 0) h hrow hri rfl
   have e0 : abin .neq (.str x.nm) (.str x.nm) = some (.bool false) := by
    simp only [abin, acmp, neq_dec, decide_true, Bool.not_true]
   repeat' (first|(refine zz ?_ (by refine iPb (o := .neq) (a:=?_) (b:=?_) (v:=?_) ?_ ?_ ?_; rotate_left 3; exact rfl; exact rfl; exact e0))|refine Dw.p (v := .bool false) (Ev.bin rfl rfl e0) ?_|refine yD ra ?_|refine yD rb ?_|intro _|refine yS ?_|(apply YB.mk<;>intro hc)|(apply YA.mk;intro cv hv)|(refine yT ?_ ?_<;>(intro e;(try simp only [nbT,nbF] at e);subst e;try contradiction)))
   exact Lp.weak (by exact ⟨rfl, rfl, rfl, trivial⟩) (ih (i + 1) (by omega) (by omega))
  ·obtain rfl : i = l.length := by omega
   repeat' (first|intro _|refine yS ?_|(apply YB.mk<;>intro hc)|(apply YA.mk;intro cv hv)|(refine yT ?_ ?_<;>(intro e;(try simp only [nbT,nbF] at e);subst e;try contradiction)))
   exact hend _
theorem texts29 {A B : OS} (hA : A.ok 1) (hB : B.ok 1) (hAr : A.rows = l.map nmR) (hBr : B.rows = l.map nmR) (hl : l.length ≤ 100000) : CT Try.prog false 29 [A.v 1, B.v 1] [A.c, B.c] fun w K' => w = .bool true ∧ K' = [A.c, B.c] := by
 have hlen := hA.len
 rw [hAr, List.length_map] at hlen
 have hlen2 := hB.len
 rw [hBr, List.length_map] at hlen2
 refine CT.enterS mixed comp29 (Nat.le_of_ble_eq_true rfl) ?_
 repeat' (first|intro _|refine yS ?_|(apply YB.mk<;>intro hc)|(apply YA.mk;intro cv hv)|(refine yT ?_ ?_<;>(intro e;(try simp only [nbT,nbF] at e);subst e;try contradiction)))
 refine Cd.weak (l2 := [(0, A.v 1), (1, B.v 1), (5, .int .i64 (.ofNat 0))]) ⟨rfl, rfl, rfl, trivial⟩ ?_
 refine Cd.loop (k := l.length + 1) (texts29_in hA hB hAr hBr hl ?_ (l.length + 1) 0 (by omega) (Nat.zero_le _))
 intro l'
 show Cd _ _ _ _ _ _
 refine Cd.weak (l2 := []) trivial ?_
 repeat' (first|intro _|refine yS ?_|(apply YB.mk<;>intro hc)|(apply YA.mk;intro cv hv)|(refine yT ?_ ?_<;>(intro e;(try simp only [nbT,nbF] at e);subst e;try contradiction)))
 refine yX ?_
 exact ⟨_, _, (.cons (.here) (.cons (.here) (.nil))), rfl, rfl⟩
end
end Go.Proofs.YtlimjjilakldgaaGreat
namespace Go.Proofs.YtlimjjilakldgaaGreat
open Go Go.Abs
attribute [local irreducible] Cmp Rg Dw Cd Lp Ev Rdk CT Upd InK
def unA (o : Option Unt) : AV := match o with
 | some u => .tup [.agg (unitR u), .bool true]
 | none => .tup [u0, .bool false]
def hitM (x : MO) (m : Nat) : Bool := decide (x.cur = m) || decide (x.old = some m)
section
variable {r : Nat} {L U : OS} {uv : AV} {s : MS} {n fn : List Nat} {l : List MO} {b4 : Nat} {pr : Int}
theorem unit21_neg {C : Chk} {m : Nat} {Q : AX → SL → Mem → Prop} (hL : L.ok 4) (hr : L.rows = l.map roR) (hl : l.length ≤ 100000)
  (hend : ∀ l', Sub2 [(4, .ptr b4 0 0 5)] l' → Q (.ext 0) l' [[(b4, .cells [.str [], .int .i64 0, .nilslc, .int .i64 0, .nilslc] 0 0 false)], rB r (L.v 4) uv, L.c, C]) :
  ∀ (k i : Nat), l.length < i + k → i ≤ l.length → Lp Try.prog false b21_0 k [(0, rP r), (1, .int .i64 (.negSucc m)), (4, .ptr b4 0 0 5), (6, .int .i64 (.ofNat i))] [[(b4, .cells [.str [], .int .i64 0, .nilslc, .int .i64 0, .nilslc] 0 0 false)], rB r (L.v 4) uv, L.c, C] Q := by
 have hlen := hL.len
 rw [hr, List.length_map] at hlen
 have q0 : abin .geq (.int .i64 (.negSucc m)) (.int .i64 (.ofNat 0)) = some (.bool false) := rfl
 intro k
 induction k with
 | zero => intro i h1 h2; omega
 | succ k ih =>
  intro i h1 h2
  refine Lp.round ?_
  by_cases hi : i < l.length
  ·repeat' (first|intro _|refine yS ?_|(apply YB.mk<;>intro hc)|(apply YA.mk;intro cv hv)|(refine yT ?_ ?_<;>(intro e;(try simp only [nbT,nbF] at e);subst e;try contradiction)))
   exact Lp.weak (by exact ⟨rfl, rfl, rfl, rfl, trivial⟩) (ih (i + 1) (by omega) (by omega))
  ·obtain rfl : i = l.length := by omega
   repeat' (first|intro _|refine yS ?_|(apply YB.mk<;>intro hc)|(apply YA.mk;intro cv hv)|(refine yT ?_ ?_<;>(intro e;(try simp only [nbT,nbF] at e);subst e;try contradiction)))
   exact hend _ ⟨rfl, trivial⟩
theorem unit21_in {m : Nat} {Q : AX → SL → Mem → Prop} (hL : L.ok 4) (hr : L.rows = l.map roR) (hl : l.length ≤ 100000) (hU : U.ok 5) (hUr : U.rows = s.U.map unitR) (hm : ∀ x, x ∈ l → hitM x m = true → ∃ u, s.U[m]? = some u)
  (hret : ∀ l' u, l.any (fun x => hitM x m) = true → s.U[m]? = some u → lkS l' 4 = some (.ptr b4 0 0 5) → lkS l' 5 = some (.bool true) → Q .ret l' [[(b4, .cells (unitR u) 0 0 false)], rB r (L.v 4) (U.v 5), L.c, U.c])
  (hend : ∀ l', l.any (fun x => hitM x m) = false → Sub2 [(4, .ptr b4 0 0 5)] l' → Q (.ext 0) l' [[(b4, .cells [.str [], .int .i64 0, .nilslc, .int .i64 0, .nilslc] 0 0 false)], rB r (L.v 4) (U.v 5), L.c, U.c]) :
  ∀ (k i : Nat), l.length < i + k → i ≤ l.length → (l.drop i).any (fun x => hitM x m) = l.any (fun x => hitM x m) → Lp Try.prog false b21_0 k [(0, rP r), (1, .int .i64 (.ofNat m)), (4, .ptr b4 0 0 5), (6, .int .i64 (.ofNat i))] [[(b4, .cells [.str [], .int .i64 0, .nilslc, .int .i64 0, .nilslc] 0 0 false)], rB r (L.v 4) (U.v 5), L.c, U.c] Q := by
 have hlen := hL.len
 rw [hr, List.length_map] at hlen
 intro k
 induction k with
 | zero => intro i h1 h2; omega
 | succ k ih =>
  intro i h1 h2 h3
  refine Lp.round ?_
  by_cases hi : i < l.length
  ·obtain ⟨x, hx⟩ : ∃ x, l[i]? = some x := ⟨_, List.getElem?_eq_getElem hi⟩
   obtain ⟨hi1, hi2⟩ := List.getElem?_eq_some_iff.1 hx
   rw [List.drop_eq_getElem_cons hi1, hi2, List.any_cons] at h3
   have hmx := hm x (List.mem_iff_getElem?.2 ⟨_, hx⟩)
   obtain ⟨id, g, rfl, q1, q2⟩ := at_row hL hr hx
   obtain ⟨nm, cur, old, st⟩ := x
   have hd := col_rd (id := id) (g := g) (j := 1) (v := .int .i64 (.ofNat cur)) q2 rfl
   have hc := col_rd (id := id) (g := g) (j := 2) (v := oldV old) q2 rfl
   cases hh : hitM ⟨nm, cur, old, st⟩ m with
   | true =>
    rw [hh, Bool.true_or] at h3
    obtain ⟨u, hu⟩ := hmx hh
    obtain ⟨id2, g2, rfl, q4, q5⟩ := at_unit hU hUr hu
    have hg : ∀ K, InK K id2 (.cells (s.U.map unitR).flatten g2 g2 true) → Rdk K (.loadn 5) (.ptr id2 g2 (0 + m * 5) 5) (.ptr id2 g2 (0 + m * 5) 5) (.agg (unitR u)) := fun K h => Rdk.row h unitR_len q5
    by_cases e1 : cur = m
    ·repeat' (first|refine yR hd ?_|refine yR hg ?_|intro _|refine yS ?_|(apply YB.mk<;>intro hc)|(apply YA.mk;intro cv hv)|(refine yT ?_ ?_<;>(intro e;(try simp only [nbT,nbF] at e);subst e;try contradiction)))
     exact hret _ u h3.symm hu rfl rfl
    ·obtain rfl : old = some m := by
      simp only [hitM, Bool.or_eq_true, decide_eq_true_eq] at hh
      exact hh.resolve_left e1
     simp only [oldV] at hc
     repeat' (first|refine yR hd ?_|refine yR hc ?_|refine yR hg ?_|intro _|refine yS ?_|(apply YB.mk<;>intro hc)|(apply YA.mk;intro cv hv)|(refine yT ?_ ?_<;>(intro e;(try simp only [nbT,nbF] at e);subst e;try contradiction)))
     exact hret _ u h3.symm hu rfl rfl
   | false =>
    rw [hh, Bool.false_or] at h3
    simp only [hitM, Bool.or_eq_false_iff, decide_eq_false_iff_not] at hh
    have e1 := hh.1
    cases old with
    | none =>
     have q6 : abin .eql (.int .i64 (.negSucc 0)) (.int .i64 (.ofNat m)) = some (.bool false) := rfl
     simp only [oldV] at hc
     repeat' (first|refine yR hd ?_|refine yR hc ?_|intro _|refine yS ?_|(apply YB.mk<;>intro hc)|(apply YA.mk;intro cv hv)|(refine yT ?_ ?_<;>(intro e;(try simp only [nbT,nbF] at e);subst e;try contradiction)))
     exact Lp.weak (by exact ⟨rfl, rfl, rfl, rfl, trivial⟩) (ih (i + 1) (by omega) (by omega) h3)
    | some o =>
     have e2 : ¬ o = m := fun e => hh.2 (by rw [e])
     simp only [oldV] at hc
     repeat' (first|refine yR hd ?_|refine yR hc ?_|intro _|refine yS ?_|(apply YB.mk<;>intro hc)|(apply YA.mk;intro cv hv)|(refine yT ?_ ?_<;>(intro e;(try simp only [nbT,nbF] at e);subst e;try contradiction)))
     exact Lp.weak (by exact ⟨rfl, rfl, rfl, rfl, trivial⟩) (ih (i + 1) (by omega) (by omega) h3)
  ·obtain rfl : i = l.length := by omega
   rw [List.drop_of_length_le (Nat.le_refl _)] at h3
   repeat' (first|intro _|refine yS ?_|(apply YB.mk<;>intro hc)|(apply YA.mk;intro cv hv)|(refine yT ?_ ?_<;>(intro e;(try simp only [nbT,nbF] at e);subst e;try contradiction)))
   exact hend _ h3.symm ⟨rfl, trivial⟩
theorem unit21 (hs : s.ok) (hL : L.ok 4) (hr : L.rows = s.L.map roR) (hl : s.L.length ≤ 100000) (hU : U.ok 5) (hUr : U.rows = s.U.map unitR) {i : Int} : CT Try.prog false 21 [rP r, .int .i64 i] [rB r (L.v 4) (U.v 5), L.c, U.c] fun w K' => w = unA (mUnitZ s i) ∧ K' = [rB r (L.v 4) (U.v 5), L.c, U.c] := by
 refine CT.enterS mixed comp21 (Nat.le_of_ble_eq_true rfl) ?_
 repeat' (first|intro _|refine yS ?_|(apply YB.mk<;>intro hc)|(apply YA.mk;intro cv hv)|(refine yT ?_ ?_<;>(intro e;(try simp only [nbT,nbF] at e);subst e;try contradiction)))
 rename_i b4
 cases i with
 | negSucc m =>
  refine Cd.weak (l2 := [(0, rP r), (1, .int .i64 (.negSucc m)), (4, .ptr b4 0 0 5), (6, .int .i64 (.ofNat 0))]) ⟨rfl, rfl, rfl, rfl, trivial⟩ ?_
  refine Cd.loop (k := s.L.length + 1) (unit21_neg (m := m) hL hr hl ?_ (s.L.length + 1) 0 (by omega) (Nat.zero_le _))
  intro l' hs'
  show Cd _ _ _ _ _ _
  refine Cd.weak hs' ?_
  repeat' (first|intro _|refine yS ?_|(apply YB.mk<;>intro hc)|(apply YA.mk;intro cv hv)|(refine yT ?_ ?_<;>(intro e;(try simp only [nbT,nbF] at e);subst e;try contradiction)))
  refine yX ?_
  exact ⟨_, _, (.cons (.there (.here)) (.cons (.there (.here)) (.cons (.there (.here)) (.nil)))), rfl, rfl⟩
 | ofNat m =>
  have e : mUnitZ s (.ofNat m) = if s.L.any (fun x => hitM x m) = true then s.U[m]? else none := rfl
  refine Cd.weak (l2 := [(0, rP r), (1, .int .i64 (.ofNat m)), (4, .ptr b4 0 0 5), (6, .int .i64 (.ofNat 0))]) ⟨rfl, rfl, rfl, rfl, trivial⟩ ?_
  refine Cd.loop (k := s.L.length + 1) (unit21_in (s := s) (m := m) hL hr hl hU hUr ?_ ?_ ?_ (s.L.length + 1) 0 (by omega) (Nat.zero_le _) (by rw [List.drop_zero]))
  ·intro x hx hh
   have : m < s.U.length := by
    simp only [hitM, Bool.or_eq_true, decide_eq_true_eq] at hh
    rcases hh with h | h
    ·rw [← h]; exact hs.cur x hx
    ·exact hs.old x m hx h
   exact ⟨_, List.getElem?_eq_getElem this⟩
  ·intro l' u hh hu e4 e5
   rw [e, if_pos hh, hu]
   exact ⟨.inr rfl, _, .cn e4 (Rdk.bw .here rfl) (.t e5 .nil), _, _, (.cons (.there (.here)) (.cons (.there (.here)) (.cons (.there (.here)) (.nil)))), rfl, rfl⟩
  ·intro l' hh hs'
   rw [e, if_neg (by rw [hh]; simp)]
   show Cd _ _ _ _ _ _
   refine Cd.weak hs' ?_
   repeat' (first|intro _|refine yS ?_|(apply YB.mk<;>intro hc)|(apply YA.mk;intro cv hv)|(refine yT ?_ ?_<;>(intro e;(try simp only [nbT,nbF] at e);subst e;try contradiction)))
   refine yX ?_
   exact ⟨_, _, (.cons (.there (.here)) (.cons (.there (.here)) (.cons (.there (.here)) (.nil)))), rfl, rfl⟩
theorem find24_in {C B : Chk} {cur F b13 : Nat} {u : Unt} {Q : AX → SL → Mem → Prop} (hu : ASl 6 u.protosV (u.protos.map protoR)) (hFu : u.funs = (F : Int)) (hF : F ≤ u.protos.length) (hl : F ≤ 100000)
  (hret : ∀ l' i, fpM fn pr (u.protos.take F) 0 = some i → lkS l' 8 = some (.int .i64 (.ofNat cur)) → lkS l' 9 = some (.int .i64 (.ofNat i)) → lkS l' 10 = some (.bool true) → Q .ret l' [[(b13, .cells (unitR u) 0 0 false)], B, C])
  (hend : ∀ l', fpM fn pr (u.protos.take F) 0 = none → Q (.ext 0) l' [[(b13, .cells (unitR u) 0 0 false)], B, C]) :
  ∀ (k i : Nat), F < i + k → i ≤ F → fpM fn pr ((u.protos.take F).drop i) i = fpM fn pr (u.protos.take F) 0 → Lp Try.prog false b24_0 k [(2, .str fn), (3, .int .i64 pr), (11, .int .i64 (.ofNat cur)), (13, .ptr b13 0 0 5), (14, .int .i64 (.ofNat i))] [[(b13, .cells (unitR u) 0 0 false)], B, C] Q := by
 obtain ⟨nm, ver, usesV, uses, funs, protosV, protos⟩ := u
 simp only at hu hFu hF hret hend
 subst hFu
 intro k
 induction k with
 | zero => intro i h1 h2; omega
 | succ k ih =>
  intro i h1 h2 h3
  refine Lp.round ?_
  simp only at h3
  by_cases hi : i < F
  ·obtain ⟨p, hp⟩ : ∃ p, protos[i]? = some p := ⟨_, List.getElem?_eq_getElem (by omega)⟩
   have hp2 : (protos.take F)[i]? = some p := by rw [List.getElem?_take_of_lt hi]; exact hp
   rw [fpM_drop hp2] at h3
   have hri : (protos.map protoR)[i]? = some (protoR p) := by rw [List.getElem?_map, hp]; rfl
   have q1 := hu.iadr (k := .i64) hri
   by_cases e1 : p.name = fn
   ·by_cases e2 : p.params = pr
    ·rw [if_pos ⟨e1, e2⟩] at h3
     repeat' (first|intro _|refine yS ?_|(apply YB.mk<;>intro hc)|(apply YA.mk;intro cv hv)|(refine yT ?_ ?_<;>(intro e;(try simp only [nbT,nbF] at e);subst e;try contradiction)))
     exact hret _ i h3.symm rfl rfl rfl
    ·rw [if_neg (fun h => e2 h.2)] at h3
     repeat' (first|intro _|refine yS ?_|(apply YB.mk<;>intro hc)|(apply YA.mk;intro cv hv)|(refine yT ?_ ?_<;>(intro e;(try simp only [nbT,nbF] at e);subst e;try contradiction)))
     exact Lp.weak (by exact ⟨rfl, rfl, rfl, rfl, rfl, trivial⟩) (ih (i + 1) (by omega) (by omega) h3)
   ·rw [if_neg (fun h => e1 h.1)] at h3
    repeat' (first|intro _|refine yS ?_|(apply YB.mk<;>intro hc)|(apply YA.mk;intro cv hv)|(refine yT ?_ ?_<;>(intro e;(try simp only [nbT,nbF] at e);subst e;try contradiction)))
    exact Lp.weak (by exact ⟨rfl, rfl, rfl, rfl, rfl, trivial⟩) (ih (i + 1) (by omega) (by omega) h3)
  ·obtain rfl : i = F := by omega
   rw [List.drop_of_length_le (by rw [List.length_take]; omega)] at h3
   repeat' (first|intro _|refine yS ?_|(apply YB.mk<;>intro hc)|(apply YA.mk;intro cv hv)|(refine yT ?_ ?_<;>(intro e;(try simp only [nbT,nbF] at e);subst e;try contradiction)))
   exact hend _ h3.symm
theorem find24 (hs : s.ok) (hL : L.ok 4) (hr : L.rows = s.L.map roR) (hl : s.L.length ≤ 100000) (hU : U.ok 5) (hUr : U.rows = s.U.map unitR) : CT Try.prog false 24 [rP r, .str n, .str fn, .int .i64 pr] [rB r (L.v 4) (U.v 5), L.c, U.c] fun w K' => w = findR (mFind s n fn pr) ∧ K' = [rB r (L.v 4) (U.v 5), L.c, U.c] := by
 have kc := cur32 (r := r) (uv := U.v 5) (n := n) hL hr hl
 refine CT.enterS mixed comp24 (Nat.le_of_ble_eq_true rfl) ?_
 unfold mFind
 unfold mCur at kc
 cases hf : fM s n with
 | none =>
  rw [hf] at kc
  simp only [Option.map_none, toldA] at kc
  repeat' (first|(refine Rg.callM rfl kc (.cons (.here) (.cons (.here) (.nil))) ?_; rintro _ _ ⟨rfl, rfl⟩)|intro _|refine yS ?_|(apply YB.mk<;>intro hc)|(apply YA.mk;intro cv hv)|(refine yT ?_ ?_<;>(intro e;(try simp only [nbT,nbF] at e);subst e;try contradiction)))
  refine yX ?_
  exact ⟨_, _, (.cons (.here) (.cons (.here) (.cons (.here) (.nil)))), rfl, rfl⟩
 | some x =>
  rw [hf] at kc
  simp only [Option.map_some, toldA] at kc
  have hcu := hs.cur x (fM_mem hf).1
  obtain ⟨u, hu⟩ : ∃ u, s.U[x.cur]? = some u := ⟨_, List.getElem?_eq_getElem hcu⟩
  obtain ⟨hok, hck⟩ := hs.chk u (List.mem_iff_getElem?.2 ⟨_, hu⟩)
  have hfu := unit_funs (check_unit hck)
  obtain ⟨F, hF⟩ : ∃ F : Nat, u.funs = (F : Int) := ⟨u.funs.toNat, by omega⟩
  obtain ⟨id2, g2, rfl, q4, q5⟩ := at_unit hU hUr hu
  have hg : ∀ K, InK K id2 (.cells (s.U.map unitR).flatten g2 g2 true) → Rdk K (.loadn 5) (.ptr id2 g2 (0 + x.cur * 5) 5) (.ptr id2 g2 (0 + x.cur * 5) 5) (.agg (unitR u)) := fun K h => Rdk.row h unitR_len q5
  repeat' (first|(refine Rg.callM rfl kc (.cons (.here) (.cons (.here) (.nil))) ?_; rintro _ _ ⟨rfl, rfl⟩)|refine yR hg ?_|intro _|refine yS ?_|(apply YB.mk<;>intro hc)|(apply YA.mk;intro cv hv)|(refine yT ?_ ?_<;>(intro e;(try simp only [nbT,nbF] at e);subst e;try contradiction)))
  rename_i b13
  refine Cd.weak (l2 := [(2, .str fn), (3, .int .i64 pr), (11, .int .i64 (.ofNat x.cur)), (13, .ptr b13 0 0 5), (14, .int .i64 (.ofNat 0))]) ⟨rfl, rfl, rfl, rfl, rfl, trivial⟩ ?_
  refine Cd.loop (k := F + 1) (Lp.fr (m := [[(b13, .cells (unitR u) 0 0 false)], rB r (L.v 4) (OS.v ⟨some (id2, g2), s.U.map unitR⟩ 5), L.c]) (.cons (.here) (.cons (.here) (.cons (.here) (.nil)))) (find24_in hok.protos hF (by omega) (by omega) ?_ ?_ (F + 1) 0 (by omega) (Nat.zero_le _) (by rw [List.drop_zero])))
  ·intro l' i hh e8 e9 e10
   simp only [hu]
   rw [hF, show (F : Int).toNat = F from rfl, hh]
   exact ⟨.inr rfl, _, .t e8 (.t e9 (.t e10 .nil)), _, _, (.cons (.there (.here)) (.cons (.there (.here)) (.cons (.there (.here)) (.nil)))), rfl, rfl⟩
  ·intro l' hh
   simp only [hu]
   rw [hF, show (F : Int).toNat = F from rfl, hh]
   show Cd _ _ _ _ _ _
   refine Cd.weak (l2 := []) trivial ?_
   repeat' (first|intro _|refine yS ?_|(apply YB.mk<;>intro hc)|(apply YA.mk;intro cv hv)|(refine yT ?_ ?_<;>(intro e;(try simp only [nbT,nbF] at e);subst e;try contradiction)))
   refine yX ?_
   exact ⟨_, _, (.cons (.there (.here)) (.cons (.there (.here)) (.cons (.there (.here)) (.nil)))), rfl, rfl⟩
end
end Go.Proofs.YtlimjjilakldgaaGreat
