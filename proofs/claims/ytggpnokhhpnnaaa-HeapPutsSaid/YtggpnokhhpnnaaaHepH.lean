/- HeapPuts: its loop. -/
import Derived.Test.YtggpnokhhpnnaaaHepG
set_option autoImplicit false
set_option maxRecDepth 100000
set_option maxHeartbeats 4000000
set_option linter.unusedVariables false
set_option linter.unusedSimpArgs false
namespace Go.Proofs.Ytggpnokhhpnnaaa
open Go Go.Abs
theorem can_of {v : Val} (h1 : isB v = true) (h2 : keyB v = true) : Can v := by
  obtain ⟨k, n, s⟩ := v
  simp only [keyB, Bool.or_eq_true, decide_eq_true_eq] at h2
  rcases h2 with rfl | rfl
  · simp [isB] at h1
    exact .inl ⟨rfl, h1⟩
  · simp [isB] at h1
    exact .inr ⟨rfl, h1.1⟩
theorem zero_of {v : Val} (h1 : isB v = true) (h2 : v.k = 0) : v = v0 := by
  obtain ⟨k, n, s⟩ := v
  simp only at h2
  subst h2
  simp [isB] at h1
  rw [h1.1, h1.2]
theorem can_key {v : Val} (h : Can v) : keyB v = true := by
  rcases h with ⟨h, _⟩ | ⟨h, _⟩ <;> simp [keyB, h]
theorem getM_self {k v : Val} {es : List Ent} {ck : Nat} (G : Good es ck) (hv : isB v = true) : getE k v0 (putM k v es ck) = v := by
  by_cases h : v.k = 0
  · rw [putM, if_pos h, getE, under_del G.keys]
    exact (zero_of hv h).symm
  · obtain ⟨n, hn⟩ := under_put (k := k) (v := v) (ck := ck) (es := es)
    rw [putM, if_neg h, getE, hn]
theorem getM_ne {k j v : Val} {es : List Ent} {ck : Nat} (h : j ≠ k) : getE j v0 (putM k v es ck) = getE j v0 es := by
  by_cases h0 : v.k = 0
  · rw [putM, if_pos h0, getE, under_del_ne h, getE]
  · rw [putM, if_neg h0, getE, under_put_ne h, getE]
theorem keysM {k v x : Val} {es : List Ent} {ck : Nat} (h : x ∈ keysE (putM k v es ck)) : x = k ∨ x ∈ keysE es := by
  unfold putM at h
  split at h
  · obtain ⟨e, he, rfl⟩ := List.mem_map.1 h
    exact .inr (List.mem_map.2 ⟨e, del_sub.subset he, rfl⟩)
  · rw [keys_put] at h
    split at h
    · rcases List.mem_append.1 h with h | h
      · exact .inr h
      · simp at h; exact .inl h
    · exact .inr h
theorem lenM {k v : Val} {es : List Ent} {ck : Nat} : (putM k v es ck).length ≤ es.length + 1 := by
  unfold putM
  split
  · exact Nat.le_succ_of_le del_sub.length_le
  · rw [putE_len]; split <;> omega
section
variable {lv : AV} {b b5 b7 b24 m0 m1 ck i k : Nat} {T O : OS} {os : List Val} {es : List Ent} {x y v : Val} {K : Mem}
theorem n35 (hO : O.ok 3) (hr : O.rows = os.map valR) (hos : os.length ≤ 1000) (hx : os[k]? = some x) (hy : os[k + 1]? = some y) (hv : x.k = y.k → v.n = 1) (hxy : aheadB x y = true) (hOi : ∀ id a, (id, a) ∈ O.c → InK K id a) (h24 : InK K b24 (.cells (valR v) 0 0 false)) :
    Cd Try.prog true (.draw r4_35) ((24, .ptr b24 0 0 3) :: s4 lv b b5 b7 i O (k + 1)) K fun e l K' => e = .nrm ∧ Sub2 ((232, .bool false) :: s4 lv b b5 b7 i O (k + 1)) l ∧ K' = K := by
  have hrow := valRows os
  have hri : (os.map valR)[k]? = some (valR x) := by rw [List.getElem?_map, hx]; rfl
  have hkl := (List.getElem?_eq_some_iff.1 hri).1
  have hri2 : (os.map valR)[k + 1]? = some (valR y) := by rw [List.getElem?_map, hy]; rfl
  have hkl2 := (List.getElem?_eq_some_iff.1 hri2).1
  obtain ⟨id, g, e⟩ := hO.at (i := k) (r := valR x) (by rw [hr]; exact hri)
  rw [hr] at e
  subst e
  have q1 := iadr_slc (sz := 3) (b := id) (g := g) (off := 0) (len := (os.map valR).length) (cap := (os.map valR).length) (i := k) (k := .i64) hkl
  have q2 := iadr_slc (sz := 3) (b := id) (g := g) (off := 0) (len := (os.map valR).length) (cap := (os.map valR).length) (i := k + 1) (k := .i64) hkl2
  have hkk := hkl2
  rw [List.length_map] at hkk
  have a1 : abin .sub (.int .i64 (.ofNat (k + 1))) (.int .i64 (.ofNat 1)) = some (.int .i64 (.ofNat k)) := sub_nat (a := k + 1) (b := 1) (by omega) (by omega)
  have hin : InK K id (.cells (os.map valR).flatten g g true) := hOi _ _ (by simp [OS.c])
  have r1 : Rdk K .load1 (.ptr id g (0 + k * 3 + 0) 1) (.ptr id g (0 + k * 3 + 0) 1) (.int .i64 x.k) := Rdk.cel hin hrow hri rfl
  have r2 : Rdk K .load1 (.ptr id g (0 + (k + 1) * 3 + 0) 1) (.ptr id g (0 + (k + 1) * 3 + 0) 1) (.int .i64 y.k) := Rdk.cel hin hrow hri2 rfl
  have r3 : Rdk K .load1 (.ptr b24 0 (0 + 1) 1) (.ptr b24 0 (0 + 1) 1) (.int .i64 v.n) := Rdk.b1 h24 rfl
  by_cases h : x.k = y.k
  · have h1 := hv h
    by_cases h3 : x.k = 2
    · have h4 : ¬ y.k = 1 := by omega
      repeat' (first|refine zA ?_|refine Cd.reg ?_|refine Rg.nil ?_|refine zF ?_|refine zG ?_|refine zH ?_|(refine Rg.p (v:=?_) ?_ ?_;rotate_left;exact zE)|(refine Rg.cmp (p:=?_) rfl rfl ?_ ?_;rotate_left;exact zC;intro cv hv)|(refine Rg.r (v:=?_) rfl rfl ?_ ?_;rotate_left;exact zN)|refine zL fun _=>?_|refine Rg.alloc fun _=>?_|refine Rg.a (Mk.lits rfl) fun _=>?_|refine zO (cs:=?_) (K':=?_) ?_|refine zP (cs:=?_) (K':=?_) ?_|(refine zQ (g:=?_) ?_;intro cv hv)|(refine zR (w:=?_) ?_;intro cv hv)|refine zS (v:=?_) ?_|refine zT (v:=?_) ?_|refine Lp.round ?_|refine Cd.draw ?_|refine Dw.nil ?_|refine Dw.guardY rfl ?_|refine Dw.guardN rfl ?_|refine Dw.guardT rfl ?_|(refine Dw.p (v:=?_) ?_ ?_;rotate_left;exact zE)|(refine Dw.cmp (p:=?_) rfl rfl ?_ ?_;rotate_left;exact zC;intro cv hv)|(refine Dw.r (v:=?_) rfl rfl ?_ ?_ ?_;rotate_left;exact zN;exact zM)|refine Dw.a Mk.alloc fun _=>?_|refine Dw.a (Mk.lits rfl) fun _=>?_|(refine zY (g:=?_) ?_;intro cv hv)|refine zW (v:=?_) ?_|refine Cd.condT rfl ?_|refine Cd.condF rfl ?_|((first|refine Cd.cond rfl ?_ ?_|refine Rg.guardS rfl ?_ ?_|refine Dw.guardS rfl ?_ ?_)<;>(intro e;(try simp only [Bool.not_eq_true',Bool.not_eq_false'] at e);subst e;try contradiction))|refine Cd.skip ?_|refine Cd.blk ?_|refine Cd.ext ?_|refine Cd.ret ?_)
      exact ⟨rfl, ⟨rfl, rfl, rfl, rfl, rfl, rfl, rfl, rfl, trivial⟩, rfl⟩
    · repeat' (first|refine zA ?_|refine Cd.reg ?_|refine Rg.nil ?_|refine zF ?_|refine zG ?_|refine zH ?_|(refine Rg.p (v:=?_) ?_ ?_;rotate_left;exact zE)|(refine Rg.cmp (p:=?_) rfl rfl ?_ ?_;rotate_left;exact zC;intro cv hv)|(refine Rg.r (v:=?_) rfl rfl ?_ ?_;rotate_left;exact zN)|refine zL fun _=>?_|refine Rg.alloc fun _=>?_|refine Rg.a (Mk.lits rfl) fun _=>?_|refine zO (cs:=?_) (K':=?_) ?_|refine zP (cs:=?_) (K':=?_) ?_|(refine zQ (g:=?_) ?_;intro cv hv)|(refine zR (w:=?_) ?_;intro cv hv)|refine zS (v:=?_) ?_|refine zT (v:=?_) ?_|refine Lp.round ?_|refine Cd.draw ?_|refine Dw.nil ?_|refine Dw.guardY rfl ?_|refine Dw.guardN rfl ?_|refine Dw.guardT rfl ?_|(refine Dw.p (v:=?_) ?_ ?_;rotate_left;exact zE)|(refine Dw.cmp (p:=?_) rfl rfl ?_ ?_;rotate_left;exact zC;intro cv hv)|(refine Dw.r (v:=?_) rfl rfl ?_ ?_ ?_;rotate_left;exact zN;exact zM)|refine Dw.a Mk.alloc fun _=>?_|refine Dw.a (Mk.lits rfl) fun _=>?_|(refine zY (g:=?_) ?_;intro cv hv)|refine zW (v:=?_) ?_|refine Cd.condT rfl ?_|refine Cd.condF rfl ?_|((first|refine Cd.cond rfl ?_ ?_|refine Rg.guardS rfl ?_ ?_|refine Dw.guardS rfl ?_ ?_)<;>(intro e;(try simp only [Bool.not_eq_true',Bool.not_eq_false'] at e);subst e;try contradiction))|refine Cd.skip ?_|refine Cd.blk ?_|refine Cd.ext ?_|refine Cd.ret ?_)
      exact ⟨rfl, ⟨rfl, rfl, rfl, rfl, rfl, rfl, rfl, rfl, trivial⟩, rfl⟩
  · have h2 : x.k < y.k := by
      unfold aheadB at hxy
      rw [if_pos h] at hxy
      simpa using hxy
    by_cases h3 : x.k = 2
    · have h4 : ¬ y.k = 1 := by omega
      repeat' (first|refine zA ?_|refine Cd.reg ?_|refine Rg.nil ?_|refine zF ?_|refine zG ?_|refine zH ?_|(refine Rg.p (v:=?_) ?_ ?_;rotate_left;exact zE)|(refine Rg.cmp (p:=?_) rfl rfl ?_ ?_;rotate_left;exact zC;intro cv hv)|(refine Rg.r (v:=?_) rfl rfl ?_ ?_;rotate_left;exact zN)|refine zL fun _=>?_|refine Rg.alloc fun _=>?_|refine Rg.a (Mk.lits rfl) fun _=>?_|refine zO (cs:=?_) (K':=?_) ?_|refine zP (cs:=?_) (K':=?_) ?_|(refine zQ (g:=?_) ?_;intro cv hv)|(refine zR (w:=?_) ?_;intro cv hv)|refine zS (v:=?_) ?_|refine zT (v:=?_) ?_|refine Lp.round ?_|refine Cd.draw ?_|refine Dw.nil ?_|refine Dw.guardY rfl ?_|refine Dw.guardN rfl ?_|refine Dw.guardT rfl ?_|(refine Dw.p (v:=?_) ?_ ?_;rotate_left;exact zE)|(refine Dw.cmp (p:=?_) rfl rfl ?_ ?_;rotate_left;exact zC;intro cv hv)|(refine Dw.r (v:=?_) rfl rfl ?_ ?_ ?_;rotate_left;exact zN;exact zM)|refine Dw.a Mk.alloc fun _=>?_|refine Dw.a (Mk.lits rfl) fun _=>?_|(refine zY (g:=?_) ?_;intro cv hv)|refine zW (v:=?_) ?_|refine Cd.condT rfl ?_|refine Cd.condF rfl ?_|((first|refine Cd.cond rfl ?_ ?_|refine Rg.guardS rfl ?_ ?_|refine Dw.guardS rfl ?_ ?_)<;>(intro e;(try simp only [Bool.not_eq_true',Bool.not_eq_false'] at e);subst e;try contradiction))|refine Cd.skip ?_|refine Cd.blk ?_|refine Cd.ext ?_|refine Cd.ret ?_)
      exact ⟨rfl, ⟨rfl, rfl, rfl, rfl, rfl, rfl, rfl, rfl, trivial⟩, rfl⟩
    · repeat' (first|refine zA ?_|refine Cd.reg ?_|refine Rg.nil ?_|refine zF ?_|refine zG ?_|refine zH ?_|(refine Rg.p (v:=?_) ?_ ?_;rotate_left;exact zE)|(refine Rg.cmp (p:=?_) rfl rfl ?_ ?_;rotate_left;exact zC;intro cv hv)|(refine Rg.r (v:=?_) rfl rfl ?_ ?_;rotate_left;exact zN)|refine zL fun _=>?_|refine Rg.alloc fun _=>?_|refine Rg.a (Mk.lits rfl) fun _=>?_|refine zO (cs:=?_) (K':=?_) ?_|refine zP (cs:=?_) (K':=?_) ?_|(refine zQ (g:=?_) ?_;intro cv hv)|(refine zR (w:=?_) ?_;intro cv hv)|refine zS (v:=?_) ?_|refine zT (v:=?_) ?_|refine Lp.round ?_|refine Cd.draw ?_|refine Dw.nil ?_|refine Dw.guardY rfl ?_|refine Dw.guardN rfl ?_|refine Dw.guardT rfl ?_|(refine Dw.p (v:=?_) ?_ ?_;rotate_left;exact zE)|(refine Dw.cmp (p:=?_) rfl rfl ?_ ?_;rotate_left;exact zC;intro cv hv)|(refine Dw.r (v:=?_) rfl rfl ?_ ?_ ?_;rotate_left;exact zN;exact zM)|refine Dw.a Mk.alloc fun _=>?_|refine Dw.a (Mk.lits rfl) fun _=>?_|(refine zY (g:=?_) ?_;intro cv hv)|refine zW (v:=?_) ?_|refine Cd.condT rfl ?_|refine Cd.condF rfl ?_|((first|refine Cd.cond rfl ?_ ?_|refine Rg.guardS rfl ?_ ?_|refine Dw.guardS rfl ?_ ?_)<;>(intro e;(try simp only [Bool.not_eq_true',Bool.not_eq_false'] at e);subst e;try contradiction))|refine Cd.skip ?_|refine Cd.blk ?_|refine Cd.ext ?_|refine Cd.ret ?_)
      exact ⟨rfl, ⟨rfl, rfl, rfl, rfl, rfl, rfl, rfl, rfl, trivial⟩, rfl⟩
theorem sorted_at {os : List Val} (hs : os.Pairwise fun a b => aheadB a b = true) {k : Nat} {x y : Val} (hx : os[k]? = some x) (hy : os[k + 1]? = some y) : aheadB x y = true := by
  obtain ⟨h1, rfl⟩ := List.getElem?_eq_some_iff.1 hx
  obtain ⟨h2, rfl⟩ := List.getElem?_eq_some_iff.1 hy
  exact List.pairwise_iff_getElem.1 hs k (k + 1) h1 h2 (Nat.lt_succ_self _)
theorem loop4c {Q : AX → SL → Mem → Prop} (hO : O.ok 3) (hr : O.rows = os.map valR) (hos : os.length ≤ 1000) (hs : os.Pairwise fun a b => aheadB a b = true) (hk : ∀ x, x ∈ os → (x.k = 1 ∨ x.k = 2) ∧ x.s.length ≤ 9223372036854775807)
    (hend : ∀ l', Sub2 (p4 lv b b5 b7 i) l' → Q (.ext 6) l' (mR b T m0 ck es m1 b5 b7 [O.c])) :
    ∀ (f k : Nat), os.length + 1 ≤ k + 1 + f → 1 ≤ f → Lp Try.prog true b4_2 f (s4 lv b b5 b7 i O (k + 1)) (mR b T m0 ck es m1 b5 b7 [O.c]) Q := by
  have hl := hO.len
  rw [hr, List.length_map] at hl
  intro f
  induction f with
  | zero =>
    intro k h1 h2
    omega
  | succ f ih =>
    intro k h1 h2
    refine Lp.round ?_
    by_cases hki : k + 1 < os.length
    · obtain ⟨x, hx⟩ : ∃ x, os[k]? = some x := ⟨_, List.getElem?_eq_getElem (by omega)⟩
      obtain ⟨y, hy⟩ : ∃ y, os[k + 1]? = some y := ⟨_, List.getElem?_eq_getElem hki⟩
      have hxy := sorted_at hs hx hy
      obtain ⟨hck, hxs⟩ := hk x (List.mem_of_getElem? hx)
      repeat' (first|(refine stopC (c := .draw r4_34) ?_)|refine zA ?_|refine Cd.reg ?_|refine Rg.nil ?_|refine zF ?_|refine zG ?_|refine zH ?_|(refine Rg.p (v:=?_) ?_ ?_;rotate_left;exact zE)|(refine Rg.cmp (p:=?_) rfl rfl ?_ ?_;rotate_left;exact zC;intro cv hv)|(refine Rg.r (v:=?_) rfl rfl ?_ ?_;rotate_left;exact zN)|refine zL fun _=>?_|refine Rg.alloc fun _=>?_|refine Rg.a (Mk.lits rfl) fun _=>?_|refine zO (cs:=?_) (K':=?_) ?_|refine zP (cs:=?_) (K':=?_) ?_|(refine zQ (g:=?_) ?_;intro cv hv)|(refine zR (w:=?_) ?_;intro cv hv)|refine zS (v:=?_) ?_|refine zT (v:=?_) ?_|refine Lp.round ?_|refine Cd.draw ?_|refine Dw.nil ?_|refine Dw.guardY rfl ?_|refine Dw.guardN rfl ?_|refine Dw.guardT rfl ?_|(refine Dw.p (v:=?_) ?_ ?_;rotate_left;exact zE)|(refine Dw.cmp (p:=?_) rfl rfl ?_ ?_;rotate_left;exact zC;intro cv hv)|(refine Dw.r (v:=?_) rfl rfl ?_ ?_ ?_;rotate_left;exact zN;exact zM)|refine Dw.a Mk.alloc fun _=>?_|refine Dw.a (Mk.lits rfl) fun _=>?_|(refine zY (g:=?_) ?_;intro cv hv)|refine zW (v:=?_) ?_|refine Cd.condT rfl ?_|refine Cd.condF rfl ?_|((first|refine Cd.cond rfl ?_ ?_|refine Rg.guardS rfl ?_ ?_|refine Dw.guardS rfl ?_ ?_)<;>(intro e;(try simp only [Bool.not_eq_true',Bool.not_eq_false'] at e);subst e;try contradiction))|refine Cd.skip ?_|refine Cd.blk ?_|refine Cd.ext ?_|refine Cd.ret ?_)
      refine ⟨?_⟩
      refine Cd.weak (l2 := s4 lv b b5 b7 i O (k + 1)) ⟨rfl, rfl, rfl, rfl, rfl, rfl, rfl, trivial⟩ ?_
      refine Cd.mono (n34 hO hr hos hx hy hck hxs (hk y (List.mem_of_getElem? hy)).2 hxy (fun id a h => .there (.there (.there (.there (.there (.there (.mem h)))))))) ?_
      rintro _ l1 _ ⟨rfl, b24, v, hv, hs2, rfl⟩
      show Cd _ _ _ _ _ _
      refine Cd.weak hs2 ?_
      refine Cd.seq (Cd.mono (n35 hO hr hos hx hy hv hxy (fun id a h => .there (.there (.there (.there (.there (.there (.there (.mem h)))))))) .here) ?_)
      rintro _ l1 _ ⟨rfl, hs3, rfl⟩
      show Cd _ _ _ _ _ _
      refine Cd.weak hs3 (Cd.drop (m := mR b T m0 ck es m1 b5 b7 [O.c]) (.cons (.there .here) (.cons (.there .here) (.cons (.there .here) (.cons (.there .here) (.cons (.there .here) (.cons (.there .here) (.cons (.there .here) .nil))))))) ?_)
      repeat' (first|refine zA ?_|refine Cd.reg ?_|refine Rg.nil ?_|refine zF ?_|refine zG ?_|refine zH ?_|(refine Rg.p (v:=?_) ?_ ?_;rotate_left;exact zE)|(refine Rg.cmp (p:=?_) rfl rfl ?_ ?_;rotate_left;exact zC;intro cv hv)|(refine Rg.r (v:=?_) rfl rfl ?_ ?_;rotate_left;exact zN)|refine zL fun _=>?_|refine Rg.alloc fun _=>?_|refine Rg.a (Mk.lits rfl) fun _=>?_|refine zO (cs:=?_) (K':=?_) ?_|refine zP (cs:=?_) (K':=?_) ?_|(refine zQ (g:=?_) ?_;intro cv hv)|(refine zR (w:=?_) ?_;intro cv hv)|refine zS (v:=?_) ?_|refine zT (v:=?_) ?_|refine Lp.round ?_|refine Cd.draw ?_|refine Dw.nil ?_|refine Dw.guardY rfl ?_|refine Dw.guardN rfl ?_|refine Dw.guardT rfl ?_|(refine Dw.p (v:=?_) ?_ ?_;rotate_left;exact zE)|(refine Dw.cmp (p:=?_) rfl rfl ?_ ?_;rotate_left;exact zC;intro cv hv)|(refine Dw.r (v:=?_) rfl rfl ?_ ?_ ?_;rotate_left;exact zN;exact zM)|refine Dw.a Mk.alloc fun _=>?_|refine Dw.a (Mk.lits rfl) fun _=>?_|(refine zY (g:=?_) ?_;intro cv hv)|refine zW (v:=?_) ?_|refine Cd.condT rfl ?_|refine Cd.condF rfl ?_|((first|refine Cd.cond rfl ?_ ?_|refine Rg.guardS rfl ?_ ?_|refine Dw.guardS rfl ?_ ?_)<;>(intro e;(try simp only [Bool.not_eq_true',Bool.not_eq_false'] at e);subst e;try contradiction))|refine Cd.skip ?_|refine Cd.blk ?_|refine Cd.ext ?_|refine Cd.ret ?_)
      refine Lp.weak ?hw (ih (k + 1) (by omega) (by omega))
      case hw => exact ⟨rfl, rfl, rfl, rfl, rfl, rfl, rfl, trivial⟩
    · repeat' (first|refine zA ?_|refine Cd.reg ?_|refine Rg.nil ?_|refine zF ?_|refine zG ?_|refine zH ?_|(refine Rg.p (v:=?_) ?_ ?_;rotate_left;exact zE)|(refine Rg.cmp (p:=?_) rfl rfl ?_ ?_;rotate_left;exact zC;intro cv hv)|(refine Rg.r (v:=?_) rfl rfl ?_ ?_;rotate_left;exact zN)|refine zL fun _=>?_|refine Rg.alloc fun _=>?_|refine Rg.a (Mk.lits rfl) fun _=>?_|refine zO (cs:=?_) (K':=?_) ?_|refine zP (cs:=?_) (K':=?_) ?_|(refine zQ (g:=?_) ?_;intro cv hv)|(refine zR (w:=?_) ?_;intro cv hv)|refine zS (v:=?_) ?_|refine zT (v:=?_) ?_|refine Lp.round ?_|refine Cd.draw ?_|refine Dw.nil ?_|refine Dw.guardY rfl ?_|refine Dw.guardN rfl ?_|refine Dw.guardT rfl ?_|(refine Dw.p (v:=?_) ?_ ?_;rotate_left;exact zE)|(refine Dw.cmp (p:=?_) rfl rfl ?_ ?_;rotate_left;exact zC;intro cv hv)|(refine Dw.r (v:=?_) rfl rfl ?_ ?_ ?_;rotate_left;exact zN;exact zM)|refine Dw.a Mk.alloc fun _=>?_|refine Dw.a (Mk.lits rfl) fun _=>?_|(refine zY (g:=?_) ?_;intro cv hv)|refine zW (v:=?_) ?_|refine Cd.condT rfl ?_|refine Cd.condF rfl ?_|((first|refine Cd.cond rfl ?_ ?_|refine Rg.guardS rfl ?_ ?_|refine Dw.guardS rfl ?_ ?_)<;>(intro e;(try simp only [Bool.not_eq_true',Bool.not_eq_false'] at e);subst e;try contradiction))|refine Cd.skip ?_|refine Cd.blk ?_|refine Cd.ext ?_|refine Cd.ret ?_)
      exact hend _ ⟨rfl, rfl, rfl, rfl, rfl, trivial⟩
end
end Go.Proofs.Ytggpnokhhpnnaaa

namespace Go.Proofs.Ytggpnokhhpnnaaa
open Go Go.Abs
structure InvP (i ck : Nat) (es : List Ent) : Prop where
  good : Good es ck
  can : ∀ x, x ∈ keysE es → Can x ∧ x.s.length ≤ 9223372036854775807
  len : es.length ≤ i
theorem InvP.put {i ck : Nat} {es : List Ent} {k v : Val} (I : InvP i ck es) (hk : Can k) (hs : k.s.length ≤ 9223372036854775807) : InvP (i + 1) (putN k v es ck) (putM k v es ck) :=
  ⟨I.good.putM, fun x hx => by
    rcases keysM hx with rfl | hx
    · exact ⟨hk, hs⟩
    · exact I.can x hx, Nat.le_trans lenM (by have := I.len; omega)⟩
theorem InvP.canE {i ck : Nat} {es : List Ent} (I : InvP i ck es) : ∀ e, e ∈ es → Can e.1 := fun e he => (I.can e.1 (List.mem_map.2 ⟨e, he, rfl⟩)).1
section
variable {lv : AV} {b b5 b7 m0 m1 ck i : Nat} {T : OS} {es : List Ent} {ops : List OpS} {o : OpS}
/-- One op's part of the round that is behind the guards. -/
theorem round4 {R : AX → SL → Mem → Prop} (hT : T.ok 1) (h0 : T.rows[0]? = some [.map m0]) (h1 : T.rows[1]? = some [.map m1]) (I : InvP i ck es) (hi : i < 40) (ho : OkO o) (hsm : smallB o = true) (hk : keyB o.k = true) {b10 : Nat}
    (hend : ∀ es' ck' l' c, InvP (i + 1) ck' es' → Sub2 (p4 lv b b5 b7 i) l' → R .nrm l' (mR b T m0 ck' es' m1 b5 b7 [c])) :
    Cd Try.prog true (.seq (.reg r4_12) (.seq (.reg r4_13) (.seq (.seq (.reg r4_14) (.blk 2 (.loop b4_0))) (.seq (.seq (.reg r4_19) (.cond (.t 112) (.seq (.reg r4_20) .ret) .skip)) (.seq (.reg r4_21) (.seq (.reg r4_22) (.seq (.seq (.reg r4_23) (.cond (.t 145) (.seq (.reg r4_24) .ret) .skip)) (.seq (.seq (.reg r4_25) (.blk 4 (.loop b4_1))) (.seq (.reg r4_31) (.seq (.reg r4_32) (.blk 6 (.loop b4_2))))))))))))
      ((10, .ptr b10 0 0 14) :: p4 lv b b5 b7 i) (mR b T m0 ck es m1 b5 b7 [bO b10 o]) R := by
  have hel := I.len
  have hisV : isB o.v = true := by simp only [smallB, Bool.and_eq_true] at hsm; exact hsm.1.1.2
  have hisK : isB o.k = true := by simp only [smallB, Bool.and_eq_true, Bool.or_eq_true, hk] at hsm; simpa using hsm.2
  have hcK := can_of hisK hk
  refine Cd.seq (Cd.mono (n12p hT h0 I.good I.canE (by omega)) ?_)
  rintro _ l1 _ ⟨rfl, O, os, hO, hr, hp, hs, hsub, r, hsel⟩
  have hos : os.length = es.length := by rw [hp.length_eq, keysE, List.length_map]
  have hkey : ∀ x, x ∈ os → keyB x = true := fun x hx => can_key (I.can x (hp.mem_iff.1 hx)).1
  show Cd _ _ _ _ _ _
  refine Cd.weak hsub (Cd.drop hsel ?_)
  repeat' (first|refine zA ?_|refine Cd.reg ?_|refine Rg.nil ?_|refine zF ?_|refine zG ?_|refine zH ?_|(refine Rg.p (v:=?_) ?_ ?_;rotate_left;exact zE)|(refine Rg.cmp (p:=?_) rfl rfl ?_ ?_;rotate_left;exact zC;intro cv hv)|(refine Rg.r (v:=?_) rfl rfl ?_ ?_;rotate_left;exact zN)|refine zL fun _=>?_|refine Rg.alloc fun _=>?_|refine Rg.a (Mk.lits rfl) fun _=>?_|refine zO (cs:=?_) (K':=?_) ?_|refine zP (cs:=?_) (K':=?_) ?_|(refine zQ (g:=?_) ?_;intro cv hv)|(refine zR (w:=?_) ?_;intro cv hv)|refine zS (v:=?_) ?_|refine zT (v:=?_) ?_|refine Lp.round ?_|refine Cd.draw ?_|refine Dw.nil ?_|refine Dw.guardY rfl ?_|refine Dw.guardN rfl ?_|refine Dw.guardT rfl ?_|(refine Dw.p (v:=?_) ?_ ?_;rotate_left;exact zE)|(refine Dw.cmp (p:=?_) rfl rfl ?_ ?_;rotate_left;exact zC;intro cv hv)|(refine Dw.r (v:=?_) rfl rfl ?_ ?_ ?_;rotate_left;exact zN;exact zM)|refine Dw.a Mk.alloc fun _=>?_|refine Dw.a (Mk.lits rfl) fun _=>?_|(refine zY (g:=?_) ?_;intro cv hv)|refine zW (v:=?_) ?_|refine Cd.condT rfl ?_|refine Cd.condF rfl ?_|((first|refine Cd.cond rfl ?_ ?_|refine Rg.guardS rfl ?_ ?_|refine Dw.guardS rfl ?_ ?_)<;>(intro e;(try simp only [Bool.not_eq_true',Bool.not_eq_false'] at e);subst e;try contradiction))|refine Cd.skip ?_|refine Cd.blk ?_|refine Cd.ext ?_|refine Cd.ret ?_)
  refine Cd.weak (l2 := (13, .int .i64 (.ofNat 0)) :: w4 lv b b5 b7 b10 i O ⟨none, []⟩) ⟨rfl, rfl, rfl, rfl, rfl, rfl, rfl, rfl, rfl, trivial⟩ ?_
  refine Cd.perm (K2 := mR b T m0 ck es m1 b5 b7 [O.c, OS.c ⟨none, []⟩, bO b10 o]) (by simp [OS.c]) ?_
  refine Cd.loop (k := os.length + 1) (loop4a hT h0 hO hr (by omega) hkey ?_ (os.length + 1) 0 _ (by omega) (Nat.zero_le _) OS.ok.nil rfl)
  intro W l' hW hwr hsub
  show Cd _ _ _ _ _ _
  refine Cd.weak hsub ?_
  refine Cd.seq (Cd.seq (Cd.mono (n19p hT h0 hk (by omega)) ?_))
  rintro _ l1 _ ⟨rfl, hsub, rfl⟩
  show Cd _ _ _ _ _ _
  refine Cd.weak hsub ?_
  have I' := I.put (v := o.v) hcK ho.s
  have hg := getM_self (k := o.k) I.good hisV
  have hne := fun j h => getM_ne (k := o.k) (j := j) (v := o.v) (es := es) (ck := ck) h
  generalize putM o.k o.v es ck = es' at *
  generalize putN o.k o.v es ck = ck' at *
  repeat' (first|(refine stopC (c := .reg r4_21) ?_)|refine zA ?_|refine Cd.reg ?_|refine Rg.nil ?_|refine zF ?_|refine zG ?_|refine zH ?_|(refine Rg.p (v:=?_) ?_ ?_;rotate_left;exact zE)|(refine Rg.cmp (p:=?_) rfl rfl ?_ ?_;rotate_left;exact zC;intro cv hv)|(refine Rg.r (v:=?_) rfl rfl ?_ ?_;rotate_left;exact zN)|refine zL fun _=>?_|refine Rg.alloc fun _=>?_|refine Rg.a (Mk.lits rfl) fun _=>?_|refine zO (cs:=?_) (K':=?_) ?_|refine zP (cs:=?_) (K':=?_) ?_|(refine zQ (g:=?_) ?_;intro cv hv)|(refine zR (w:=?_) ?_;intro cv hv)|refine zS (v:=?_) ?_|refine zT (v:=?_) ?_|refine Lp.round ?_|refine Cd.draw ?_|refine Dw.nil ?_|refine Dw.guardY rfl ?_|refine Dw.guardN rfl ?_|refine Dw.guardT rfl ?_|(refine Dw.p (v:=?_) ?_ ?_;rotate_left;exact zE)|(refine Dw.cmp (p:=?_) rfl rfl ?_ ?_;rotate_left;exact zC;intro cv hv)|(refine Dw.r (v:=?_) rfl rfl ?_ ?_ ?_;rotate_left;exact zN;exact zM)|refine Dw.a Mk.alloc fun _=>?_|refine Dw.a (Mk.lits rfl) fun _=>?_|(refine zY (g:=?_) ?_;intro cv hv)|refine zW (v:=?_) ?_|refine Cd.condT rfl ?_|refine Cd.condF rfl ?_|((first|refine Cd.cond rfl ?_ ?_|refine Rg.guardS rfl ?_ ?_|refine Dw.guardS rfl ?_ ?_)<;>(intro e;(try simp only [Bool.not_eq_true',Bool.not_eq_false'] at e);subst e;try contradiction))|refine Cd.skip ?_|refine Cd.blk ?_|refine Cd.ext ?_|refine Cd.ret ?_)
  refine ⟨?_⟩
  refine Cd.weak (l2 := w4 lv b b5 b7 b10 i O W) ⟨rfl, rfl, rfl, rfl, rfl, rfl, rfl, rfl, trivial⟩ ?_
  refine Cd.mono (n21p hT h0 hk) ?_
  rintro _ l1 _ ⟨rfl, b16, hsub, r, hsel⟩
  show Cd _ _ _ _ _ _
  refine Cd.weak hsub (Cd.drop hsel ?_)
  refine Cd.seq (Cd.mono (n22p hT h1 hk) ?_)
  rintro _ l1 _ ⟨rfl, b18, hsub, r, hsel⟩
  show Cd _ _ _ _ _ _
  refine Cd.weak hsub (Cd.drop hsel ?_)
  refine Cd.seq (Cd.seq (Cd.mono (n23p hg) ?_))
  rintro _ l1 _ ⟨rfl, hsub, rfl⟩
  show Cd _ _ _ _ _ _
  refine Cd.weak hsub (Cd.drop (m := mR b T m0 ck' es' m1 b5 b7 [O.c, W.c, bO b10 o]) (.cons .here (.cons .here (.cons .here (.cons .here (.cons .here (.cons .here (.cons (.there (.there .here)) (.cons (.there (.there .here)) (.cons (.there (.there .here)) .nil))))))))) ?_)
  repeat' (first|refine zA ?_|refine Cd.reg ?_|refine Rg.nil ?_|refine zF ?_|refine zG ?_|refine zH ?_|(refine Rg.p (v:=?_) ?_ ?_;rotate_left;exact zE)|(refine Rg.cmp (p:=?_) rfl rfl ?_ ?_;rotate_left;exact zC;intro cv hv)|(refine Rg.r (v:=?_) rfl rfl ?_ ?_;rotate_left;exact zN)|refine zL fun _=>?_|refine Rg.alloc fun _=>?_|refine Rg.a (Mk.lits rfl) fun _=>?_|refine zO (cs:=?_) (K':=?_) ?_|refine zP (cs:=?_) (K':=?_) ?_|(refine zQ (g:=?_) ?_;intro cv hv)|(refine zR (w:=?_) ?_;intro cv hv)|refine zS (v:=?_) ?_|refine zT (v:=?_) ?_|refine Lp.round ?_|refine Cd.draw ?_|refine Dw.nil ?_|refine Dw.guardY rfl ?_|refine Dw.guardN rfl ?_|refine Dw.guardT rfl ?_|(refine Dw.p (v:=?_) ?_ ?_;rotate_left;exact zE)|(refine Dw.cmp (p:=?_) rfl rfl ?_ ?_;rotate_left;exact zC;intro cv hv)|(refine Dw.r (v:=?_) rfl rfl ?_ ?_ ?_;rotate_left;exact zN;exact zM)|refine Dw.a Mk.alloc fun _=>?_|refine Dw.a (Mk.lits rfl) fun _=>?_|(refine zY (g:=?_) ?_;intro cv hv)|refine zW (v:=?_) ?_|refine Cd.condT rfl ?_|refine Cd.condF rfl ?_|((first|refine Cd.cond rfl ?_ ?_|refine Rg.guardS rfl ?_ ?_|refine Dw.guardS rfl ?_ ?_)<;>(intro e;(try simp only [Bool.not_eq_true',Bool.not_eq_false'] at e);subst e;try contradiction))|refine Cd.skip ?_|refine Cd.blk ?_|refine Cd.ext ?_|refine Cd.ret ?_)
  refine Cd.weak (l2 := k4 lv b b5 b7 b10 i O W 0) ⟨rfl, rfl, rfl, rfl, rfl, rfl, rfl, rfl, rfl, trivial⟩ ?_
  refine Cd.loop (k := os.length + 1) (loop4b hT h0 hO hr (by omega) hkey hW hwr ?_ ?_ (os.length + 1) 0 (by omega) (Nat.zero_le _))
  · intro k x hx
    exact ⟨getE x v0 es, by rw [List.getElem?_map, hx]; rfl, fun h => hne x h⟩
  intro l' hsub
  show Cd _ _ _ _ _ _
  refine Cd.weak hsub ?_
  refine Cd.seq (Cd.mono (n31 hT h0 I'.good I'.canE (by have := I'.len; omega)) ?_)
  rintro _ l1 _ ⟨rfl, O2, os2, hO2, hr2, hp2, hs2, hsub, r, hsel⟩
  have hos2 : os2.length = es'.length := by rw [hp2.length_eq, keysE, List.length_map]
  show Cd _ _ _ _ _ _
  refine Cd.weak hsub (Cd.drop hsel ?_)
  repeat' (first|refine zA ?_|refine Cd.reg ?_|refine Rg.nil ?_|refine zF ?_|refine zG ?_|refine zH ?_|(refine Rg.p (v:=?_) ?_ ?_;rotate_left;exact zE)|(refine Rg.cmp (p:=?_) rfl rfl ?_ ?_;rotate_left;exact zC;intro cv hv)|(refine Rg.r (v:=?_) rfl rfl ?_ ?_;rotate_left;exact zN)|refine zL fun _=>?_|refine Rg.alloc fun _=>?_|refine Rg.a (Mk.lits rfl) fun _=>?_|refine zO (cs:=?_) (K':=?_) ?_|refine zP (cs:=?_) (K':=?_) ?_|(refine zQ (g:=?_) ?_;intro cv hv)|(refine zR (w:=?_) ?_;intro cv hv)|refine zS (v:=?_) ?_|refine zT (v:=?_) ?_|refine Lp.round ?_|refine Cd.draw ?_|refine Dw.nil ?_|refine Dw.guardY rfl ?_|refine Dw.guardN rfl ?_|refine Dw.guardT rfl ?_|(refine Dw.p (v:=?_) ?_ ?_;rotate_left;exact zE)|(refine Dw.cmp (p:=?_) rfl rfl ?_ ?_;rotate_left;exact zC;intro cv hv)|(refine Dw.r (v:=?_) rfl rfl ?_ ?_ ?_;rotate_left;exact zN;exact zM)|refine Dw.a Mk.alloc fun _=>?_|refine Dw.a (Mk.lits rfl) fun _=>?_|(refine zY (g:=?_) ?_;intro cv hv)|refine zW (v:=?_) ?_|refine Cd.condT rfl ?_|refine Cd.condF rfl ?_|((first|refine Cd.cond rfl ?_ ?_|refine Rg.guardS rfl ?_ ?_|refine Dw.guardS rfl ?_ ?_)<;>(intro e;(try simp only [Bool.not_eq_true',Bool.not_eq_false'] at e);subst e;try contradiction))|refine Cd.skip ?_|refine Cd.blk ?_|refine Cd.ext ?_|refine Cd.ret ?_)
  refine Cd.weak (l2 := s4 lv b b5 b7 i O2 (0 + 1)) ⟨rfl, rfl, rfl, rfl, rfl, rfl, rfl, trivial⟩ ?_
  refine Cd.loop (k := os2.length + 1) (loop4c hO2 hr2 (by have := I'.len; omega) hs2 ?_ ?_ (os2.length + 1) 0 (by omega) (by omega))
  · intro x hx
    obtain ⟨hc, hl⟩ := I'.can x (hp2.mem_iff.1 hx)
    exact ⟨hc.imp And.left And.left, hl⟩
  intro l' hsub
  exact hend _ _ _ _ I' hsub
theorem loop4p {Q : AX → SL → Mem → Prop} (hL : ASl 14 lv (ops.map opS)) (hO : ∀ o, o ∈ ops → OkO o) (hll : ops.length ≤ 9223372036854775807) (hT : T.ok 1) (h0 : T.rows[0]? = some [.map m0]) (h1 : T.rows[1]? = some [.map m1])
    (hend : ∀ i es ck l', InvP i ck es → i ≤ 40 → Sub2 (p4 lv b b5 b7 i) l' → Q (.ext 0) l' (mR b T m0 ck es m1 b5 b7 [])) :
    ∀ (f i ck : Nat) (es : List Ent), ops.length < i + f → i ≤ ops.length → i ≤ 40 → InvP i ck es → Lp Try.prog true b4_3 f (p4 lv b b5 b7 i) (mR b T m0 ck es m1 b5 b7 []) Q := by
  have l1 := hL.len
  rw [List.length_map] at l1
  intro f
  induction f with
  | zero => intro i ck es h2 h3; omega
  | succ f ih =>
    intro i ck es h2 h3 h4 I
    refine Lp.round ?_
    by_cases hi : i < ops.length ∧ i < 40
    · obtain ⟨hi, hi40⟩ := hi
      obtain ⟨o, ho⟩ : ∃ o, ops[i]? = some o := ⟨_, List.getElem?_eq_getElem hi⟩
      have hok := hO o (List.mem_of_getElem? ho)
      repeat' (first|(refine stopC (c := .reg r4_10) ?_)|refine zA ?_|refine Cd.reg ?_|refine Rg.nil ?_|refine zF ?_|refine zG ?_|refine zH ?_|(refine Rg.p (v:=?_) ?_ ?_;rotate_left;exact zE)|(refine Rg.cmp (p:=?_) rfl rfl ?_ ?_;rotate_left;exact zC;intro cv hv)|(refine Rg.r (v:=?_) rfl rfl ?_ ?_;rotate_left;exact zN)|refine zL fun _=>?_|refine Rg.alloc fun _=>?_|refine Rg.a (Mk.lits rfl) fun _=>?_|refine zO (cs:=?_) (K':=?_) ?_|refine zP (cs:=?_) (K':=?_) ?_|(refine zQ (g:=?_) ?_;intro cv hv)|(refine zR (w:=?_) ?_;intro cv hv)|refine zS (v:=?_) ?_|refine zT (v:=?_) ?_|refine Lp.round ?_|refine Cd.draw ?_|refine Dw.nil ?_|refine Dw.guardY rfl ?_|refine Dw.guardN rfl ?_|refine Dw.guardT rfl ?_|(refine Dw.p (v:=?_) ?_ ?_;rotate_left;exact zE)|(refine Dw.cmp (p:=?_) rfl rfl ?_ ?_;rotate_left;exact zC;intro cv hv)|(refine Dw.r (v:=?_) rfl rfl ?_ ?_ ?_;rotate_left;exact zN;exact zM)|refine Dw.a Mk.alloc fun _=>?_|refine Dw.a (Mk.lits rfl) fun _=>?_|(refine zY (g:=?_) ?_;intro cv hv)|refine zW (v:=?_) ?_|refine Cd.condT rfl ?_|refine Cd.condF rfl ?_|((first|refine Cd.cond rfl ?_ ?_|refine Rg.guardS rfl ?_ ?_|refine Dw.guardS rfl ?_ ?_)<;>(intro e;(try simp only [Bool.not_eq_true',Bool.not_eq_false'] at e);subst e;try contradiction))|refine Cd.skip ?_|refine Cd.blk ?_|refine Cd.ext ?_|refine Cd.ret ?_)
      refine ⟨?_⟩
      refine Cd.weak (l2 := p4 lv b b5 b7 i) ⟨rfl, rfl, rfl, rfl, rfl, trivial⟩ ?_
      refine Cd.mono (n10p hL ho) ?_
      rintro _ l1 _ ⟨rfl, b10, hs, r, hsel⟩
      show Cd _ _ _ _ _ _
      refine Cd.weak hs (Cd.drop hsel ?_)
      refine Cd.seq (Cd.seq (Cd.mono (n11p hok) ?_))
      rintro _ l1 _ ⟨rfl, hs, rfl⟩
      show Cd _ _ _ _ _ _
      refine Cd.weak hs ?_
      by_cases hg : smallB o = true ∧ keyB o.k = true
      · obtain ⟨hsm, hk⟩ := hg
        rw [hsm, hk]
        refine Cd.condF rfl (Cd.skip ?_)
        show Cd _ _ _ _ _ _
        refine Cd.weak (l2 := (10, .ptr b10 0 0 14) :: p4 lv b b5 b7 i) ⟨rfl, rfl, rfl, rfl, rfl, rfl, trivial⟩ ?_
        refine round4 hT h0 h1 I hi40 hok hsm hk ?_
        intro es' ck' l' c I' hsub
        show Cd _ _ _ _ _ _
        refine Cd.weak hsub (Cd.drop (m := mR b T m0 ck' es' m1 b5 b7 []) (.cons .here (.cons .here (.cons .here (.cons .here (.cons .here (.cons .here .nil)))))) ?_)
        repeat' (first|refine zA ?_|refine Cd.reg ?_|refine Rg.nil ?_|refine zF ?_|refine zG ?_|refine zH ?_|(refine Rg.p (v:=?_) ?_ ?_;rotate_left;exact zE)|(refine Rg.cmp (p:=?_) rfl rfl ?_ ?_;rotate_left;exact zC;intro cv hv)|(refine Rg.r (v:=?_) rfl rfl ?_ ?_;rotate_left;exact zN)|refine zL fun _=>?_|refine Rg.alloc fun _=>?_|refine Rg.a (Mk.lits rfl) fun _=>?_|refine zO (cs:=?_) (K':=?_) ?_|refine zP (cs:=?_) (K':=?_) ?_|(refine zQ (g:=?_) ?_;intro cv hv)|(refine zR (w:=?_) ?_;intro cv hv)|refine zS (v:=?_) ?_|refine zT (v:=?_) ?_|refine Lp.round ?_|refine Cd.draw ?_|refine Dw.nil ?_|refine Dw.guardY rfl ?_|refine Dw.guardN rfl ?_|refine Dw.guardT rfl ?_|(refine Dw.p (v:=?_) ?_ ?_;rotate_left;exact zE)|(refine Dw.cmp (p:=?_) rfl rfl ?_ ?_;rotate_left;exact zC;intro cv hv)|(refine Dw.r (v:=?_) rfl rfl ?_ ?_ ?_;rotate_left;exact zN;exact zM)|refine Dw.a Mk.alloc fun _=>?_|refine Dw.a (Mk.lits rfl) fun _=>?_|(refine zY (g:=?_) ?_;intro cv hv)|refine zW (v:=?_) ?_|refine Cd.condT rfl ?_|refine Cd.condF rfl ?_|((first|refine Cd.cond rfl ?_ ?_|refine Rg.guardS rfl ?_ ?_|refine Dw.guardS rfl ?_ ?_)<;>(intro e;(try simp only [Bool.not_eq_true',Bool.not_eq_false'] at e);subst e;try contradiction))|refine Cd.skip ?_|refine Cd.blk ?_|refine Cd.ext ?_|refine Cd.ret ?_)
        refine Lp.weak ?hw (ih (i + 1) ck' es' (by omega) (by omega) (by omega) I')
        case hw => exact ⟨rfl, rfl, rfl, rfl, rfl, trivial⟩
      · have hb : (!smallB o || !keyB o.k) = true := by
          cases h1 : smallB o <;> cases h2 : keyB o.k <;> simp_all
        rw [hb]
        refine Cd.condT rfl (Cd.ext ?_)
        show Cd _ _ _ _ _ _
        refine Cd.drop (m := mR b T m0 ck es m1 b5 b7 []) (.cons .here (.cons .here (.cons .here (.cons .here (.cons .here (.cons .here .nil)))))) ?_
        repeat' (first|refine zA ?_|refine Cd.reg ?_|refine Rg.nil ?_|refine zF ?_|refine zG ?_|refine zH ?_|(refine Rg.p (v:=?_) ?_ ?_;rotate_left;exact zE)|(refine Rg.cmp (p:=?_) rfl rfl ?_ ?_;rotate_left;exact zC;intro cv hv)|(refine Rg.r (v:=?_) rfl rfl ?_ ?_;rotate_left;exact zN)|refine zL fun _=>?_|refine Rg.alloc fun _=>?_|refine Rg.a (Mk.lits rfl) fun _=>?_|refine zO (cs:=?_) (K':=?_) ?_|refine zP (cs:=?_) (K':=?_) ?_|(refine zQ (g:=?_) ?_;intro cv hv)|(refine zR (w:=?_) ?_;intro cv hv)|refine zS (v:=?_) ?_|refine zT (v:=?_) ?_|refine Lp.round ?_|refine Cd.draw ?_|refine Dw.nil ?_|refine Dw.guardY rfl ?_|refine Dw.guardN rfl ?_|refine Dw.guardT rfl ?_|(refine Dw.p (v:=?_) ?_ ?_;rotate_left;exact zE)|(refine Dw.cmp (p:=?_) rfl rfl ?_ ?_;rotate_left;exact zC;intro cv hv)|(refine Dw.r (v:=?_) rfl rfl ?_ ?_ ?_;rotate_left;exact zN;exact zM)|refine Dw.a Mk.alloc fun _=>?_|refine Dw.a (Mk.lits rfl) fun _=>?_|(refine zY (g:=?_) ?_;intro cv hv)|refine zW (v:=?_) ?_|refine Cd.condT rfl ?_|refine Cd.condF rfl ?_|((first|refine Cd.cond rfl ?_ ?_|refine Rg.guardS rfl ?_ ?_|refine Dw.guardS rfl ?_ ?_)<;>(intro e;(try simp only [Bool.not_eq_true',Bool.not_eq_false'] at e);subst e;try contradiction))|refine Cd.skip ?_|refine Cd.blk ?_|refine Cd.ext ?_|refine Cd.ret ?_)
        exact Lp.weak (by exact ⟨rfl, rfl, rfl, rfl, rfl, trivial⟩) (ih (i + 1) ck es (by omega) (by omega) (by omega) ⟨I.good, I.can, by have := I.len; omega⟩)
    · by_cases hi2 : i < ops.length
      · have : ¬ i < 40 := fun h => hi ⟨hi2, h⟩
        repeat' (first|refine zA ?_|refine Cd.reg ?_|refine Rg.nil ?_|refine zF ?_|refine zG ?_|refine zH ?_|(refine Rg.p (v:=?_) ?_ ?_;rotate_left;exact zE)|(refine Rg.cmp (p:=?_) rfl rfl ?_ ?_;rotate_left;exact zC;intro cv hv)|(refine Rg.r (v:=?_) rfl rfl ?_ ?_;rotate_left;exact zN)|refine zL fun _=>?_|refine Rg.alloc fun _=>?_|refine Rg.a (Mk.lits rfl) fun _=>?_|refine zO (cs:=?_) (K':=?_) ?_|refine zP (cs:=?_) (K':=?_) ?_|(refine zQ (g:=?_) ?_;intro cv hv)|(refine zR (w:=?_) ?_;intro cv hv)|refine zS (v:=?_) ?_|refine zT (v:=?_) ?_|refine Lp.round ?_|refine Cd.draw ?_|refine Dw.nil ?_|refine Dw.guardY rfl ?_|refine Dw.guardN rfl ?_|refine Dw.guardT rfl ?_|(refine Dw.p (v:=?_) ?_ ?_;rotate_left;exact zE)|(refine Dw.cmp (p:=?_) rfl rfl ?_ ?_;rotate_left;exact zC;intro cv hv)|(refine Dw.r (v:=?_) rfl rfl ?_ ?_ ?_;rotate_left;exact zN;exact zM)|refine Dw.a Mk.alloc fun _=>?_|refine Dw.a (Mk.lits rfl) fun _=>?_|(refine zY (g:=?_) ?_;intro cv hv)|refine zW (v:=?_) ?_|refine Cd.condT rfl ?_|refine Cd.condF rfl ?_|((first|refine Cd.cond rfl ?_ ?_|refine Rg.guardS rfl ?_ ?_|refine Dw.guardS rfl ?_ ?_)<;>(intro e;(try simp only [Bool.not_eq_true',Bool.not_eq_false'] at e);subst e;try contradiction))|refine Cd.skip ?_|refine Cd.blk ?_|refine Cd.ext ?_|refine Cd.ret ?_)
        exact hend _ _ _ _ I h4 ⟨rfl, rfl, rfl, rfl, rfl, trivial⟩
      · repeat' (first|refine zA ?_|refine Cd.reg ?_|refine Rg.nil ?_|refine zF ?_|refine zG ?_|refine zH ?_|(refine Rg.p (v:=?_) ?_ ?_;rotate_left;exact zE)|(refine Rg.cmp (p:=?_) rfl rfl ?_ ?_;rotate_left;exact zC;intro cv hv)|(refine Rg.r (v:=?_) rfl rfl ?_ ?_;rotate_left;exact zN)|refine zL fun _=>?_|refine Rg.alloc fun _=>?_|refine Rg.a (Mk.lits rfl) fun _=>?_|refine zO (cs:=?_) (K':=?_) ?_|refine zP (cs:=?_) (K':=?_) ?_|(refine zQ (g:=?_) ?_;intro cv hv)|(refine zR (w:=?_) ?_;intro cv hv)|refine zS (v:=?_) ?_|refine zT (v:=?_) ?_|refine Lp.round ?_|refine Cd.draw ?_|refine Dw.nil ?_|refine Dw.guardY rfl ?_|refine Dw.guardN rfl ?_|refine Dw.guardT rfl ?_|(refine Dw.p (v:=?_) ?_ ?_;rotate_left;exact zE)|(refine Dw.cmp (p:=?_) rfl rfl ?_ ?_;rotate_left;exact zC;intro cv hv)|(refine Dw.r (v:=?_) rfl rfl ?_ ?_ ?_;rotate_left;exact zN;exact zM)|refine Dw.a Mk.alloc fun _=>?_|refine Dw.a (Mk.lits rfl) fun _=>?_|(refine zY (g:=?_) ?_;intro cv hv)|refine zW (v:=?_) ?_|refine Cd.condT rfl ?_|refine Cd.condF rfl ?_|((first|refine Cd.cond rfl ?_ ?_|refine Rg.guardS rfl ?_ ?_|refine Dw.guardS rfl ?_ ?_)<;>(intro e;(try simp only [Bool.not_eq_true',Bool.not_eq_false'] at e);subst e;try contradiction))|refine Cd.skip ?_|refine Cd.blk ?_|refine Cd.ext ?_|refine Cd.ret ?_)
        exact hend _ _ _ _ I h4 ⟨rfl, rfl, rfl, rfl, rfl, trivial⟩
end
end Go.Proofs.Ytggpnokhhpnnaaa

namespace Go.Proofs.Ytggpnokhhpnnaaa
open Go Go.Abs
theorem new1000p : CT Try.prog false 9 [.int .i64 (.ofNat 1000)] [] fun v K' => ∃ b, v = .tup [hP b, .int .i64 (.ofNat 0)] ∧ K' = [hB b 1000 0 .nilslc .nilslc .nilslc] :=
  new9.mono fun v K' h => by
    rcases h with ⟨h, _⟩ | ⟨room, b, h1, h2, h3, h4⟩
    · simp at h
    · cases h1; exact ⟨b, h3, h4⟩
theorem table12n {b room used n : Nat} {vf vc : AV} {T : OS} (hn : T.rows.length = n) (h : used < room) (hr : room ≤ 1000000) (hT : T.ok 1) (hl : n < 10000000) : CT Try.prog true 12 [hP b] [hB b room used (T.v 1) vf vc, T.c] fun w K' => ∃ (T' : OS) (m : Nat), T'.ok 1 ∧ T'.rows = T.rows ++ [[.map m]] ∧ w = .tup [valA (tV n), .int .i64 (.ofNat 0)] ∧ K' = [hB b room (used + 1) (T'.v 1) vf vc, T'.c, mC m 0 []] := by
  subst hn
  refine ((table12 h hr hT hl).up (nd := true)).mono ?_
  rintro w K' ⟨rfl, T', m, h1, h2, rfl⟩
  exact ⟨T', m, h1, h2, rfl, rfl⟩
theorem puts4_b {lv : AV} {ops : List OpS} {b b5 b7 m0 m1 : Nat} {T : OS} (hL : ASl 14 lv (ops.map opS)) (hO : ∀ o, o ∈ ops → OkO o) (hll : ops.length ≤ 9223372036854775807) (hT : T.ok 1) (h0 : T.rows[0]? = some [.map m0]) (h1 : T.rows[1]? = some [.map m1]) :
    Cd Try.prog true (.seq (.seq (.reg r4_8) (.blk 0 (.loop b4_3))) (.seq (.reg r4_39) (.seq (.reg r4_40) .ret))) [(0, lv), (3, hP b), (5, .ptr b5 0 0 3), (7, .ptr b7 0 0 3)] (mR b T m0 0 [] m1 b5 b7 []) (DoneK fn4.results fun w _ => w = .bool true) := by
  have k15 := knownP.up (nd := true)
  repeat' (first|refine zA ?_|refine Cd.reg ?_|refine Rg.nil ?_|refine zF ?_|refine zG ?_|refine zH ?_|(refine Rg.p (v:=?_) ?_ ?_;rotate_left;exact zE)|(refine Rg.cmp (p:=?_) rfl rfl ?_ ?_;rotate_left;exact zC;intro cv hv)|(refine Rg.r (v:=?_) rfl rfl ?_ ?_;rotate_left;exact zN)|refine zL fun _=>?_|refine Rg.alloc fun _=>?_|refine Rg.a (Mk.lits rfl) fun _=>?_|refine zO (cs:=?_) (K':=?_) ?_|refine zP (cs:=?_) (K':=?_) ?_|(refine zQ (g:=?_) ?_;intro cv hv)|(refine zR (w:=?_) ?_;intro cv hv)|refine zS (v:=?_) ?_|refine zT (v:=?_) ?_|refine Lp.round ?_|refine Cd.draw ?_|refine Dw.nil ?_|refine Dw.guardY rfl ?_|refine Dw.guardN rfl ?_|refine Dw.guardT rfl ?_|(refine Dw.p (v:=?_) ?_ ?_;rotate_left;exact zE)|(refine Dw.cmp (p:=?_) rfl rfl ?_ ?_;rotate_left;exact zC;intro cv hv)|(refine Dw.r (v:=?_) rfl rfl ?_ ?_ ?_;rotate_left;exact zN;exact zM)|refine Dw.a Mk.alloc fun _=>?_|refine Dw.a (Mk.lits rfl) fun _=>?_|(refine zY (g:=?_) ?_;intro cv hv)|refine zW (v:=?_) ?_|refine Cd.condT rfl ?_|refine Cd.condF rfl ?_|((first|refine Cd.cond rfl ?_ ?_|refine Rg.guardS rfl ?_ ?_|refine Dw.guardS rfl ?_ ?_)<;>(intro e;(try simp only [Bool.not_eq_true',Bool.not_eq_false'] at e);subst e;try contradiction))|refine Cd.skip ?_|refine Cd.blk ?_|refine Cd.ext ?_|refine Cd.ret ?_)
  refine Cd.weak (l2 := p4 lv b b5 b7 0) ⟨rfl, rfl, rfl, rfl, rfl, trivial⟩ ?_
  refine Cd.loop (k := ops.length + 1) (loop4p hL hO hll hT h0 h1 ?_ (ops.length + 1) 0 0 [] (by omega) (Nat.zero_le _) (Nat.zero_le _) ⟨Good.nil, (by intro x hx; cases hx), Nat.le_refl _⟩)
  intro i es ck l' I hi hsub
  have hel := I.len
  show Cd _ _ _ _ _ _
  refine Cd.weak hsub ?_
  have k20 := (len20 (b := b) (room := 1000) (used := es.length + 2) (s := []) (vf := .nilslc) (vc := .nilslc) (ck := ck) (es := es) hT h0).up (nd := true)
  have k11 := (used11 (b := b) (room := 1000) (used := es.length + 2) (vt := T.v 1) (vf := .nilslc) (vc := .nilslc)).up (nd := true)
  repeat' (first|(refine Rg.callM rfl k20 (.cons .here (.cons .here (.cons .here .nil))) ?_; rintro _ _ ⟨rfl, rfl⟩)|refine zA ?_|refine Cd.reg ?_|refine Rg.nil ?_|refine zF ?_|refine zG ?_|refine zH ?_|(refine Rg.p (v:=?_) ?_ ?_;rotate_left;exact zE)|(refine Rg.cmp (p:=?_) rfl rfl ?_ ?_;rotate_left;exact zC;intro cv hv)|(refine Rg.r (v:=?_) rfl rfl ?_ ?_;rotate_left;exact zN)|refine zL fun _=>?_|refine Rg.alloc fun _=>?_|refine Rg.a (Mk.lits rfl) fun _=>?_|refine zO (cs:=?_) (K':=?_) ?_|refine zP (cs:=?_) (K':=?_) ?_|(refine zQ (g:=?_) ?_;intro cv hv)|(refine zR (w:=?_) ?_;intro cv hv)|refine zS (v:=?_) ?_|refine zT (v:=?_) ?_|refine Lp.round ?_|refine Cd.draw ?_|refine Dw.nil ?_|refine Dw.guardY rfl ?_|refine Dw.guardN rfl ?_|refine Dw.guardT rfl ?_|(refine Dw.p (v:=?_) ?_ ?_;rotate_left;exact zE)|(refine Dw.cmp (p:=?_) rfl rfl ?_ ?_;rotate_left;exact zC;intro cv hv)|(refine Dw.r (v:=?_) rfl rfl ?_ ?_ ?_;rotate_left;exact zN;exact zM)|refine Dw.a Mk.alloc fun _=>?_|refine Dw.a (Mk.lits rfl) fun _=>?_|(refine zY (g:=?_) ?_;intro cv hv)|refine zW (v:=?_) ?_|refine Cd.condT rfl ?_|refine Cd.condF rfl ?_|((first|refine Cd.cond rfl ?_ ?_|refine Rg.guardS rfl ?_ ?_|refine Dw.guardS rfl ?_ ?_)<;>(intro e;(try simp only [Bool.not_eq_true',Bool.not_eq_false'] at e);subst e;try contradiction))|refine Cd.skip ?_|refine Cd.blk ?_|refine Cd.ext ?_|refine Cd.ret ?_)
  refine Rg.callM rfl (keys17 (s := []) hT h0 I.good I.canE (by omega)) (.cons .here (.cons .here (.cons .here .nil))) ?_
  rintro _ _ ⟨O, os, hOk, hr, hp, hs, rfl, rfl⟩
  have hos : os.length = es.length := by rw [hp.length_eq, keysE, List.length_map]
  have hl := hOk.len
  rw [hr, List.length_map, hos] at hl
  have a1 : abin .add (.int .i64 (.ofNat es.length)) (.int .i64 (.ofNat 2)) = some (.int .i64 (.ofNat (es.length + 2))) := add_nat (by omega)
  repeat' (first|(refine Rg.callM rfl k11 (.cons .here .nil) ?_; rintro _ _ ⟨rfl, rfl⟩)|refine zA ?_|refine Cd.reg ?_|refine Rg.nil ?_|refine zF ?_|refine zG ?_|refine zH ?_|(refine Rg.p (v:=?_) ?_ ?_;rotate_left;exact zE)|(refine Rg.cmp (p:=?_) rfl rfl ?_ ?_;rotate_left;exact zC;intro cv hv)|(refine Rg.r (v:=?_) rfl rfl ?_ ?_;rotate_left;exact zN)|refine zL fun _=>?_|refine Rg.alloc fun _=>?_|refine Rg.a (Mk.lits rfl) fun _=>?_|refine zO (cs:=?_) (K':=?_) ?_|refine zP (cs:=?_) (K':=?_) ?_|(refine zQ (g:=?_) ?_;intro cv hv)|(refine zR (w:=?_) ?_;intro cv hv)|refine zS (v:=?_) ?_|refine zT (v:=?_) ?_|refine Lp.round ?_|refine Cd.draw ?_|refine Dw.nil ?_|refine Dw.guardY rfl ?_|refine Dw.guardN rfl ?_|refine Dw.guardT rfl ?_|(refine Dw.p (v:=?_) ?_ ?_;rotate_left;exact zE)|(refine Dw.cmp (p:=?_) rfl rfl ?_ ?_;rotate_left;exact zC;intro cv hv)|(refine Dw.r (v:=?_) rfl rfl ?_ ?_ ?_;rotate_left;exact zN;exact zM)|refine Dw.a Mk.alloc fun _=>?_|refine Dw.a (Mk.lits rfl) fun _=>?_|(refine zY (g:=?_) ?_;intro cv hv)|refine zW (v:=?_) ?_|refine Cd.condT rfl ?_|refine Cd.condF rfl ?_|((first|refine Cd.cond rfl ?_ ?_|refine Rg.guardS rfl ?_ ?_|refine Dw.guardS rfl ?_ ?_)<;>(intro e;(try simp only [Bool.not_eq_true',Bool.not_eq_false'] at e);subst e;try contradiction))|refine Cd.skip ?_|refine Cd.blk ?_|refine Cd.ext ?_|refine Cd.ret ?_)
  (first|refine ⟨.inr rfl,_,.t rfl .nil,?_⟩|refine ⟨.inr rfl,_,.t rfl (.t rfl .nil),?_⟩|refine ⟨.inr rfl,_,.t rfl (.t rfl (.t rfl .nil)),?_⟩|refine ⟨.inr rfl,_,.nil,?_⟩|refine ⟨.inl rfl,_,.t rfl .nil,?_⟩|refine ⟨.inl rfl,_,.nil,?_⟩|refine ⟨.inr rfl,_,.cn rfl (by exact zN) .nil,?_⟩|refine ⟨.inr rfl,_,.cn rfl (by exact zN) (.t rfl .nil),?_⟩)
  rw [← hv]; rfl
theorem puts4 {lv : AV} {ops : List OpS} (hL : ASl 14 lv (ops.map opS)) (hO : ∀ o, o ∈ ops → OkO o) (hll : ops.length ≤ 9223372036854775807) : CT Try.prog true 4 [lv] [] fun w _ => w = .bool true := by
  have k9 := new1000p.up (nd := true)
  refine CT.enter mixed comp4 (Nat.le_of_ble_eq_true rfl) ?_
  repeat' (first|(refine Rg.callM rfl k9 .nil ?_; rintro _ _ ⟨b, rfl, rfl⟩)|(refine stopC (c := .reg r4_4) ?_)|refine zA ?_|refine Cd.reg ?_|refine Rg.nil ?_|refine zF ?_|refine zG ?_|refine zH ?_|(refine Rg.p (v:=?_) ?_ ?_;rotate_left;exact zE)|(refine Rg.cmp (p:=?_) rfl rfl ?_ ?_;rotate_left;exact zC;intro cv hv)|(refine Rg.r (v:=?_) rfl rfl ?_ ?_;rotate_left;exact zN)|refine zL fun _=>?_|refine Rg.alloc fun _=>?_|refine Rg.a (Mk.lits rfl) fun _=>?_|refine zO (cs:=?_) (K':=?_) ?_|refine zP (cs:=?_) (K':=?_) ?_|(refine zQ (g:=?_) ?_;intro cv hv)|(refine zR (w:=?_) ?_;intro cv hv)|refine zS (v:=?_) ?_|refine zT (v:=?_) ?_|refine Lp.round ?_|refine Cd.draw ?_|refine Dw.nil ?_|refine Dw.guardY rfl ?_|refine Dw.guardN rfl ?_|refine Dw.guardT rfl ?_|(refine Dw.p (v:=?_) ?_ ?_;rotate_left;exact zE)|(refine Dw.cmp (p:=?_) rfl rfl ?_ ?_;rotate_left;exact zC;intro cv hv)|(refine Dw.r (v:=?_) rfl rfl ?_ ?_ ?_;rotate_left;exact zN;exact zM)|refine Dw.a Mk.alloc fun _=>?_|refine Dw.a (Mk.lits rfl) fun _=>?_|(refine zY (g:=?_) ?_;intro cv hv)|refine zW (v:=?_) ?_|refine Cd.condT rfl ?_|refine Cd.condF rfl ?_|((first|refine Cd.cond rfl ?_ ?_|refine Rg.guardS rfl ?_ ?_|refine Dw.guardS rfl ?_ ?_)<;>(intro e;(try simp only [Bool.not_eq_true',Bool.not_eq_false'] at e);subst e;try contradiction))|refine Cd.skip ?_|refine Cd.blk ?_|refine Cd.ext ?_|refine Cd.ret ?_)
  refine ⟨?_⟩
  refine Cd.perm (K2 := [hB b 1000 0 (OS.v ⟨none, []⟩ 1) .nilslc .nilslc, OS.c ⟨none, []⟩]) (by simp [OS.c, OS.v]) ?_
  refine Cd.weak (l2 := [(0, _), (3, _)]) ⟨rfl, rfl, trivial⟩ ?_
  repeat' (first|(refine stopC (c := .reg r4_5) ?_)|refine zA ?_|refine Cd.reg ?_|refine Rg.nil ?_|refine zF ?_|refine zG ?_|refine zH ?_|(refine Rg.p (v:=?_) ?_ ?_;rotate_left;exact zE)|(refine Rg.cmp (p:=?_) rfl rfl ?_ ?_;rotate_left;exact zC;intro cv hv)|(refine Rg.r (v:=?_) rfl rfl ?_ ?_;rotate_left;exact zN)|refine zL fun _=>?_|refine Rg.alloc fun _=>?_|refine Rg.a (Mk.lits rfl) fun _=>?_|refine zO (cs:=?_) (K':=?_) ?_|refine zP (cs:=?_) (K':=?_) ?_|(refine zQ (g:=?_) ?_;intro cv hv)|(refine zR (w:=?_) ?_;intro cv hv)|refine zS (v:=?_) ?_|refine zT (v:=?_) ?_|refine Lp.round ?_|refine Cd.draw ?_|refine Dw.nil ?_|refine Dw.guardY rfl ?_|refine Dw.guardN rfl ?_|refine Dw.guardT rfl ?_|(refine Dw.p (v:=?_) ?_ ?_;rotate_left;exact zE)|(refine Dw.cmp (p:=?_) rfl rfl ?_ ?_;rotate_left;exact zC;intro cv hv)|(refine Dw.r (v:=?_) rfl rfl ?_ ?_ ?_;rotate_left;exact zN;exact zM)|refine Dw.a Mk.alloc fun _=>?_|refine Dw.a (Mk.lits rfl) fun _=>?_|(refine zY (g:=?_) ?_;intro cv hv)|refine zW (v:=?_) ?_|refine Cd.condT rfl ?_|refine Cd.condF rfl ?_|((first|refine Cd.cond rfl ?_ ?_|refine Rg.guardS rfl ?_ ?_|refine Dw.guardS rfl ?_ ?_)<;>(intro e;(try simp only [Bool.not_eq_true',Bool.not_eq_false'] at e);subst e;try contradiction))|refine Cd.skip ?_|refine Cd.blk ?_|refine Cd.ext ?_|refine Cd.ret ?_)
  refine Rg.callM rfl (table12n (n := 0) rfl (by decide) (by decide) OS.ok.nil (by decide)) (.cons .here (.cons .here .nil)) ?_
  rintro _ _ ⟨T1, m0, hT1, hr1, rfl, rfl⟩
  repeat' (first|(refine stopC (c := .reg r4_5) ?_)|refine zA ?_|refine Cd.reg ?_|refine Rg.nil ?_|refine zF ?_|refine zG ?_|refine zH ?_|(refine Rg.p (v:=?_) ?_ ?_;rotate_left;exact zE)|(refine Rg.cmp (p:=?_) rfl rfl ?_ ?_;rotate_left;exact zC;intro cv hv)|(refine Rg.r (v:=?_) rfl rfl ?_ ?_;rotate_left;exact zN)|refine zL fun _=>?_|refine Rg.alloc fun _=>?_|refine Rg.a (Mk.lits rfl) fun _=>?_|refine zO (cs:=?_) (K':=?_) ?_|refine zP (cs:=?_) (K':=?_) ?_|(refine zQ (g:=?_) ?_;intro cv hv)|(refine zR (w:=?_) ?_;intro cv hv)|refine zS (v:=?_) ?_|refine zT (v:=?_) ?_|refine Lp.round ?_|refine Cd.draw ?_|refine Dw.nil ?_|refine Dw.guardY rfl ?_|refine Dw.guardN rfl ?_|refine Dw.guardT rfl ?_|(refine Dw.p (v:=?_) ?_ ?_;rotate_left;exact zE)|(refine Dw.cmp (p:=?_) rfl rfl ?_ ?_;rotate_left;exact zC;intro cv hv)|(refine Dw.r (v:=?_) rfl rfl ?_ ?_ ?_;rotate_left;exact zN;exact zM)|refine Dw.a Mk.alloc fun _=>?_|refine Dw.a (Mk.lits rfl) fun _=>?_|(refine zY (g:=?_) ?_;intro cv hv)|refine zW (v:=?_) ?_|refine Cd.condT rfl ?_|refine Cd.condF rfl ?_|((first|refine Cd.cond rfl ?_ ?_|refine Rg.guardS rfl ?_ ?_|refine Dw.guardS rfl ?_ ?_)<;>(intro e;(try simp only [Bool.not_eq_true',Bool.not_eq_false'] at e);subst e;try contradiction))|refine Cd.skip ?_|refine Cd.blk ?_|refine Cd.ext ?_|refine Cd.ret ?_)
  refine ⟨?_⟩
  refine Cd.weak (l2 := [(0, _), (3, _), (5, _), (6, _)]) ⟨rfl, rfl, rfl, rfl, trivial⟩ ?_
  repeat' (first|refine zA ?_|refine Cd.reg ?_|refine Rg.nil ?_|refine zF ?_|refine zG ?_|refine zH ?_|(refine Rg.p (v:=?_) ?_ ?_;rotate_left;exact zE)|(refine Rg.cmp (p:=?_) rfl rfl ?_ ?_;rotate_left;exact zC;intro cv hv)|(refine Rg.r (v:=?_) rfl rfl ?_ ?_;rotate_left;exact zN)|refine zL fun _=>?_|refine Rg.alloc fun _=>?_|refine Rg.a (Mk.lits rfl) fun _=>?_|refine zO (cs:=?_) (K':=?_) ?_|refine zP (cs:=?_) (K':=?_) ?_|(refine zQ (g:=?_) ?_;intro cv hv)|(refine zR (w:=?_) ?_;intro cv hv)|refine zS (v:=?_) ?_|refine zT (v:=?_) ?_|refine Lp.round ?_|refine Cd.draw ?_|refine Dw.nil ?_|refine Dw.guardY rfl ?_|refine Dw.guardN rfl ?_|refine Dw.guardT rfl ?_|(refine Dw.p (v:=?_) ?_ ?_;rotate_left;exact zE)|(refine Dw.cmp (p:=?_) rfl rfl ?_ ?_;rotate_left;exact zC;intro cv hv)|(refine Dw.r (v:=?_) rfl rfl ?_ ?_ ?_;rotate_left;exact zN;exact zM)|refine Dw.a Mk.alloc fun _=>?_|refine Dw.a (Mk.lits rfl) fun _=>?_|(refine zY (g:=?_) ?_;intro cv hv)|refine zW (v:=?_) ?_|refine Cd.condT rfl ?_|refine Cd.condF rfl ?_|((first|refine Cd.cond rfl ?_ ?_|refine Rg.guardS rfl ?_ ?_|refine Dw.guardS rfl ?_ ?_)<;>(intro e;(try simp only [Bool.not_eq_true',Bool.not_eq_false'] at e);subst e;try contradiction))|refine Cd.skip ?_|refine Cd.blk ?_|refine Cd.ext ?_|refine Cd.ret ?_)
  refine Rg.callM rfl (table12n (n := 1) (by rw [hr1]; rfl) (by decide) (by decide) hT1 (by decide)) (.cons (.there .here) (.cons (.there .here) .nil)) ?_
  rintro _ _ ⟨T2, m1, hT2, hr2, rfl, rfl⟩
  rw [hr1] at hr2
  have e : aeq (.flat true [.i, .i, .s]) (valA (tV 0)) (valA (tV 1)) = some false := by rw [show aeq (.flat true [.i, .i, .s]) (valA (tV 0)) (valA (tV 1)) = some (decide (tV 0 = tV 1)) from flatVal _ _, decide_eq_false (by decide)]
  repeat' (first|(refine stopC (c := .seq (.seq (.reg r4_8) (.blk 0 (.loop b4_3))) (.seq (.reg r4_39) (.seq (.reg r4_40) .ret))) ?_)|refine zA ?_|refine Cd.reg ?_|refine Rg.nil ?_|refine zF ?_|refine zG ?_|refine zH ?_|(refine Rg.p (v:=?_) ?_ ?_;rotate_left;exact zE)|(refine Rg.cmp (p:=?_) rfl rfl ?_ ?_;rotate_left;exact zC;intro cv hv)|(refine Rg.r (v:=?_) rfl rfl ?_ ?_;rotate_left;exact zN)|refine zL fun _=>?_|refine Rg.alloc fun _=>?_|refine Rg.a (Mk.lits rfl) fun _=>?_|refine zO (cs:=?_) (K':=?_) ?_|refine zP (cs:=?_) (K':=?_) ?_|(refine zQ (g:=?_) ?_;intro cv hv)|(refine zR (w:=?_) ?_;intro cv hv)|refine zS (v:=?_) ?_|refine zT (v:=?_) ?_|refine Lp.round ?_|refine Cd.draw ?_|refine Dw.nil ?_|refine Dw.guardY rfl ?_|refine Dw.guardN rfl ?_|refine Dw.guardT rfl ?_|(refine Dw.p (v:=?_) ?_ ?_;rotate_left;exact zE)|(refine Dw.cmp (p:=?_) rfl rfl ?_ ?_;rotate_left;exact zC;intro cv hv)|(refine Dw.r (v:=?_) rfl rfl ?_ ?_ ?_;rotate_left;exact zN;exact zM)|refine Dw.a Mk.alloc fun _=>?_|refine Dw.a (Mk.lits rfl) fun _=>?_|(refine zY (g:=?_) ?_;intro cv hv)|refine zW (v:=?_) ?_|refine Cd.condT rfl ?_|refine Cd.condF rfl ?_|((first|refine Cd.cond rfl ?_ ?_|refine Rg.guardS rfl ?_ ?_|refine Dw.guardS rfl ?_ ?_)<;>(intro e;(try simp only [Bool.not_eq_true',Bool.not_eq_false'] at e);subst e;try contradiction))|refine Cd.skip ?_|refine Cd.blk ?_|refine Cd.ext ?_|refine Cd.ret ?_)
  refine ⟨?_⟩
  refine Cd.weak (l2 := [(0, _), (3, _), (5, _), (7, _)]) ⟨rfl, rfl, rfl, rfl, trivial⟩ ?_
  refine Cd.drop (.cons (.there .here) (.cons (.there .here) (.cons (.there (.there (.there .here))) (.cons (.there .here) (.cons (.there .here) (.cons .here .nil)))))) ?_
  exact puts4_b hL hO hll hT2 (by rw [hr2]; rfl) (by rw [hr2]; rfl)
end Go.Proofs.Ytggpnokhhpnnaaa
