/- More registers and more constants make no code wrong that may run; a jump beyond its end does. -/
import Derived.Test.YtmedepnfpiheoaaVerI
import Derived.Test.YtmedepnfpiheoaaAbsU
set_option autoImplicit false
set_option maxRecDepth 100000
set_option maxHeartbeats 2000000
set_option linter.unusedVariables false
set_option linter.unusedSimpArgs false
set_option maxHeartbeats 20000000
namespace Go.Proofs.Ytmedepnfpiheoaa
open Go Go.Abs
theorem chk_zero {u : Unt} : ∀ {l : List Proto} {i : Nat}, (chk u i l).1 = 0 → ∀ p, p ∈ l → protoBad u p = none
  | [], _, _, p, hp => by simp at hp
  | q :: l, i, h, p, hp => by
    simp only [chk] at h
    cases e : protoBad u q with
    | some pc => rw [e] at h; cases h
    | none =>
      rw [e] at h
      rcases List.mem_cons.1 hp with rfl | hp
      · exact e
      · exact chk_zero h p hp
theorem firstBad_none {u : Unt} {p : Proto} : ∀ {l : List Ins} {j : Nat}, firstBad u p j l = none → ∀ i x, l[i]? = some x → mayB u p (j + i) x = true
  | [], _, _, i, x, hx => by simp at hx
  | y :: l, j, h, i, x, hx => by
    simp only [firstBad] at h
    cases e : mayB u p j y with
    | false => rw [e] at h; cases h
    | true =>
      rw [e, if_pos rfl] at h
      cases i with
      | zero => simp at hx; subst hx; exact e
      | succ i =>
        rw [show j + (i + 1) = j + 1 + i by omega]
        exact firstBad_none h i x (by simpa using hx)
theorem protoBad_none {u : Unt} {p : Proto} (h : protoBad u p = none) : (∃ y, p.code[p.code.length - 1]? = some y ∧ (y.op = 37 ∨ y.op = 25)) ∧ ∀ i x, p.code[i]? = some x → mayB u p i x = true := by
  unfold protoBad at h
  split at h
  · rename_i y hy
    cases e : endsB y with
    | false => rw [e] at h; cases h
    | true =>
      rw [e, if_pos rfl] at h
      refine ⟨⟨y, hy, by simpa [endsB] using e⟩, fun i x hx => ?_⟩
      have := firstBad_none h i x hx
      rwa [Nat.zero_add] at this
  · cases h
theorem check_zero {u : Unt} (h : (check u).1 = 0) : unitB u = true ∧ ∀ p, p ∈ u.protos → protoBad u p = none := by
  unfold check at h
  cases e : unitB u with
  | false => rw [e] at h; cases h
  | true => rw [e, if_pos rfl] at h; exact ⟨rfl, chk_zero h⟩
theorem jumpB_said {p : Proto} {pc w : Nat} (h : jumpB p pc w = true) : ∃ y, p.code[w]? = some y ∧ (pc < w ∨ y.op = 0) := by
  unfold jumpB at h
  split at h
  · rename_i y hy
    exact ⟨y, hy, by simpa using h⟩
  · cases h
/-- Units that others see alike. -/
structure SameU (u v : Unt) : Prop where
  name : v.name = u.name
  version : v.version = u.version
  uses : v.uses = u.uses
  funs : v.funs = u.funs
  len : v.protos.length = u.protos.length
  at_ : ∀ (i : Nat) (q : Proto), u.protos[i]? = some q → ∃ q' : Proto, v.protos[i]? = some q' ∧ q'.caps = q.caps ∧ q'.params = q.params
theorem SameU.none {u v : Unt} (h : SameU u v) {i : Nat} (e : u.protos[i]? = none) : v.protos[i]? = none := by
  rw [List.getElem?_eq_none_iff] at e ⊢
  rw [h.len]; exact e
theorem closesB_mono {u v : Unt} (h : SameU u v) {p p' : Proto} (hr : p.regs ≤ p'.regs) (hc : p'.caps = p.caps) {k : Nat} (hk : closesB u p k = true) : closesB v p' k = true := by
  unfold closesB at hk ⊢
  cases e : u.protos[k]? with
  | none => rw [e] at hk; cases hk
  | some q =>
    obtain ⟨q', e', h1, h2⟩ := h.at_ k q e
    rw [e] at hk
    rw [e']
    simp only [Bool.and_eq_true, decide_eq_true_eq] at hk ⊢
    refine ⟨by rw [h.funs]; exact hk.1, ?_⟩
    rw [h1, List.all_eq_true]
    intro c hc2
    have := List.all_eq_true.1 hk.2 c hc2
    simp only [capOk, decide_eq_true_eq] at this ⊢
    rw [hc]
    split at this <;> rename_i hu <;> simp only [hu] <;> simp <;> omega
theorem regs3_mono {n m : Int} (h : n ≤ m) {s : List Nat} {x : Ins} (hx : regs3 n s x = true) : regs3 m s x = true := by
  unfold regs3 at hx ⊢
  split at hx <;> simp_all <;> omega
theorem opB_mono {u v : Unt} (h : SameU u v) {p p' : Proto} (hr : p.regs ≤ p'.regs) (hc : p'.caps = p.caps) (hk : p.consts.length ≤ p'.consts.length) {pc : Nat} {x : Ins} (hj : jumpB p pc (wide x) = true → jumpB p' pc (wide x) = true)
    (hx : opB u p pc x = true) : opB v p' pc x = true := by
  unfold opB at hx ⊢
  rw [hc, h.funs, h.uses]
  split
  · rename_i e; rw [if_pos e] at hx; simp only [decide_eq_true_eq] at hx ⊢; omega
  rename_i e; rw [if_neg e] at hx
  split
  · rename_i e; rw [if_pos e] at hx; simp only [decide_eq_true_eq] at hx ⊢; omega
  rename_i e; rw [if_neg e] at hx
  split
  · rename_i e; rw [if_pos e] at hx; exact hx
  rename_i e; rw [if_neg e] at hx
  split
  · rename_i e; rw [if_pos e] at hx; exact hx
  rename_i e; rw [if_neg e] at hx
  split
  · rename_i e; rw [if_pos e] at hx; exact hj hx
  rename_i e; rw [if_neg e] at hx
  split
  · rename_i e; rw [if_pos e] at hx; exact closesB_mono h hr hc hx
  rename_i e; rw [if_neg e] at hx
  split
  · rename_i e; rw [if_pos e] at hx; simp only [decide_eq_true_eq] at hx ⊢; omega
  rename_i e; rw [if_neg e] at hx
  split
  · rename_i e; rw [if_pos e] at hx
    simp only [Bool.and_eq_true] at hx ⊢
    refine ⟨hx.1, ?_⟩
    have h2 := hx.2
    cases e2 : u.protos[x.c.toNat]? with
    | none => rw [e2] at h2; cases h2
    | some q =>
      obtain ⟨q', e3, _, h4⟩ := h.at_ _ q e2
      rw [e2] at h2
      rw [e3]
      simp only [decide_eq_true_eq] at h2 ⊢
      omega
  rename_i e; rw [if_neg e] at hx
  split
  · rename_i e; rw [if_pos e] at hx
    cases e2 : u.uses[x.c.toNat]? with
    | none => rw [e2] at hx; cases hx
    | some q =>
      rw [e2] at hx
      simp only [decide_eq_true_eq] at hx ⊢
      omega
  rfl
theorem mayB_mono {u v : Unt} (h : SameU u v) {p p' : Proto} (hr : p.regs ≤ p'.regs) (hc : p'.caps = p.caps) (hk : p.consts.length ≤ p'.consts.length) {pc : Nat} {x : Ins} (hj : jumpB p pc (wide x) = true → jumpB p' pc (wide x) = true)
    (hx : mayB u p pc x = true) : mayB v p' pc x = true := by
  simp only [mayB, Bool.and_eq_true] at hx ⊢
  exact ⟨regs3_mono hr hx.1, opB_mono h hr hc hk hj hx.2⟩
theorem firstBad_all {u : Unt} {p : Proto} : ∀ {l : List Ins} {j : Nat}, (∀ i x, l[i]? = some x → mayB u p (j + i) x = true) → firstBad u p j l = none
  | [], _, _ => rfl
  | y :: l, j, h => by
    rw [firstBad, show mayB u p j y = true from by have := h 0 y rfl; rwa [Nat.add_zero] at this, if_pos rfl]
    refine firstBad_all fun i x hx => ?_
    have := h (i + 1) x (by simpa using hx)
    rwa [show j + (i + 1) = j + 1 + i by omega] at this
theorem firstBad_at {u : Unt} {p : Proto} : ∀ {l : List Ins} {j : Nat} {x : Ins}, (∀ i y, l[i]? = some y → mayB u p (j + i) y = true) → mayB u p (j + l.length) x = false → firstBad u p j (l ++ [x]) = some (j + l.length)
  | [], j, x, _, hx => by
    simp only [List.nil_append, firstBad, List.length_nil, Nat.add_zero] at hx ⊢
    rw [if_neg (by rw [hx]; decide)]
  | y :: l, j, x, h, hx => by
    rw [List.cons_append, firstBad, show mayB u p j y = true from by have := h 0 y rfl; rwa [Nat.add_zero] at this, if_pos rfl]
    rw [firstBad_at (fun i z hz => ?_) (by rw [← hx]; congr 1; simp; omega)]
    · simp; omega
    · have := h (i + 1) z (by simpa using hz)
      rwa [show j + (i + 1) = j + 1 + i by omega] at this
theorem chk_all {u : Unt} : ∀ {l : List Proto} {i : Nat}, (∀ p, p ∈ l → protoBad u p = none) → chk u i l = (0, 0, 0)
  | [], _, _ => rfl
  | p :: l, i, h => by
    rw [chk, h p (by simp)]
    exact chk_all fun q hq => h q (List.mem_cons_of_mem _ hq)
theorem chk_at {u : Unt} : ∀ {l : List Proto} {i k : Nat} {p : Proto} {pc : Nat}, l[k]? = some p → protoBad u p = some pc → (∀ j q, j < k → l[j]? = some q → protoBad u q = none) → chk u i l = (14, i + k, pc)
  | [], _, _, _, _, h, _, _ => by simp at h
  | q :: l, i, 0, p, pc, h, hb, _ => by
    simp at h; subst h
    rw [chk, hb]; rfl
  | q :: l, i, k + 1, p, pc, h, hb, hl => by
    rw [chk, hl 0 q (by omega) rfl]
    show chk u (i + 1) l = _
    rw [chk_at (k := k) (by simpa using h) hb (fun j z hj hz => hl (j + 1) z (by omega) (by simpa using hz))]
    rw [show i + 1 + k = i + (k + 1) by omega]
end Go.Proofs.Ytmedepnfpiheoaa

namespace Go.Proofs.Ytmedepnfpiheoaa
open Go Go.Abs
theorem shape9 {op : Int} (h : op = 9) : shape op = [114, 114, 114] := by subst h; kernel_rfl
/-- The slots ahead of the questions. -/
def sl4 (u : Unt) (p : Proto) (b1 b7 b10 i j : Nat) : SL := [(1, .ptr b1 0 0 5), (6, .int .i64 (.ofNat i)), (7, .ptr b7 0 0 6), (8, .int .i64 (.ofNat p.code.length)), (9, .int .i64 (.ofNat j)), (10, .ptr b10 0 0 4)]
/-- The memory there. -/
def me4 (u : Unt) (p : Proto) (x : Ins) (b1 b7 b10 : Nat) : Mem := [[(b10, .cells (insR x) 0 0 false)], [(b7, .cells (protoR p) 0 0 false)], boxU b1 u]
section
variable {u : Unt} {p : Proto} {x : Ins} {b1 b7 b10 i j W : Nat}
theorem j16a (h : x.op = 25) : Cd Try.prog false (.reg r4_16) ((11, .int .i64 (.ofNat W)) :: sl4 u p b1 b7 b10 i j) (me4 u p x b1 b7 b10) fun e l K => e = .nrm ∧ K = me4 u p x b1 b7 b10 ∧ Sub2 ((11, .int .i64 (.ofNat W)) :: (12, .bool true) :: sl4 u p b1 b7 b10 i j) l := by
  unfold me4 sl4
  repeat' (first|refine zA ?_|refine Cd.reg ?_|refine Rg.nil ?_|refine zF ?_|refine zG ?_|refine zH ?_|(refine Rg.p (v:=?_) ?_ ?_;rotate_left;exact zE)|(refine Rg.cmp (p:=?_) rfl rfl ?_ ?_;rotate_left;exact zC;intro cv hv)|(refine Rg.r (v:=?_) rfl rfl ?_ ?_;rotate_left;exact zN)|refine zL fun _=>?_|refine Rg.alloc fun _=>?_|refine Rg.a (Mk.lits rfl) fun _=>?_|refine zO (cs:=?_) (K':=?_) ?_|refine zP (cs:=?_) (K':=?_) ?_|(refine zQ (g:=?_) ?_;intro cv hv)|(refine zR (w:=?_) ?_;intro cv hv)|refine zS (v:=?_) ?_|refine zT (v:=?_) ?_|refine Lp.round ?_|refine Cd.draw ?_|refine Dw.nil ?_|refine Dw.guardY rfl ?_|refine Dw.guardN rfl ?_|refine Dw.guardT rfl ?_|(refine Dw.p (v:=?_) ?_ ?_;rotate_left;exact zE)|(refine Dw.cmp (p:=?_) rfl rfl ?_ ?_;rotate_left;exact zC;intro cv hv)|(refine Dw.r (v:=?_) rfl rfl ?_ ?_ ?_;rotate_left;exact zN;exact zM)|refine Dw.a Mk.alloc fun _=>?_|refine Dw.a (Mk.lits rfl) fun _=>?_|(refine zY (g:=?_) ?_;intro cv hv)|refine zW (v:=?_) ?_|refine Cd.condT rfl ?_|refine Cd.condF rfl ?_|((first|refine Cd.cond rfl ?_ ?_|refine Rg.guardS rfl ?_ ?_|refine Dw.guardS rfl ?_ ?_)<;>(intro e;(try simp only [Bool.not_eq_true',Bool.not_eq_false'] at e);subst e;try contradiction))|refine Cd.skip ?_|refine Cd.blk ?_|refine Cd.ext ?_|refine Cd.ret ?_)
  exact ⟨rfl, rfl, rfl, rfl, rfl, rfl, rfl, rfl, rfl, rfl, trivial⟩
theorem j16b (h : x.op = 26) : Cd Try.prog false (.reg r4_16) ((11, .int .i64 (.ofNat W)) :: sl4 u p b1 b7 b10 i j) (me4 u p x b1 b7 b10) fun e l K => e = .nrm ∧ K = me4 u p x b1 b7 b10 ∧ Sub2 ((11, .int .i64 (.ofNat W)) :: (12, .bool true) :: sl4 u p b1 b7 b10 i j) l := by
  unfold me4 sl4
  repeat' (first|refine zA ?_|refine Cd.reg ?_|refine Rg.nil ?_|refine zF ?_|refine zG ?_|refine zH ?_|(refine Rg.p (v:=?_) ?_ ?_;rotate_left;exact zE)|(refine Rg.cmp (p:=?_) rfl rfl ?_ ?_;rotate_left;exact zC;intro cv hv)|(refine Rg.r (v:=?_) rfl rfl ?_ ?_;rotate_left;exact zN)|refine zL fun _=>?_|refine Rg.alloc fun _=>?_|refine Rg.a (Mk.lits rfl) fun _=>?_|refine zO (cs:=?_) (K':=?_) ?_|refine zP (cs:=?_) (K':=?_) ?_|(refine zQ (g:=?_) ?_;intro cv hv)|(refine zR (w:=?_) ?_;intro cv hv)|refine zS (v:=?_) ?_|refine zT (v:=?_) ?_|refine Lp.round ?_|refine Cd.draw ?_|refine Dw.nil ?_|refine Dw.guardY rfl ?_|refine Dw.guardN rfl ?_|refine Dw.guardT rfl ?_|(refine Dw.p (v:=?_) ?_ ?_;rotate_left;exact zE)|(refine Dw.cmp (p:=?_) rfl rfl ?_ ?_;rotate_left;exact zC;intro cv hv)|(refine Dw.r (v:=?_) rfl rfl ?_ ?_ ?_;rotate_left;exact zN;exact zM)|refine Dw.a Mk.alloc fun _=>?_|refine Dw.a (Mk.lits rfl) fun _=>?_|(refine zY (g:=?_) ?_;intro cv hv)|refine zW (v:=?_) ?_|refine Cd.condT rfl ?_|refine Cd.condF rfl ?_|((first|refine Cd.cond rfl ?_ ?_|refine Rg.guardS rfl ?_ ?_|refine Dw.guardS rfl ?_ ?_)<;>(intro e;(try simp only [Bool.not_eq_true',Bool.not_eq_false'] at e);subst e;try contradiction))|refine Cd.skip ?_|refine Cd.blk ?_|refine Cd.ext ?_|refine Cd.ret ?_)
  exact ⟨rfl, rfl, rfl, rfl, rfl, rfl, rfl, rfl, rfl, rfl, trivial⟩
theorem j16c (h : x.op = 27) : Cd Try.prog false (.reg r4_16) ((11, .int .i64 (.ofNat W)) :: sl4 u p b1 b7 b10 i j) (me4 u p x b1 b7 b10) fun e l K => e = .nrm ∧ K = me4 u p x b1 b7 b10 ∧ Sub2 ((11, .int .i64 (.ofNat W)) :: (12, .bool true) :: sl4 u p b1 b7 b10 i j) l := by
  unfold me4 sl4
  repeat' (first|refine zA ?_|refine Cd.reg ?_|refine Rg.nil ?_|refine zF ?_|refine zG ?_|refine zH ?_|(refine Rg.p (v:=?_) ?_ ?_;rotate_left;exact zE)|(refine Rg.cmp (p:=?_) rfl rfl ?_ ?_;rotate_left;exact zC;intro cv hv)|(refine Rg.r (v:=?_) rfl rfl ?_ ?_;rotate_left;exact zN)|refine zL fun _=>?_|refine Rg.alloc fun _=>?_|refine Rg.a (Mk.lits rfl) fun _=>?_|refine zO (cs:=?_) (K':=?_) ?_|refine zP (cs:=?_) (K':=?_) ?_|(refine zQ (g:=?_) ?_;intro cv hv)|(refine zR (w:=?_) ?_;intro cv hv)|refine zS (v:=?_) ?_|refine zT (v:=?_) ?_|refine Lp.round ?_|refine Cd.draw ?_|refine Dw.nil ?_|refine Dw.guardY rfl ?_|refine Dw.guardN rfl ?_|refine Dw.guardT rfl ?_|(refine Dw.p (v:=?_) ?_ ?_;rotate_left;exact zE)|(refine Dw.cmp (p:=?_) rfl rfl ?_ ?_;rotate_left;exact zC;intro cv hv)|(refine Dw.r (v:=?_) rfl rfl ?_ ?_ ?_;rotate_left;exact zN;exact zM)|refine Dw.a Mk.alloc fun _=>?_|refine Dw.a (Mk.lits rfl) fun _=>?_|(refine zY (g:=?_) ?_;intro cv hv)|refine zW (v:=?_) ?_|refine Cd.condT rfl ?_|refine Cd.condF rfl ?_|((first|refine Cd.cond rfl ?_ ?_|refine Rg.guardS rfl ?_ ?_|refine Dw.guardS rfl ?_ ?_)<;>(intro e;(try simp only [Bool.not_eq_true',Bool.not_eq_false'] at e);subst e;try contradiction))|refine Cd.skip ?_|refine Cd.blk ?_|refine Cd.ext ?_|refine Cd.ret ?_)
  exact ⟨rfl, rfl, rfl, rfl, rfl, rfl, rfl, rfl, rfl, rfl, trivial⟩
theorem j16d (h1 : x.op ≠ 25) (h2 : x.op ≠ 26) (h3 : x.op ≠ 27) : Cd Try.prog false (.reg r4_16) ((11, .int .i64 (.ofNat W)) :: sl4 u p b1 b7 b10 i j) (me4 u p x b1 b7 b10) fun e l K => e = .nrm ∧ K = me4 u p x b1 b7 b10 ∧ Sub2 ((11, .int .i64 (.ofNat W)) :: (12, .bool false) :: sl4 u p b1 b7 b10 i j) l := by
  unfold me4 sl4
  repeat' (first|refine zA ?_|refine Cd.reg ?_|refine Rg.nil ?_|refine zF ?_|refine zG ?_|refine zH ?_|(refine Rg.p (v:=?_) ?_ ?_;rotate_left;exact zE)|(refine Rg.cmp (p:=?_) rfl rfl ?_ ?_;rotate_left;exact zC;intro cv hv)|(refine Rg.r (v:=?_) rfl rfl ?_ ?_;rotate_left;exact zN)|refine zL fun _=>?_|refine Rg.alloc fun _=>?_|refine Rg.a (Mk.lits rfl) fun _=>?_|refine zO (cs:=?_) (K':=?_) ?_|refine zP (cs:=?_) (K':=?_) ?_|(refine zQ (g:=?_) ?_;intro cv hv)|(refine zR (w:=?_) ?_;intro cv hv)|refine zS (v:=?_) ?_|refine zT (v:=?_) ?_|refine Lp.round ?_|refine Cd.draw ?_|refine Dw.nil ?_|refine Dw.guardY rfl ?_|refine Dw.guardN rfl ?_|refine Dw.guardT rfl ?_|(refine Dw.p (v:=?_) ?_ ?_;rotate_left;exact zE)|(refine Dw.cmp (p:=?_) rfl rfl ?_ ?_;rotate_left;exact zC;intro cv hv)|(refine Dw.r (v:=?_) rfl rfl ?_ ?_ ?_;rotate_left;exact zN;exact zM)|refine Dw.a Mk.alloc fun _=>?_|refine Dw.a (Mk.lits rfl) fun _=>?_|(refine zY (g:=?_) ?_;intro cv hv)|refine zW (v:=?_) ?_|refine Cd.condT rfl ?_|refine Cd.condF rfl ?_|((first|refine Cd.cond rfl ?_ ?_|refine Rg.guardS rfl ?_ ?_|refine Dw.guardS rfl ?_ ?_)<;>(intro e;(try simp only [Bool.not_eq_true',Bool.not_eq_false'] at e);subst e;try contradiction))|refine Cd.skip ?_|refine Cd.blk ?_|refine Cd.ext ?_|refine Cd.ret ?_)
  exact ⟨rfl, rfl, rfl, rfl, rfl, rfl, rfl, rfl, rfl, rfl, trivial⟩
end
end Go.Proofs.Ytmedepnfpiheoaa

namespace Go.Proofs.Ytmedepnfpiheoaa
open Go Go.Abs
section
variable {u : Unt} {p : Proto} {x : Ins} {b1 b7 b10 i j W : Nat}
theorem j17a (hu : OkU u) (hp : OkP p) {y : Ins} (hy : p.code[W]? = some y) (hj : W ≤ j) (h0 : y.op = 0) (h1 : x.op ≠ 2) (h2 : x.op ≠ 30) (h3 : x.op ≠ 31) : Cd Try.prog false (.seq (.reg r4_17) (.cond (.t 148) (.seq (.reg r4_18) .ret) .skip)) ((11, .int .i64 (.ofNat W)) :: (12, .bool true) :: sl4 u p b1 b7 b10 i j) (me4 u p x b1 b7 b10) fun e l K => e = .nrm ∧ K = me4 u p x b1 b7 b10 ∧ Sub2 (sl4 u p b1 b7 b10 i j) l := by
  obtain ⟨m1, m2, m3⟩ := hp.lens
  obtain ⟨n1, n2⟩ := hu.lens
  have hl := hp.lcode
  have hWl := (List.getElem?_eq_some_iff.1 hy).1
  have q2 := hp.code.iadr (i := W) (r := insR y) (k := .i64) (by rw [List.getElem?_map, hy]; rfl)
  unfold me4 sl4
  repeat' (first|refine zA ?_|refine Cd.reg ?_|refine Rg.nil ?_|refine zF ?_|refine zG ?_|refine zH ?_|(refine Rg.p (v:=?_) ?_ ?_;rotate_left;exact zE)|(refine Rg.cmp (p:=?_) rfl rfl ?_ ?_;rotate_left;exact zC;intro cv hv)|(refine Rg.r (v:=?_) rfl rfl ?_ ?_;rotate_left;exact zN)|refine zL fun _=>?_|refine Rg.alloc fun _=>?_|refine Rg.a (Mk.lits rfl) fun _=>?_|refine zO (cs:=?_) (K':=?_) ?_|refine zP (cs:=?_) (K':=?_) ?_|(refine zQ (g:=?_) ?_;intro cv hv)|(refine zR (w:=?_) ?_;intro cv hv)|refine zS (v:=?_) ?_|refine zT (v:=?_) ?_|refine Lp.round ?_|refine Cd.draw ?_|refine Dw.nil ?_|refine Dw.guardY rfl ?_|refine Dw.guardN rfl ?_|refine Dw.guardT rfl ?_|(refine Dw.p (v:=?_) ?_ ?_;rotate_left;exact zE)|(refine Dw.cmp (p:=?_) rfl rfl ?_ ?_;rotate_left;exact zC;intro cv hv)|(refine Dw.r (v:=?_) rfl rfl ?_ ?_ ?_;rotate_left;exact zN;exact zM)|refine Dw.a Mk.alloc fun _=>?_|refine Dw.a (Mk.lits rfl) fun _=>?_|(refine zY (g:=?_) ?_;intro cv hv)|refine zW (v:=?_) ?_|refine Cd.condT rfl ?_|refine Cd.condF rfl ?_|((first|refine Cd.cond rfl ?_ ?_|refine Rg.guardS rfl ?_ ?_|refine Dw.guardS rfl ?_ ?_)<;>(intro e;(try simp only [Bool.not_eq_true',Bool.not_eq_false'] at e);subst e;try contradiction))|refine Cd.skip ?_|refine Cd.blk ?_|refine Cd.ext ?_|refine Cd.ret ?_)
  exact ⟨rfl, rfl, rfl, rfl, rfl, rfl, rfl, rfl, trivial⟩
theorem j17b (hu : OkU u) (hp : OkP p) (hW : W < p.code.length) (hj : j < W) (h1 : x.op ≠ 2) (h2 : x.op ≠ 30) (h3 : x.op ≠ 31) : Cd Try.prog false (.seq (.reg r4_17) (.cond (.t 148) (.seq (.reg r4_18) .ret) .skip)) ((11, .int .i64 (.ofNat W)) :: (12, .bool true) :: sl4 u p b1 b7 b10 i j) (me4 u p x b1 b7 b10) fun e l K => e = .nrm ∧ K = me4 u p x b1 b7 b10 ∧ Sub2 (sl4 u p b1 b7 b10 i j) l := by
  obtain ⟨m1, m2, m3⟩ := hp.lens
  obtain ⟨n1, n2⟩ := hu.lens
  unfold me4 sl4
  repeat' (first|refine zA ?_|refine Cd.reg ?_|refine Rg.nil ?_|refine zF ?_|refine zG ?_|refine zH ?_|(refine Rg.p (v:=?_) ?_ ?_;rotate_left;exact zE)|(refine Rg.cmp (p:=?_) rfl rfl ?_ ?_;rotate_left;exact zC;intro cv hv)|(refine Rg.r (v:=?_) rfl rfl ?_ ?_;rotate_left;exact zN)|refine zL fun _=>?_|refine Rg.alloc fun _=>?_|refine Rg.a (Mk.lits rfl) fun _=>?_|refine zO (cs:=?_) (K':=?_) ?_|refine zP (cs:=?_) (K':=?_) ?_|(refine zQ (g:=?_) ?_;intro cv hv)|(refine zR (w:=?_) ?_;intro cv hv)|refine zS (v:=?_) ?_|refine zT (v:=?_) ?_|refine Lp.round ?_|refine Cd.draw ?_|refine Dw.nil ?_|refine Dw.guardY rfl ?_|refine Dw.guardN rfl ?_|refine Dw.guardT rfl ?_|(refine Dw.p (v:=?_) ?_ ?_;rotate_left;exact zE)|(refine Dw.cmp (p:=?_) rfl rfl ?_ ?_;rotate_left;exact zC;intro cv hv)|(refine Dw.r (v:=?_) rfl rfl ?_ ?_ ?_;rotate_left;exact zN;exact zM)|refine Dw.a Mk.alloc fun _=>?_|refine Dw.a (Mk.lits rfl) fun _=>?_|(refine zY (g:=?_) ?_;intro cv hv)|refine zW (v:=?_) ?_|refine Cd.condT rfl ?_|refine Cd.condF rfl ?_|((first|refine Cd.cond rfl ?_ ?_|refine Rg.guardS rfl ?_ ?_|refine Dw.guardS rfl ?_ ?_)<;>(intro e;(try simp only [Bool.not_eq_true',Bool.not_eq_false'] at e);subst e;try contradiction))|refine Cd.skip ?_|refine Cd.blk ?_|refine Cd.ext ?_|refine Cd.ret ?_)
  exact ⟨rfl, rfl, rfl, rfl, rfl, rfl, rfl, rfl, trivial⟩
theorem j17c (hu : OkU u) (hp : OkP p) (h : x.op = 2) (f : W < p.consts.length) : Cd Try.prog false (.seq (.reg r4_17) (.cond (.t 148) (.seq (.reg r4_18) .ret) .skip)) ((11, .int .i64 (.ofNat W)) :: (12, .bool false) :: sl4 u p b1 b7 b10 i j) (me4 u p x b1 b7 b10) fun e l K => e = .nrm ∧ K = me4 u p x b1 b7 b10 ∧ Sub2 (sl4 u p b1 b7 b10 i j) l := by
  obtain ⟨m1, m2, m3⟩ := hp.lens
  obtain ⟨n1, n2⟩ := hu.lens
  unfold me4 sl4
  repeat' (first|refine zA ?_|refine Cd.reg ?_|refine Rg.nil ?_|refine zF ?_|refine zG ?_|refine zH ?_|(refine Rg.p (v:=?_) ?_ ?_;rotate_left;exact zE)|(refine Rg.cmp (p:=?_) rfl rfl ?_ ?_;rotate_left;exact zC;intro cv hv)|(refine Rg.r (v:=?_) rfl rfl ?_ ?_;rotate_left;exact zN)|refine zL fun _=>?_|refine Rg.alloc fun _=>?_|refine Rg.a (Mk.lits rfl) fun _=>?_|refine zO (cs:=?_) (K':=?_) ?_|refine zP (cs:=?_) (K':=?_) ?_|(refine zQ (g:=?_) ?_;intro cv hv)|(refine zR (w:=?_) ?_;intro cv hv)|refine zS (v:=?_) ?_|refine zT (v:=?_) ?_|refine Lp.round ?_|refine Cd.draw ?_|refine Dw.nil ?_|refine Dw.guardY rfl ?_|refine Dw.guardN rfl ?_|refine Dw.guardT rfl ?_|(refine Dw.p (v:=?_) ?_ ?_;rotate_left;exact zE)|(refine Dw.cmp (p:=?_) rfl rfl ?_ ?_;rotate_left;exact zC;intro cv hv)|(refine Dw.r (v:=?_) rfl rfl ?_ ?_ ?_;rotate_left;exact zN;exact zM)|refine Dw.a Mk.alloc fun _=>?_|refine Dw.a (Mk.lits rfl) fun _=>?_|(refine zY (g:=?_) ?_;intro cv hv)|refine zW (v:=?_) ?_|refine Cd.condT rfl ?_|refine Cd.condF rfl ?_|((first|refine Cd.cond rfl ?_ ?_|refine Rg.guardS rfl ?_ ?_|refine Dw.guardS rfl ?_ ?_)<;>(intro e;(try simp only [Bool.not_eq_true',Bool.not_eq_false'] at e);subst e;try contradiction))|refine Cd.skip ?_|refine Cd.blk ?_|refine Cd.ext ?_|refine Cd.ret ?_)
  exact ⟨rfl, rfl, rfl, rfl, rfl, rfl, rfl, rfl, trivial⟩
theorem j17d (hu : OkU u) (hp : OkP p) (h : x.op = 30) (f : x.c < u.funs) : Cd Try.prog false (.seq (.reg r4_17) (.cond (.t 148) (.seq (.reg r4_18) .ret) .skip)) ((11, .int .i64 (.ofNat W)) :: (12, .bool false) :: sl4 u p b1 b7 b10 i j) (me4 u p x b1 b7 b10) fun e l K => e = .nrm ∧ K = me4 u p x b1 b7 b10 ∧ Sub2 (sl4 u p b1 b7 b10 i j) l := by
  obtain ⟨m1, m2, m3⟩ := hp.lens
  obtain ⟨n1, n2⟩ := hu.lens
  unfold me4 sl4
  repeat' (first|refine zA ?_|refine Cd.reg ?_|refine Rg.nil ?_|refine zF ?_|refine zG ?_|refine zH ?_|(refine Rg.p (v:=?_) ?_ ?_;rotate_left;exact zE)|(refine Rg.cmp (p:=?_) rfl rfl ?_ ?_;rotate_left;exact zC;intro cv hv)|(refine Rg.r (v:=?_) rfl rfl ?_ ?_;rotate_left;exact zN)|refine zL fun _=>?_|refine Rg.alloc fun _=>?_|refine Rg.a (Mk.lits rfl) fun _=>?_|refine zO (cs:=?_) (K':=?_) ?_|refine zP (cs:=?_) (K':=?_) ?_|(refine zQ (g:=?_) ?_;intro cv hv)|(refine zR (w:=?_) ?_;intro cv hv)|refine zS (v:=?_) ?_|refine zT (v:=?_) ?_|refine Lp.round ?_|refine Cd.draw ?_|refine Dw.nil ?_|refine Dw.guardY rfl ?_|refine Dw.guardN rfl ?_|refine Dw.guardT rfl ?_|(refine Dw.p (v:=?_) ?_ ?_;rotate_left;exact zE)|(refine Dw.cmp (p:=?_) rfl rfl ?_ ?_;rotate_left;exact zC;intro cv hv)|(refine Dw.r (v:=?_) rfl rfl ?_ ?_ ?_;rotate_left;exact zN;exact zM)|refine Dw.a Mk.alloc fun _=>?_|refine Dw.a (Mk.lits rfl) fun _=>?_|(refine zY (g:=?_) ?_;intro cv hv)|refine zW (v:=?_) ?_|refine Cd.condT rfl ?_|refine Cd.condF rfl ?_|((first|refine Cd.cond rfl ?_ ?_|refine Rg.guardS rfl ?_ ?_|refine Dw.guardS rfl ?_ ?_)<;>(intro e;(try simp only [Bool.not_eq_true',Bool.not_eq_false'] at e);subst e;try contradiction))|refine Cd.skip ?_|refine Cd.blk ?_|refine Cd.ext ?_|refine Cd.ret ?_)
  exact ⟨rfl, rfl, rfl, rfl, rfl, rfl, rfl, rfl, trivial⟩
theorem j17e (hu : OkU u) (hp : OkP p) (h : x.op = 31) (f : x.c < (u.uses.length : Int)) : Cd Try.prog false (.seq (.reg r4_17) (.cond (.t 148) (.seq (.reg r4_18) .ret) .skip)) ((11, .int .i64 (.ofNat W)) :: (12, .bool false) :: sl4 u p b1 b7 b10 i j) (me4 u p x b1 b7 b10) fun e l K => e = .nrm ∧ K = me4 u p x b1 b7 b10 ∧ Sub2 (sl4 u p b1 b7 b10 i j) l := by
  obtain ⟨m1, m2, m3⟩ := hp.lens
  obtain ⟨n1, n2⟩ := hu.lens
  unfold me4 sl4
  repeat' (first|refine zA ?_|refine Cd.reg ?_|refine Rg.nil ?_|refine zF ?_|refine zG ?_|refine zH ?_|(refine Rg.p (v:=?_) ?_ ?_;rotate_left;exact zE)|(refine Rg.cmp (p:=?_) rfl rfl ?_ ?_;rotate_left;exact zC;intro cv hv)|(refine Rg.r (v:=?_) rfl rfl ?_ ?_;rotate_left;exact zN)|refine zL fun _=>?_|refine Rg.alloc fun _=>?_|refine Rg.a (Mk.lits rfl) fun _=>?_|refine zO (cs:=?_) (K':=?_) ?_|refine zP (cs:=?_) (K':=?_) ?_|(refine zQ (g:=?_) ?_;intro cv hv)|(refine zR (w:=?_) ?_;intro cv hv)|refine zS (v:=?_) ?_|refine zT (v:=?_) ?_|refine Lp.round ?_|refine Cd.draw ?_|refine Dw.nil ?_|refine Dw.guardY rfl ?_|refine Dw.guardN rfl ?_|refine Dw.guardT rfl ?_|(refine Dw.p (v:=?_) ?_ ?_;rotate_left;exact zE)|(refine Dw.cmp (p:=?_) rfl rfl ?_ ?_;rotate_left;exact zC;intro cv hv)|(refine Dw.r (v:=?_) rfl rfl ?_ ?_ ?_;rotate_left;exact zN;exact zM)|refine Dw.a Mk.alloc fun _=>?_|refine Dw.a (Mk.lits rfl) fun _=>?_|(refine zY (g:=?_) ?_;intro cv hv)|refine zW (v:=?_) ?_|refine Cd.condT rfl ?_|refine Cd.condF rfl ?_|((first|refine Cd.cond rfl ?_ ?_|refine Rg.guardS rfl ?_ ?_|refine Dw.guardS rfl ?_ ?_)<;>(intro e;(try simp only [Bool.not_eq_true',Bool.not_eq_false'] at e);subst e;try contradiction))|refine Cd.skip ?_|refine Cd.blk ?_|refine Cd.ext ?_|refine Cd.ret ?_)
  exact ⟨rfl, rfl, rfl, rfl, rfl, rfl, rfl, rfl, trivial⟩
theorem j17f (hu : OkU u) (hp : OkP p) (h1 : x.op ≠ 2) (h2 : x.op ≠ 30) (h3 : x.op ≠ 31) : Cd Try.prog false (.seq (.reg r4_17) (.cond (.t 148) (.seq (.reg r4_18) .ret) .skip)) ((11, .int .i64 (.ofNat W)) :: (12, .bool false) :: sl4 u p b1 b7 b10 i j) (me4 u p x b1 b7 b10) fun e l K => e = .nrm ∧ K = me4 u p x b1 b7 b10 ∧ Sub2 (sl4 u p b1 b7 b10 i j) l := by
  obtain ⟨m1, m2, m3⟩ := hp.lens
  obtain ⟨n1, n2⟩ := hu.lens
  unfold me4 sl4
  repeat' (first|refine zA ?_|refine Cd.reg ?_|refine Rg.nil ?_|refine zF ?_|refine zG ?_|refine zH ?_|(refine Rg.p (v:=?_) ?_ ?_;rotate_left;exact zE)|(refine Rg.cmp (p:=?_) rfl rfl ?_ ?_;rotate_left;exact zC;intro cv hv)|(refine Rg.r (v:=?_) rfl rfl ?_ ?_;rotate_left;exact zN)|refine zL fun _=>?_|refine Rg.alloc fun _=>?_|refine Rg.a (Mk.lits rfl) fun _=>?_|refine zO (cs:=?_) (K':=?_) ?_|refine zP (cs:=?_) (K':=?_) ?_|(refine zQ (g:=?_) ?_;intro cv hv)|(refine zR (w:=?_) ?_;intro cv hv)|refine zS (v:=?_) ?_|refine zT (v:=?_) ?_|refine Lp.round ?_|refine Cd.draw ?_|refine Dw.nil ?_|refine Dw.guardY rfl ?_|refine Dw.guardN rfl ?_|refine Dw.guardT rfl ?_|(refine Dw.p (v:=?_) ?_ ?_;rotate_left;exact zE)|(refine Dw.cmp (p:=?_) rfl rfl ?_ ?_;rotate_left;exact zC;intro cv hv)|(refine Dw.r (v:=?_) rfl rfl ?_ ?_ ?_;rotate_left;exact zN;exact zM)|refine Dw.a Mk.alloc fun _=>?_|refine Dw.a (Mk.lits rfl) fun _=>?_|(refine zY (g:=?_) ?_;intro cv hv)|refine zW (v:=?_) ?_|refine Cd.condT rfl ?_|refine Cd.condF rfl ?_|((first|refine Cd.cond rfl ?_ ?_|refine Rg.guardS rfl ?_ ?_|refine Dw.guardS rfl ?_ ?_)<;>(intro e;(try simp only [Bool.not_eq_true',Bool.not_eq_false'] at e);subst e;try contradiction))|refine Cd.skip ?_|refine Cd.blk ?_|refine Cd.ext ?_|refine Cd.ret ?_)
  exact ⟨rfl, rfl, rfl, rfl, rfl, rfl, rfl, rfl, trivial⟩
theorem j19a (hu : OkU u) (hp : OkP p) (h : x.op = 9) (f1 : x.a < p.regs) (f2 : x.b < p.regs) (f3 : x.c < p.regs) : Cd Try.prog false (.seq (.reg r4_19) (.cond (.t 200) (.seq (.reg r4_20) .ret) .skip)) (sl4 u p b1 b7 b10 i j) (me4 u p x b1 b7 b10) fun e l K => e = .nrm ∧ K = me4 u p x b1 b7 b10 ∧ Sub2 (sl4 u p b1 b7 b10 i j) l := by
  obtain ⟨m1, m2, m3⟩ := hp.lens
  obtain ⟨n1, n2⟩ := hu.lens
  unfold me4 sl4
  repeat' (first|refine zA ?_|refine Cd.reg ?_|refine Rg.nil ?_|refine zF ?_|refine zG ?_|refine zH ?_|(refine Rg.p (v:=?_) ?_ ?_;rotate_left;exact zE)|(refine Rg.cmp (p:=?_) rfl rfl ?_ ?_;rotate_left;exact zC;intro cv hv)|(refine Rg.r (v:=?_) rfl rfl ?_ ?_;rotate_left;exact zN)|refine zL fun _=>?_|refine Rg.alloc fun _=>?_|refine Rg.a (Mk.lits rfl) fun _=>?_|refine zO (cs:=?_) (K':=?_) ?_|refine zP (cs:=?_) (K':=?_) ?_|(refine zQ (g:=?_) ?_;intro cv hv)|(refine zR (w:=?_) ?_;intro cv hv)|refine zS (v:=?_) ?_|refine zT (v:=?_) ?_|refine Lp.round ?_|refine Cd.draw ?_|refine Dw.nil ?_|refine Dw.guardY rfl ?_|refine Dw.guardN rfl ?_|refine Dw.guardT rfl ?_|(refine Dw.p (v:=?_) ?_ ?_;rotate_left;exact zE)|(refine Dw.cmp (p:=?_) rfl rfl ?_ ?_;rotate_left;exact zC;intro cv hv)|(refine Dw.r (v:=?_) rfl rfl ?_ ?_ ?_;rotate_left;exact zN;exact zM)|refine Dw.a Mk.alloc fun _=>?_|refine Dw.a (Mk.lits rfl) fun _=>?_|(refine zY (g:=?_) ?_;intro cv hv)|refine zW (v:=?_) ?_|refine Cd.condT rfl ?_|refine Cd.condF rfl ?_|((first|refine Cd.cond rfl ?_ ?_|refine Rg.guardS rfl ?_ ?_|refine Dw.guardS rfl ?_ ?_)<;>(intro e;(try simp only [Bool.not_eq_true',Bool.not_eq_false'] at e);subst e;try contradiction))|refine Cd.skip ?_|refine Cd.blk ?_|refine Cd.ext ?_|refine Cd.ret ?_)
  exact ⟨rfl, rfl, rfl, rfl, rfl, rfl, rfl, rfl, trivial⟩
theorem j19b (hu : OkU u) (hp : OkP p) (h : x.op = 29) (a2 : abin .add (.int .i64 x.b) (.int .i64 x.c) = some (.int .i64 (x.b + x.c))) (f : x.b + x.c < p.regs) : Cd Try.prog false (.seq (.reg r4_19) (.cond (.t 200) (.seq (.reg r4_20) .ret) .skip)) (sl4 u p b1 b7 b10 i j) (me4 u p x b1 b7 b10) fun e l K => e = .nrm ∧ K = me4 u p x b1 b7 b10 ∧ Sub2 (sl4 u p b1 b7 b10 i j) l := by
  obtain ⟨m1, m2, m3⟩ := hp.lens
  obtain ⟨n1, n2⟩ := hu.lens
  unfold me4 sl4
  repeat' (first|refine zA ?_|refine Cd.reg ?_|refine Rg.nil ?_|refine zF ?_|refine zG ?_|refine zH ?_|(refine Rg.p (v:=?_) ?_ ?_;rotate_left;exact zE)|(refine Rg.cmp (p:=?_) rfl rfl ?_ ?_;rotate_left;exact zC;intro cv hv)|(refine Rg.r (v:=?_) rfl rfl ?_ ?_;rotate_left;exact zN)|refine zL fun _=>?_|refine Rg.alloc fun _=>?_|refine Rg.a (Mk.lits rfl) fun _=>?_|refine zO (cs:=?_) (K':=?_) ?_|refine zP (cs:=?_) (K':=?_) ?_|(refine zQ (g:=?_) ?_;intro cv hv)|(refine zR (w:=?_) ?_;intro cv hv)|refine zS (v:=?_) ?_|refine zT (v:=?_) ?_|refine Lp.round ?_|refine Cd.draw ?_|refine Dw.nil ?_|refine Dw.guardY rfl ?_|refine Dw.guardN rfl ?_|refine Dw.guardT rfl ?_|(refine Dw.p (v:=?_) ?_ ?_;rotate_left;exact zE)|(refine Dw.cmp (p:=?_) rfl rfl ?_ ?_;rotate_left;exact zC;intro cv hv)|(refine Dw.r (v:=?_) rfl rfl ?_ ?_ ?_;rotate_left;exact zN;exact zM)|refine Dw.a Mk.alloc fun _=>?_|refine Dw.a (Mk.lits rfl) fun _=>?_|(refine zY (g:=?_) ?_;intro cv hv)|refine zW (v:=?_) ?_|refine Cd.condT rfl ?_|refine Cd.condF rfl ?_|((first|refine Cd.cond rfl ?_ ?_|refine Rg.guardS rfl ?_ ?_|refine Dw.guardS rfl ?_ ?_)<;>(intro e;(try simp only [Bool.not_eq_true',Bool.not_eq_false'] at e);subst e;try contradiction))|refine Cd.skip ?_|refine Cd.blk ?_|refine Cd.ext ?_|refine Cd.ret ?_)
  exact ⟨rfl, rfl, rfl, rfl, rfl, rfl, rfl, rfl, trivial⟩
theorem j19c (hu : OkU u) (hp : OkP p) (h : x.op = 7) (f : x.b < (p.caps.length : Int)) : Cd Try.prog false (.seq (.reg r4_19) (.cond (.t 200) (.seq (.reg r4_20) .ret) .skip)) (sl4 u p b1 b7 b10 i j) (me4 u p x b1 b7 b10) fun e l K => e = .nrm ∧ K = me4 u p x b1 b7 b10 ∧ Sub2 (sl4 u p b1 b7 b10 i j) l := by
  obtain ⟨m1, m2, m3⟩ := hp.lens
  obtain ⟨n1, n2⟩ := hu.lens
  unfold me4 sl4
  repeat' (first|refine zA ?_|refine Cd.reg ?_|refine Rg.nil ?_|refine zF ?_|refine zG ?_|refine zH ?_|(refine Rg.p (v:=?_) ?_ ?_;rotate_left;exact zE)|(refine Rg.cmp (p:=?_) rfl rfl ?_ ?_;rotate_left;exact zC;intro cv hv)|(refine Rg.r (v:=?_) rfl rfl ?_ ?_;rotate_left;exact zN)|refine zL fun _=>?_|refine Rg.alloc fun _=>?_|refine Rg.a (Mk.lits rfl) fun _=>?_|refine zO (cs:=?_) (K':=?_) ?_|refine zP (cs:=?_) (K':=?_) ?_|(refine zQ (g:=?_) ?_;intro cv hv)|(refine zR (w:=?_) ?_;intro cv hv)|refine zS (v:=?_) ?_|refine zT (v:=?_) ?_|refine Lp.round ?_|refine Cd.draw ?_|refine Dw.nil ?_|refine Dw.guardY rfl ?_|refine Dw.guardN rfl ?_|refine Dw.guardT rfl ?_|(refine Dw.p (v:=?_) ?_ ?_;rotate_left;exact zE)|(refine Dw.cmp (p:=?_) rfl rfl ?_ ?_;rotate_left;exact zC;intro cv hv)|(refine Dw.r (v:=?_) rfl rfl ?_ ?_ ?_;rotate_left;exact zN;exact zM)|refine Dw.a Mk.alloc fun _=>?_|refine Dw.a (Mk.lits rfl) fun _=>?_|(refine zY (g:=?_) ?_;intro cv hv)|refine zW (v:=?_) ?_|refine Cd.condT rfl ?_|refine Cd.condF rfl ?_|((first|refine Cd.cond rfl ?_ ?_|refine Rg.guardS rfl ?_ ?_|refine Dw.guardS rfl ?_ ?_)<;>(intro e;(try simp only [Bool.not_eq_true',Bool.not_eq_false'] at e);subst e;try contradiction))|refine Cd.skip ?_|refine Cd.blk ?_|refine Cd.ext ?_|refine Cd.ret ?_)
  exact ⟨rfl, rfl, rfl, rfl, rfl, rfl, rfl, rfl, trivial⟩
theorem j19d (hu : OkU u) (hp : OkP p) (h1 : x.op ≠ 9) (h2 : x.op ≠ 29) (h3 : x.op ≠ 7) : Cd Try.prog false (.seq (.reg r4_19) (.cond (.t 200) (.seq (.reg r4_20) .ret) .skip)) (sl4 u p b1 b7 b10 i j) (me4 u p x b1 b7 b10) fun e l K => e = .nrm ∧ K = me4 u p x b1 b7 b10 ∧ Sub2 (sl4 u p b1 b7 b10 i j) l := by
  obtain ⟨m1, m2, m3⟩ := hp.lens
  obtain ⟨n1, n2⟩ := hu.lens
  unfold me4 sl4
  repeat' (first|refine zA ?_|refine Cd.reg ?_|refine Rg.nil ?_|refine zF ?_|refine zG ?_|refine zH ?_|(refine Rg.p (v:=?_) ?_ ?_;rotate_left;exact zE)|(refine Rg.cmp (p:=?_) rfl rfl ?_ ?_;rotate_left;exact zC;intro cv hv)|(refine Rg.r (v:=?_) rfl rfl ?_ ?_;rotate_left;exact zN)|refine zL fun _=>?_|refine Rg.alloc fun _=>?_|refine Rg.a (Mk.lits rfl) fun _=>?_|refine zO (cs:=?_) (K':=?_) ?_|refine zP (cs:=?_) (K':=?_) ?_|(refine zQ (g:=?_) ?_;intro cv hv)|(refine zR (w:=?_) ?_;intro cv hv)|refine zS (v:=?_) ?_|refine zT (v:=?_) ?_|refine Lp.round ?_|refine Cd.draw ?_|refine Dw.nil ?_|refine Dw.guardY rfl ?_|refine Dw.guardN rfl ?_|refine Dw.guardT rfl ?_|(refine Dw.p (v:=?_) ?_ ?_;rotate_left;exact zE)|(refine Dw.cmp (p:=?_) rfl rfl ?_ ?_;rotate_left;exact zC;intro cv hv)|(refine Dw.r (v:=?_) rfl rfl ?_ ?_ ?_;rotate_left;exact zN;exact zM)|refine Dw.a Mk.alloc fun _=>?_|refine Dw.a (Mk.lits rfl) fun _=>?_|(refine zY (g:=?_) ?_;intro cv hv)|refine zW (v:=?_) ?_|refine Cd.condT rfl ?_|refine Cd.condF rfl ?_|((first|refine Cd.cond rfl ?_ ?_|refine Rg.guardS rfl ?_ ?_|refine Dw.guardS rfl ?_ ?_)<;>(intro e;(try simp only [Bool.not_eq_true',Bool.not_eq_false'] at e);subst e;try contradiction))|refine Cd.skip ?_|refine Cd.blk ?_|refine Cd.ext ?_|refine Cd.ret ?_)
  exact ⟨rfl, rfl, rfl, rfl, rfl, rfl, rfl, rfl, trivial⟩
end
end Go.Proofs.Ytmedepnfpiheoaa

namespace Go.Proofs.Ytmedepnfpiheoaa
open Go Go.Abs
section
variable {u : Unt} {p : Proto} {x : Ins} {b1 b7 b10 i j W : Nat}
theorem s16 : ∃ t : Bool, (t = true ↔ x.op = 25 ∨ x.op = 26 ∨ x.op = 27) ∧ Cd Try.prog false (.reg r4_16) ((11, .int .i64 (.ofNat W)) :: sl4 u p b1 b7 b10 i j) (me4 u p x b1 b7 b10) fun e l K => e = .nrm ∧ K = me4 u p x b1 b7 b10 ∧ Sub2 ((11, .int .i64 (.ofNat W)) :: (12, .bool t) :: sl4 u p b1 b7 b10 i j) l := by
  by_cases h1 : x.op = 25
  · exact ⟨true, by simp [h1], j16a h1⟩
  by_cases h2 : x.op = 26
  · exact ⟨true, by simp [h2], j16b h2⟩
  by_cases h3 : x.op = 27
  · exact ⟨true, by simp [h3], j16c h3⟩
  exact ⟨false, by simp [h1, h2, h3], j16d h1 h2 h3⟩
theorem s17 (hu : OkU u) (hp : OkP p) (hw : wide x = W) (ho : opB u p j x = true) {t : Bool} (ht : t = true ↔ x.op = 25 ∨ x.op = 26 ∨ x.op = 27) : Cd Try.prog false (.seq (.reg r4_17) (.cond (.t 148) (.seq (.reg r4_18) .ret) .skip)) ((11, .int .i64 (.ofNat W)) :: (12, .bool t) :: sl4 u p b1 b7 b10 i j) (me4 u p x b1 b7 b10) fun e l K => e = .nrm ∧ K = me4 u p x b1 b7 b10 ∧ Sub2 (sl4 u p b1 b7 b10 i j) l := by
  by_cases hj : x.op = 25 ∨ x.op = 26 ∨ x.op = 27
  · obtain rfl := ht.2 hj
    have ho2 : jumpB p j W = true := by
      rw [← hw]
      rcases hj with h | h | h <;> simpa [opB, h] using ho
    obtain ⟨y, hy, hy2⟩ := jumpB_said ho2
    by_cases hWj : W ≤ j
    · exact j17a hu hp hy hWj (hy2.resolve_left (by omega)) (by omega) (by omega) (by omega)
    · exact j17b hu hp (List.getElem?_eq_some_iff.1 hy).1 (by omega) (by omega) (by omega) (by omega)
  obtain rfl : t = false := by cases t <;> simp_all
  by_cases h2 : x.op = 2
  · exact j17c hu hp h2 (by rw [← hw]; simpa [opB, h2] using ho)
  by_cases h30 : x.op = 30
  · simp [opB, h30] at ho
    exact j17d hu hp h30 ho.1
  by_cases h31 : x.op = 31
  · refine j17e hu hp h31 ?_
    cases e : u.uses[x.c.toNat]? with
    | none => simp [opB, h31, e] at ho
    | some q => have := (List.getElem?_eq_some_iff.1 e).1; omega
  exact j17f hu hp h2 h30 h31
theorem s19 (hu : OkU u) (hp : OkP p) (hr : rightI x = true) (hg : regs3 p.regs (shape x.op) x = true) (ho : opB u p j x = true) : Cd Try.prog false (.seq (.reg r4_19) (.cond (.t 200) (.seq (.reg r4_20) .ret) .skip)) (sl4 u p b1 b7 b10 i j) (me4 u p x b1 b7 b10) fun e l K => e = .nrm ∧ K = me4 u p x b1 b7 b10 ∧ Sub2 (sl4 u p b1 b7 b10 i j) l := by
  obtain ⟨ha, hb, hc⟩ := rightI_le hr
  by_cases h9 : x.op = 9
  · have f : x.a < p.regs ∧ x.b < p.regs ∧ x.c < p.regs := by
      rw [shape9 h9] at hg
      simp [regs3] at hg
      omega
    exact j19a hu hp h9 f.1 f.2.1 f.2.2
  by_cases h29 : x.op = 29
  · exact j19b hu hp h29 (add_int (by omega) (by omega)) (by simpa [opB, h29] using ho)
  by_cases h7 : x.op = 7
  · exact j19c hu hp h7 (by simpa [opB, h7] using ho)
  exact j19d hu hp h9 h29 h7
end
theorem jumps4_in {u : Unt} {p : Proto} (hu : OkU u) (hp : OkP p) (hn : OkN u) (hr : ∀ x, x ∈ p.code → rightI x = true) (hm : ∀ i x, p.code[i]? = some x → mayB u p i x = true) {b1 b7 i : Nat} {Q : AX → SL → Mem → Prop}
    (hend : ∀ l', Sub2 [(1, .ptr b1 0 0 5), (6, .int .i64 (.ofNat i))] l' → Q (.ext 2) l' [[(b7, .cells (protoR p) 0 0 false)], boxU b1 u]) :
    ∀ (k j : Nat), p.code.length < j + k → j ≤ p.code.length →
    Lp Try.prog false b4_0 k [(1, .ptr b1 0 0 5), (6, .int .i64 (.ofNat i)), (7, .ptr b7 0 0 6), (8, .int .i64 (.ofNat p.code.length)), (9, .int .i64 (.ofNat j))] [[(b7, .cells (protoR p) 0 0 false)], boxU b1 u] Q := by
  have hl := hp.lcode
  obtain ⟨m1, m2, m3⟩ := hp.lens
  obtain ⟨n1, n2⟩ := hu.lens
  intro k
  induction k with
  | zero => intro j h1 h2; omega
  | succ k ih =>
    intro j h1 h2
    refine Lp.round ?_
    by_cases hj : j < p.code.length
    · obtain ⟨x, hx⟩ : ∃ x, p.code[j]? = some x := ⟨_, List.getElem?_eq_getElem hj⟩
      have hrx := hr x (List.mem_of_getElem? hx)
      have hmx := hm j x hx
      have q1 := hp.code.iadr (i := j) (r := insR x) (k := .i64) (by rw [List.getElem?_map, hx]; rfl)
      obtain ⟨ha, hb, hc⟩ := rightI_le hrx
      simp only [mayB, Bool.and_eq_true] at hmx
      obtain ⟨hg, ho⟩ := hmx
      obtain ⟨W, hW⟩ : ∃ W : Nat, (W : Int) = x.b + 256 * x.c := ⟨(x.b + 256 * x.c).toNat, by omega⟩
      have hw : wide x = W := by rw [wide, if_pos hrx, ← hW]; rfl
      have a1 : abin .mul (.int .i64 (.ofNat 256)) (.int .i64 x.c) = some (.int .i64 (256 * x.c)) := by
        obtain ⟨c, hc2⟩ := Int.eq_ofNat_of_zero_le hc.1
        rw [hc2]
        exact mul_nat (a := 256) (b := c) (by omega)
      have a2 : abin .add (.int .i64 x.b) (.int .i64 (256 * x.c)) = some (.int .i64 (.ofNat W)) := by
        rw [add_int (by omega) (by omega), ← hW]; rfl
      repeat' (first|(refine stopAt (c := r4_16) ?_)|refine zA ?_|refine Cd.reg ?_|refine Rg.nil ?_|refine zF ?_|refine zG ?_|refine zH ?_|(refine Rg.p (v:=?_) ?_ ?_;rotate_left;exact zE)|(refine Rg.cmp (p:=?_) rfl rfl ?_ ?_;rotate_left;exact zC;intro cv hv)|(refine Rg.r (v:=?_) rfl rfl ?_ ?_;rotate_left;exact zN)|refine zL fun _=>?_|refine Rg.alloc fun _=>?_|refine Rg.a (Mk.lits rfl) fun _=>?_|refine zO (cs:=?_) (K':=?_) ?_|refine zP (cs:=?_) (K':=?_) ?_|(refine zQ (g:=?_) ?_;intro cv hv)|(refine zR (w:=?_) ?_;intro cv hv)|refine zS (v:=?_) ?_|refine zT (v:=?_) ?_|refine Lp.round ?_|refine Cd.draw ?_|refine Dw.nil ?_|refine Dw.guardY rfl ?_|refine Dw.guardN rfl ?_|refine Dw.guardT rfl ?_|(refine Dw.p (v:=?_) ?_ ?_;rotate_left;exact zE)|(refine Dw.cmp (p:=?_) rfl rfl ?_ ?_;rotate_left;exact zC;intro cv hv)|(refine Dw.r (v:=?_) rfl rfl ?_ ?_ ?_;rotate_left;exact zN;exact zM)|refine Dw.a Mk.alloc fun _=>?_|refine Dw.a (Mk.lits rfl) fun _=>?_|(refine zY (g:=?_) ?_;intro cv hv)|refine zW (v:=?_) ?_|refine Cd.condT rfl ?_|refine Cd.condF rfl ?_|((first|refine Cd.cond rfl ?_ ?_|refine Rg.guardS rfl ?_ ?_|refine Dw.guardS rfl ?_ ?_)<;>(intro e;(try simp only [Bool.not_eq_true',Bool.not_eq_false'] at e);subst e;try contradiction))|refine Cd.skip ?_|refine Cd.blk ?_|refine Cd.ext ?_|refine Cd.ret ?_)
      refine ⟨?_⟩
      refine Cd.weak (l2 := [(11, _), (1, _), (6, _), (7, _), (8, _), (9, _), (10, _)]) ⟨rfl, rfl, rfl, rfl, rfl, rfl, rfl, trivial⟩ ?_
      obtain ⟨t, ht, h16⟩ := s16 (u := u) (p := p) (x := x) (b1 := b1) (b7 := b7) (b10 := _) (i := i) (j := j) (W := W)
      refine Cd.seq (Cd.mono h16 ?_)
      rintro _ l' _ ⟨rfl, rfl, hs⟩
      show Cd _ _ _ _ _ _
      refine Cd.weak hs ?_
      refine Cd.seq (Cd.mono (s17 hu hp hw ho ht) ?_)
      rintro _ l' _ ⟨rfl, rfl, hs⟩
      show Cd _ _ _ _ _ _
      refine Cd.weak hs ?_
      refine Cd.mono (s19 hu hp hrx hg ho) ?_
      rintro _ l' _ ⟨rfl, rfl, hs⟩
      show Cd _ _ _ _ _ _
      refine Cd.weak hs ?_
      unfold sl4 me4
      repeat' (first|refine zA ?_|refine Cd.reg ?_|refine Rg.nil ?_|refine zF ?_|refine zG ?_|refine zH ?_|(refine Rg.p (v:=?_) ?_ ?_;rotate_left;exact zE)|(refine Rg.cmp (p:=?_) rfl rfl ?_ ?_;rotate_left;exact zC;intro cv hv)|(refine Rg.r (v:=?_) rfl rfl ?_ ?_;rotate_left;exact zN)|refine zL fun _=>?_|refine Rg.alloc fun _=>?_|refine Rg.a (Mk.lits rfl) fun _=>?_|refine zO (cs:=?_) (K':=?_) ?_|refine zP (cs:=?_) (K':=?_) ?_|(refine zQ (g:=?_) ?_;intro cv hv)|(refine zR (w:=?_) ?_;intro cv hv)|refine zS (v:=?_) ?_|refine zT (v:=?_) ?_|refine Lp.round ?_|refine Cd.draw ?_|refine Dw.nil ?_|refine Dw.guardY rfl ?_|refine Dw.guardN rfl ?_|refine Dw.guardT rfl ?_|(refine Dw.p (v:=?_) ?_ ?_;rotate_left;exact zE)|(refine Dw.cmp (p:=?_) rfl rfl ?_ ?_;rotate_left;exact zC;intro cv hv)|(refine Dw.r (v:=?_) rfl rfl ?_ ?_ ?_;rotate_left;exact zN;exact zM)|refine Dw.a Mk.alloc fun _=>?_|refine Dw.a (Mk.lits rfl) fun _=>?_|(refine zY (g:=?_) ?_;intro cv hv)|refine zW (v:=?_) ?_|refine Cd.condT rfl ?_|refine Cd.condF rfl ?_|((first|refine Cd.cond rfl ?_ ?_|refine Rg.guardS rfl ?_ ?_|refine Dw.guardS rfl ?_ ?_)<;>(intro e;(try simp only [Bool.not_eq_true',Bool.not_eq_false'] at e);subst e;try contradiction))|refine Cd.skip ?_|refine Cd.blk ?_|refine Cd.ext ?_|refine Cd.ret ?_)
      exact Lp.drop (m := [[(b7, .cells (protoR p) 0 0 false)], boxU b1 u]) (.cons (.there .here) (.cons (.there .here) .nil)) (Lp.weak (by exact ⟨rfl, rfl, rfl, rfl, rfl, trivial⟩) (ih (j + 1) (by omega) (by omega)))
    · repeat' (first|refine zA ?_|refine Cd.reg ?_|refine Rg.nil ?_|refine zF ?_|refine zG ?_|refine zH ?_|(refine Rg.p (v:=?_) ?_ ?_;rotate_left;exact zE)|(refine Rg.cmp (p:=?_) rfl rfl ?_ ?_;rotate_left;exact zC;intro cv hv)|(refine Rg.r (v:=?_) rfl rfl ?_ ?_;rotate_left;exact zN)|refine zL fun _=>?_|refine Rg.alloc fun _=>?_|refine Rg.a (Mk.lits rfl) fun _=>?_|refine zO (cs:=?_) (K':=?_) ?_|refine zP (cs:=?_) (K':=?_) ?_|(refine zQ (g:=?_) ?_;intro cv hv)|(refine zR (w:=?_) ?_;intro cv hv)|refine zS (v:=?_) ?_|refine zT (v:=?_) ?_|refine Lp.round ?_|refine Cd.draw ?_|refine Dw.nil ?_|refine Dw.guardY rfl ?_|refine Dw.guardN rfl ?_|refine Dw.guardT rfl ?_|(refine Dw.p (v:=?_) ?_ ?_;rotate_left;exact zE)|(refine Dw.cmp (p:=?_) rfl rfl ?_ ?_;rotate_left;exact zC;intro cv hv)|(refine Dw.r (v:=?_) rfl rfl ?_ ?_ ?_;rotate_left;exact zN;exact zM)|refine Dw.a Mk.alloc fun _=>?_|refine Dw.a (Mk.lits rfl) fun _=>?_|(refine zY (g:=?_) ?_;intro cv hv)|refine zW (v:=?_) ?_|refine Cd.condT rfl ?_|refine Cd.condF rfl ?_|((first|refine Cd.cond rfl ?_ ?_|refine Rg.guardS rfl ?_ ?_|refine Dw.guardS rfl ?_ ?_)<;>(intro e;(try simp only [Bool.not_eq_true',Bool.not_eq_false'] at e);subst e;try contradiction))|refine Cd.skip ?_|refine Cd.blk ?_|refine Cd.ext ?_|refine Cd.ret ?_)
      exact hend _ ⟨rfl, rfl, trivial⟩
theorem jumps4_out {u : Unt} (hu : OkU u) (hn : OkN u) (hr : ∀ p, p ∈ u.protos → ∀ x, x ∈ p.code → rightI x = true) (hb : ∀ p, p ∈ u.protos → protoBad u p = none) {b1 : Nat} {Q : AX → SL → Mem → Prop} (hend : ∀ l' K, Q (.ext 0) l' K) :
    ∀ (k i : Nat), u.protos.length < i + k → i ≤ u.protos.length → Lp Try.prog false b4_1 k [(1, .ptr b1 0 0 5), (6, .int .i64 (.ofNat i))] [boxU b1 u] Q := by
  have hl := hu.lprotos
  obtain ⟨n1, n2⟩ := hu.lens
  intro k
  induction k with
  | zero => intro j h1 h2; omega
  | succ k ih =>
    intro i h1 h2
    refine Lp.round ?_
    by_cases hi : i < u.protos.length
    · obtain ⟨p, hx⟩ : ∃ p, u.protos[i]? = some p := ⟨_, List.getElem?_eq_getElem hi⟩
      have hm := List.mem_of_getElem? hx
      have hp := hu.ps p hm
      obtain ⟨m1, m2, m3⟩ := hp.lens
      obtain ⟨⟨y, hy, he⟩, hmay⟩ := protoBad_none (hb p hm)
      have hlc := hp.lcode
      have hlen := (List.getElem?_eq_some_iff.1 hy).1
      have q1 := hu.protos.iadr (i := i) (r := protoR p) (k := .i64) (by rw [List.getElem?_map, hx]; rfl)
      have q2 := hp.code.iadr (i := p.code.length - 1) (r := insR y) (k := .i64) (by rw [List.getElem?_map, hy]; rfl)
      by_cases e : y.op = 37
      · repeat' (first|refine zA ?_|refine Cd.reg ?_|refine Rg.nil ?_|refine zF ?_|refine zG ?_|refine zH ?_|(refine Rg.p (v:=?_) ?_ ?_;rotate_left;exact zE)|(refine Rg.cmp (p:=?_) rfl rfl ?_ ?_;rotate_left;exact zC;intro cv hv)|(refine Rg.r (v:=?_) rfl rfl ?_ ?_;rotate_left;exact zN)|refine zL fun _=>?_|refine Rg.alloc fun _=>?_|refine Rg.a (Mk.lits rfl) fun _=>?_|refine zO (cs:=?_) (K':=?_) ?_|refine zP (cs:=?_) (K':=?_) ?_|(refine zQ (g:=?_) ?_;intro cv hv)|(refine zR (w:=?_) ?_;intro cv hv)|refine zS (v:=?_) ?_|refine zT (v:=?_) ?_|refine Lp.round ?_|refine Cd.draw ?_|refine Dw.nil ?_|refine Dw.guardY rfl ?_|refine Dw.guardN rfl ?_|refine Dw.guardT rfl ?_|(refine Dw.p (v:=?_) ?_ ?_;rotate_left;exact zE)|(refine Dw.cmp (p:=?_) rfl rfl ?_ ?_;rotate_left;exact zC;intro cv hv)|(refine Dw.r (v:=?_) rfl rfl ?_ ?_ ?_;rotate_left;exact zN;exact zM)|refine Dw.a Mk.alloc fun _=>?_|refine Dw.a (Mk.lits rfl) fun _=>?_|(refine zY (g:=?_) ?_;intro cv hv)|refine zW (v:=?_) ?_|refine Cd.condT rfl ?_|refine Cd.condF rfl ?_|((first|refine Cd.cond rfl ?_ ?_|refine Rg.guardS rfl ?_ ?_|refine Dw.guardS rfl ?_ ?_)<;>(intro e;(try simp only [Bool.not_eq_true',Bool.not_eq_false'] at e);subst e;try contradiction))|refine Cd.skip ?_|refine Cd.blk ?_|refine Cd.ext ?_|refine Cd.ret ?_)
        refine Cd.weak (l2 := [(1, _), (6, _), (7, _), (8, _), (9, _)]) ⟨rfl, rfl, rfl, rfl, rfl, trivial⟩ ?_
        refine Cd.loop (k := p.code.length + 1) (jumps4_in hu hp hn (hr p hm) hmay ?_ (p.code.length + 1) 0 (by omega) (by omega))
        intro l' hs
        show Cd _ _ _ _ _ _
        refine Cd.weak hs ?_
        repeat' (first|refine zA ?_|refine Cd.reg ?_|refine Rg.nil ?_|refine zF ?_|refine zG ?_|refine zH ?_|(refine Rg.p (v:=?_) ?_ ?_;rotate_left;exact zE)|(refine Rg.cmp (p:=?_) rfl rfl ?_ ?_;rotate_left;exact zC;intro cv hv)|(refine Rg.r (v:=?_) rfl rfl ?_ ?_;rotate_left;exact zN)|refine zL fun _=>?_|refine Rg.alloc fun _=>?_|refine Rg.a (Mk.lits rfl) fun _=>?_|refine zO (cs:=?_) (K':=?_) ?_|refine zP (cs:=?_) (K':=?_) ?_|(refine zQ (g:=?_) ?_;intro cv hv)|(refine zR (w:=?_) ?_;intro cv hv)|refine zS (v:=?_) ?_|refine zT (v:=?_) ?_|refine Lp.round ?_|refine Cd.draw ?_|refine Dw.nil ?_|refine Dw.guardY rfl ?_|refine Dw.guardN rfl ?_|refine Dw.guardT rfl ?_|(refine Dw.p (v:=?_) ?_ ?_;rotate_left;exact zE)|(refine Dw.cmp (p:=?_) rfl rfl ?_ ?_;rotate_left;exact zC;intro cv hv)|(refine Dw.r (v:=?_) rfl rfl ?_ ?_ ?_;rotate_left;exact zN;exact zM)|refine Dw.a Mk.alloc fun _=>?_|refine Dw.a (Mk.lits rfl) fun _=>?_|(refine zY (g:=?_) ?_;intro cv hv)|refine zW (v:=?_) ?_|refine Cd.condT rfl ?_|refine Cd.condF rfl ?_|((first|refine Cd.cond rfl ?_ ?_|refine Rg.guardS rfl ?_ ?_|refine Dw.guardS rfl ?_ ?_)<;>(intro e;(try simp only [Bool.not_eq_true',Bool.not_eq_false'] at e);subst e;try contradiction))|refine Cd.skip ?_|refine Cd.blk ?_|refine Cd.ext ?_|refine Cd.ret ?_)
        refine Lp.drop (m := [boxU b1 u]) (.cons (.there .here) .nil) (Lp.weak ?hw (ih (i + 1) (by omega) (by omega)))
        case hw => exact ⟨rfl, rfl, trivial⟩
      · have e2 := he.resolve_left e
        repeat' (first|refine zA ?_|refine Cd.reg ?_|refine Rg.nil ?_|refine zF ?_|refine zG ?_|refine zH ?_|(refine Rg.p (v:=?_) ?_ ?_;rotate_left;exact zE)|(refine Rg.cmp (p:=?_) rfl rfl ?_ ?_;rotate_left;exact zC;intro cv hv)|(refine Rg.r (v:=?_) rfl rfl ?_ ?_;rotate_left;exact zN)|refine zL fun _=>?_|refine Rg.alloc fun _=>?_|refine Rg.a (Mk.lits rfl) fun _=>?_|refine zO (cs:=?_) (K':=?_) ?_|refine zP (cs:=?_) (K':=?_) ?_|(refine zQ (g:=?_) ?_;intro cv hv)|(refine zR (w:=?_) ?_;intro cv hv)|refine zS (v:=?_) ?_|refine zT (v:=?_) ?_|refine Lp.round ?_|refine Cd.draw ?_|refine Dw.nil ?_|refine Dw.guardY rfl ?_|refine Dw.guardN rfl ?_|refine Dw.guardT rfl ?_|(refine Dw.p (v:=?_) ?_ ?_;rotate_left;exact zE)|(refine Dw.cmp (p:=?_) rfl rfl ?_ ?_;rotate_left;exact zC;intro cv hv)|(refine Dw.r (v:=?_) rfl rfl ?_ ?_ ?_;rotate_left;exact zN;exact zM)|refine Dw.a Mk.alloc fun _=>?_|refine Dw.a (Mk.lits rfl) fun _=>?_|(refine zY (g:=?_) ?_;intro cv hv)|refine zW (v:=?_) ?_|refine Cd.condT rfl ?_|refine Cd.condF rfl ?_|((first|refine Cd.cond rfl ?_ ?_|refine Rg.guardS rfl ?_ ?_|refine Dw.guardS rfl ?_ ?_)<;>(intro e;(try simp only [Bool.not_eq_true',Bool.not_eq_false'] at e);subst e;try contradiction))|refine Cd.skip ?_|refine Cd.blk ?_|refine Cd.ext ?_|refine Cd.ret ?_)
        refine Cd.weak (l2 := [(1, _), (6, _), (7, _), (8, _), (9, _)]) ⟨rfl, rfl, rfl, rfl, rfl, trivial⟩ ?_
        refine Cd.loop (k := p.code.length + 1) (jumps4_in hu hp hn (hr p hm) hmay ?_ (p.code.length + 1) 0 (by omega) (by omega))
        intro l' hs
        show Cd _ _ _ _ _ _
        refine Cd.weak hs ?_
        repeat' (first|refine zA ?_|refine Cd.reg ?_|refine Rg.nil ?_|refine zF ?_|refine zG ?_|refine zH ?_|(refine Rg.p (v:=?_) ?_ ?_;rotate_left;exact zE)|(refine Rg.cmp (p:=?_) rfl rfl ?_ ?_;rotate_left;exact zC;intro cv hv)|(refine Rg.r (v:=?_) rfl rfl ?_ ?_;rotate_left;exact zN)|refine zL fun _=>?_|refine Rg.alloc fun _=>?_|refine Rg.a (Mk.lits rfl) fun _=>?_|refine zO (cs:=?_) (K':=?_) ?_|refine zP (cs:=?_) (K':=?_) ?_|(refine zQ (g:=?_) ?_;intro cv hv)|(refine zR (w:=?_) ?_;intro cv hv)|refine zS (v:=?_) ?_|refine zT (v:=?_) ?_|refine Lp.round ?_|refine Cd.draw ?_|refine Dw.nil ?_|refine Dw.guardY rfl ?_|refine Dw.guardN rfl ?_|refine Dw.guardT rfl ?_|(refine Dw.p (v:=?_) ?_ ?_;rotate_left;exact zE)|(refine Dw.cmp (p:=?_) rfl rfl ?_ ?_;rotate_left;exact zC;intro cv hv)|(refine Dw.r (v:=?_) rfl rfl ?_ ?_ ?_;rotate_left;exact zN;exact zM)|refine Dw.a Mk.alloc fun _=>?_|refine Dw.a (Mk.lits rfl) fun _=>?_|(refine zY (g:=?_) ?_;intro cv hv)|refine zW (v:=?_) ?_|refine Cd.condT rfl ?_|refine Cd.condF rfl ?_|((first|refine Cd.cond rfl ?_ ?_|refine Rg.guardS rfl ?_ ?_|refine Dw.guardS rfl ?_ ?_)<;>(intro e;(try simp only [Bool.not_eq_true',Bool.not_eq_false'] at e);subst e;try contradiction))|refine Cd.skip ?_|refine Cd.blk ?_|refine Cd.ext ?_|refine Cd.ret ?_)
        refine Lp.drop (m := [boxU b1 u]) (.cons (.there .here) .nil) (Lp.weak ?hw (ih (i + 1) (by omega) (by omega)))
        case hw => exact ⟨rfl, rfl, trivial⟩
    · repeat' (first|refine zA ?_|refine Cd.reg ?_|refine Rg.nil ?_|refine zF ?_|refine zG ?_|refine zH ?_|(refine Rg.p (v:=?_) ?_ ?_;rotate_left;exact zE)|(refine Rg.cmp (p:=?_) rfl rfl ?_ ?_;rotate_left;exact zC;intro cv hv)|(refine Rg.r (v:=?_) rfl rfl ?_ ?_;rotate_left;exact zN)|refine zL fun _=>?_|refine Rg.alloc fun _=>?_|refine Rg.a (Mk.lits rfl) fun _=>?_|refine zO (cs:=?_) (K':=?_) ?_|refine zP (cs:=?_) (K':=?_) ?_|(refine zQ (g:=?_) ?_;intro cv hv)|(refine zR (w:=?_) ?_;intro cv hv)|refine zS (v:=?_) ?_|refine zT (v:=?_) ?_|refine Lp.round ?_|refine Cd.draw ?_|refine Dw.nil ?_|refine Dw.guardY rfl ?_|refine Dw.guardN rfl ?_|refine Dw.guardT rfl ?_|(refine Dw.p (v:=?_) ?_ ?_;rotate_left;exact zE)|(refine Dw.cmp (p:=?_) rfl rfl ?_ ?_;rotate_left;exact zC;intro cv hv)|(refine Dw.r (v:=?_) rfl rfl ?_ ?_ ?_;rotate_left;exact zN;exact zM)|refine Dw.a Mk.alloc fun _=>?_|refine Dw.a (Mk.lits rfl) fun _=>?_|(refine zY (g:=?_) ?_;intro cv hv)|refine zW (v:=?_) ?_|refine Cd.condT rfl ?_|refine Cd.condF rfl ?_|((first|refine Cd.cond rfl ?_ ?_|refine Rg.guardS rfl ?_ ?_|refine Dw.guardS rfl ?_ ?_)<;>(intro e;(try simp only [Bool.not_eq_true',Bool.not_eq_false'] at e);subst e;try contradiction))|refine Cd.skip ?_|refine Cd.blk ?_|refine Cd.ext ?_|refine Cd.ret ?_)
      exact hend _ _
theorem jumps4 {u : Unt} (hu : OkU u) : PT Try.prog false 4 [.agg (unitR u)] (.bool true) := by
  have k7 := known7
  have k8 := check8 hu
  have hl := light6 hu
  have hz := @check_zero u
  have hl2 := hu.lprotos
  generalize check u = t at k8 hz
  obtain ⟨t0, t1, t2⟩ := t
  refine PT.of (CT.enter mixed comp4 (Nat.le_of_ble_eq_true rfl) ?_)
  by_cases h0 : t0 = 0
  · subst h0
    obtain ⟨hb, hbad⟩ := hz rfl
    obtain ⟨hn, hr⟩ := unitB_ok hb
    repeat' (first|(refine Rg.callM (m := []) rfl hl .nil ?_; rintro _ _ ⟨rfl, cv, rfl⟩)|refine zA ?_|refine Cd.reg ?_|refine Rg.nil ?_|refine zF ?_|refine zG ?_|refine zH ?_|(refine Rg.p (v:=?_) ?_ ?_;rotate_left;exact zE)|(refine Rg.cmp (p:=?_) rfl rfl ?_ ?_;rotate_left;exact zC;intro cv hv)|(refine Rg.r (v:=?_) rfl rfl ?_ ?_;rotate_left;exact zN)|refine zL fun _=>?_|refine Rg.alloc fun _=>?_|refine Rg.a (Mk.lits rfl) fun _=>?_|refine zO (cs:=?_) (K':=?_) ?_|refine zP (cs:=?_) (K':=?_) ?_|(refine zQ (g:=?_) ?_;intro cv hv)|(refine zR (w:=?_) ?_;intro cv hv)|refine zS (v:=?_) ?_|refine zT (v:=?_) ?_|refine Lp.round ?_|refine Cd.draw ?_|refine Dw.nil ?_|refine Dw.guardY rfl ?_|refine Dw.guardN rfl ?_|refine Dw.guardT rfl ?_|(refine Dw.p (v:=?_) ?_ ?_;rotate_left;exact zE)|(refine Dw.cmp (p:=?_) rfl rfl ?_ ?_;rotate_left;exact zC;intro cv hv)|(refine Dw.r (v:=?_) rfl rfl ?_ ?_ ?_;rotate_left;exact zN;exact zM)|refine Dw.a Mk.alloc fun _=>?_|refine Dw.a (Mk.lits rfl) fun _=>?_|(refine zY (g:=?_) ?_;intro cv hv)|refine zW (v:=?_) ?_|refine Cd.condT rfl ?_|refine Cd.condF rfl ?_|((first|refine Cd.cond rfl ?_ ?_|refine Rg.guardS rfl ?_ ?_|refine Dw.guardS rfl ?_ ?_)<;>(intro e;(try simp only [Bool.not_eq_true',Bool.not_eq_false'] at e);subst e;try contradiction))|refine Cd.skip ?_|refine Cd.blk ?_|refine Cd.ext ?_|refine Cd.ret ?_)
    rotate_left
    all_goals first | ((first|refine ⟨.inr rfl,_,.t rfl .nil,?_⟩|refine ⟨.inr rfl,_,.t rfl (.t rfl .nil),?_⟩|refine ⟨.inr rfl,_,.t rfl (.t rfl (.t rfl .nil)),?_⟩|refine ⟨.inr rfl,_,.nil,?_⟩|refine ⟨.inl rfl,_,.t rfl .nil,?_⟩|refine ⟨.inl rfl,_,.nil,?_⟩|refine ⟨.inr rfl,_,.cn rfl (by exact zN) .nil,?_⟩); rw [← hv]; rfl) | skip
    refine Cd.weak (l2 := [(1, _), (6, _)]) ⟨rfl, rfl, trivial⟩ ?_
    refine Cd.loop (k := u.protos.length + 1) (jumps4_out hu hn hr hbad ?_ (u.protos.length + 1) 0 (by omega) (by omega))
    intro l' K
    show Cd _ _ _ _ _ _
    refine Cd.weak (l2 := []) trivial ?_
    repeat' (first|refine zA ?_|refine Cd.reg ?_|refine Rg.nil ?_|refine zF ?_|refine zG ?_|refine zH ?_|(refine Rg.p (v:=?_) ?_ ?_;rotate_left;exact zE)|(refine Rg.cmp (p:=?_) rfl rfl ?_ ?_;rotate_left;exact zC;intro cv hv)|(refine Rg.r (v:=?_) rfl rfl ?_ ?_;rotate_left;exact zN)|refine zL fun _=>?_|refine Rg.alloc fun _=>?_|refine Rg.a (Mk.lits rfl) fun _=>?_|refine zO (cs:=?_) (K':=?_) ?_|refine zP (cs:=?_) (K':=?_) ?_|(refine zQ (g:=?_) ?_;intro cv hv)|(refine zR (w:=?_) ?_;intro cv hv)|refine zS (v:=?_) ?_|refine zT (v:=?_) ?_|refine Lp.round ?_|refine Cd.draw ?_|refine Dw.nil ?_|refine Dw.guardY rfl ?_|refine Dw.guardN rfl ?_|refine Dw.guardT rfl ?_|(refine Dw.p (v:=?_) ?_ ?_;rotate_left;exact zE)|(refine Dw.cmp (p:=?_) rfl rfl ?_ ?_;rotate_left;exact zC;intro cv hv)|(refine Dw.r (v:=?_) rfl rfl ?_ ?_ ?_;rotate_left;exact zN;exact zM)|refine Dw.a Mk.alloc fun _=>?_|refine Dw.a (Mk.lits rfl) fun _=>?_|(refine zY (g:=?_) ?_;intro cv hv)|refine zW (v:=?_) ?_|refine Cd.condT rfl ?_|refine Cd.condF rfl ?_|((first|refine Cd.cond rfl ?_ ?_|refine Rg.guardS rfl ?_ ?_|refine Dw.guardS rfl ?_ ?_)<;>(intro e;(try simp only [Bool.not_eq_true',Bool.not_eq_false'] at e);subst e;try contradiction))|refine Cd.skip ?_|refine Cd.blk ?_|refine Cd.ext ?_|refine Cd.ret ?_)
    (first|refine ⟨.inr rfl,_,.t rfl .nil,?_⟩|refine ⟨.inr rfl,_,.t rfl (.t rfl .nil),?_⟩|refine ⟨.inr rfl,_,.t rfl (.t rfl (.t rfl .nil)),?_⟩|refine ⟨.inr rfl,_,.nil,?_⟩|refine ⟨.inl rfl,_,.t rfl .nil,?_⟩|refine ⟨.inl rfl,_,.nil,?_⟩|refine ⟨.inr rfl,_,.cn rfl (by exact zN) .nil,?_⟩); first | rfl | (rw [← hv]; rfl)
  · repeat' (first|(refine Rg.callM (m := []) rfl hl .nil ?_; rintro _ _ ⟨rfl, cv, rfl⟩)|refine zA ?_|refine Cd.reg ?_|refine Rg.nil ?_|refine zF ?_|refine zG ?_|refine zH ?_|(refine Rg.p (v:=?_) ?_ ?_;rotate_left;exact zE)|(refine Rg.cmp (p:=?_) rfl rfl ?_ ?_;rotate_left;exact zC;intro cv hv)|(refine Rg.r (v:=?_) rfl rfl ?_ ?_;rotate_left;exact zN)|refine zL fun _=>?_|refine Rg.alloc fun _=>?_|refine Rg.a (Mk.lits rfl) fun _=>?_|refine zO (cs:=?_) (K':=?_) ?_|refine zP (cs:=?_) (K':=?_) ?_|(refine zQ (g:=?_) ?_;intro cv hv)|(refine zR (w:=?_) ?_;intro cv hv)|refine zS (v:=?_) ?_|refine zT (v:=?_) ?_|refine Lp.round ?_|refine Cd.draw ?_|refine Dw.nil ?_|refine Dw.guardY rfl ?_|refine Dw.guardN rfl ?_|refine Dw.guardT rfl ?_|(refine Dw.p (v:=?_) ?_ ?_;rotate_left;exact zE)|(refine Dw.cmp (p:=?_) rfl rfl ?_ ?_;rotate_left;exact zC;intro cv hv)|(refine Dw.r (v:=?_) rfl rfl ?_ ?_ ?_;rotate_left;exact zN;exact zM)|refine Dw.a Mk.alloc fun _=>?_|refine Dw.a (Mk.lits rfl) fun _=>?_|(refine zY (g:=?_) ?_;intro cv hv)|refine zW (v:=?_) ?_|refine Cd.condT rfl ?_|refine Cd.condF rfl ?_|((first|refine Cd.cond rfl ?_ ?_|refine Rg.guardS rfl ?_ ?_|refine Dw.guardS rfl ?_ ?_)<;>(intro e;(try simp only [Bool.not_eq_true',Bool.not_eq_false'] at e);subst e;try contradiction))|refine Cd.skip ?_|refine Cd.blk ?_|refine Cd.ext ?_|refine Cd.ret ?_)
    all_goals (first|refine ⟨.inr rfl,_,.t rfl .nil,?_⟩|refine ⟨.inr rfl,_,.t rfl (.t rfl .nil),?_⟩|refine ⟨.inr rfl,_,.t rfl (.t rfl (.t rfl .nil)),?_⟩|refine ⟨.inr rfl,_,.nil,?_⟩|refine ⟨.inl rfl,_,.t rfl .nil,?_⟩|refine ⟨.inl rfl,_,.nil,?_⟩|refine ⟨.inr rfl,_,.cn rfl (by exact zN) .nil,?_⟩)
    all_goals (rw [← hv]; rfl)
end Go.Proofs.Ytmedepnfpiheoaa
