/- ModsVersions: a unit is added; what comes of it. -/
import Derived.Test.YtlimjjilakldgaaModJ
set_option autoImplicit false
set_option maxRecDepth 100000
set_option maxHeartbeats 4000000
set_option linter.unusedVariables false
set_option linter.unusedSimpArgs false
namespace Go.Proofs.Ytlimjjilakldgaa
open Go Go.Abs
abbrev bx (b : Nat) (cs : List AV) : Chk := [(b, .cells cs 0 0 false)]
theorem _root_.Go.Abs.Sel.skip {K m r : Mem} {c : Chk} (h : Sel K m r) : Sel (c :: K) m (c :: r) := by
  induction h with
  | nil => exact .nil
  | cons t _ ih => exact .cons (.there t) ih
theorem _root_.Go.Abs.Sel.app {K m r m2 r2 : Mem} (h : Sel K m r) (h2 : Sel r m2 r2) : Sel K (m ++ m2) r2 := by
  induction h with
  | nil => exact h2
  | cons t _ ih => exact .cons t (ih h2)
theorem _root_.Go.Abs.Sel.app2 {K m r : Mem} {a x y : Chk} (h : Sel (a :: x :: y :: K) m (a :: x :: y :: r)) : Sel (a :: x :: y :: K) (m ++ [x, y]) (a :: r) := h.app (.cons (.there .here) (.cons (.there .here) .nil))
section
variable {b b12 q s i ia ie : Nat} {nv vV pV : AV} {nm : List Nat} {last old v2 : Int} {vs : List Int} {M X r : Mem} {Q : Mem → Prop}
theorem n14v (k11 : CT Try.prog false 11 [mP b, .agg (sR nm v2 (sV q 0))] (X ++ [pK q 0 s 0 [102] false, cK s 0 false]) fun w K' => w = .tup [.int .i64 (.ofNat ia), .int .i64 (.ofNat ie)] ∧ Q K')
    (hs : Sel (bx b12 (sR nm v2 (sV q 0)) :: pK q 0 s 0 [102] false :: cK s 0 false :: M) (X ++ [pK q 0 s 0 [102] false, cK s 0 false]) r) :
    Cd Try.prog false (.reg r3_14) ((12, .ptr b12 0 0 5) :: vS nm vV pV b last old i) (bx b12 (sR nm v2 (sV q 0)) :: pK q 0 s 0 [102] false :: cK s 0 false :: M) fun x l K => x = .nrm ∧ Sub2 ((14, .int .i64 (.ofNat ie)) :: (13, .int .i64 (.ofNat ia)) :: (12, .ptr b12 0 0 5) :: vS nm vV pV b last old i) l ∧ ∃ K', Q K' ∧ K = K' ++ r := by
  repeat' (first|refine zA ?_|refine Cd.reg ?_|refine Rg.nil ?_|refine zF ?_|refine zG ?_|refine zH ?_|(refine Rg.p (v:=?_) ?_ ?_;rotate_left;exact zE)|(refine Rg.cmp (p:=?_) rfl rfl ?_ ?_;rotate_left;exact zC;intro cv hv)|(refine Rg.r (v:=?_) rfl rfl ?_ ?_;rotate_left;exact zN)|refine zL fun _=>?_|refine Rg.alloc fun _=>?_|refine Rg.a (Mk.lits rfl) fun _=>?_|refine zO (cs:=?_) (K':=?_) ?_|refine zP (cs:=?_) (K':=?_) ?_|(refine zQ (g:=?_) ?_;intro cv hv)|(refine zR (w:=?_) ?_;intro cv hv)|refine zS (v:=?_) ?_|refine zT (v:=?_) ?_|refine Lp.round ?_|refine Cd.draw ?_|refine Dw.nil ?_|refine Dw.guardY rfl ?_|refine Dw.guardN rfl ?_|refine Dw.guardT rfl ?_|(refine Dw.p (v:=?_) ?_ ?_;rotate_left;exact zE)|(refine Dw.cmp (p:=?_) rfl rfl ?_ ?_;rotate_left;exact zC;intro cv hv)|(refine Dw.r (v:=?_) rfl rfl ?_ ?_ ?_;rotate_left;exact zN;exact zM)|refine Dw.a Mk.alloc fun _=>?_|refine Dw.a (Mk.lits rfl) fun _=>?_|(refine zY (g:=?_) ?_;intro cv hv)|refine zW (v:=?_) ?_|refine Cd.condT rfl ?_|refine Cd.condF rfl ?_|((first|refine Cd.cond rfl ?_ ?_|refine Rg.guardS rfl ?_ ?_|refine Dw.guardS rfl ?_ ?_)<;>(intro e;(try simp only [Bool.not_eq_true',Bool.not_eq_false'] at e);subst e;try contradiction))|refine Cd.skip ?_|refine Cd.blk ?_|refine Cd.ext ?_|refine Cd.ret ?_)
  refine Rg.callM rfl k11 hs ?_
  rintro _ K' ⟨rfl, hQ⟩
  repeat' (first|refine zA ?_|refine Cd.reg ?_|refine Rg.nil ?_|refine zF ?_|refine zG ?_|refine zH ?_|(refine Rg.p (v:=?_) ?_ ?_;rotate_left;exact zE)|(refine Rg.cmp (p:=?_) rfl rfl ?_ ?_;rotate_left;exact zC;intro cv hv)|(refine Rg.r (v:=?_) rfl rfl ?_ ?_;rotate_left;exact zN)|refine zL fun _=>?_|refine Rg.alloc fun _=>?_|refine Rg.a (Mk.lits rfl) fun _=>?_|refine zO (cs:=?_) (K':=?_) ?_|refine zP (cs:=?_) (K':=?_) ?_|(refine zQ (g:=?_) ?_;intro cv hv)|(refine zR (w:=?_) ?_;intro cv hv)|refine zS (v:=?_) ?_|refine zT (v:=?_) ?_|refine Lp.round ?_|refine Cd.draw ?_|refine Dw.nil ?_|refine Dw.guardY rfl ?_|refine Dw.guardN rfl ?_|refine Dw.guardT rfl ?_|(refine Dw.p (v:=?_) ?_ ?_;rotate_left;exact zE)|(refine Dw.cmp (p:=?_) rfl rfl ?_ ?_;rotate_left;exact zC;intro cv hv)|(refine Dw.r (v:=?_) rfl rfl ?_ ?_ ?_;rotate_left;exact zN;exact zM)|refine Dw.a Mk.alloc fun _=>?_|refine Dw.a (Mk.lits rfl) fun _=>?_|(refine zY (g:=?_) ?_;intro cv hv)|refine zW (v:=?_) ?_|refine Cd.condT rfl ?_|refine Cd.condF rfl ?_|((first|refine Cd.cond rfl ?_ ?_|refine Rg.guardS rfl ?_ ?_|refine Dw.guardS rfl ?_ ?_)<;>(intro e;(try simp only [Bool.not_eq_true',Bool.not_eq_false'] at e);subst e;try contradiction))|refine Cd.skip ?_|refine Cd.blk ?_|refine Cd.ext ?_|refine Cd.ret ?_)
  exact ⟨rfl, ⟨rfl, rfl, rfl, rfl, rfl, rfl, rfl, rfl, rfl, rfl, trivial⟩, K', hQ, rfl⟩
theorem n15F (h1 : Txt nm) (hV : ASl 1 vV (vs.map fun a => [.int .i64 a])) (hi : vs[i]? = some v2) (he : ie ≠ 0) (h : sB nm v2 [102] = true → old = 0 → ¬ v2 > last) :
    Cd Try.prog false (.seq (.reg r3_15) (.cond (.t 79) (.seq (.reg r3_16) (.seq (.seq (.draw r3_17) (.cond (.t 108) (.seq (.reg r3_18) .ret) .skip)) (.seq (.reg r3_19) (.reg r3_20)))) (.seq (.reg r3_21) (.cond (.t 127) (.seq (.reg r3_22) .ret) .skip))))
      ((14, .int .i64 (.ofNat ie)) :: (13, .int .i64 (.ofNat ia)) :: (12, .ptr b12 0 0 5) :: vS nm vV pV b last old i) (bx b12 (sR nm v2 (sV q 0)) :: pK q 0 s 0 [102] false :: cK s 0 false :: M) fun x l K => x = .nrm ∧ Sub2 (vS nm vV pV b last old i) l ∧ ∃ r, Sel K M r := by
  have q1 := hV.iadr (i := i) (r := [.int .i64 v2]) (k := .i64) (by rw [List.getElem?_map, hi]; rfl)
  have k13 := right13s (ver := v2) (p := q) (g := 0) (c := s) (h := 0) (gr := false) (gc := false) h1 (by exact ⟨by decide, by decide⟩ : Txt [102])
  cases hB : sB nm v2 [102] with
  | false =>
    rw [hB] at k13
    repeat' (first|(refine Rg.callM rfl k13 (.cons (.there .here) (.cons (.there .here) .nil)) ?_; rintro _ _ ⟨rfl, rfl⟩)|refine zA ?_|refine Cd.reg ?_|refine Rg.nil ?_|refine zF ?_|refine zG ?_|refine zH ?_|(refine Rg.p (v:=?_) ?_ ?_;rotate_left;exact zE)|(refine Rg.cmp (p:=?_) rfl rfl ?_ ?_;rotate_left;exact zC;intro cv hv)|(refine Rg.r (v:=?_) rfl rfl ?_ ?_;rotate_left;exact zN)|refine zL fun _=>?_|refine Rg.alloc fun _=>?_|refine Rg.a (Mk.lits rfl) fun _=>?_|refine zO (cs:=?_) (K':=?_) ?_|refine zP (cs:=?_) (K':=?_) ?_|(refine zQ (g:=?_) ?_;intro cv hv)|(refine zR (w:=?_) ?_;intro cv hv)|refine zS (v:=?_) ?_|refine zT (v:=?_) ?_|refine Lp.round ?_|refine Cd.draw ?_|refine Dw.nil ?_|refine Dw.guardY rfl ?_|refine Dw.guardN rfl ?_|refine Dw.guardT rfl ?_|(refine Dw.p (v:=?_) ?_ ?_;rotate_left;exact zE)|(refine Dw.cmp (p:=?_) rfl rfl ?_ ?_;rotate_left;exact zC;intro cv hv)|(refine Dw.r (v:=?_) rfl rfl ?_ ?_ ?_;rotate_left;exact zN;exact zM)|refine Dw.a Mk.alloc fun _=>?_|refine Dw.a (Mk.lits rfl) fun _=>?_|(refine zY (g:=?_) ?_;intro cv hv)|refine zW (v:=?_) ?_|refine Cd.condT rfl ?_|refine Cd.condF rfl ?_|((first|refine Cd.cond rfl ?_ ?_|refine Rg.guardS rfl ?_ ?_|refine Dw.guardS rfl ?_ ?_)<;>(intro e;(try simp only [Bool.not_eq_true',Bool.not_eq_false'] at e);subst e;try contradiction))|refine Cd.skip ?_|refine Cd.blk ?_|refine Cd.ext ?_|refine Cd.ret ?_)
    refine ⟨rfl, ⟨rfl, rfl, rfl, rfl, rfl, rfl, rfl, trivial⟩, ?_⟩
    exact ⟨_, (Sel.all M).skip.skip.skip⟩
  | true =>
    rw [hB] at k13
    have h' := h hB
    by_cases ho : old = 0
    · have h2 := h' ho
      subst ho
      repeat' (first|(refine Rg.callM rfl k13 (.cons (.there .here) (.cons (.there .here) .nil)) ?_; rintro _ _ ⟨rfl, rfl⟩)|refine zA ?_|refine Cd.reg ?_|refine Rg.nil ?_|refine zF ?_|refine zG ?_|refine zH ?_|(refine Rg.p (v:=?_) ?_ ?_;rotate_left;exact zE)|(refine Rg.cmp (p:=?_) rfl rfl ?_ ?_;rotate_left;exact zC;intro cv hv)|(refine Rg.r (v:=?_) rfl rfl ?_ ?_;rotate_left;exact zN)|refine zL fun _=>?_|refine Rg.alloc fun _=>?_|refine Rg.a (Mk.lits rfl) fun _=>?_|refine zO (cs:=?_) (K':=?_) ?_|refine zP (cs:=?_) (K':=?_) ?_|(refine zQ (g:=?_) ?_;intro cv hv)|(refine zR (w:=?_) ?_;intro cv hv)|refine zS (v:=?_) ?_|refine zT (v:=?_) ?_|refine Lp.round ?_|refine Cd.draw ?_|refine Dw.nil ?_|refine Dw.guardY rfl ?_|refine Dw.guardN rfl ?_|refine Dw.guardT rfl ?_|(refine Dw.p (v:=?_) ?_ ?_;rotate_left;exact zE)|(refine Dw.cmp (p:=?_) rfl rfl ?_ ?_;rotate_left;exact zC;intro cv hv)|(refine Dw.r (v:=?_) rfl rfl ?_ ?_ ?_;rotate_left;exact zN;exact zM)|refine Dw.a Mk.alloc fun _=>?_|refine Dw.a (Mk.lits rfl) fun _=>?_|(refine zY (g:=?_) ?_;intro cv hv)|refine zW (v:=?_) ?_|refine Cd.condT rfl ?_|refine Cd.condF rfl ?_|((first|refine Cd.cond rfl ?_ ?_|refine Rg.guardS rfl ?_ ?_|refine Dw.guardS rfl ?_ ?_)<;>(intro e;(try simp only [Bool.not_eq_true',Bool.not_eq_false'] at e);subst e;try contradiction))|refine Cd.skip ?_|refine Cd.blk ?_|refine Cd.ext ?_|refine Cd.ret ?_)
      refine ⟨rfl, ⟨rfl, rfl, rfl, rfl, rfl, rfl, rfl, trivial⟩, ?_⟩
      exact ⟨_, (Sel.all M).skip.skip.skip⟩
    · repeat' (first|(refine Rg.callM rfl k13 (.cons (.there .here) (.cons (.there .here) .nil)) ?_; rintro _ _ ⟨rfl, rfl⟩)|refine zA ?_|refine Cd.reg ?_|refine Rg.nil ?_|refine zF ?_|refine zG ?_|refine zH ?_|(refine Rg.p (v:=?_) ?_ ?_;rotate_left;exact zE)|(refine Rg.cmp (p:=?_) rfl rfl ?_ ?_;rotate_left;exact zC;intro cv hv)|(refine Rg.r (v:=?_) rfl rfl ?_ ?_;rotate_left;exact zN)|refine zL fun _=>?_|refine Rg.alloc fun _=>?_|refine Rg.a (Mk.lits rfl) fun _=>?_|refine zO (cs:=?_) (K':=?_) ?_|refine zP (cs:=?_) (K':=?_) ?_|(refine zQ (g:=?_) ?_;intro cv hv)|(refine zR (w:=?_) ?_;intro cv hv)|refine zS (v:=?_) ?_|refine zT (v:=?_) ?_|refine Lp.round ?_|refine Cd.draw ?_|refine Dw.nil ?_|refine Dw.guardY rfl ?_|refine Dw.guardN rfl ?_|refine Dw.guardT rfl ?_|(refine Dw.p (v:=?_) ?_ ?_;rotate_left;exact zE)|(refine Dw.cmp (p:=?_) rfl rfl ?_ ?_;rotate_left;exact zC;intro cv hv)|(refine Dw.r (v:=?_) rfl rfl ?_ ?_ ?_;rotate_left;exact zN;exact zM)|refine Dw.a Mk.alloc fun _=>?_|refine Dw.a (Mk.lits rfl) fun _=>?_|(refine zY (g:=?_) ?_;intro cv hv)|refine zW (v:=?_) ?_|refine Cd.condT rfl ?_|refine Cd.condF rfl ?_|((first|refine Cd.cond rfl ?_ ?_|refine Rg.guardS rfl ?_ ?_|refine Dw.guardS rfl ?_ ?_)<;>(intro e;(try simp only [Bool.not_eq_true',Bool.not_eq_false'] at e);subst e;try contradiction))|refine Cd.skip ?_|refine Cd.blk ?_|refine Cd.ext ?_|refine Cd.ret ?_)
      refine ⟨rfl, ⟨rfl, rfl, rfl, rfl, rfl, rfl, rfl, trivial⟩, ?_⟩
      exact ⟨_, (Sel.all M).skip.skip.skip⟩
theorem n15T (hV : ASl 1 vV (vs.map fun a => [.int .i64 a])) (hi : vs[i]? = some v2) (h0 : old = 0) (hv : v2 > last) (k12 : CT Try.prog false 12 [mP b, .int .i64 (.ofNat ia)] M fun w K' => ∃ p' g', w = .tup [.agg (sR nm v2 (sV p' g')), .bool true] ∧ ∃ r, Sel K' M r) :
    Cd Try.prog false (.seq (.reg r3_15) (.cond (.t 79) (.seq (.reg r3_16) (.seq (.seq (.draw r3_17) (.cond (.t 108) (.seq (.reg r3_18) .ret) .skip)) (.seq (.reg r3_19) (.reg r3_20)))) (.seq (.reg r3_21) (.cond (.t 127) (.seq (.reg r3_22) .ret) .skip))))
      ((14, .int .i64 (.ofNat 0)) :: (13, .int .i64 (.ofNat ia)) :: (12, .ptr b12 0 0 5) :: vS nm vV pV b last old i) M fun x l K => x = .nrm ∧ Sub2 (vS nm vV pV b v2 last i) l ∧ ∃ r, Sel K M r := by
  have q1 := hV.iadr (i := i) (r := [.int .i64 v2]) (k := .i64) (by rw [List.getElem?_map, hi]; rfl)
  subst h0
  have e3 : abin .neq (.int .i64 v2) (.int .i64 v2) = some (.bool false) := Cmp.F Cmp.neq (by simp)
  repeat' (first|refine zA ?_|refine Cd.reg ?_|refine Rg.nil ?_|refine zF ?_|refine zG ?_|refine zH ?_|(refine Rg.p (v:=?_) ?_ ?_;rotate_left;exact zE)|(refine Rg.cmp (p:=?_) rfl rfl ?_ ?_;rotate_left;exact zC;intro cv hv)|(refine Rg.r (v:=?_) rfl rfl ?_ ?_;rotate_left;exact zN)|refine zL fun _=>?_|refine Rg.alloc fun _=>?_|refine Rg.a (Mk.lits rfl) fun _=>?_|refine zO (cs:=?_) (K':=?_) ?_|refine zP (cs:=?_) (K':=?_) ?_|(refine zQ (g:=?_) ?_;intro cv hv)|(refine zR (w:=?_) ?_;intro cv hv)|refine zS (v:=?_) ?_|refine zT (v:=?_) ?_|refine Lp.round ?_|refine Cd.draw ?_|refine Dw.nil ?_|refine Dw.guardY rfl ?_|refine Dw.guardN rfl ?_|refine Dw.guardT rfl ?_|(refine Dw.p (v:=?_) ?_ ?_;rotate_left;exact zE)|(refine Dw.cmp (p:=?_) rfl rfl ?_ ?_;rotate_left;exact zC;intro cv hv)|(refine Dw.r (v:=?_) rfl rfl ?_ ?_ ?_;rotate_left;exact zN;exact zM)|refine Dw.a Mk.alloc fun _=>?_|refine Dw.a (Mk.lits rfl) fun _=>?_|(refine zY (g:=?_) ?_;intro cv hv)|refine zW (v:=?_) ?_|refine Cd.condT rfl ?_|refine Cd.condF rfl ?_|((first|refine Cd.cond rfl ?_ ?_|refine Rg.guardS rfl ?_ ?_|refine Dw.guardS rfl ?_ ?_)<;>(intro e;(try simp only [Bool.not_eq_true',Bool.not_eq_false'] at e);subst e;try contradiction))|refine Cd.skip ?_|refine Cd.blk ?_|refine Cd.ext ?_|refine Cd.ret ?_)
  refine Rg.callM rfl k12 (Sel.all M) ?_
  rintro _ K' ⟨p', g', rfl, r', hr⟩
  rw [List.append_nil]
  repeat' (first|refine zA ?_|refine Cd.reg ?_|refine Rg.nil ?_|refine zF ?_|refine zG ?_|refine zH ?_|(refine Rg.p (v:=?_) ?_ ?_;rotate_left;exact zE)|(refine Rg.cmp (p:=?_) rfl rfl ?_ ?_;rotate_left;exact zC;intro cv hv)|(refine Rg.r (v:=?_) rfl rfl ?_ ?_;rotate_left;exact zN)|refine zL fun _=>?_|refine Rg.alloc fun _=>?_|refine Rg.a (Mk.lits rfl) fun _=>?_|refine zO (cs:=?_) (K':=?_) ?_|refine zP (cs:=?_) (K':=?_) ?_|(refine zQ (g:=?_) ?_;intro cv hv)|(refine zR (w:=?_) ?_;intro cv hv)|refine zS (v:=?_) ?_|refine zT (v:=?_) ?_|refine Lp.round ?_|refine Cd.draw ?_|refine Dw.nil ?_|refine Dw.guardY rfl ?_|refine Dw.guardN rfl ?_|refine Dw.guardT rfl ?_|(refine Dw.p (v:=?_) ?_ ?_;rotate_left;exact zE)|(refine Dw.cmp (p:=?_) rfl rfl ?_ ?_;rotate_left;exact zC;intro cv hv)|(refine Dw.r (v:=?_) rfl rfl ?_ ?_ ?_;rotate_left;exact zN;exact zM)|refine Dw.a Mk.alloc fun _=>?_|refine Dw.a (Mk.lits rfl) fun _=>?_|(refine zY (g:=?_) ?_;intro cv hv)|refine zW (v:=?_) ?_|refine Cd.condT rfl ?_|refine Cd.condF rfl ?_|((first|refine Cd.cond rfl ?_ ?_|refine Rg.guardS rfl ?_ ?_|refine Dw.guardS rfl ?_ ?_)<;>(intro e;(try simp only [Bool.not_eq_true',Bool.not_eq_false'] at e);subst e;try contradiction))|refine Cd.skip ?_|refine Cd.blk ?_|refine Cd.ext ?_|refine Cd.ret ?_)
  refine ⟨rfl, ⟨rfl, rfl, rfl, rfl, rfl, rfl, rfl, trivial⟩, ?_⟩
  exact ⟨_, hr.skip⟩
end
end Go.Proofs.Ytlimjjilakldgaa

namespace Go.Proofs.Ytlimjjilakldgaa
open Go Go.Abs
inductive Ph (b : Nat) (nm : List Nat) (i : Nat) : Int → Int → Mem → Prop
  | e {m1 m2 : Nat} : Ph b nm i 0 0 (pE b m1 m2)
  | c {m1 m2 nx ck ck2 ci j p g c h e : Nat} {nv : AV} {v : Int} (h1 : 1 ≤ v) (h2 : ci < nx) (h3 : nx ≤ i) : Ph b nm i v 0 (pC b nv m1 m2 nx ck ck2 nm [102] ci j v p g c h e)
  | o {m1 m2 nx ck ck2 ci j p g c h e oi p' g' c' h' e' : Nat} {nv : AV} {v v' : Int} (h1 : 1 ≤ v) (h1' : 1 ≤ v') (h2 : ci < nx) (h4 : oi < nx) (hne : oi ≠ ci) (h3 : nx ≤ i) : Ph b nm i v v' (pO b nv m1 m2 nx ck ck2 nm [102] ci j v p g c h e oi v' p' g' c' h' e')
theorem Ph.up {b i k : Nat} {nm : List Nat} {v v' : Int} {K : Mem} (h : Ph b nm i v v' K) (hk : i ≤ k) : Ph b nm k v v' K := by
  cases h with
  | e => exact .e
  | c h1 h2 h3 => exact .c h1 h2 (Nat.le_trans h3 hk)
  | o h1 h1' h2 h4 hne h3 => exact .o h1 h1' h2 h4 hne (Nat.le_trans h3 hk)
section
variable {b m1 m2 nx ck ck2 ci oi j e e' p g c h p' g' c' h' i : Nat} {nv vV pV : AV} {nm fn : List Nat} {v v' last old v2 : Int} {ps : List Bool} {vs : List Int} {M : Mem}
theorem tl (h : Ph b nm i last old M) : Cd Try.prog false (.seq (.reg r3_23) (.seq (.reg r3_24) (.seq (.reg r3_25) (.seq (.reg r3_26) (.seq (.reg r3_27) (.cond (.t 179) (.seq (.reg r3_28) .ret) .skip)))))) (vS nm vV pV b last old i) M fun x l K => x = .nrm ∧ Sub2 (vS nm vV pV b last old i) l ∧ ∃ r, Sel K M r := by
  cases h with
  | e => exact tailE
  | c h1 h2 h3 => exact tailC h1
  | o h1 h1' h2 h4 hne h3 => exact tailO h1 h1' hne
theorem pg {t : Bool} (h : Ph b nm i last old M) : Cd Try.prog false (.cond (.t 57) (.seq (.reg r3_9) (.seq (.seq (.reg r3_10) (.cond (.t 65) (.seq (.reg r3_11) .ret) .skip)) (.reg r3_12))) .skip) ((57, .bool t) :: vS nm vV pV b last old i) M fun x l K => x = .nrm ∧ ∃ last' old' M', Ph b nm i last' old' M' ∧ Sub2 (vS nm vV pV b last' old' i) l ∧ ∃ r, Sel K M' r := by
  cases h with
  | e =>
    refine Cd.mono (pgN (purge9N rfl)) ?_
    rintro _ l K ⟨rfl, hl, rfl⟩
    exact ⟨rfl, _, _, _, .e, hl, _, Sel.all _⟩
  | c h1 h2 h3 =>
    refine Cd.mono (pgN ?_) ?_
    rotate_left
    · rintro _ l K ⟨rfl, hl, rfl⟩
      exact ⟨rfl, _, _, _, .c h1 h2 h3, hl, _, Sel.all _⟩
    · refine ((purge9B (x := ⟨(_ : Int), -1, [0]⟩) tn1 (by simp) rfl).sel (.cons .here (.cons .here (.cons .here .nil)))).mono ?_
      rintro w K' ⟨m', rfl, rfl, rfl⟩
      exact ⟨rfl, rfl⟩
  | o h1 h1' h2 h4 hne h3 =>
    cases t with
    | true =>
      refine Cd.mono (pgO h1' hne) ?_
      rintro _ l K ⟨rfl, hl, r, hr⟩
      exact ⟨rfl, _, _, _, .c h1 h2 h3, hl, _, hr⟩
    | false =>
      refine Cd.condF rfl (Cd.skip ?_)
      exact ⟨rfl, _, _, _, .o h1 h1' h2 h4 hne h3, ⟨rfl, rfl, rfl, rfl, rfl, rfl, rfl, trivial⟩, _, Sel.all _⟩
theorem k12C : CT Try.prog false 12 [mP b, .int .i64 (.ofNat ci)] (pC b nv m1 m2 nx ck ck2 nm [102] ci j v p g c h e) fun w K' => ∃ p' g', w = .tup [.agg (sR nm v (sV p' g')), .bool true] ∧ ∃ r, Sel K' (pC b nv m1 m2 nx ck ck2 nm [102] ci j v p g c h e) r := by
  refine ((unit12S (i := ci) un1).sel (.cons (.here) (.cons (.there (.here)) (.cons (.there (.here)) (.cons (.there (.here)) (.nil)))))).mono ?_
  rintro w K' ⟨m', rfl, p2, g2, c2, h2, rfl, rfl⟩
  exact ⟨p2, g2, rfl, _, (.cons (.here) (.cons (.there (.there (.there (.there (.there (.here)))))) (.cons (.here) (.cons (.here) (.cons (.here) (.nil))))))⟩
theorem k12O (hne : oi ≠ ci) : CT Try.prog false 12 [mP b, .int .i64 (.ofNat ci)] (pO b nv m1 m2 nx ck ck2 nm [102] ci j v p g c h e oi v' p' g' c' h' e') fun w K' => ∃ pp gg, w = .tup [.agg (sR nm v (sV pp gg)), .bool true] ∧ ∃ r, Sel K' (pO b nv m1 m2 nx ck ck2 nm [102] ci j v p g c h e oi v' p' g' c' h' e') r := by
  refine ((unit12S (i := ci) (un2c hne)).sel (.cons (.here) (.cons (.there (.here)) (.cons (.there (.here)) (.cons (.there (.here)) (.nil)))))).mono ?_
  rintro w K' ⟨m', rfl, p2, g2, c2, h2, rfl, rfl⟩
  exact ⟨p2, g2, rfl, _, (.cons (.here) (.cons (.there (.there (.there (.there (.there (.here)))))) (.cons (.here) (.cons (.here) (.cons (.here) (.cons (.there (.there (.here))) (.cons (.there (.there (.here))) (.nil))))))))⟩
theorem sB_ge (h : sB nm v fn = true) : 1 ≤ v := by
  simp only [sB, Bool.and_eq_true, decide_eq_true_eq] at h
  exact h.1.2.1
theorem Ph.tl1 {k : Nat} (h : Ph b nm k last old M) : Cd Try.prog false (.seq (.reg r3_23) (.seq (.reg r3_24) (.seq (.reg r3_25) (.seq (.reg r3_26) (.seq (.reg r3_27) (.cond (.t 179) (.seq (.reg r3_28) .ret) .skip)))))) (vS nm vV pV b last old i) M fun x l K => x = .nrm ∧ Sub2 (vS nm vV pV b last old i) l ∧ ∃ r, Sel K M r := by
  cases h with
  | e => exact tl (i := i) .e
  | c h1 h2 h3 => exact tailC h1
  | o h1 h1' h2 h4 hne h3 => exact tailO h1 h1' hne
/-- An answer with an error: all stays. -/
theorem ad0 {q s ie b12 : Nat} {X r : Mem} (h1 : Txt nm) (hV : ASl 1 vV (vs.map fun a => [.int .i64 a])) (hi : vs[i]? = some v2) (hp : Ph b nm i last old M) (he : ie ≠ 0)
    (k11 : CT Try.prog false 11 [mP b, .agg (sR nm v2 (sV q 0))] (X ++ [pK q 0 s 0 [102] false, cK s 0 false]) fun w K' => w = .tup [.int .i64 (.ofNat 0), .int .i64 (.ofNat ie)] ∧ K' = X ++ [pK q 0 s 0 [102] false, cK s 0 false])
    (hs : Sel M X r) (h : sB nm v2 [102] = true → old = 0 → ¬ v2 > last) :
    Cd Try.prog false (.seq (.reg r3_14) (.seq (.seq (.reg r3_15) (.cond (.t 79) (.seq (.reg r3_16) (.seq (.seq (.draw r3_17) (.cond (.t 108) (.seq (.reg r3_18) .ret) .skip)) (.seq (.reg r3_19) (.reg r3_20)))) (.seq (.reg r3_21) (.cond (.t 127) (.seq (.reg r3_22) .ret) .skip)))) (.seq (.reg r3_23) (.seq (.reg r3_24) (.seq (.reg r3_25) (.seq (.reg r3_26) (.seq (.reg r3_27) (.cond (.t 179) (.seq (.reg r3_28) .ret) .skip)))))))) ((12, .ptr b12 0 0 5) :: vS nm vV pV b last old i) (bx b12 (sR nm v2 (sV q 0)) :: pK q 0 s 0 [102] false :: cK s 0 false :: M) fun x l K => x = .nrm ∧ ∃ last' old' M', Ph b nm (i + 1) last' old' M' ∧ Sub2 (vS nm vV pV b last' old' i) l ∧ ∃ r, Sel K M' r := by
  have hs' : Sel (bx b12 (sR nm v2 (sV q 0)) :: pK q 0 s 0 [102] false :: cK s 0 false :: M) (X ++ [pK q 0 s 0 [102] false, cK s 0 false]) (bx b12 (sR nm v2 (sV q 0)) :: r) := hs.skip.skip.skip.app2
  refine Cd.seq (Cd.mono (n14v k11 hs') ?_)
  rintro _ l _ ⟨rfl, hl, _, rfl, rfl⟩
  show Cd _ _ _ _ _ _
  refine Cd.weak hl ?_
  refine Cd.perm (hs'.perm.symm) ?_
  refine Cd.seq (Cd.mono (n15F h1 hV hi he h) ?_)
  rintro _ l K ⟨rfl, hl, r2, hr2⟩
  show Cd _ _ _ _ _ _
  refine Cd.weak hl (Cd.drop hr2 ?_)
  refine Cd.mono (tl hp) ?_
  rintro _ l K ⟨rfl, hl, r3, hr3⟩
  exact ⟨rfl, _, _, _, hp.up (Nat.le_succ i), hl, r3, hr3⟩
/-- A new unit is there. -/
theorem ad1 {q s ia b12 : Nat} {X r : Mem} {Q : Mem → Prop} (hV : ASl 1 vV (vs.map fun a => [.int .i64 a])) (hi : vs[i]? = some v2) (hv : v2 > last)
    (k11 : CT Try.prog false 11 [mP b, .agg (sR nm v2 (sV q 0))] (X ++ [pK q 0 s 0 [102] false, cK s 0 false]) fun w K' => w = .tup [.int .i64 (.ofNat ia), .int .i64 (.ofNat 0)] ∧ Q K')
    (hs : Sel (bx b12 (sR nm v2 (sV q 0)) :: pK q 0 s 0 [102] false :: cK s 0 false :: M) (X ++ [pK q 0 s 0 [102] false, cK s 0 false]) r)
    (hQ : ∀ K', Q K' → ∃ M2, Ph b nm (i + 1) v2 last M2 ∧ (CT Try.prog false 12 [mP b, .int .i64 (.ofNat ia)] M2 fun w K' => ∃ p' g', w = .tup [.agg (sR nm v2 (sV p' g')), .bool true] ∧ ∃ r, Sel K' M2 r) ∧ ∃ r', Sel (K' ++ r) M2 r') :
    Cd Try.prog false (.seq (.reg r3_14) (.seq (.seq (.reg r3_15) (.cond (.t 79) (.seq (.reg r3_16) (.seq (.seq (.draw r3_17) (.cond (.t 108) (.seq (.reg r3_18) .ret) .skip)) (.seq (.reg r3_19) (.reg r3_20)))) (.seq (.reg r3_21) (.cond (.t 127) (.seq (.reg r3_22) .ret) .skip)))) (.seq (.reg r3_23) (.seq (.reg r3_24) (.seq (.reg r3_25) (.seq (.reg r3_26) (.seq (.reg r3_27) (.cond (.t 179) (.seq (.reg r3_28) .ret) .skip)))))))) ((12, .ptr b12 0 0 5) :: vS nm vV pV b last 0 i) (bx b12 (sR nm v2 (sV q 0)) :: pK q 0 s 0 [102] false :: cK s 0 false :: M) fun x l K => x = .nrm ∧ ∃ last' old' M', Ph b nm (i + 1) last' old' M' ∧ Sub2 (vS nm vV pV b last' old' i) l ∧ ∃ r, Sel K M' r := by
  refine Cd.seq (Cd.mono (n14v k11 hs) ?_)
  rintro _ l _ ⟨rfl, hl, K', hK', rfl⟩
  show Cd _ _ _ _ _ _
  obtain ⟨M2, hp, k12, r', hr'⟩ := hQ K' hK'
  refine Cd.weak hl (Cd.drop hr' ?_)
  refine Cd.seq (Cd.mono (n15T hV hi rfl hv k12) ?_)
  rintro _ l K ⟨rfl, hl, r2, hr2⟩
  show Cd _ _ _ _ _ _
  refine Cd.weak hl (Cd.drop hr2 ?_)
  refine Cd.mono (Ph.tl1 hp) ?_
  rintro _ l K ⟨rfl, hl, r3, hr3⟩
  exact ⟨rfl, _, _, _, hp, hl, r3, hr3⟩
theorem ad {q s b12 : Nat} (h1 : Txt nm) (hV : ASl 1 vV (vs.map fun a => [.int .i64 a])) (hi : vs[i]? = some v2) (h30 : i < 30) (hp : Ph b nm i last old M) :
    Cd Try.prog false (.seq (.reg r3_14) (.seq (.seq (.reg r3_15) (.cond (.t 79) (.seq (.reg r3_16) (.seq (.seq (.draw r3_17) (.cond (.t 108) (.seq (.reg r3_18) .ret) .skip)) (.seq (.reg r3_19) (.reg r3_20)))) (.seq (.reg r3_21) (.cond (.t 127) (.seq (.reg r3_22) .ret) .skip)))) (.seq (.reg r3_23) (.seq (.reg r3_24) (.seq (.reg r3_25) (.seq (.reg r3_26) (.seq (.reg r3_27) (.cond (.t 179) (.seq (.reg r3_28) .ret) .skip)))))))) ((12, .ptr b12 0 0 5) :: vS nm vV pV b last old i) (bx b12 (sR nm v2 (sV q 0)) :: pK q 0 s 0 [102] false :: cK s 0 false :: M) fun x l K => x = .nrm ∧ ∃ last' old' M', Ph b nm (i + 1) last' old' M' ∧ Sub2 (vS nm vV pV b last' old' i) l ∧ ∃ r, Sel K M' r := by
  have hf : Txt [102] := ⟨by decide, by decide⟩
  cases hB : sB nm v2 [102] with
  | false =>
    have hx : ∀ Z, (sB nm v2 [102] = true → old = 0 → Z) := fun Z e => by rw [hB] at e; cases e
    cases hp with
    | e => exact ad0 h1 hV hi .e (ie := 4) (X := pE b _ _) (by decide) (add11B h1 hf hB) (Sel.all _) (hx _)
    | c g1 g2 g3 => exact ad0 h1 hV hi (.c g1 g2 g3) (ie := 4) (X := [_, _, _]) (by decide) (add11B h1 hf hB) (.cons .here (.cons .here (.cons .here .nil))) (hx _)
    | o g1 g1' g2 g4 hne g3 => exact ad0 h1 hV hi (.o g1 g1' g2 g4 hne g3) (ie := 4) (X := [_, _, _]) (by decide) (add11B h1 hf hB) (.cons .here (.cons .here (.cons .here .nil))) (hx _)
  | true =>
    have hg := sB_ge hB
    cases hp with
    | e =>
      refine ad1 hV hi (by omega) (X := pE b _ _) (addE h1 hf hB) (.cons (.there (.there (.there .here))) (.cons (.there (.there (.there .here))) (.cons (.there (.there (.there .here))) (.cons (.there .here) (.cons (.there .here) .nil))))) ?_
      rintro _ ⟨N, p, g, c, h, rfl⟩
      exact ⟨_, .c (by omega) (by omega) (by omega), k12C, _, .cons (.there .here) (.cons (.there .here) (.cons (.there .here) (.cons (.there .here) (.cons (.there .here) .nil))))⟩
    | c g1 g2 g3 =>
      by_cases hv : last ≥ v2
      · exact ad0 h1 hV hi (.c g1 g2 g3) (ie := 15) (X := [_, _, _]) (by decide) (addCE h1 hf hB hv) (.cons .here (.cons .here (.cons .here .nil))) (fun _ _ => by omega)
      · refine ad1 hV hi (by omega) (X := [_, _, _]) (addC h1 hf hB (by omega) (by omega) hv) (.cons (.there (.there (.there .here))) (.cons (.there (.there (.there .here))) (.cons (.there (.there (.there .here))) (.cons (.there .here) (.cons (.there .here) .nil))))) ?_
        rintro _ ⟨p, g, c, h, rfl⟩
        exact ⟨_, .o (by omega) (by omega) (by omega) (by omega) (by omega) (by omega), k12O (by omega), _, .cons .here (.cons .here (.cons .here (.cons .here (.cons .here (.cons (.there .here) (.cons (.there .here) .nil))))))⟩
    | o g1 g1' g2 g4 hne g3 => exact ad0 h1 hV hi (.o g1 g1' g2 g4 hne g3) (ie := 20) (X := [_, _, _]) (by decide) (addO h1 hf hB) (.cons .here (.cons .here (.cons .here .nil))) (fun _ e => by omega)
theorem round (h1 : Txt nm) (hV : ASl 1 vV (vs.map fun a => [.int .i64 a])) (hP : ASl 1 pV (ps.map rowB)) (hl : ps.length ≤ 9223372036854775807) (hi : vs[i]? = some v2) (h30 : i < 30) (hp : Ph b nm i last old M) :
    Cd Try.prog false (.seq (.seq (.reg r3_8) (.cond (.t 57) (.seq (.reg r3_9) (.seq (.seq (.reg r3_10) (.cond (.t 65) (.seq (.reg r3_11) .ret) .skip)) (.reg r3_12))) .skip)) (.seq (.reg r3_13) (.seq (.reg r3_14) (.seq (.seq (.reg r3_15) (.cond (.t 79) (.seq (.reg r3_16) (.seq (.seq (.draw r3_17) (.cond (.t 108) (.seq (.reg r3_18) .ret) .skip)) (.seq (.reg r3_19) (.reg r3_20)))) (.seq (.reg r3_21) (.cond (.t 127) (.seq (.reg r3_22) .ret) .skip)))) (.seq (.reg r3_23) (.seq (.reg r3_24) (.seq (.reg r3_25) (.seq (.reg r3_26) (.seq (.reg r3_27) (.cond (.t 179) (.seq (.reg r3_28) .ret) .skip)))))))))) (vS nm vV pV b last old i) M fun x l K => x = .nrm ∧ ∃ last' old' M', Ph b nm (i + 1) last' old' M' ∧ Sub2 (vS nm vV pV b last' old' i) l ∧ ∃ r, Sel K M' r := by
  refine Cd.seq (Cd.seq (Cd.mono (n8v hP hl h30) ?_))
  rintro _ l K ⟨rfl, hl, rfl⟩
  show Cd _ _ _ _ _ _
  refine Cd.weak hl ?_
  refine Cd.mono (pg hp) ?_
  rintro _ l K ⟨rfl, last', old', M', hp', hl, r, hr⟩
  show Cd _ _ _ _ _ _
  refine Cd.weak hl (Cd.drop hr ?_)
  refine Cd.seq (Cd.mono (n13v hV hi) ?_)
  rintro _ l K ⟨rfl, b12, q, s, hl, rfl⟩
  show Cd _ _ _ _ _ _
  refine Cd.weak hl ?_
  exact ad h1 hV hi h30 hp'
end
end Go.Proofs.Ytlimjjilakldgaa

namespace Go.Proofs.Ytlimjjilakldgaa
open Go Go.Abs
theorem new7v : CT Try.prog false 7 [] [] fun w K' => ∃ b m1 m2, w = .ptr b 0 0 4 ∧ K' = pE b m1 m2 := by
  refine CT.enterS mixed comp7 (Nat.le_of_ble_eq_true rfl) ?_
  repeat' (first|(refine Rg.a Mk.mkmap fun m => ?_)|refine zA ?_|refine Cd.reg ?_|refine Rg.nil ?_|refine zF ?_|refine zG ?_|refine zH ?_|(refine Rg.p (v:=?_) ?_ ?_;rotate_left;exact zE)|(refine Rg.cmp (p:=?_) rfl rfl ?_ ?_;rotate_left;exact zC;intro cv hv)|(refine Rg.r (v:=?_) rfl rfl ?_ ?_;rotate_left;exact zN)|refine zL fun _=>?_|refine Rg.alloc fun _=>?_|refine Rg.a (Mk.lits rfl) fun _=>?_|refine zO (cs:=?_) (K':=?_) ?_|refine zP (cs:=?_) (K':=?_) ?_|(refine zQ (g:=?_) ?_;intro cv hv)|(refine zR (w:=?_) ?_;intro cv hv)|refine zS (v:=?_) ?_|refine zT (v:=?_) ?_|refine Lp.round ?_|refine Cd.draw ?_|refine Dw.nil ?_|refine Dw.guardY rfl ?_|refine Dw.guardN rfl ?_|refine Dw.guardT rfl ?_|(refine Dw.p (v:=?_) ?_ ?_;rotate_left;exact zE)|(refine Dw.cmp (p:=?_) rfl rfl ?_ ?_;rotate_left;exact zC;intro cv hv)|(refine Dw.r (v:=?_) rfl rfl ?_ ?_ ?_;rotate_left;exact zN;exact zM)|refine Dw.a Mk.alloc fun _=>?_|refine Dw.a (Mk.lits rfl) fun _=>?_|(refine zY (g:=?_) ?_;intro cv hv)|refine zW (v:=?_) ?_|refine Cd.condT rfl ?_|refine Cd.condF rfl ?_|((first|refine Cd.cond rfl ?_ ?_|refine Rg.guardS rfl ?_ ?_|refine Dw.guardS rfl ?_ ?_)<;>(intro e;(try simp only [Bool.not_eq_true',Bool.not_eq_false'] at e);subst e;try contradiction))|refine Cd.skip ?_|refine Cd.blk ?_|refine Cd.ext ?_|refine Cd.ret ?_)
  (first|refine ⟨.inr rfl,_,.t rfl .nil,?_⟩|refine ⟨.inr rfl,_,.t rfl (.t rfl .nil),?_⟩|refine ⟨.inr rfl,_,.t rfl (.t rfl (.t rfl .nil)),?_⟩|refine ⟨.inr rfl,_,.nil,?_⟩|refine ⟨.inl rfl,_,.t rfl .nil,?_⟩|refine ⟨.inl rfl,_,.nil,?_⟩|refine ⟨.inr rfl,_,.cn rfl (by exact zN) .nil,?_⟩|refine ⟨.inr rfl,_,.cn rfl (by exact zN) (.t rfl .nil),?_⟩)
  exact ⟨_, _, .cons .here (.cons (.there .here) (.cons .here .nil)), _, _, _, rfl, rfl⟩
section
variable {b i : Nat} {vV pV : AV} {nm : List Nat} {last old : Int} {ps : List Bool} {vs : List Int} {M : Mem}
/-- Whether there is a round. -/
theorem n7v (hV : ASl 1 vV (vs.map fun a => [.int .i64 a])) (hl : vs.length ≤ 9223372036854775807) (hi : i ≤ 30) : Cd Try.prog false (.seq (.reg r3_7) (.cond (.t 45) .skip (.ext 0))) (vS nm vV pV b last old i) M fun x l K => Sub2 (vS nm vV pV b last old i) l ∧ K = M ∧ ((x = .nrm ∧ i < 30 ∧ i < vs.length) ∨ x = .ext 0) := by
  have l1 := hV.len
  rw [List.length_map] at l1
  by_cases h1 : i < vs.length
  · by_cases h2 : i < 30
    · repeat' (first|refine zA ?_|refine Cd.reg ?_|refine Rg.nil ?_|refine zF ?_|refine zG ?_|refine zH ?_|(refine Rg.p (v:=?_) ?_ ?_;rotate_left;exact zE)|(refine Rg.cmp (p:=?_) rfl rfl ?_ ?_;rotate_left;exact zC;intro cv hv)|(refine Rg.r (v:=?_) rfl rfl ?_ ?_;rotate_left;exact zN)|refine zL fun _=>?_|refine Rg.alloc fun _=>?_|refine Rg.a (Mk.lits rfl) fun _=>?_|refine zO (cs:=?_) (K':=?_) ?_|refine zP (cs:=?_) (K':=?_) ?_|(refine zQ (g:=?_) ?_;intro cv hv)|(refine zR (w:=?_) ?_;intro cv hv)|refine zS (v:=?_) ?_|refine zT (v:=?_) ?_|refine Lp.round ?_|refine Cd.draw ?_|refine Dw.nil ?_|refine Dw.guardY rfl ?_|refine Dw.guardN rfl ?_|refine Dw.guardT rfl ?_|(refine Dw.p (v:=?_) ?_ ?_;rotate_left;exact zE)|(refine Dw.cmp (p:=?_) rfl rfl ?_ ?_;rotate_left;exact zC;intro cv hv)|(refine Dw.r (v:=?_) rfl rfl ?_ ?_ ?_;rotate_left;exact zN;exact zM)|refine Dw.a Mk.alloc fun _=>?_|refine Dw.a (Mk.lits rfl) fun _=>?_|(refine zY (g:=?_) ?_;intro cv hv)|refine zW (v:=?_) ?_|refine Cd.condT rfl ?_|refine Cd.condF rfl ?_|((first|refine Cd.cond rfl ?_ ?_|refine Rg.guardS rfl ?_ ?_|refine Dw.guardS rfl ?_ ?_)<;>(intro e;(try simp only [Bool.not_eq_true',Bool.not_eq_false'] at e);subst e;try contradiction))|refine Cd.skip ?_|refine Cd.blk ?_|refine Cd.ext ?_|refine Cd.ret ?_)
      exact ⟨⟨rfl, rfl, rfl, rfl, rfl, rfl, rfl, trivial⟩, rfl, .inl ⟨rfl, h2, h1⟩⟩
    · repeat' (first|refine zA ?_|refine Cd.reg ?_|refine Rg.nil ?_|refine zF ?_|refine zG ?_|refine zH ?_|(refine Rg.p (v:=?_) ?_ ?_;rotate_left;exact zE)|(refine Rg.cmp (p:=?_) rfl rfl ?_ ?_;rotate_left;exact zC;intro cv hv)|(refine Rg.r (v:=?_) rfl rfl ?_ ?_;rotate_left;exact zN)|refine zL fun _=>?_|refine Rg.alloc fun _=>?_|refine Rg.a (Mk.lits rfl) fun _=>?_|refine zO (cs:=?_) (K':=?_) ?_|refine zP (cs:=?_) (K':=?_) ?_|(refine zQ (g:=?_) ?_;intro cv hv)|(refine zR (w:=?_) ?_;intro cv hv)|refine zS (v:=?_) ?_|refine zT (v:=?_) ?_|refine Lp.round ?_|refine Cd.draw ?_|refine Dw.nil ?_|refine Dw.guardY rfl ?_|refine Dw.guardN rfl ?_|refine Dw.guardT rfl ?_|(refine Dw.p (v:=?_) ?_ ?_;rotate_left;exact zE)|(refine Dw.cmp (p:=?_) rfl rfl ?_ ?_;rotate_left;exact zC;intro cv hv)|(refine Dw.r (v:=?_) rfl rfl ?_ ?_ ?_;rotate_left;exact zN;exact zM)|refine Dw.a Mk.alloc fun _=>?_|refine Dw.a (Mk.lits rfl) fun _=>?_|(refine zY (g:=?_) ?_;intro cv hv)|refine zW (v:=?_) ?_|refine Cd.condT rfl ?_|refine Cd.condF rfl ?_|((first|refine Cd.cond rfl ?_ ?_|refine Rg.guardS rfl ?_ ?_|refine Dw.guardS rfl ?_ ?_)<;>(intro e;(try simp only [Bool.not_eq_true',Bool.not_eq_false'] at e);subst e;try contradiction))|refine Cd.skip ?_|refine Cd.blk ?_|refine Cd.ext ?_|refine Cd.ret ?_)
      exact ⟨⟨rfl, rfl, rfl, rfl, rfl, rfl, rfl, trivial⟩, rfl, .inr rfl⟩
  · repeat' (first|refine zA ?_|refine Cd.reg ?_|refine Rg.nil ?_|refine zF ?_|refine zG ?_|refine zH ?_|(refine Rg.p (v:=?_) ?_ ?_;rotate_left;exact zE)|(refine Rg.cmp (p:=?_) rfl rfl ?_ ?_;rotate_left;exact zC;intro cv hv)|(refine Rg.r (v:=?_) rfl rfl ?_ ?_;rotate_left;exact zN)|refine zL fun _=>?_|refine Rg.alloc fun _=>?_|refine Rg.a (Mk.lits rfl) fun _=>?_|refine zO (cs:=?_) (K':=?_) ?_|refine zP (cs:=?_) (K':=?_) ?_|(refine zQ (g:=?_) ?_;intro cv hv)|(refine zR (w:=?_) ?_;intro cv hv)|refine zS (v:=?_) ?_|refine zT (v:=?_) ?_|refine Lp.round ?_|refine Cd.draw ?_|refine Dw.nil ?_|refine Dw.guardY rfl ?_|refine Dw.guardN rfl ?_|refine Dw.guardT rfl ?_|(refine Dw.p (v:=?_) ?_ ?_;rotate_left;exact zE)|(refine Dw.cmp (p:=?_) rfl rfl ?_ ?_;rotate_left;exact zC;intro cv hv)|(refine Dw.r (v:=?_) rfl rfl ?_ ?_ ?_;rotate_left;exact zN;exact zM)|refine Dw.a Mk.alloc fun _=>?_|refine Dw.a (Mk.lits rfl) fun _=>?_|(refine zY (g:=?_) ?_;intro cv hv)|refine zW (v:=?_) ?_|refine Cd.condT rfl ?_|refine Cd.condF rfl ?_|((first|refine Cd.cond rfl ?_ ?_|refine Rg.guardS rfl ?_ ?_|refine Dw.guardS rfl ?_ ?_)<;>(intro e;(try simp only [Bool.not_eq_true',Bool.not_eq_false'] at e);subst e;try contradiction))|refine Cd.skip ?_|refine Cd.blk ?_|refine Cd.ext ?_|refine Cd.ret ?_)
    exact ⟨⟨rfl, rfl, rfl, rfl, rfl, rfl, rfl, trivial⟩, rfl, .inr rfl⟩
theorem n29v (hi : i < 30) : Cd Try.prog false (.reg r3_29) (vS nm vV pV b last old i) M fun x l K => x = .nrm ∧ Sub2 (vS nm vV pV b last old (i + 1)) l ∧ K = M := by
  repeat' (first|refine zA ?_|refine Cd.reg ?_|refine Rg.nil ?_|refine zF ?_|refine zG ?_|refine zH ?_|(refine Rg.p (v:=?_) ?_ ?_;rotate_left;exact zE)|(refine Rg.cmp (p:=?_) rfl rfl ?_ ?_;rotate_left;exact zC;intro cv hv)|(refine Rg.r (v:=?_) rfl rfl ?_ ?_;rotate_left;exact zN)|refine zL fun _=>?_|refine Rg.alloc fun _=>?_|refine Rg.a (Mk.lits rfl) fun _=>?_|refine zO (cs:=?_) (K':=?_) ?_|refine zP (cs:=?_) (K':=?_) ?_|(refine zQ (g:=?_) ?_;intro cv hv)|(refine zR (w:=?_) ?_;intro cv hv)|refine zS (v:=?_) ?_|refine zT (v:=?_) ?_|refine Lp.round ?_|refine Cd.draw ?_|refine Dw.nil ?_|refine Dw.guardY rfl ?_|refine Dw.guardN rfl ?_|refine Dw.guardT rfl ?_|(refine Dw.p (v:=?_) ?_ ?_;rotate_left;exact zE)|(refine Dw.cmp (p:=?_) rfl rfl ?_ ?_;rotate_left;exact zC;intro cv hv)|(refine Dw.r (v:=?_) rfl rfl ?_ ?_ ?_;rotate_left;exact zN;exact zM)|refine Dw.a Mk.alloc fun _=>?_|refine Dw.a (Mk.lits rfl) fun _=>?_|(refine zY (g:=?_) ?_;intro cv hv)|refine zW (v:=?_) ?_|refine Cd.condT rfl ?_|refine Cd.condF rfl ?_|((first|refine Cd.cond rfl ?_ ?_|refine Rg.guardS rfl ?_ ?_|refine Dw.guardS rfl ?_ ?_)<;>(intro e;(try simp only [Bool.not_eq_true',Bool.not_eq_false'] at e);subst e;try contradiction))|refine Cd.skip ?_|refine Cd.blk ?_|refine Cd.ext ?_|refine Cd.ret ?_)
  exact ⟨rfl, ⟨rfl, rfl, rfl, rfl, rfl, rfl, rfl, trivial⟩, rfl⟩
theorem loop3v (h1 : Txt nm) (hV : ASl 1 vV (vs.map fun a => [.int .i64 a])) (hl1 : vs.length ≤ 9223372036854775807) (hP : ASl 1 pV (ps.map rowB)) (hl : ps.length ≤ 9223372036854775807) :
    ∀ (f i : Nat) (last old : Int) (M : Mem), i ≤ 30 → 31 ≤ i + f → Ph b nm i last old M → Lp Try.prog false b3_0 f (vS nm vV pV b last old i) M fun x l K => x = .ext 0 := by
  intro f
  induction f with
  | zero => intro i last old M h2 h3; omega
  | succ f ih =>
    intro i last old M h2 h3 hp
    refine Lp.round ?_
    refine Cd.seq (Cd.mono (n7v hV hl1 h2) ?_)
    rintro x l _ ⟨hl0, rfl, hx⟩
    rcases hx with ⟨rfl, hi, hj⟩ | rfl
    · show Cd _ _ _ _ _ _
      obtain ⟨v2, hv2⟩ : ∃ v2, vs[i]? = some v2 := ⟨_, List.getElem?_eq_getElem hj⟩
      refine Cd.weak hl0 (Cd.seq (Cd.blk (Cd.mono (round h1 hV hP hl hv2 hi hp) ?_)))
      rintro _ l K ⟨rfl, last', old', M', hp', hl', r, hr⟩
      show Cd _ _ _ _ _ _
      refine Cd.weak hl' (Cd.drop hr (Cd.mono (n29v hi) ?_))
      rintro _ l K ⟨rfl, hl', rfl⟩
      exact Lp.weak hl' (ih (i + 1) last' old' _ (by omega) (by omega) hp')
    · rfl
end
theorem versions3 {nm : List Nat} {vV pV : AV} {vs : List Int} {ps : List Bool} (h1 : Txt nm) (hV : ASl 1 vV (vs.map fun a => [.int .i64 a])) (hl1 : vs.length ≤ 9223372036854775807) (hP : ASl 1 pV (ps.map rowB)) (hl : ps.length ≤ 9223372036854775807) : CT Try.prog false 3 [.str nm, vV, pV] [] fun w _ => w = .bool true := by
  have k8 := known8
  have hla := h1.1
  refine CT.enter mixed comp3 (Nat.le_of_ble_eq_true rfl) ?_
  by_cases h : 100 < nm.length
  · repeat' (first|(refine Rg.callM rfl new7v .nil ?_; rintro _ _ ⟨b, m1, m2, rfl, rfl⟩)|refine zA ?_|refine Cd.reg ?_|refine Rg.nil ?_|refine zF ?_|refine zG ?_|refine zH ?_|(refine Rg.p (v:=?_) ?_ ?_;rotate_left;exact zE)|(refine Rg.cmp (p:=?_) rfl rfl ?_ ?_;rotate_left;exact zC;intro cv hv)|(refine Rg.r (v:=?_) rfl rfl ?_ ?_;rotate_left;exact zN)|refine zL fun _=>?_|refine Rg.alloc fun _=>?_|refine Rg.a (Mk.lits rfl) fun _=>?_|refine zO (cs:=?_) (K':=?_) ?_|refine zP (cs:=?_) (K':=?_) ?_|(refine zQ (g:=?_) ?_;intro cv hv)|(refine zR (w:=?_) ?_;intro cv hv)|refine zS (v:=?_) ?_|refine zT (v:=?_) ?_|refine Lp.round ?_|refine Cd.draw ?_|refine Dw.nil ?_|refine Dw.guardY rfl ?_|refine Dw.guardN rfl ?_|refine Dw.guardT rfl ?_|(refine Dw.p (v:=?_) ?_ ?_;rotate_left;exact zE)|(refine Dw.cmp (p:=?_) rfl rfl ?_ ?_;rotate_left;exact zC;intro cv hv)|(refine Dw.r (v:=?_) rfl rfl ?_ ?_ ?_;rotate_left;exact zN;exact zM)|refine Dw.a Mk.alloc fun _=>?_|refine Dw.a (Mk.lits rfl) fun _=>?_|(refine zY (g:=?_) ?_;intro cv hv)|refine zW (v:=?_) ?_|refine Cd.condT rfl ?_|refine Cd.condF rfl ?_|((first|refine Cd.cond rfl ?_ ?_|refine Rg.guardS rfl ?_ ?_|refine Dw.guardS rfl ?_ ?_)<;>(intro e;(try simp only [Bool.not_eq_true',Bool.not_eq_false'] at e);subst e;try contradiction))|refine Cd.skip ?_|refine Cd.blk ?_|refine Cd.ext ?_|refine Cd.ret ?_)
    (first|refine ⟨.inr rfl,_,.t rfl .nil,?_⟩|refine ⟨.inr rfl,_,.t rfl (.t rfl .nil),?_⟩|refine ⟨.inr rfl,_,.t rfl (.t rfl (.t rfl .nil)),?_⟩|refine ⟨.inr rfl,_,.nil,?_⟩|refine ⟨.inl rfl,_,.t rfl .nil,?_⟩|refine ⟨.inl rfl,_,.nil,?_⟩|refine ⟨.inr rfl,_,.cn rfl (by exact zN) .nil,?_⟩|refine ⟨.inr rfl,_,.cn rfl (by exact zN) (.t rfl .nil),?_⟩)
    rw [← hv]; rfl
  repeat' (first|(refine Rg.callM rfl new7v .nil ?_; rintro _ _ ⟨b, m1, m2, rfl, rfl⟩)|(refine stopC (c := .blk 0 (.loop b3_0)) ?_)|refine zA ?_|refine Cd.reg ?_|refine Rg.nil ?_|refine zF ?_|refine zG ?_|refine zH ?_|(refine Rg.p (v:=?_) ?_ ?_;rotate_left;exact zE)|(refine Rg.cmp (p:=?_) rfl rfl ?_ ?_;rotate_left;exact zC;intro cv hv)|(refine Rg.r (v:=?_) rfl rfl ?_ ?_;rotate_left;exact zN)|refine zL fun _=>?_|refine Rg.alloc fun _=>?_|refine Rg.a (Mk.lits rfl) fun _=>?_|refine zO (cs:=?_) (K':=?_) ?_|refine zP (cs:=?_) (K':=?_) ?_|(refine zQ (g:=?_) ?_;intro cv hv)|(refine zR (w:=?_) ?_;intro cv hv)|refine zS (v:=?_) ?_|refine zT (v:=?_) ?_|refine Lp.round ?_|refine Cd.draw ?_|refine Dw.nil ?_|refine Dw.guardY rfl ?_|refine Dw.guardN rfl ?_|refine Dw.guardT rfl ?_|(refine Dw.p (v:=?_) ?_ ?_;rotate_left;exact zE)|(refine Dw.cmp (p:=?_) rfl rfl ?_ ?_;rotate_left;exact zC;intro cv hv)|(refine Dw.r (v:=?_) rfl rfl ?_ ?_ ?_;rotate_left;exact zN;exact zM)|refine Dw.a Mk.alloc fun _=>?_|refine Dw.a (Mk.lits rfl) fun _=>?_|(refine zY (g:=?_) ?_;intro cv hv)|refine zW (v:=?_) ?_|refine Cd.condT rfl ?_|refine Cd.condF rfl ?_|((first|refine Cd.cond rfl ?_ ?_|refine Rg.guardS rfl ?_ ?_|refine Dw.guardS rfl ?_ ?_)<;>(intro e;(try simp only [Bool.not_eq_true',Bool.not_eq_false'] at e);subst e;try contradiction))|refine Cd.skip ?_|refine Cd.blk ?_|refine Cd.ext ?_|refine Cd.ret ?_)
  refine ⟨?_⟩
  refine Cd.weak (l2 := vS nm vV pV b 0 0 0) ⟨rfl, rfl, rfl, rfl, rfl, rfl, rfl, trivial⟩ ?_
  refine Cd.drop (m := pE b m1 m2) (.cons .here (.cons .here (.cons .here .nil))) ?_
  refine Cd.blk (Cd.loop (k := 31) (Lp.mono (loop3v h1 hV hl1 hP hl 31 0 0 0 _ (by omega) (by omega) .e) ?_))
  rintro _ l K rfl
  show Cd _ _ _ _ _ _
  refine Cd.weak (l2 := []) trivial ?_
  repeat' (first|refine zA ?_|refine Cd.reg ?_|refine Rg.nil ?_|refine zF ?_|refine zG ?_|refine zH ?_|(refine Rg.p (v:=?_) ?_ ?_;rotate_left;exact zE)|(refine Rg.cmp (p:=?_) rfl rfl ?_ ?_;rotate_left;exact zC;intro cv hv)|(refine Rg.r (v:=?_) rfl rfl ?_ ?_;rotate_left;exact zN)|refine zL fun _=>?_|refine Rg.alloc fun _=>?_|refine Rg.a (Mk.lits rfl) fun _=>?_|refine zO (cs:=?_) (K':=?_) ?_|refine zP (cs:=?_) (K':=?_) ?_|(refine zQ (g:=?_) ?_;intro cv hv)|(refine zR (w:=?_) ?_;intro cv hv)|refine zS (v:=?_) ?_|refine zT (v:=?_) ?_|refine Lp.round ?_|refine Cd.draw ?_|refine Dw.nil ?_|refine Dw.guardY rfl ?_|refine Dw.guardN rfl ?_|refine Dw.guardT rfl ?_|(refine Dw.p (v:=?_) ?_ ?_;rotate_left;exact zE)|(refine Dw.cmp (p:=?_) rfl rfl ?_ ?_;rotate_left;exact zC;intro cv hv)|(refine Dw.r (v:=?_) rfl rfl ?_ ?_ ?_;rotate_left;exact zN;exact zM)|refine Dw.a Mk.alloc fun _=>?_|refine Dw.a (Mk.lits rfl) fun _=>?_|(refine zY (g:=?_) ?_;intro cv hv)|refine zW (v:=?_) ?_|refine Cd.condT rfl ?_|refine Cd.condF rfl ?_|((first|refine Cd.cond rfl ?_ ?_|refine Rg.guardS rfl ?_ ?_|refine Dw.guardS rfl ?_ ?_)<;>(intro e;(try simp only [Bool.not_eq_true',Bool.not_eq_false'] at e);subst e;try contradiction))|refine Cd.skip ?_|refine Cd.blk ?_|refine Cd.ext ?_|refine Cd.ret ?_)
  (first|refine ⟨.inr rfl,_,.t rfl .nil,?_⟩|refine ⟨.inr rfl,_,.t rfl (.t rfl .nil),?_⟩|refine ⟨.inr rfl,_,.t rfl (.t rfl (.t rfl .nil)),?_⟩|refine ⟨.inr rfl,_,.nil,?_⟩|refine ⟨.inl rfl,_,.t rfl .nil,?_⟩|refine ⟨.inl rfl,_,.nil,?_⟩|refine ⟨.inr rfl,_,.cn rfl (by exact zN) .nil,?_⟩|refine ⟨.inr rfl,_,.cn rfl (by exact zN) (.t rfl .nil),?_⟩)
  rw [← hv]; rfl
end Go.Proofs.Ytlimjjilakldgaa
