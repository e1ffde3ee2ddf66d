/- HeapFns: its first loop's round, region by region. -/
import Derived.Test.YtggpnokhhpnnaaaHepB
set_option autoImplicit false
set_option maxRecDepth 100000
set_option maxHeartbeats 4000000
set_option linter.unusedVariables false
set_option linter.unusedSimpArgs false
namespace Go.Proofs.Ytggpnokhhpnnaaa
open Go Go.Abs
structure Clo where
  u : Int
  p : Int
  cv : AV
  cells : List Int
def cloR (c : Clo) : List AV := [.int .i64 c.u, .int .i64 c.p, c.cv]
structure OkC (c : Clo) : Prop where
  asl : ASl 1 c.cv (c.cells.map rowI)
  len : c.cells.length ≤ 9223372036854775807
theorem OkC.lens {c : Clo} (h : OkC c) : apure .e (.len false (.c c.cv)) = some (.int .i64 (.ofNat c.cells.length)) := by
  have := h.asl.len
  rwa [List.length_map] at this
def vInt (j : Nat) : Val := ⟨1, (j : Int), []⟩
def vFn (j : Nat) : Val := ⟨4, (j : Int), []⟩
def numsR (f : Nat → Val) (n : Nat) : List (List AV) := (List.range n).map fun j => valR (f j)
theorem numsR_succ (f : Nat → Val) (n : Nat) : numsR f n ++ [valR (f n)] = numsR f (n + 1) := by simp [numsR, List.range_succ]
theorem numsR_len (f : Nat → Val) (n : Nat) : (numsR f n).length = n := by simp [numsR]
theorem numsR_at {f : Nat → Val} {n j : Nat} (h : j < n) : (numsR f n)[j]? = some (valR (f j)) := by
  rw [numsR, List.getElem?_map, List.getElem?_range h]; rfl
structure InvF (ls : List Clo) (i : Nat) (F C D : OS) (FC : Chk) : Prop where
  f : F.ok 3
  c : C.ok 3
  d : D.ok 3
  fl : F.rows.length = i
  clo : ∀ (j : Nat) (q : Clo), j < i → ls[j]? = some q → ∃ o : OS, F.rows[j]? = some [.int .i64 q.u, .int .i64 q.p, o.v 1] ∧ o.ok 1 ∧ o.rows = q.cells.map rowI ∧ q.cells.length ≤ 50 ∧ ∀ id x, (id, x) ∈ o.c → (id, x) ∈ FC
  cr : C.rows = numsR vInt i
  dr : D.rows = numsR vFn i
abbrev sl5 (lv : AV) (n : Int) (b5 b : Nat) (D : OS) (i : Nat) : SL := [(0, lv), (1, .int .i64 n), (5, .ptr b5 0 0 3), (7, hP b), (9, D.v 3), (10, .int .i64 (.ofNat i))]
abbrev me5 (b room used b5 : Nat) (v : Val) (F C D : OS) (FC : Chk) : Mem := [hB b room used .nilslc (F.v 3) (C.v 3), F.c, C.c, D.c, FC, [(b5, .cells (valR v) 0 0 false)]]
section
variable {lv : AV} {ls : List Clo} {n : Int} {b5 b b11 room used i : Nat} {v : Val} {F C D : OS} {FC : Chk} {q : Clo}
theorem n9 (hL : ASl 3 lv (ls.map cloR)) (hi : ls[i]? = some q) (hq : OkC q) (h50 : q.cells.length ≤ 50) (hu : used < room) (hr : room ≤ 1000000) (hF : F.ok 3) (hfl : F.rows.length = i) (hi30 : i < 30) :
    Cd Try.prog false (.draw r5_9) (sl5 lv n b5 b D i) (me5 b room used b5 v F C D FC) fun e l K => e = .nrm ∧ ∃ (b11 : Nat) (F' o : OS), F'.ok 3 ∧ o.ok 1 ∧ o.rows = q.cells.map rowI ∧ F'.rows = F.rows ++ [[.int .i64 q.u, .int .i64 q.p, o.v 1]] ∧
      Sub2 ((11, .ptr b11 0 0 3) :: (12, .int .i64 (.ofNat 0)) :: sl5 lv n b5 b D i) l ∧ ∃ r, Sel K ([(b11, .cells (valR (vFn i)) 0 0 false)] :: o.c :: me5 b room (used + 1) b5 v F' C D FC) r := by
  subst hfl
  have q1 := hL.iadr (i := F.rows.length) (r := cloR q) (k := .i64) (by rw [List.getElem?_map, hi]; rfl)
  repeat' (first|refine zA ?_|refine Cd.reg ?_|refine Rg.nil ?_|refine zF ?_|refine zG ?_|refine zH ?_|(refine Rg.p (v:=?_) ?_ ?_;rotate_left;exact zE)|(refine Rg.cmp (p:=?_) rfl rfl ?_ ?_;rotate_left;exact zC;intro cv hv)|(refine Rg.r (v:=?_) rfl rfl ?_ ?_;rotate_left;exact zN)|refine zL fun _=>?_|refine Rg.alloc fun _=>?_|refine Rg.a (Mk.lits rfl) fun _=>?_|refine zO (cs:=?_) (K':=?_) ?_|refine zP (cs:=?_) (K':=?_) ?_|(refine zQ (g:=?_) ?_;intro cv hv)|(refine zR (w:=?_) ?_;intro cv hv)|refine zS (v:=?_) ?_|refine zT (v:=?_) ?_|refine Lp.round ?_|refine Cd.draw ?_|refine Dw.nil ?_|refine Dw.guardY rfl ?_|refine Dw.guardN rfl ?_|refine Dw.guardT rfl ?_|(refine Dw.p (v:=?_) ?_ ?_;rotate_left;exact zE)|(refine Dw.cmp (p:=?_) rfl rfl ?_ ?_;rotate_left;exact zC;intro cv hv)|(refine Dw.r (v:=?_) rfl rfl ?_ ?_ ?_;rotate_left;exact zN;exact zM)|refine Dw.a Mk.alloc fun _=>?_|refine Dw.a (Mk.lits rfl) fun _=>?_|(refine zY (g:=?_) ?_;intro cv hv)|refine zW (v:=?_) ?_|refine Cd.condT rfl ?_|refine Cd.condF rfl ?_|((first|refine Cd.cond rfl ?_ ?_|refine Rg.guardS rfl ?_ ?_|refine Dw.guardS rfl ?_ ?_)<;>(intro e;(try simp only [Bool.not_eq_true',Bool.not_eq_false'] at e);subst e;try contradiction))|refine Cd.skip ?_|refine Cd.blk ?_|refine Cd.ext ?_|refine Cd.ret ?_)
  refine Dw.p (Ev.build (cs := [.int .i64 q.u, .int .i64 q.p, q.cv]) (fillL1 rfl ⟨rfl, rfl⟩ (Nat.le_of_ble_eq_true rfl) (fillL1 rfl ⟨rfl, rfl⟩ (Nat.le_of_ble_eq_true rfl) (fillL1 rfl hq.asl.one (Nat.le_of_ble_eq_true rfl) rfl)))) ?_
  refine Dw.callM rfl (fn13T hu hr hq.asl (by rw [List.length_map]; omega) hF (by omega)) (.cons .here (.cons .here .nil)) ?_
  rintro _ _ ⟨rfl, F', o, hF', ho, hor, hF2, rfl⟩
  refine ⟨by repeat (first | exact trivial | refine rdsB rfl ?_ | (refine rdsR ?_ ?_; (focus (first | assumption | (refine Rdk.b1 (cs := ?_) ?_ ?_; rotate_left; (repeat (first | exact InK.here | refine InK.there ?_)); exact rfl) | (refine Rdk.bw ?_ ?_; (repeat (first | exact InK.here | refine InK.there ?_)); first | assumption | exact rfl) | (refine Rdk.bn ?_ ?_; (repeat (first | exact InK.here | refine InK.there ?_)); exact rfl) | (refine Rdk.in ?_; first | assumption | exact rfl) | exact Rdk.i1)))), ?_⟩
  repeat' (first|refine zA ?_|refine Cd.reg ?_|refine Rg.nil ?_|refine zF ?_|refine zG ?_|refine zH ?_|(refine Rg.p (v:=?_) ?_ ?_;rotate_left;exact zE)|(refine Rg.cmp (p:=?_) rfl rfl ?_ ?_;rotate_left;exact zC;intro cv hv)|(refine Rg.r (v:=?_) rfl rfl ?_ ?_;rotate_left;exact zN)|refine zL fun _=>?_|refine Rg.alloc fun _=>?_|refine Rg.a (Mk.lits rfl) fun _=>?_|refine zO (cs:=?_) (K':=?_) ?_|refine zP (cs:=?_) (K':=?_) ?_|(refine zQ (g:=?_) ?_;intro cv hv)|(refine zR (w:=?_) ?_;intro cv hv)|refine zS (v:=?_) ?_|refine zT (v:=?_) ?_|refine Lp.round ?_|refine Cd.draw ?_|refine Dw.nil ?_|refine Dw.guardY rfl ?_|refine Dw.guardN rfl ?_|refine Dw.guardT rfl ?_|(refine Dw.p (v:=?_) ?_ ?_;rotate_left;exact zE)|(refine Dw.cmp (p:=?_) rfl rfl ?_ ?_;rotate_left;exact zC;intro cv hv)|(refine Dw.r (v:=?_) rfl rfl ?_ ?_ ?_;rotate_left;exact zN;exact zM)|refine Dw.a Mk.alloc fun _=>?_|refine Dw.a (Mk.lits rfl) fun _=>?_|(refine zY (g:=?_) ?_;intro cv hv)|refine zW (v:=?_) ?_|refine Cd.condT rfl ?_|refine Cd.condF rfl ?_|((first|refine Cd.cond rfl ?_ ?_|refine Rg.guardS rfl ?_ ?_|refine Dw.guardS rfl ?_ ?_)<;>(intro e;(try simp only [Bool.not_eq_true',Bool.not_eq_false'] at e);subst e;try contradiction))|refine Cd.skip ?_|refine Cd.blk ?_|refine Cd.ext ?_|refine Cd.ret ?_)
  refine Dw.e (Ef.storeW rfl rfl Upd.here rfl (Nat.le_of_ble_eq_true rfl) rfl) ?_
  rintro _ _ ⟨rfl, rfl⟩
  refine ⟨by repeat (first | exact trivial | refine rdsB rfl ?_ | (refine rdsR ?_ ?_; (focus (first | assumption | (refine Rdk.b1 (cs := ?_) ?_ ?_; rotate_left; (repeat (first | exact InK.here | refine InK.there ?_)); exact rfl) | (refine Rdk.bw ?_ ?_; (repeat (first | exact InK.here | refine InK.there ?_)); first | assumption | exact rfl) | (refine Rdk.bn ?_ ?_; (repeat (first | exact InK.here | refine InK.there ?_)); exact rfl) | (refine Rdk.in ?_; first | assumption | exact rfl) | exact Rdk.i1)))), ?_⟩
  repeat' (first|refine zA ?_|refine Cd.reg ?_|refine Rg.nil ?_|refine zF ?_|refine zG ?_|refine zH ?_|(refine Rg.p (v:=?_) ?_ ?_;rotate_left;exact zE)|(refine Rg.cmp (p:=?_) rfl rfl ?_ ?_;rotate_left;exact zC;intro cv hv)|(refine Rg.r (v:=?_) rfl rfl ?_ ?_;rotate_left;exact zN)|refine zL fun _=>?_|refine Rg.alloc fun _=>?_|refine Rg.a (Mk.lits rfl) fun _=>?_|refine zO (cs:=?_) (K':=?_) ?_|refine zP (cs:=?_) (K':=?_) ?_|(refine zQ (g:=?_) ?_;intro cv hv)|(refine zR (w:=?_) ?_;intro cv hv)|refine zS (v:=?_) ?_|refine zT (v:=?_) ?_|refine Lp.round ?_|refine Cd.draw ?_|refine Dw.nil ?_|refine Dw.guardY rfl ?_|refine Dw.guardN rfl ?_|refine Dw.guardT rfl ?_|(refine Dw.p (v:=?_) ?_ ?_;rotate_left;exact zE)|(refine Dw.cmp (p:=?_) rfl rfl ?_ ?_;rotate_left;exact zC;intro cv hv)|(refine Dw.r (v:=?_) rfl rfl ?_ ?_ ?_;rotate_left;exact zN;exact zM)|refine Dw.a Mk.alloc fun _=>?_|refine Dw.a (Mk.lits rfl) fun _=>?_|(refine zY (g:=?_) ?_;intro cv hv)|refine zW (v:=?_) ?_|refine Cd.condT rfl ?_|refine Cd.condF rfl ?_|((first|refine Cd.cond rfl ?_ ?_|refine Rg.guardS rfl ?_ ?_|refine Dw.guardS rfl ?_ ?_)<;>(intro e;(try simp only [Bool.not_eq_true',Bool.not_eq_false'] at e);subst e;try contradiction))|refine Cd.skip ?_|refine Cd.blk ?_|refine Cd.ext ?_|refine Cd.ret ?_)
  exact ⟨rfl, _, F', o, hF', ho, hor, hF2, ⟨rfl, rfl, rfl, rfl, rfl, rfl, rfl, rfl, trivial⟩, _, .cons .here (.cons (.there (.there .here)) (.cons .here (.cons .here (.cons .here (.cons .here (.cons .here (.cons .here .nil)))))))⟩
theorem n10 (hC : C.ok 3) (hl : C.rows.length < 100000) : Cd Try.prog false (.reg r5_10) ((11, .ptr b11 0 0 3) :: (12, .int .i64 (.ofNat 0)) :: sl5 lv n b5 b D i) ([(b11, .cells (valR (vFn i)) 0 0 false)] :: me5 b room used b5 v F C D FC)
    fun e l K => e = .nrm ∧ Sub2 ((11, .ptr b11 0 0 3) :: (12, .int .i64 (.ofNat 0)) :: (13, .int .i64 (.ofNat C.rows.length)) :: sl5 lv n b5 b D i) l ∧ ∃ C' : OS, C'.ok 3 ∧ C'.rows = C.rows ++ [valR (vInt i)] ∧ ∃ r, Sel K ([(b11, .cells (valR (vFn i)) 0 0 false)] :: me5 b room used b5 v F C' D FC) r := by
  repeat' (first|refine zA ?_|refine Cd.reg ?_|refine Rg.nil ?_|refine zF ?_|refine zG ?_|refine zH ?_|(refine Rg.p (v:=?_) ?_ ?_;rotate_left;exact zE)|(refine Rg.cmp (p:=?_) rfl rfl ?_ ?_;rotate_left;exact zC;intro cv hv)|(refine Rg.r (v:=?_) rfl rfl ?_ ?_;rotate_left;exact zN)|refine zL fun _=>?_|refine Rg.alloc fun _=>?_|refine Rg.a (Mk.lits rfl) fun _=>?_|refine zO (cs:=?_) (K':=?_) ?_|refine zP (cs:=?_) (K':=?_) ?_|((first|refine Rg.callB (g:=?_) rfl ?_ ?_|refine Rg.callvB (w:=?_) rfl rfl ?_ ?_);rotate_left;(first|assumption|exact int23);intro cv hv)|((first|refine Rg.callv (v:=?_) rfl rfl ?_ ?_|refine Rg.call (v:=?_) rfl ?_ ?_);rotate_left;(first|assumption|exact int23))|(refine Dw.callB (g:=?_) rfl ?_ ?_ ?_;rotate_left;(first|assumption|exact int23);(focus (repeat (first | exact trivial | refine And.intro (Or.inl rfl) ?_ | (refine And.intro (Or.inr ?_) ?_; (focus (first | exact Rdk.i1 | assumption | (refine Rdk.in ?_; first | assumption | exact rfl) | (refine Rdk.b1 (cs := ?_) ?_ ?_; rotate_left; (repeat (first | exact InK.here | refine InK.there ?_)); exact rfl) | (refine Rdk.bw (cs := ?_) ?_ ?_; rotate_left; (repeat (first | exact InK.here | refine InK.there ?_)); first | assumption | exact rfl) | (refine Rdk.bn (cs := ?_) ?_ ?_; rotate_left; (repeat (first | exact InK.here | refine InK.there ?_)); exact rfl)))))));intro cv hv)|(refine Dw.call (v:=?_) rfl ?_ ?_ ?_;rotate_left;(first|assumption|exact int23);focus (repeat (first | exact trivial | refine And.intro (Or.inl rfl) ?_ | (refine And.intro (Or.inr ?_) ?_; (focus (first | exact Rdk.i1 | assumption | (refine Rdk.in ?_; first | assumption | exact rfl) | (refine Rdk.b1 (cs := ?_) ?_ ?_; rotate_left; (repeat (first | exact InK.here | refine InK.there ?_)); exact rfl) | (refine Rdk.bw (cs := ?_) ?_ ?_; rotate_left; (repeat (first | exact InK.here | refine InK.there ?_)); first | assumption | exact rfl) | (refine Rdk.bn (cs := ?_) ?_ ?_; rotate_left; (repeat (first | exact InK.here | refine InK.there ?_)); exact rfl)))))))|(refine zQ (g:=?_) ?_;intro cv hv)|(refine zR (w:=?_) ?_;intro cv hv)|refine zS (v:=?_) ?_|refine zT (v:=?_) ?_|refine Lp.round ?_|refine Cd.draw ?_|refine Dw.nil ?_|refine Dw.guardY rfl ?_|refine Dw.guardN rfl ?_|refine Dw.guardT rfl ?_|(refine Dw.p (v:=?_) ?_ ?_;rotate_left;exact zE)|(refine Dw.cmp (p:=?_) rfl rfl ?_ ?_;rotate_left;exact zC;intro cv hv)|(refine Dw.r (v:=?_) rfl rfl ?_ ?_ ?_;rotate_left;exact zN;exact zM)|refine Dw.a Mk.alloc fun _=>?_|refine Dw.a (Mk.lits rfl) fun _=>?_|(refine zY (g:=?_) ?_;intro cv hv)|refine zW (v:=?_) ?_|refine Cd.condT rfl ?_|refine Cd.condF rfl ?_|((first|refine Cd.cond rfl ?_ ?_|refine Rg.guardS rfl ?_ ?_|refine Dw.guardS rfl ?_ ?_)<;>(intro e;(try simp only [Bool.not_eq_true',Bool.not_eq_false'] at e);subst e;try contradiction))|refine Cd.skip ?_|refine Cd.blk ?_|refine Cd.ext ?_|refine Cd.ret ?_)
  refine Rg.callM rfl (cell22 (v := vInt i) hC hl) (.cons (.there .here) (.cons (.there (.there .here)) .nil)) ?_
  rintro _ _ ⟨rfl, C', hC', hr, rfl⟩
  repeat' (first|refine zA ?_|refine Cd.reg ?_|refine Rg.nil ?_|refine zF ?_|refine zG ?_|refine zH ?_|(refine Rg.p (v:=?_) ?_ ?_;rotate_left;exact zE)|(refine Rg.cmp (p:=?_) rfl rfl ?_ ?_;rotate_left;exact zC;intro cv hv)|(refine Rg.r (v:=?_) rfl rfl ?_ ?_;rotate_left;exact zN)|refine zL fun _=>?_|refine Rg.alloc fun _=>?_|refine Rg.a (Mk.lits rfl) fun _=>?_|refine zO (cs:=?_) (K':=?_) ?_|refine zP (cs:=?_) (K':=?_) ?_|(refine zQ (g:=?_) ?_;intro cv hv)|(refine zR (w:=?_) ?_;intro cv hv)|refine zS (v:=?_) ?_|refine zT (v:=?_) ?_|refine Lp.round ?_|refine Cd.draw ?_|refine Dw.nil ?_|refine Dw.guardY rfl ?_|refine Dw.guardN rfl ?_|refine Dw.guardT rfl ?_|(refine Dw.p (v:=?_) ?_ ?_;rotate_left;exact zE)|(refine Dw.cmp (p:=?_) rfl rfl ?_ ?_;rotate_left;exact zC;intro cv hv)|(refine Dw.r (v:=?_) rfl rfl ?_ ?_ ?_;rotate_left;exact zN;exact zM)|refine Dw.a Mk.alloc fun _=>?_|refine Dw.a (Mk.lits rfl) fun _=>?_|(refine zY (g:=?_) ?_;intro cv hv)|refine zW (v:=?_) ?_|refine Cd.condT rfl ?_|refine Cd.condF rfl ?_|((first|refine Cd.cond rfl ?_ ?_|refine Rg.guardS rfl ?_ ?_|refine Dw.guardS rfl ?_ ?_)<;>(intro e;(try simp only [Bool.not_eq_true',Bool.not_eq_false'] at e);subst e;try contradiction))|refine Cd.skip ?_|refine Cd.blk ?_|refine Cd.ext ?_|refine Cd.ret ?_)
  exact ⟨rfl, ⟨rfl, rfl, rfl, rfl, rfl, rfl, rfl, rfl, rfl, trivial⟩, C', hC', hr, _, .cons (.there (.there .here)) (.cons .here (.cons (.there .here) (.cons .here (.cons .here (.cons .here (.cons .here .nil))))))⟩
theorem n13 (hD : D.ok 3) (hl : D.rows.length < 100000) : Cd Try.prog false (.reg r5_13) ((11, .ptr b11 0 0 3) :: sl5 lv n b5 b D i) ([(b11, .cells (valR (vFn i)) 0 0 false)] :: me5 b room used b5 v F C D FC)
    fun e l K => e = .nrm ∧ ∃ D' : OS, D'.ok 3 ∧ D'.rows = D.rows ++ [valR (vFn i)] ∧ Sub2 (sl5 lv n b5 b D' i) l ∧ ∃ r, Sel K (me5 b room used b5 v F C D' FC) r := by
  repeat' (first|refine zA ?_|refine Cd.reg ?_|refine Rg.nil ?_|refine zF ?_|refine zG ?_|refine zH ?_|(refine Rg.p (v:=?_) ?_ ?_;rotate_left;exact zE)|(refine Rg.cmp (p:=?_) rfl rfl ?_ ?_;rotate_left;exact zC;intro cv hv)|(refine Rg.r (v:=?_) rfl rfl ?_ ?_;rotate_left;exact zN)|refine zL fun _=>?_|refine Rg.alloc fun _=>?_|refine Rg.a (Mk.lits rfl) fun _=>?_|refine zO (cs:=?_) (K':=?_) ?_|refine zP (cs:=?_) (K':=?_) ?_|(refine zQ (g:=?_) ?_;intro cv hv)|(refine zR (w:=?_) ?_;intro cv hv)|refine zS (v:=?_) ?_|refine zT (v:=?_) ?_|refine Lp.round ?_|refine Cd.draw ?_|refine Dw.nil ?_|refine Dw.guardY rfl ?_|refine Dw.guardN rfl ?_|refine Dw.guardT rfl ?_|(refine Dw.p (v:=?_) ?_ ?_;rotate_left;exact zE)|(refine Dw.cmp (p:=?_) rfl rfl ?_ ?_;rotate_left;exact zC;intro cv hv)|(refine Dw.r (v:=?_) rfl rfl ?_ ?_ ?_;rotate_left;exact zN;exact zM)|refine Dw.a Mk.alloc fun _=>?_|refine Dw.a (Mk.lits rfl) fun _=>?_|(refine zY (g:=?_) ?_;intro cv hv)|refine zW (v:=?_) ?_|refine Cd.condT rfl ?_|refine Cd.condF rfl ?_|((first|refine Cd.cond rfl ?_ ?_|refine Rg.guardS rfl ?_ ?_|refine Dw.guardS rfl ?_ ?_)<;>(intro e;(try simp only [Bool.not_eq_true',Bool.not_eq_false'] at e);subst e;try contradiction))|refine Cd.skip ?_|refine Cd.blk ?_|refine Cd.ext ?_|refine Cd.ret ?_)
  refine Rg.e (Ef.appO (rs := [valR (vFn i)]) (n := 1) rfl rfl hD (by intro r hr; simp at hr; subst hr; rfl) (.there (.there (.there (.there (.there .here))))) rfl (by decide) (Rw.slc (InK.there InK.here) (Nat.le_refl _) (Nat.le_refl _) rfl) (by simp only [lim]; omega)) ?_
  rintro _ _ ⟨D', hD', hr, rfl, rfl⟩
  repeat' (first|refine zA ?_|refine Cd.reg ?_|refine Rg.nil ?_|refine zF ?_|refine zG ?_|refine zH ?_|(refine Rg.p (v:=?_) ?_ ?_;rotate_left;exact zE)|(refine Rg.cmp (p:=?_) rfl rfl ?_ ?_;rotate_left;exact zC;intro cv hv)|(refine Rg.r (v:=?_) rfl rfl ?_ ?_;rotate_left;exact zN)|refine zL fun _=>?_|refine Rg.alloc fun _=>?_|refine Rg.a (Mk.lits rfl) fun _=>?_|refine zO (cs:=?_) (K':=?_) ?_|refine zP (cs:=?_) (K':=?_) ?_|(refine zQ (g:=?_) ?_;intro cv hv)|(refine zR (w:=?_) ?_;intro cv hv)|refine zS (v:=?_) ?_|refine zT (v:=?_) ?_|refine Lp.round ?_|refine Cd.draw ?_|refine Dw.nil ?_|refine Dw.guardY rfl ?_|refine Dw.guardN rfl ?_|refine Dw.guardT rfl ?_|(refine Dw.p (v:=?_) ?_ ?_;rotate_left;exact zE)|(refine Dw.cmp (p:=?_) rfl rfl ?_ ?_;rotate_left;exact zC;intro cv hv)|(refine Dw.r (v:=?_) rfl rfl ?_ ?_ ?_;rotate_left;exact zN;exact zM)|refine Dw.a Mk.alloc fun _=>?_|refine Dw.a (Mk.lits rfl) fun _=>?_|(refine zY (g:=?_) ?_;intro cv hv)|refine zW (v:=?_) ?_|refine Cd.condT rfl ?_|refine Cd.condF rfl ?_|((first|refine Cd.cond rfl ?_ ?_|refine Rg.guardS rfl ?_ ?_|refine Dw.guardS rfl ?_ ?_)<;>(intro e;(try simp only [Bool.not_eq_true',Bool.not_eq_false'] at e);subst e;try contradiction))|refine Cd.skip ?_|refine Cd.blk ?_|refine Cd.ext ?_|refine Cd.ret ?_)
  exact ⟨rfl, D', hD', hr, ⟨rfl, rfl, rfl, rfl, rfl, rfl, trivial⟩, _, .cons (.there (.there (.there .here))) (.cons (.there (.there (.there .here))) (.cons (.there (.there (.there .here))) (.cons .here (.cons (.there (.there .here)) (.cons (.there (.there .here)) .nil)))))⟩
end
end Go.Proofs.Ytggpnokhhpnnaaa

namespace Go.Proofs.Ytggpnokhhpnnaaa
open Go Go.Abs
theorem known15 : PT Try.prog false 15 [] (.bool true) := PT.run plain0 (by kernel_rfl) rfl rfl
theorem perm4 (a h f c d x : Chk) : (a ++ (h ++ (f ++ (c ++ (d ++ x))))).Perm (h ++ (f ++ (c ++ (d ++ (a ++ x))))) :=
  (List.perm_append_comm_assoc a h _).trans (.append_left h ((List.perm_append_comm_assoc a f _).trans (.append_left f ((List.perm_append_comm_assoc a c _).trans (.append_left c (List.perm_append_comm_assoc a d _))))))
theorem InvF.step {ls : List Clo} {i : Nat} {F C D F' C' D' o : OS} {FC : Chk} {q : Clo} (h : InvF ls i F C D FC) (hi : ls[i]? = some q) (hF : F'.ok 3) (hC : C'.ok 3) (hD : D'.ok 3) (ho : o.ok 1) (hor : o.rows = q.cells.map rowI) (h50 : q.cells.length ≤ 50)
    (fr : F'.rows = F.rows ++ [[.int .i64 q.u, .int .i64 q.p, o.v 1]]) (cr : C'.rows = C.rows ++ [valR (vInt i)]) (dr : D'.rows = D.rows ++ [valR (vFn i)]) : InvF ls (i + 1) F' C' D' (o.c ++ FC) := by
  refine ⟨hF, hC, hD, by rw [fr, List.length_append, h.fl]; rfl, ?_, by rw [cr, h.cr, numsR_succ], by rw [dr, h.dr, numsR_succ]⟩
  intro j p hj hp
  by_cases e : j = i
  · subst e
    rw [hi] at hp; cases hp
    refine ⟨o, ?_, ho, hor, h50, fun id x hx => List.mem_append_left _ hx⟩
    rw [fr, List.getElem?_append_right (by rw [h.fl]; exact Nat.le_refl _), h.fl, Nat.sub_self]; rfl
  · obtain ⟨o2, h1, h2, h3, h5, h4⟩ := h.clo j p (by omega) hp
    refine ⟨o2, ?_, h2, h3, h5, fun id x hx => List.mem_append_right _ (h4 id x hx)⟩
    rw [fr, List.getElem?_append_left (by rw [h.fl]; omega)]; exact h1
theorem loop1 {lv : AV} {ls : List Clo} {n : Int} {b5 b : Nat} {v : Val} {Q : AX → SL → Mem → Prop} (hL : ASl 3 lv (ls.map cloR)) (hO : ∀ q, q ∈ ls → OkC q) (hll : ls.length ≤ 9223372036854775807) (hret : ∀ l' K, lkS l' 6 = some (.bool true) → Q .ret l' K)
    (hend : ∀ N F C D FC l', InvF ls N F C D FC → N ≤ 30 → N ≤ ls.length → Sub2 (sl5 lv n b5 b D N) l' → Q (.ext 0) l' (me5 b 1000 N b5 v F C D FC)) :
    ∀ (k i : Nat) (F C D : OS) (FC : Chk), ls.length < i + k → i ≤ ls.length → i ≤ 30 → InvF ls i F C D FC → Lp Try.prog false b5_0 k (sl5 lv n b5 b D i) (me5 b 1000 i b5 v F C D FC) Q := by
  have k15 := known15
  have l1 := hL.len
  rw [List.length_map] at l1
  intro k
  induction k with
  | zero => intro i F C D FC h1 h2; omega
  | succ k ih =>
    intro i F C D FC h1 h2 h3 I
    refine Lp.round ?_
    by_cases hi : i < ls.length ∧ i < 30
    · obtain ⟨hi, hi30⟩ := hi
      obtain ⟨q, hq⟩ : ∃ q, ls[i]? = some q := ⟨_, List.getElem?_eq_getElem hi⟩
      have hok := hO q (List.mem_of_getElem? hq)
      have q1 := hL.iadr (i := i) (r := cloR q) (k := .i64) (by rw [List.getElem?_map, hq]; rfl)
      have q2 := hok.lens
      by_cases h50 : 50 < q.cells.length
      · repeat' (first|refine zA ?_|refine Cd.reg ?_|refine Rg.nil ?_|refine zF ?_|refine zG ?_|refine zH ?_|(refine Rg.p (v:=?_) ?_ ?_;rotate_left;exact zE)|(refine Rg.cmp (p:=?_) rfl rfl ?_ ?_;rotate_left;exact zC;intro cv hv)|(refine Rg.r (v:=?_) rfl rfl ?_ ?_;rotate_left;exact zN)|refine zL fun _=>?_|refine Rg.alloc fun _=>?_|refine Rg.a (Mk.lits rfl) fun _=>?_|refine zO (cs:=?_) (K':=?_) ?_|refine zP (cs:=?_) (K':=?_) ?_|(refine zQ (g:=?_) ?_;intro cv hv)|(refine zR (w:=?_) ?_;intro cv hv)|refine zS (v:=?_) ?_|refine zT (v:=?_) ?_|refine Lp.round ?_|refine Cd.draw ?_|refine Dw.nil ?_|refine Dw.guardY rfl ?_|refine Dw.guardN rfl ?_|refine Dw.guardT rfl ?_|(refine Dw.p (v:=?_) ?_ ?_;rotate_left;exact zE)|(refine Dw.cmp (p:=?_) rfl rfl ?_ ?_;rotate_left;exact zC;intro cv hv)|(refine Dw.r (v:=?_) rfl rfl ?_ ?_ ?_;rotate_left;exact zN;exact zM)|refine Dw.a Mk.alloc fun _=>?_|refine Dw.a (Mk.lits rfl) fun _=>?_|(refine zY (g:=?_) ?_;intro cv hv)|refine zW (v:=?_) ?_|refine Cd.condT rfl ?_|refine Cd.condF rfl ?_|((first|refine Cd.cond rfl ?_ ?_|refine Rg.guardS rfl ?_ ?_|refine Dw.guardS rfl ?_ ?_)<;>(intro e;(try simp only [Bool.not_eq_true',Bool.not_eq_false'] at e);subst e;try contradiction))|refine Cd.skip ?_|refine Cd.blk ?_|refine Cd.ext ?_|refine Cd.ret ?_)
        subst hv; exact hret _ _ rfl
      · repeat' (first|(refine stopC (c := .draw r5_9) ?_)|refine zA ?_|refine Cd.reg ?_|refine Rg.nil ?_|refine zF ?_|refine zG ?_|refine zH ?_|(refine Rg.p (v:=?_) ?_ ?_;rotate_left;exact zE)|(refine Rg.cmp (p:=?_) rfl rfl ?_ ?_;rotate_left;exact zC;intro cv hv)|(refine Rg.r (v:=?_) rfl rfl ?_ ?_;rotate_left;exact zN)|refine zL fun _=>?_|refine Rg.alloc fun _=>?_|refine Rg.a (Mk.lits rfl) fun _=>?_|refine zO (cs:=?_) (K':=?_) ?_|refine zP (cs:=?_) (K':=?_) ?_|(refine zQ (g:=?_) ?_;intro cv hv)|(refine zR (w:=?_) ?_;intro cv hv)|refine zS (v:=?_) ?_|refine zT (v:=?_) ?_|refine Lp.round ?_|refine Cd.draw ?_|refine Dw.nil ?_|refine Dw.guardY rfl ?_|refine Dw.guardN rfl ?_|refine Dw.guardT rfl ?_|(refine Dw.p (v:=?_) ?_ ?_;rotate_left;exact zE)|(refine Dw.cmp (p:=?_) rfl rfl ?_ ?_;rotate_left;exact zC;intro cv hv)|(refine Dw.r (v:=?_) rfl rfl ?_ ?_ ?_;rotate_left;exact zN;exact zM)|refine Dw.a Mk.alloc fun _=>?_|refine Dw.a (Mk.lits rfl) fun _=>?_|(refine zY (g:=?_) ?_;intro cv hv)|refine zW (v:=?_) ?_|refine Cd.condT rfl ?_|refine Cd.condF rfl ?_|((first|refine Cd.cond rfl ?_ ?_|refine Rg.guardS rfl ?_ ?_|refine Dw.guardS rfl ?_ ?_)<;>(intro e;(try simp only [Bool.not_eq_true',Bool.not_eq_false'] at e);subst e;try contradiction))|refine Cd.skip ?_|refine Cd.blk ?_|refine Cd.ext ?_|refine Cd.ret ?_)
        refine ⟨?_⟩
        refine Cd.weak (l2 := sl5 lv n b5 b D i) ⟨rfl, rfl, rfl, rfl, rfl, rfl, trivial⟩ ?_
        refine Cd.mono (n9 hL hq hok (by omega) (by omega) (by decide) I.f I.fl hi30) ?_
        rintro _ l1 _ ⟨rfl, b11, F', o, hF', ho, hor, hfr, hs, r, hsel⟩
        show Cd _ _ _ _ _ _
        refine Cd.weak hs (Cd.drop hsel ?_)
        refine Cd.perm (K2 := [(b11, .cells (valR (vFn i)) 0 0 false)] :: me5 b 1000 (i + 1) b5 v F' C D (o.c ++ FC)) ?_ ?_
        · simp only [List.flatten_cons, List.flatten_nil, List.append_nil, List.append_assoc]
          exact List.Perm.append_left _ (perm4 _ _ _ _ _ _)
        refine Cd.seq (Cd.mono (n10 I.c (by rw [I.cr, numsR_len]; omega)) ?_)
        rintro _ l1 _ ⟨rfl, hs, C', hC', hcr, r, hsel⟩
        show Cd _ _ _ _ _ _
        refine Cd.weak hs (Cd.drop hsel ?_)
        rw [I.cr, numsR_len]
        repeat' (first|(refine stopC (c := .reg r5_13) ?_)|refine zA ?_|refine Cd.reg ?_|refine Rg.nil ?_|refine zF ?_|refine zG ?_|refine zH ?_|(refine Rg.p (v:=?_) ?_ ?_;rotate_left;exact zE)|(refine Rg.cmp (p:=?_) rfl rfl ?_ ?_;rotate_left;exact zC;intro cv hv)|(refine Rg.r (v:=?_) rfl rfl ?_ ?_;rotate_left;exact zN)|refine zL fun _=>?_|refine Rg.alloc fun _=>?_|refine Rg.a (Mk.lits rfl) fun _=>?_|refine zO (cs:=?_) (K':=?_) ?_|refine zP (cs:=?_) (K':=?_) ?_|(refine zQ (g:=?_) ?_;intro cv hv)|(refine zR (w:=?_) ?_;intro cv hv)|refine zS (v:=?_) ?_|refine zT (v:=?_) ?_|refine Lp.round ?_|refine Cd.draw ?_|refine Dw.nil ?_|refine Dw.guardY rfl ?_|refine Dw.guardN rfl ?_|refine Dw.guardT rfl ?_|(refine Dw.p (v:=?_) ?_ ?_;rotate_left;exact zE)|(refine Dw.cmp (p:=?_) rfl rfl ?_ ?_;rotate_left;exact zC;intro cv hv)|(refine Dw.r (v:=?_) rfl rfl ?_ ?_ ?_;rotate_left;exact zN;exact zM)|refine Dw.a Mk.alloc fun _=>?_|refine Dw.a (Mk.lits rfl) fun _=>?_|(refine zY (g:=?_) ?_;intro cv hv)|refine zW (v:=?_) ?_|refine Cd.condT rfl ?_|refine Cd.condF rfl ?_|((first|refine Cd.cond rfl ?_ ?_|refine Rg.guardS rfl ?_ ?_|refine Dw.guardS rfl ?_ ?_)<;>(intro e;(try simp only [Bool.not_eq_true',Bool.not_eq_false'] at e);subst e;try contradiction))|refine Cd.skip ?_|refine Cd.blk ?_|refine Cd.ext ?_|refine Cd.ret ?_)
        refine ⟨?_⟩
        refine Cd.weak (l2 := (11, .ptr b11 0 0 3) :: sl5 lv n b5 b D i) ⟨rfl, rfl, rfl, rfl, rfl, rfl, rfl, trivial⟩ ?_
        refine Cd.mono (n13 I.d (by rw [I.dr, numsR_len]; omega)) ?_
        rintro _ l1 _ ⟨rfl, D', hD', hdr, hs, r, hsel⟩
        show Cd _ _ _ _ _ _
        refine Cd.weak hs (Cd.drop hsel ?_)
        repeat' (first|refine zA ?_|refine Cd.reg ?_|refine Rg.nil ?_|refine zF ?_|refine zG ?_|refine zH ?_|(refine Rg.p (v:=?_) ?_ ?_;rotate_left;exact zE)|(refine Rg.cmp (p:=?_) rfl rfl ?_ ?_;rotate_left;exact zC;intro cv hv)|(refine Rg.r (v:=?_) rfl rfl ?_ ?_;rotate_left;exact zN)|refine zL fun _=>?_|refine Rg.alloc fun _=>?_|refine Rg.a (Mk.lits rfl) fun _=>?_|refine zO (cs:=?_) (K':=?_) ?_|refine zP (cs:=?_) (K':=?_) ?_|(refine zQ (g:=?_) ?_;intro cv hv)|(refine zR (w:=?_) ?_;intro cv hv)|refine zS (v:=?_) ?_|refine zT (v:=?_) ?_|refine Lp.round ?_|refine Cd.draw ?_|refine Dw.nil ?_|refine Dw.guardY rfl ?_|refine Dw.guardN rfl ?_|refine Dw.guardT rfl ?_|(refine Dw.p (v:=?_) ?_ ?_;rotate_left;exact zE)|(refine Dw.cmp (p:=?_) rfl rfl ?_ ?_;rotate_left;exact zC;intro cv hv)|(refine Dw.r (v:=?_) rfl rfl ?_ ?_ ?_;rotate_left;exact zN;exact zM)|refine Dw.a Mk.alloc fun _=>?_|refine Dw.a (Mk.lits rfl) fun _=>?_|(refine zY (g:=?_) ?_;intro cv hv)|refine zW (v:=?_) ?_|refine Cd.condT rfl ?_|refine Cd.condF rfl ?_|((first|refine Cd.cond rfl ?_ ?_|refine Rg.guardS rfl ?_ ?_|refine Dw.guardS rfl ?_ ?_)<;>(intro e;(try simp only [Bool.not_eq_true',Bool.not_eq_false'] at e);subst e;try contradiction))|refine Cd.skip ?_|refine Cd.blk ?_|refine Cd.ext ?_|refine Cd.ret ?_)
        refine Lp.weak ?hw (ih (i + 1) F' C' D' (o.c ++ FC) (by omega) (by omega) (by omega) (I.step hq hF' hC' hD' ho hor (by omega) hfr hcr hdr))
        case hw => exact ⟨rfl, rfl, rfl, rfl, rfl, rfl, trivial⟩
    · by_cases hi2 : i < ls.length
      · have : ¬ i < 30 := fun h => hi ⟨hi2, h⟩
        repeat' (first|refine zA ?_|refine Cd.reg ?_|refine Rg.nil ?_|refine zF ?_|refine zG ?_|refine zH ?_|(refine Rg.p (v:=?_) ?_ ?_;rotate_left;exact zE)|(refine Rg.cmp (p:=?_) rfl rfl ?_ ?_;rotate_left;exact zC;intro cv hv)|(refine Rg.r (v:=?_) rfl rfl ?_ ?_;rotate_left;exact zN)|refine zL fun _=>?_|refine Rg.alloc fun _=>?_|refine Rg.a (Mk.lits rfl) fun _=>?_|refine zO (cs:=?_) (K':=?_) ?_|refine zP (cs:=?_) (K':=?_) ?_|(refine zQ (g:=?_) ?_;intro cv hv)|(refine zR (w:=?_) ?_;intro cv hv)|refine zS (v:=?_) ?_|refine zT (v:=?_) ?_|refine Lp.round ?_|refine Cd.draw ?_|refine Dw.nil ?_|refine Dw.guardY rfl ?_|refine Dw.guardN rfl ?_|refine Dw.guardT rfl ?_|(refine Dw.p (v:=?_) ?_ ?_;rotate_left;exact zE)|(refine Dw.cmp (p:=?_) rfl rfl ?_ ?_;rotate_left;exact zC;intro cv hv)|(refine Dw.r (v:=?_) rfl rfl ?_ ?_ ?_;rotate_left;exact zN;exact zM)|refine Dw.a Mk.alloc fun _=>?_|refine Dw.a (Mk.lits rfl) fun _=>?_|(refine zY (g:=?_) ?_;intro cv hv)|refine zW (v:=?_) ?_|refine Cd.condT rfl ?_|refine Cd.condF rfl ?_|((first|refine Cd.cond rfl ?_ ?_|refine Rg.guardS rfl ?_ ?_|refine Dw.guardS rfl ?_ ?_)<;>(intro e;(try simp only [Bool.not_eq_true',Bool.not_eq_false'] at e);subst e;try contradiction))|refine Cd.skip ?_|refine Cd.blk ?_|refine Cd.ext ?_|refine Cd.ret ?_)
        exact hend _ _ _ _ _ _ I h3 h2 ⟨rfl, rfl, rfl, rfl, rfl, rfl, trivial⟩
      · repeat' (first|refine zA ?_|refine Cd.reg ?_|refine Rg.nil ?_|refine zF ?_|refine zG ?_|refine zH ?_|(refine Rg.p (v:=?_) ?_ ?_;rotate_left;exact zE)|(refine Rg.cmp (p:=?_) rfl rfl ?_ ?_;rotate_left;exact zC;intro cv hv)|(refine Rg.r (v:=?_) rfl rfl ?_ ?_;rotate_left;exact zN)|refine zL fun _=>?_|refine Rg.alloc fun _=>?_|refine Rg.a (Mk.lits rfl) fun _=>?_|refine zO (cs:=?_) (K':=?_) ?_|refine zP (cs:=?_) (K':=?_) ?_|(refine zQ (g:=?_) ?_;intro cv hv)|(refine zR (w:=?_) ?_;intro cv hv)|refine zS (v:=?_) ?_|refine zT (v:=?_) ?_|refine Lp.round ?_|refine Cd.draw ?_|refine Dw.nil ?_|refine Dw.guardY rfl ?_|refine Dw.guardN rfl ?_|refine Dw.guardT rfl ?_|(refine Dw.p (v:=?_) ?_ ?_;rotate_left;exact zE)|(refine Dw.cmp (p:=?_) rfl rfl ?_ ?_;rotate_left;exact zC;intro cv hv)|(refine Dw.r (v:=?_) rfl rfl ?_ ?_ ?_;rotate_left;exact zN;exact zM)|refine Dw.a Mk.alloc fun _=>?_|refine Dw.a (Mk.lits rfl) fun _=>?_|(refine zY (g:=?_) ?_;intro cv hv)|refine zW (v:=?_) ?_|refine Cd.condT rfl ?_|refine Cd.condF rfl ?_|((first|refine Cd.cond rfl ?_ ?_|refine Rg.guardS rfl ?_ ?_|refine Dw.guardS rfl ?_ ?_)<;>(intro e;(try simp only [Bool.not_eq_true',Bool.not_eq_false'] at e);subst e;try contradiction))|refine Cd.skip ?_|refine Cd.blk ?_|refine Cd.ext ?_|refine Cd.ret ?_)
        exact hend _ _ _ _ _ _ I h3 h2 ⟨rfl, rfl, rfl, rfl, rfl, rfl, trivial⟩
end Go.Proofs.Ytggpnokhhpnnaaa

namespace Go.Proofs.Ytggpnokhhpnnaaa
open Go Go.Abs
abbrev s25 (lv : AV) (n : Int) (b5 b : Nat) (D : OS) (i : Nat) : SL := [(0, lv), (1, .int .i64 n), (5, .ptr b5 0 0 3), (7, hP b), (9, D.v 3), (14, .int .i64 (.ofNat i))]
section
variable {lv : AV} {ls : List Clo} {n : Int} {b5 b b15 room used i N : Nat} {v : Val} {F C D c o : OS} {FC : Chk} {q : Clo}
theorem n17 (hD : D.ok 3) (hd : D.rows[i]? = some (valR (vFn i))) (hF : F.ok 3) (hf : F.rows[i]? = some [.int .i64 q.u, .int .i64 q.p, o.v 1]) (ho : o.ok 1) (hol : o.rows.length ≤ 100000) (hin : ∀ id x, (id, x) ∈ o.c → (id, x) ∈ FC) :
    Cd Try.prog false (.reg r5_17) (s25 lv n b5 b D i) (me5 b room used b5 v F C D FC) fun e l K => e = .nrm ∧ ∃ (b15 : Nat) (c : OS), c.ok 1 ∧ c.rows = o.rows ∧ Sub2 ((15, .ptr b15 0 0 3) :: (16, .bool true) :: s25 lv n b5 b D i) l ∧
      ∃ r, Sel K ([(b15, .cells [.int .i64 q.u, .int .i64 q.p, c.v 1] 0 0 false)] :: c.c :: me5 b room used b5 v F C D FC) r := by
  obtain ⟨id, g, e⟩ := hD.at hd
  have hrow := hD.row
  have hil := (List.getElem?_eq_some_iff.1 hd).1
  generalize D.rows = rows at *
  subst e
  have q1 := iadr_slc (sz := 3) (b := id) (g := g) (off := 0) (len := rows.length) (cap := rows.length) (i := i) (k := .i64) hil
  repeat' (first|refine zA ?_|refine Cd.reg ?_|refine Rg.nil ?_|refine zF ?_|refine zG ?_|refine zH ?_|(refine Rg.p (v:=?_) ?_ ?_;rotate_left;exact zE)|(refine Rg.cmp (p:=?_) rfl rfl ?_ ?_;rotate_left;exact zC;intro cv hv)|(refine Rg.r (v:=?_) rfl rfl ?_ ?_;rotate_left;exact zN)|refine zL fun _=>?_|refine Rg.alloc fun _=>?_|refine Rg.a (Mk.lits rfl) fun _=>?_|refine zO (cs:=?_) (K':=?_) ?_|refine zP (cs:=?_) (K':=?_) ?_|(refine zQ (g:=?_) ?_;intro cv hv)|(refine zR (w:=?_) ?_;intro cv hv)|refine zS (v:=?_) ?_|refine zT (v:=?_) ?_|refine Lp.round ?_|refine Cd.draw ?_|refine Dw.nil ?_|refine Dw.guardY rfl ?_|refine Dw.guardN rfl ?_|refine Dw.guardT rfl ?_|(refine Dw.p (v:=?_) ?_ ?_;rotate_left;exact zE)|(refine Dw.cmp (p:=?_) rfl rfl ?_ ?_;rotate_left;exact zC;intro cv hv)|(refine Dw.r (v:=?_) rfl rfl ?_ ?_ ?_;rotate_left;exact zN;exact zM)|refine Dw.a Mk.alloc fun _=>?_|refine Dw.a (Mk.lits rfl) fun _=>?_|(refine zY (g:=?_) ?_;intro cv hv)|refine zW (v:=?_) ?_|refine Cd.condT rfl ?_|refine Cd.condF rfl ?_|((first|refine Cd.cond rfl ?_ ?_|refine Rg.guardS rfl ?_ ?_|refine Dw.guardS rfl ?_ ?_)<;>(intro e;(try simp only [Bool.not_eq_true',Bool.not_eq_false'] at e);subst e;try contradiction))|refine Cd.skip ?_|refine Cd.blk ?_|refine Cd.ext ?_|refine Cd.ret ?_)
  refine Rg.r rfl rfl (Rdk.row (i := i) (rows := rows) (by repeat (first | exact InK.here | refine InK.there ?_)) hrow hd) ?_
  refine Rg.callM rfl (closure24T hF hf ho hol hin) (.cons .here (.cons .here (.cons (.there (.there .here)) .nil))) ?_
  rintro _ _ ⟨c, hc, hcr, rfl, rfl⟩
  repeat' (first|refine zA ?_|refine Cd.reg ?_|refine Rg.nil ?_|refine zF ?_|refine zG ?_|refine zH ?_|(refine Rg.p (v:=?_) ?_ ?_;rotate_left;exact zE)|(refine Rg.cmp (p:=?_) rfl rfl ?_ ?_;rotate_left;exact zC;intro cv hv)|(refine Rg.r (v:=?_) rfl rfl ?_ ?_;rotate_left;exact zN)|refine zL fun _=>?_|refine Rg.alloc fun _=>?_|refine Rg.a (Mk.lits rfl) fun _=>?_|refine zO (cs:=?_) (K':=?_) ?_|refine zP (cs:=?_) (K':=?_) ?_|(refine zQ (g:=?_) ?_;intro cv hv)|(refine zR (w:=?_) ?_;intro cv hv)|refine zS (v:=?_) ?_|refine zT (v:=?_) ?_|refine Lp.round ?_|refine Cd.draw ?_|refine Dw.nil ?_|refine Dw.guardY rfl ?_|refine Dw.guardN rfl ?_|refine Dw.guardT rfl ?_|(refine Dw.p (v:=?_) ?_ ?_;rotate_left;exact zE)|(refine Dw.cmp (p:=?_) rfl rfl ?_ ?_;rotate_left;exact zC;intro cv hv)|(refine Dw.r (v:=?_) rfl rfl ?_ ?_ ?_;rotate_left;exact zN;exact zM)|refine Dw.a Mk.alloc fun _=>?_|refine Dw.a (Mk.lits rfl) fun _=>?_|(refine zY (g:=?_) ?_;intro cv hv)|refine zW (v:=?_) ?_|refine Cd.condT rfl ?_|refine Cd.condF rfl ?_|((first|refine Cd.cond rfl ?_ ?_|refine Rg.guardS rfl ?_ ?_|refine Dw.guardS rfl ?_ ?_)<;>(intro e;(try simp only [Bool.not_eq_true',Bool.not_eq_false'] at e);subst e;try contradiction))|refine Cd.skip ?_|refine Cd.blk ?_|refine Cd.ext ?_|refine Cd.ret ?_)
  exact ⟨rfl, _, c, hc, hcr, ⟨rfl, rfl, rfl, rfl, rfl, rfl, rfl, rfl, trivial⟩, _, .cons .here (.cons (.there (.there (.there .here))) (.cons .here (.cons .here (.cons (.there .here) (.cons (.there .here) (.cons .here (.cons .here .nil)))))))⟩
theorem n18 {K : Mem} (hL : ASl 3 lv (ls.map cloR)) (hi : ls[i]? = some q) (hq : OkC q) (hc : c.ok 1) (hcr : c.rows = q.cells.map rowI) (h15 : InK K b15 (.cells [.int .i64 q.u, .int .i64 q.p, c.v 1] 0 0 false)) (hin : ∀ id x, (id, x) ∈ c.c → InK K id x) :
    Cd Try.prog false (.draw r5_18) ((15, .ptr b15 0 0 3) :: (16, .bool true) :: s25 lv n b5 b D i) K fun e l K' => e = .nrm ∧ Sub2 ((147, .bool false) :: s25 lv n b5 b D i) l ∧ K' = K := by
  have q1 := hL.iadr (i := i) (r := cloR q) (k := .i64) (by rw [List.getElem?_map, hi]; rfl)
  obtain ⟨cv, hcv, hfz⟩ := c.frz hc (by rw [hcr]; intro r hr y hy; obtain ⟨a, _, rfl⟩ := List.mem_map.1 hr; simp only [rowI, List.mem_singleton] at hy; subst hy; rfl)
  rw [hcr] at hcv
  have k25 := ints25 hcv hq.asl hq.len
  rw [decide_eq_true rfl] at k25
  have key : CT Try.prog false 25 [c.v 1, q.cv] K fun w K' => K' = K ∧ w = .bool true := CT.frz 3 k25 rfl fun s hs => by
    simp only [Fz2]
    refine ⟨_, _, rfl, hfz K s 2 hs hin, _, _, rfl, Frz.asl hq.asl ?_, rfl⟩
    intro r hr y hy; obtain ⟨a, _, rfl⟩ := List.mem_map.1 hr; simp only [rowI, List.mem_singleton] at hy; subst hy; rfl
  have r0 : Rdk K .load1 (.ptr b15 0 (0 + 0) 1) (.ptr b15 0 (0 + 0) 1) (.int .i64 q.u) := Rdk.b1 h15 rfl
  have r1 : Rdk K .load1 (.ptr b15 0 (0 + 1) 1) (.ptr b15 0 (0 + 1) 1) (.int .i64 q.p) := Rdk.b1 h15 rfl
  have r2 : Rdk K .load1 (.ptr b15 0 (0 + 2) 1) (.ptr b15 0 (0 + 2) 1) (c.v 1) := Rdk.b1 h15 rfl
  repeat' (first|refine zA ?_|refine Cd.reg ?_|refine Rg.nil ?_|refine zF ?_|refine zG ?_|refine zH ?_|(refine Rg.p (v:=?_) ?_ ?_;rotate_left;exact zE)|(refine Rg.cmp (p:=?_) rfl rfl ?_ ?_;rotate_left;exact zC;intro cv hv)|(refine Rg.r (v:=?_) rfl rfl ?_ ?_;rotate_left;exact zN)|refine zL fun _=>?_|refine Rg.alloc fun _=>?_|refine Rg.a (Mk.lits rfl) fun _=>?_|refine zO (cs:=?_) (K':=?_) ?_|refine zP (cs:=?_) (K':=?_) ?_|(refine zQ (g:=?_) ?_;intro cv hv)|(refine zR (w:=?_) ?_;intro cv hv)|refine zS (v:=?_) ?_|refine zT (v:=?_) ?_|refine Lp.round ?_|refine Cd.draw ?_|refine Dw.nil ?_|refine Dw.guardY rfl ?_|refine Dw.guardN rfl ?_|refine Dw.guardT rfl ?_|(refine Dw.p (v:=?_) ?_ ?_;rotate_left;exact zE)|(refine Dw.cmp (p:=?_) rfl rfl ?_ ?_;rotate_left;exact zC;intro cv hv)|(refine Dw.r (v:=?_) rfl rfl ?_ ?_ ?_;rotate_left;exact zN;exact zM)|refine Dw.a Mk.alloc fun _=>?_|refine Dw.a (Mk.lits rfl) fun _=>?_|(refine zY (g:=?_) ?_;intro cv hv)|refine zW (v:=?_) ?_|refine Cd.condT rfl ?_|refine Cd.condF rfl ?_|((first|refine Cd.cond rfl ?_ ?_|refine Rg.guardS rfl ?_ ?_|refine Dw.guardS rfl ?_ ?_)<;>(intro e;(try simp only [Bool.not_eq_true',Bool.not_eq_false'] at e);subst e;try contradiction))|refine Cd.skip ?_|refine Cd.blk ?_|refine Cd.ext ?_|refine Cd.ret ?_)
  refine Dw.callM rfl key (Sel.all K) ?_
  rintro _ _ ⟨rfl, rfl⟩
  rw [List.append_nil]
  refine ⟨by repeat (first | exact trivial | refine rdsB rfl ?_ | (refine rdsR ?_ ?_; (focus (first | assumption | (refine Rdk.b1 (cs := ?_) ?_ ?_; rotate_left; (repeat (first | exact InK.here | refine InK.there ?_)); exact rfl) | (refine Rdk.bw ?_ ?_; (repeat (first | exact InK.here | refine InK.there ?_)); first | assumption | exact rfl) | (refine Rdk.bn ?_ ?_; (repeat (first | exact InK.here | refine InK.there ?_)); exact rfl) | (refine Rdk.in ?_; first | assumption | exact rfl) | exact Rdk.i1)))), ?_⟩
  repeat' (first|refine zA ?_|refine Cd.reg ?_|refine Rg.nil ?_|refine zF ?_|refine zG ?_|refine zH ?_|(refine Rg.p (v:=?_) ?_ ?_;rotate_left;exact zE)|(refine Rg.cmp (p:=?_) rfl rfl ?_ ?_;rotate_left;exact zC;intro cv hv)|(refine Rg.r (v:=?_) rfl rfl ?_ ?_;rotate_left;exact zN)|refine zL fun _=>?_|refine Rg.alloc fun _=>?_|refine Rg.a (Mk.lits rfl) fun _=>?_|refine zO (cs:=?_) (K':=?_) ?_|refine zP (cs:=?_) (K':=?_) ?_|(refine zQ (g:=?_) ?_;intro cv hv)|(refine zR (w:=?_) ?_;intro cv hv)|refine zS (v:=?_) ?_|refine zT (v:=?_) ?_|refine Lp.round ?_|refine Cd.draw ?_|refine Dw.nil ?_|refine Dw.guardY rfl ?_|refine Dw.guardN rfl ?_|refine Dw.guardT rfl ?_|(refine Dw.p (v:=?_) ?_ ?_;rotate_left;exact zE)|(refine Dw.cmp (p:=?_) rfl rfl ?_ ?_;rotate_left;exact zC;intro cv hv)|(refine Dw.r (v:=?_) rfl rfl ?_ ?_ ?_;rotate_left;exact zN;exact zM)|refine Dw.a Mk.alloc fun _=>?_|refine Dw.a (Mk.lits rfl) fun _=>?_|(refine zY (g:=?_) ?_;intro cv hv)|refine zW (v:=?_) ?_|refine Cd.condT rfl ?_|refine Cd.condF rfl ?_|((first|refine Cd.cond rfl ?_ ?_|refine Rg.guardS rfl ?_ ?_|refine Dw.guardS rfl ?_ ?_)<;>(intro e;(try simp only [Bool.not_eq_true',Bool.not_eq_false'] at e);subst e;try contradiction))|refine Cd.skip ?_|refine Cd.blk ?_|refine Cd.ext ?_|refine Cd.ret ?_)
  exact ⟨rfl, ⟨rfl, rfl, rfl, rfl, rfl, rfl, rfl, trivial⟩, rfl⟩
end
/-- No two of what was made are alike. -/
theorem loop4 {lv : AV} {n : Int} {b5 b i id g : Nat} {rows : List (List AV)} {K : Mem} {Q : AX → SL → Mem → Prop} (hrow : ∀ r, r ∈ rows → r.length = 3) (hK : InK K id (.cells rows.flatten g g true)) (hi : rows[i]? = some (valR (vFn i))) (hr : ∀ k, k < i → rows[k]? = some (valR (vFn k))) (hl : i ≤ 30)
    (hend : ∀ l', Sub2 (s25 lv n b5 b ⟨some (id, g), rows⟩ i) l' → Q (.ext 4) l' K) :
    ∀ (f k : Nat), i < k + f → k ≤ i → Lp Try.prog false b5_1 f ((17, .int .i64 (.ofNat k)) :: s25 lv n b5 b ⟨some (id, g), rows⟩ i) K Q := by
  intro f
  induction f with
  | zero => intro k h1 h2; omega
  | succ f ih =>
    intro k h1 h2
    refine Lp.round ?_
    have hil := (List.getElem?_eq_some_iff.1 hi).1
    have q1 := iadr_slc (sz := 3) (b := id) (g := g) (off := 0) (len := rows.length) (cap := rows.length) (i := i) (k := .i64) hil
    by_cases hk : k < i
    · have hrk := hr k hk
      have hkl := (List.getElem?_eq_some_iff.1 hrk).1
      have q2 := iadr_slc (sz := 3) (b := id) (g := g) (off := 0) (len := rows.length) (cap := rows.length) (i := k) (k := .i64) hkl
      have r1 : Rdk K (.loadn 3) (.ptr id g (0 + i * 3) 3) (.ptr id g (0 + i * 3) 3) (valA (vFn i)) := Rdk.row hK hrow hi
      have r2 : Rdk K (.loadn 3) (.ptr id g (0 + k * 3) 3) (.ptr id g (0 + k * 3) 3) (valA (vFn k)) := Rdk.row hK hrow hrk
      have e : aeq (.flat true [.i, .i, .s]) (valA (vFn k)) (valA (vFn i)) = some false := by
        rw [show aeq (.flat true [.i, .i, .s]) (valA (vFn k)) (valA (vFn i)) = some (decide (vFn k = vFn i)) from flatVal _ _, decide_eq_false]
        simp [vFn]; omega
      repeat' (first|refine zA ?_|refine Cd.reg ?_|refine Rg.nil ?_|refine zF ?_|refine zG ?_|refine zH ?_|(refine Rg.p (v:=?_) ?_ ?_;rotate_left;exact zE)|(refine Rg.cmp (p:=?_) rfl rfl ?_ ?_;rotate_left;exact zC;intro cv hv)|(refine Rg.r (v:=?_) rfl rfl ?_ ?_;rotate_left;exact zN)|refine zL fun _=>?_|refine Rg.alloc fun _=>?_|refine Rg.a (Mk.lits rfl) fun _=>?_|refine zO (cs:=?_) (K':=?_) ?_|refine zP (cs:=?_) (K':=?_) ?_|(refine zQ (g:=?_) ?_;intro cv hv)|(refine zR (w:=?_) ?_;intro cv hv)|refine zS (v:=?_) ?_|refine zT (v:=?_) ?_|refine Lp.round ?_|refine Cd.draw ?_|refine Dw.nil ?_|refine Dw.guardY rfl ?_|refine Dw.guardN rfl ?_|refine Dw.guardT rfl ?_|(refine Dw.p (v:=?_) ?_ ?_;rotate_left;exact zE)|(refine Dw.cmp (p:=?_) rfl rfl ?_ ?_;rotate_left;exact zC;intro cv hv)|(refine Dw.r (v:=?_) rfl rfl ?_ ?_ ?_;rotate_left;exact zN;exact zM)|refine Dw.a Mk.alloc fun _=>?_|refine Dw.a (Mk.lits rfl) fun _=>?_|(refine zY (g:=?_) ?_;intro cv hv)|refine zW (v:=?_) ?_|refine Cd.condT rfl ?_|refine Cd.condF rfl ?_|((first|refine Cd.cond rfl ?_ ?_|refine Rg.guardS rfl ?_ ?_|refine Dw.guardS rfl ?_ ?_)<;>(intro e;(try simp only [Bool.not_eq_true',Bool.not_eq_false'] at e);subst e;try contradiction))|refine Cd.skip ?_|refine Cd.blk ?_|refine Cd.ext ?_|refine Cd.ret ?_)
      refine Lp.weak ?hw (ih (k + 1) (by omega) (by omega))
      case hw => exact ⟨rfl, rfl, rfl, rfl, rfl, rfl, rfl, trivial⟩
    · repeat' (first|refine zA ?_|refine Cd.reg ?_|refine Rg.nil ?_|refine zF ?_|refine zG ?_|refine zH ?_|(refine Rg.p (v:=?_) ?_ ?_;rotate_left;exact zE)|(refine Rg.cmp (p:=?_) rfl rfl ?_ ?_;rotate_left;exact zC;intro cv hv)|(refine Rg.r (v:=?_) rfl rfl ?_ ?_;rotate_left;exact zN)|refine zL fun _=>?_|refine Rg.alloc fun _=>?_|refine Rg.a (Mk.lits rfl) fun _=>?_|refine zO (cs:=?_) (K':=?_) ?_|refine zP (cs:=?_) (K':=?_) ?_|(refine zQ (g:=?_) ?_;intro cv hv)|(refine zR (w:=?_) ?_;intro cv hv)|refine zS (v:=?_) ?_|refine zT (v:=?_) ?_|refine Lp.round ?_|refine Cd.draw ?_|refine Dw.nil ?_|refine Dw.guardY rfl ?_|refine Dw.guardN rfl ?_|refine Dw.guardT rfl ?_|(refine Dw.p (v:=?_) ?_ ?_;rotate_left;exact zE)|(refine Dw.cmp (p:=?_) rfl rfl ?_ ?_;rotate_left;exact zC;intro cv hv)|(refine Dw.r (v:=?_) rfl rfl ?_ ?_ ?_;rotate_left;exact zN;exact zM)|refine Dw.a Mk.alloc fun _=>?_|refine Dw.a (Mk.lits rfl) fun _=>?_|(refine zY (g:=?_) ?_;intro cv hv)|refine zW (v:=?_) ?_|refine Cd.condT rfl ?_|refine Cd.condF rfl ?_|((first|refine Cd.cond rfl ?_ ?_|refine Rg.guardS rfl ?_ ?_|refine Dw.guardS rfl ?_ ?_)<;>(intro e;(try simp only [Bool.not_eq_true',Bool.not_eq_false'] at e);subst e;try contradiction))|refine Cd.skip ?_|refine Cd.blk ?_|refine Cd.ext ?_|refine Cd.ret ?_)
      exact hend _ ⟨rfl, rfl, rfl, rfl, rfl, rfl, trivial⟩
theorem loop2 {lv : AV} {ls : List Clo} {n : Int} {b5 b N room used : Nat} {v : Val} {F C D : OS} {FC : Chk} {Q : AX → SL → Mem → Prop} (hL : ASl 3 lv (ls.map cloR)) (hO : ∀ q, q ∈ ls → OkC q) (I : InvF ls N F C D FC) (hN : N ≤ ls.length) (h30 : N ≤ 30)
    (hend : ∀ l', Sub2 (s25 lv n b5 b D N) l' → Q (.ext 2) l' (me5 b room used b5 v F C D FC)) :
    ∀ (f i : Nat), N < i + f → i ≤ N → Lp Try.prog false b5_2 f (s25 lv n b5 b D i) (me5 b room used b5 v F C D FC) Q := by
  have dl := I.d.len
  rw [I.dr, numsR_len] at dl
  intro f
  induction f with
  | zero => intro i h1 h2; omega
  | succ f ih =>
    intro i h1 h2
    refine Lp.round ?_
    by_cases hi : i < N
    · obtain ⟨q, hq⟩ : ∃ q, ls[i]? = some q := ⟨_, List.getElem?_eq_getElem (by omega)⟩
      have hok := hO q (List.mem_of_getElem? hq)
      obtain ⟨o, hf, ho, hor, hcl, hin⟩ := I.clo i q hi hq
      have hd : ∀ j, j < N → D.rows[j]? = some (valR (vFn j)) := fun j hj => by rw [I.dr]; exact numsR_at hj
      repeat' (first|(refine stopC (c := .reg r5_17) ?_)|refine zA ?_|refine Cd.reg ?_|refine Rg.nil ?_|refine zF ?_|refine zG ?_|refine zH ?_|(refine Rg.p (v:=?_) ?_ ?_;rotate_left;exact zE)|(refine Rg.cmp (p:=?_) rfl rfl ?_ ?_;rotate_left;exact zC;intro cv hv)|(refine Rg.r (v:=?_) rfl rfl ?_ ?_;rotate_left;exact zN)|refine zL fun _=>?_|refine Rg.alloc fun _=>?_|refine Rg.a (Mk.lits rfl) fun _=>?_|refine zO (cs:=?_) (K':=?_) ?_|refine zP (cs:=?_) (K':=?_) ?_|(refine zQ (g:=?_) ?_;intro cv hv)|(refine zR (w:=?_) ?_;intro cv hv)|refine zS (v:=?_) ?_|refine zT (v:=?_) ?_|refine Lp.round ?_|refine Cd.draw ?_|refine Dw.nil ?_|refine Dw.guardY rfl ?_|refine Dw.guardN rfl ?_|refine Dw.guardT rfl ?_|(refine Dw.p (v:=?_) ?_ ?_;rotate_left;exact zE)|(refine Dw.cmp (p:=?_) rfl rfl ?_ ?_;rotate_left;exact zC;intro cv hv)|(refine Dw.r (v:=?_) rfl rfl ?_ ?_ ?_;rotate_left;exact zN;exact zM)|refine Dw.a Mk.alloc fun _=>?_|refine Dw.a (Mk.lits rfl) fun _=>?_|(refine zY (g:=?_) ?_;intro cv hv)|refine zW (v:=?_) ?_|refine Cd.condT rfl ?_|refine Cd.condF rfl ?_|((first|refine Cd.cond rfl ?_ ?_|refine Rg.guardS rfl ?_ ?_|refine Dw.guardS rfl ?_ ?_)<;>(intro e;(try simp only [Bool.not_eq_true',Bool.not_eq_false'] at e);subst e;try contradiction))|refine Cd.skip ?_|refine Cd.blk ?_|refine Cd.ext ?_|refine Cd.ret ?_)
      refine ⟨?_⟩
      refine Cd.weak (l2 := s25 lv n b5 b D i) ⟨rfl, rfl, rfl, rfl, rfl, rfl, trivial⟩ ?_
      refine Cd.mono (n17 I.d (hd i hi) I.f hf ho (by rw [hor, List.length_map]; omega) hin) ?_
      rintro _ l1 _ ⟨rfl, b15, c, hc, hcr, hs, r, hsel⟩
      show Cd _ _ _ _ _ _
      refine Cd.weak hs (Cd.drop hsel ?_)
      refine Cd.seq (Cd.seq (Cd.mono (n18 hL hq hok hc (hcr.trans hor) InK.here (fun id x h => .there (.mem h))) ?_))
      rintro _ l1 _ ⟨rfl, hs, rfl⟩
      show Cd _ _ _ _ _ _
      refine Cd.weak hs ?_
      refine Cd.drop (m := me5 b room used b5 v F C D FC) (.cons (.there (.there .here)) (.cons (.there (.there .here)) (.cons (.there (.there .here)) (.cons (.there (.there .here)) (.cons (.there (.there .here)) (.cons (.there (.there .here)) .nil)))))) ?_
      repeat' (first|refine zA ?_|refine Cd.reg ?_|refine Rg.nil ?_|refine zF ?_|refine zG ?_|refine zH ?_|(refine Rg.p (v:=?_) ?_ ?_;rotate_left;exact zE)|(refine Rg.cmp (p:=?_) rfl rfl ?_ ?_;rotate_left;exact zC;intro cv hv)|(refine Rg.r (v:=?_) rfl rfl ?_ ?_;rotate_left;exact zN)|refine zL fun _=>?_|refine Rg.alloc fun _=>?_|refine Rg.a (Mk.lits rfl) fun _=>?_|refine zO (cs:=?_) (K':=?_) ?_|refine zP (cs:=?_) (K':=?_) ?_|(refine zQ (g:=?_) ?_;intro cv hv)|(refine zR (w:=?_) ?_;intro cv hv)|refine zS (v:=?_) ?_|refine zT (v:=?_) ?_|refine Lp.round ?_|refine Cd.draw ?_|refine Dw.nil ?_|refine Dw.guardY rfl ?_|refine Dw.guardN rfl ?_|refine Dw.guardT rfl ?_|(refine Dw.p (v:=?_) ?_ ?_;rotate_left;exact zE)|(refine Dw.cmp (p:=?_) rfl rfl ?_ ?_;rotate_left;exact zC;intro cv hv)|(refine Dw.r (v:=?_) rfl rfl ?_ ?_ ?_;rotate_left;exact zN;exact zM)|refine Dw.a Mk.alloc fun _=>?_|refine Dw.a (Mk.lits rfl) fun _=>?_|(refine zY (g:=?_) ?_;intro cv hv)|refine zW (v:=?_) ?_|refine Cd.condT rfl ?_|refine Cd.condF rfl ?_|((first|refine Cd.cond rfl ?_ ?_|refine Rg.guardS rfl ?_ ?_|refine Dw.guardS rfl ?_ ?_)<;>(intro e;(try simp only [Bool.not_eq_true',Bool.not_eq_false'] at e);subst e;try contradiction))|refine Cd.skip ?_|refine Cd.blk ?_|refine Cd.ext ?_|refine Cd.ret ?_)
      have hrow := I.d.row
      obtain ⟨id, g, e⟩ := I.d.at (hd i hi)
      generalize hR : D.rows = rows at *
      subst e
      refine Cd.weak (l2 := (17, .int .i64 (.ofNat 0)) :: s25 lv n b5 b ⟨some (id, g), rows⟩ i) ⟨rfl, rfl, rfl, rfl, rfl, rfl, rfl, trivial⟩ ?_
      refine Cd.loop (k := i + 1) (loop4 hrow (.there (.there (.there .here))) (hd i hi) (fun k hk => hd k (by omega)) (by omega) ?_ (i + 1) 0 (by omega) (by omega))
      intro l' hs
      show Cd _ _ _ _ _ _
      refine Cd.weak hs ?_
      repeat' (first|refine zA ?_|refine Cd.reg ?_|refine Rg.nil ?_|refine zF ?_|refine zG ?_|refine zH ?_|(refine Rg.p (v:=?_) ?_ ?_;rotate_left;exact zE)|(refine Rg.cmp (p:=?_) rfl rfl ?_ ?_;rotate_left;exact zC;intro cv hv)|(refine Rg.r (v:=?_) rfl rfl ?_ ?_;rotate_left;exact zN)|refine zL fun _=>?_|refine Rg.alloc fun _=>?_|refine Rg.a (Mk.lits rfl) fun _=>?_|refine zO (cs:=?_) (K':=?_) ?_|refine zP (cs:=?_) (K':=?_) ?_|(refine zQ (g:=?_) ?_;intro cv hv)|(refine zR (w:=?_) ?_;intro cv hv)|refine zS (v:=?_) ?_|refine zT (v:=?_) ?_|refine Lp.round ?_|refine Cd.draw ?_|refine Dw.nil ?_|refine Dw.guardY rfl ?_|refine Dw.guardN rfl ?_|refine Dw.guardT rfl ?_|(refine Dw.p (v:=?_) ?_ ?_;rotate_left;exact zE)|(refine Dw.cmp (p:=?_) rfl rfl ?_ ?_;rotate_left;exact zC;intro cv hv)|(refine Dw.r (v:=?_) rfl rfl ?_ ?_ ?_;rotate_left;exact zN;exact zM)|refine Dw.a Mk.alloc fun _=>?_|refine Dw.a (Mk.lits rfl) fun _=>?_|(refine zY (g:=?_) ?_;intro cv hv)|refine zW (v:=?_) ?_|refine Cd.condT rfl ?_|refine Cd.condF rfl ?_|((first|refine Cd.cond rfl ?_ ?_|refine Rg.guardS rfl ?_ ?_|refine Dw.guardS rfl ?_ ?_)<;>(intro e;(try simp only [Bool.not_eq_true',Bool.not_eq_false'] at e);subst e;try contradiction))|refine Cd.skip ?_|refine Cd.blk ?_|refine Cd.ext ?_|refine Cd.ret ?_)
      refine Lp.weak ?hw (ih (i + 1) (by omega) (by omega))
      case hw => exact ⟨rfl, rfl, rfl, rfl, rfl, rfl, trivial⟩
    · repeat' (first|refine zA ?_|refine Cd.reg ?_|refine Rg.nil ?_|refine zF ?_|refine zG ?_|refine zH ?_|(refine Rg.p (v:=?_) ?_ ?_;rotate_left;exact zE)|(refine Rg.cmp (p:=?_) rfl rfl ?_ ?_;rotate_left;exact zC;intro cv hv)|(refine Rg.r (v:=?_) rfl rfl ?_ ?_;rotate_left;exact zN)|refine zL fun _=>?_|refine Rg.alloc fun _=>?_|refine Rg.a (Mk.lits rfl) fun _=>?_|refine zO (cs:=?_) (K':=?_) ?_|refine zP (cs:=?_) (K':=?_) ?_|(refine zQ (g:=?_) ?_;intro cv hv)|(refine zR (w:=?_) ?_;intro cv hv)|refine zS (v:=?_) ?_|refine zT (v:=?_) ?_|refine Lp.round ?_|refine Cd.draw ?_|refine Dw.nil ?_|refine Dw.guardY rfl ?_|refine Dw.guardN rfl ?_|refine Dw.guardT rfl ?_|(refine Dw.p (v:=?_) ?_ ?_;rotate_left;exact zE)|(refine Dw.cmp (p:=?_) rfl rfl ?_ ?_;rotate_left;exact zC;intro cv hv)|(refine Dw.r (v:=?_) rfl rfl ?_ ?_ ?_;rotate_left;exact zN;exact zM)|refine Dw.a Mk.alloc fun _=>?_|refine Dw.a (Mk.lits rfl) fun _=>?_|(refine zY (g:=?_) ?_;intro cv hv)|refine zW (v:=?_) ?_|refine Cd.condT rfl ?_|refine Cd.condF rfl ?_|((first|refine Cd.cond rfl ?_ ?_|refine Rg.guardS rfl ?_ ?_|refine Dw.guardS rfl ?_ ?_)<;>(intro e;(try simp only [Bool.not_eq_true',Bool.not_eq_false'] at e);subst e;try contradiction))|refine Cd.skip ?_|refine Cd.blk ?_|refine Cd.ext ?_|refine Cd.ret ?_)
      obtain rfl : i = N := by omega
      exact hend _ ⟨rfl, rfl, rfl, rfl, rfl, rfl, trivial⟩
end Go.Proofs.Ytggpnokhhpnnaaa
