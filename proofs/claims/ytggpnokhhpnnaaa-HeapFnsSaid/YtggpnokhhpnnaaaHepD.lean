/- HeapFns: its third loop, and all of it. -/
import Derived.Test.YtggpnokhhpnnaaaHepC
set_option autoImplicit false
set_option maxRecDepth 100000
set_option maxHeartbeats 4000000
set_option linter.unusedVariables false
set_option linter.unusedSimpArgs false
namespace Go.Proofs.Ytggpnokhhpnnaaa
open Go Go.Abs
abbrev s35 (lv : AV) (n : Int) (b5 b : Nat) (D : OS) (t : Bool) (i : Nat) : SL := [(0, lv), (1, .int .i64 n), (5, .ptr b5 0 0 3), (7, hP b), (9, D.v 3), (18, .bool t), (19, .int .i64 (.ofNat i))]
section
variable {lv : AV} {n : Int} {b5 b b20 room used i : Nat} {t : Bool} {v x : Val} {F C D : OS} {FC : Chk}
theorem n29 (hC : C.ok 3) (hr : C.rows[i]? = some (valR x)) : Cd Try.prog false (.reg r5_29) (s35 lv n b5 b D t i) (me5 b room used b5 v F C D FC) fun e l K => e = .nrm ∧ ∃ b20 : Nat, Sub2 ((20, .ptr b20 0 0 3) :: (21, .bool true) :: s35 lv n b5 b D t i) l ∧ ∃ r, Sel K ([(b20, .cells (valR x) 0 0 false)] :: me5 b room used b5 v F C D FC) r := by
  have hl := (List.getElem?_eq_some_iff.1 hr).1
  have key : CT Try.prog false 27 [hP b, .int .i64 (.ofNat i)] [hB b room used .nilslc (F.v 3) (C.v 3), C.c] fun w K' => K' = [hB b room used .nilslc (F.v 3) (C.v 3), C.c] ∧ w = .tup [valA x, .bool true] :=
    (read27 hC).mono fun w K' h => by
      obtain ⟨rfl, ⟨h1, _⟩ | ⟨m, r, h1, h2, rfl⟩⟩ := h
      · exact absurd ⟨Int.natCast_nonneg i, by simp; omega⟩ h1
      · cases h1
        rw [hr] at h2; cases h2
        exact ⟨rfl, rfl⟩
  repeat' (first|refine zA ?_|refine Cd.reg ?_|refine Rg.nil ?_|refine zF ?_|refine zG ?_|refine zH ?_|(refine Rg.p (v:=?_) ?_ ?_;rotate_left;exact zE)|(refine Rg.cmp (p:=?_) rfl rfl ?_ ?_;rotate_left;exact zC;intro cv hv)|(refine Rg.r (v:=?_) rfl rfl ?_ ?_;rotate_left;exact zN)|refine zL fun _=>?_|refine Rg.alloc fun _=>?_|refine Rg.a (Mk.lits rfl) fun _=>?_|refine zO (cs:=?_) (K':=?_) ?_|refine zP (cs:=?_) (K':=?_) ?_|(refine zQ (g:=?_) ?_;intro cv hv)|(refine zR (w:=?_) ?_;intro cv hv)|refine zS (v:=?_) ?_|refine zT (v:=?_) ?_|refine Lp.round ?_|refine Cd.draw ?_|refine Dw.nil ?_|refine Dw.guardY rfl ?_|refine Dw.guardN rfl ?_|refine Dw.guardT rfl ?_|(refine Dw.p (v:=?_) ?_ ?_;rotate_left;exact zE)|(refine Dw.cmp (p:=?_) rfl rfl ?_ ?_;rotate_left;exact zC;intro cv hv)|(refine Dw.r (v:=?_) rfl rfl ?_ ?_ ?_;rotate_left;exact zN;exact zM)|refine Dw.a Mk.alloc fun _=>?_|refine Dw.a (Mk.lits rfl) fun _=>?_|(refine zY (g:=?_) ?_;intro cv hv)|refine zW (v:=?_) ?_|refine Cd.condT rfl ?_|refine Cd.condF rfl ?_|((first|refine Cd.cond rfl ?_ ?_|refine Rg.guardS rfl ?_ ?_|refine Dw.guardS rfl ?_ ?_)<;>(intro e;(try simp only [Bool.not_eq_true',Bool.not_eq_false'] at e);subst e;try contradiction))|refine Cd.skip ?_|refine Cd.blk ?_|refine Cd.ext ?_|refine Cd.ret ?_)
  refine Rg.callM rfl key (.cons .here (.cons (.there .here) .nil)) ?_
  rintro _ _ ⟨rfl, rfl⟩
  repeat' (first|refine zA ?_|refine Cd.reg ?_|refine Rg.nil ?_|refine zF ?_|refine zG ?_|refine zH ?_|(refine Rg.p (v:=?_) ?_ ?_;rotate_left;exact zE)|(refine Rg.cmp (p:=?_) rfl rfl ?_ ?_;rotate_left;exact zC;intro cv hv)|(refine Rg.r (v:=?_) rfl rfl ?_ ?_;rotate_left;exact zN)|refine zL fun _=>?_|refine Rg.alloc fun _=>?_|refine Rg.a (Mk.lits rfl) fun _=>?_|refine zO (cs:=?_) (K':=?_) ?_|refine zP (cs:=?_) (K':=?_) ?_|(refine zQ (g:=?_) ?_;intro cv hv)|(refine zR (w:=?_) ?_;intro cv hv)|refine zS (v:=?_) ?_|refine zT (v:=?_) ?_|refine Lp.round ?_|refine Cd.draw ?_|refine Dw.nil ?_|refine Dw.guardY rfl ?_|refine Dw.guardN rfl ?_|refine Dw.guardT rfl ?_|(refine Dw.p (v:=?_) ?_ ?_;rotate_left;exact zE)|(refine Dw.cmp (p:=?_) rfl rfl ?_ ?_;rotate_left;exact zC;intro cv hv)|(refine Dw.r (v:=?_) rfl rfl ?_ ?_ ?_;rotate_left;exact zN;exact zM)|refine Dw.a Mk.alloc fun _=>?_|refine Dw.a (Mk.lits rfl) fun _=>?_|(refine zY (g:=?_) ?_;intro cv hv)|refine zW (v:=?_) ?_|refine Cd.condT rfl ?_|refine Cd.condF rfl ?_|((first|refine Cd.cond rfl ?_ ?_|refine Rg.guardS rfl ?_ ?_|refine Dw.guardS rfl ?_ ?_)<;>(intro e;(try simp only [Bool.not_eq_true',Bool.not_eq_false'] at e);subst e;try contradiction))|refine Cd.skip ?_|refine Cd.blk ?_|refine Cd.ext ?_|refine Cd.ret ?_)
  exact ⟨rfl, _, ⟨rfl, rfl, rfl, rfl, rfl, rfl, rfl, rfl, rfl, trivial⟩, _, .cons .here (.cons .here (.cons (.there .here) (.cons .here (.cons .here (.cons .here (.cons .here .nil))))))⟩
theorem n30 {K : Mem} (h5 : InK K b5 (.cells (valR v) 0 0 false)) (h20 : InK K b20 (.cells (valR x) 0 0 false)) (hx : x = if n = (i : Int) then v else vInt i) : Cd Try.prog false (.draw r5_30) ((20, .ptr b20 0 0 3) :: (21, .bool true) :: s35 lv n b5 b D t i) K
    fun e l K' => e = .nrm ∧ Sub2 ((200, .bool false) :: s35 lv n b5 b D t i) l ∧ K' = K := by
  have r0 : Rdk K (.loadn 3) (.ptr b20 0 0 3) (.ptr b20 0 0 3) (valA x) := Rdk.bw h20 rfl
  have r1 : Rdk K (.loadn 3) (.ptr b5 0 0 3) (.ptr b5 0 0 3) (valA v) := Rdk.bw h5 rfl
  by_cases h : n = (i : Int)
  · rw [if_pos h] at hx
    have e : aeq (.flat true [.i, .i, .s]) (valA x) (valA v) = some true := by rw [show aeq (.flat true [.i, .i, .s]) (valA x) (valA v) = some (decide (x = v)) from flatVal _ _, decide_eq_true hx]
    have h' : (i : Int) = n := h.symm
    repeat' (first|refine zA ?_|refine Cd.reg ?_|refine Rg.nil ?_|refine zF ?_|refine zG ?_|refine zH ?_|(refine Rg.p (v:=?_) ?_ ?_;rotate_left;exact zE)|(refine Rg.cmp (p:=?_) rfl rfl ?_ ?_;rotate_left;exact zC;intro cv hv)|(refine Rg.r (v:=?_) rfl rfl ?_ ?_;rotate_left;exact zN)|refine zL fun _=>?_|refine Rg.alloc fun _=>?_|refine Rg.a (Mk.lits rfl) fun _=>?_|refine zO (cs:=?_) (K':=?_) ?_|refine zP (cs:=?_) (K':=?_) ?_|(refine zQ (g:=?_) ?_;intro cv hv)|(refine zR (w:=?_) ?_;intro cv hv)|refine zS (v:=?_) ?_|refine zT (v:=?_) ?_|refine Lp.round ?_|refine Cd.draw ?_|refine Dw.nil ?_|refine Dw.guardY rfl ?_|refine Dw.guardN rfl ?_|refine Dw.guardT rfl ?_|(refine Dw.p (v:=?_) ?_ ?_;rotate_left;exact zE)|(refine Dw.cmp (p:=?_) rfl rfl ?_ ?_;rotate_left;exact zC;intro cv hv)|(refine Dw.r (v:=?_) rfl rfl ?_ ?_ ?_;rotate_left;exact zN;exact zM)|refine Dw.a Mk.alloc fun _=>?_|refine Dw.a (Mk.lits rfl) fun _=>?_|(refine zY (g:=?_) ?_;intro cv hv)|refine zW (v:=?_) ?_|refine Cd.condT rfl ?_|refine Cd.condF rfl ?_|((first|refine Cd.cond rfl ?_ ?_|refine Rg.guardS rfl ?_ ?_|refine Dw.guardS rfl ?_ ?_)<;>(intro e;(try simp only [Bool.not_eq_true',Bool.not_eq_false'] at e);subst e;try contradiction))|refine Cd.skip ?_|refine Cd.blk ?_|refine Cd.ext ?_|refine Cd.ret ?_)
    exact ⟨rfl, ⟨rfl, rfl, rfl, rfl, rfl, rfl, rfl, rfl, trivial⟩, rfl⟩
  · rw [if_neg h] at hx
    have e : aeq (.flat true [.i, .i, .s]) (valA x) (valA ⟨1, Int.ofNat i, []⟩) = some true := by rw [show aeq (.flat true [.i, .i, .s]) (valA x) (valA ⟨1, Int.ofNat i, []⟩) = some (decide (x = vInt i)) from flatVal _ _, decide_eq_true hx]
    have h' : ¬ (i : Int) = n := fun e => h e.symm
    have k23 := int23 (n := Int.ofNat i)
    repeat' (first|refine zA ?_|refine Cd.reg ?_|refine Rg.nil ?_|refine zF ?_|refine zG ?_|refine zH ?_|(refine Rg.p (v:=?_) ?_ ?_;rotate_left;exact zE)|(refine Rg.cmp (p:=?_) rfl rfl ?_ ?_;rotate_left;exact zC;intro cv hv)|(refine Rg.r (v:=?_) rfl rfl ?_ ?_;rotate_left;exact zN)|refine zL fun _=>?_|refine Rg.alloc fun _=>?_|refine Rg.a (Mk.lits rfl) fun _=>?_|refine zO (cs:=?_) (K':=?_) ?_|refine zP (cs:=?_) (K':=?_) ?_|(refine zQ (g:=?_) ?_;intro cv hv)|(refine zR (w:=?_) ?_;intro cv hv)|refine zS (v:=?_) ?_|refine zT (v:=?_) ?_|refine Lp.round ?_|refine Cd.draw ?_|refine Dw.nil ?_|refine Dw.guardY rfl ?_|refine Dw.guardN rfl ?_|refine Dw.guardT rfl ?_|(refine Dw.p (v:=?_) ?_ ?_;rotate_left;exact zE)|(refine Dw.cmp (p:=?_) rfl rfl ?_ ?_;rotate_left;exact zC;intro cv hv)|(refine Dw.r (v:=?_) rfl rfl ?_ ?_ ?_;rotate_left;exact zN;exact zM)|refine Dw.a Mk.alloc fun _=>?_|refine Dw.a (Mk.lits rfl) fun _=>?_|(refine zY (g:=?_) ?_;intro cv hv)|refine zW (v:=?_) ?_|refine Cd.condT rfl ?_|refine Cd.condF rfl ?_|((first|refine Cd.cond rfl ?_ ?_|refine Rg.guardS rfl ?_ ?_|refine Dw.guardS rfl ?_ ?_)<;>(intro e;(try simp only [Bool.not_eq_true',Bool.not_eq_false'] at e);subst e;try contradiction))|refine Cd.skip ?_|refine Cd.blk ?_|refine Cd.ext ?_|refine Cd.ret ?_)
    exact ⟨rfl, ⟨rfl, rfl, rfl, rfl, rfl, rfl, rfl, rfl, trivial⟩, rfl⟩
theorem loop3 {N : Nat} {Q : AX → SL → Mem → Prop} (hC : C.ok 3) (hr : ∀ j, j < N → C.rows[j]? = some (valR (if n = (j : Int) then v else vInt j))) (hD : D.ok 3) (hd : D.rows.length = N) (h30 : N ≤ 30)
    (hend : ∀ l', Sub2 (s35 lv n b5 b D t N) l' → Q (.ext 6) l' (me5 b room used b5 v F C D FC)) :
    ∀ (f i : Nat), N < i + f → i ≤ N → Lp Try.prog false b5_3 f (s35 lv n b5 b D t i) (me5 b room used b5 v F C D FC) Q := by
  have dl := hD.len
  rw [hd] at dl
  intro f
  induction f with
  | zero => intro i h1 h2; omega
  | succ f ih =>
    intro i h1 h2
    refine Lp.round ?_
    by_cases hi : i < N
    · repeat' (first|(refine stopC (c := .reg r5_29) ?_)|refine zA ?_|refine Cd.reg ?_|refine Rg.nil ?_|refine zF ?_|refine zG ?_|refine zH ?_|(refine Rg.p (v:=?_) ?_ ?_;rotate_left;exact zE)|(refine Rg.cmp (p:=?_) rfl rfl ?_ ?_;rotate_left;exact zC;intro cv hv)|(refine Rg.r (v:=?_) rfl rfl ?_ ?_;rotate_left;exact zN)|refine zL fun _=>?_|refine Rg.alloc fun _=>?_|refine Rg.a (Mk.lits rfl) fun _=>?_|refine zO (cs:=?_) (K':=?_) ?_|refine zP (cs:=?_) (K':=?_) ?_|(refine zQ (g:=?_) ?_;intro cv hv)|(refine zR (w:=?_) ?_;intro cv hv)|refine zS (v:=?_) ?_|refine zT (v:=?_) ?_|refine Lp.round ?_|refine Cd.draw ?_|refine Dw.nil ?_|refine Dw.guardY rfl ?_|refine Dw.guardN rfl ?_|refine Dw.guardT rfl ?_|(refine Dw.p (v:=?_) ?_ ?_;rotate_left;exact zE)|(refine Dw.cmp (p:=?_) rfl rfl ?_ ?_;rotate_left;exact zC;intro cv hv)|(refine Dw.r (v:=?_) rfl rfl ?_ ?_ ?_;rotate_left;exact zN;exact zM)|refine Dw.a Mk.alloc fun _=>?_|refine Dw.a (Mk.lits rfl) fun _=>?_|(refine zY (g:=?_) ?_;intro cv hv)|refine zW (v:=?_) ?_|refine Cd.condT rfl ?_|refine Cd.condF rfl ?_|((first|refine Cd.cond rfl ?_ ?_|refine Rg.guardS rfl ?_ ?_|refine Dw.guardS rfl ?_ ?_)<;>(intro e;(try simp only [Bool.not_eq_true',Bool.not_eq_false'] at e);subst e;try contradiction))|refine Cd.skip ?_|refine Cd.blk ?_|refine Cd.ext ?_|refine Cd.ret ?_)
      refine ⟨?_⟩
      refine Cd.weak (l2 := s35 lv n b5 b D t i) ⟨rfl, rfl, rfl, rfl, rfl, rfl, rfl, trivial⟩ ?_
      refine Cd.mono (n29 hC (hr i hi)) ?_
      rintro _ l1 _ ⟨rfl, b20, hs, r, hsel⟩
      show Cd _ _ _ _ _ _
      refine Cd.weak hs (Cd.drop hsel ?_)
      refine Cd.seq (Cd.mono (n30 (.there (.there (.there (.there (.there (.there .here)))))) .here rfl) ?_)
      rintro _ l1 _ ⟨rfl, hs, rfl⟩
      show Cd _ _ _ _ _ _
      refine Cd.weak hs ?_
      refine Cd.drop (m := me5 b room used b5 v F C D FC) (.cons (.there .here) (.cons (.there .here) (.cons (.there .here) (.cons (.there .here) (.cons (.there .here) (.cons (.there .here) .nil)))))) ?_
      repeat' (first|refine zA ?_|refine Cd.reg ?_|refine Rg.nil ?_|refine zF ?_|refine zG ?_|refine zH ?_|(refine Rg.p (v:=?_) ?_ ?_;rotate_left;exact zE)|(refine Rg.cmp (p:=?_) rfl rfl ?_ ?_;rotate_left;exact zC;intro cv hv)|(refine Rg.r (v:=?_) rfl rfl ?_ ?_;rotate_left;exact zN)|refine zL fun _=>?_|refine Rg.alloc fun _=>?_|refine Rg.a (Mk.lits rfl) fun _=>?_|refine zO (cs:=?_) (K':=?_) ?_|refine zP (cs:=?_) (K':=?_) ?_|(refine zQ (g:=?_) ?_;intro cv hv)|(refine zR (w:=?_) ?_;intro cv hv)|refine zS (v:=?_) ?_|refine zT (v:=?_) ?_|refine Lp.round ?_|refine Cd.draw ?_|refine Dw.nil ?_|refine Dw.guardY rfl ?_|refine Dw.guardN rfl ?_|refine Dw.guardT rfl ?_|(refine Dw.p (v:=?_) ?_ ?_;rotate_left;exact zE)|(refine Dw.cmp (p:=?_) rfl rfl ?_ ?_;rotate_left;exact zC;intro cv hv)|(refine Dw.r (v:=?_) rfl rfl ?_ ?_ ?_;rotate_left;exact zN;exact zM)|refine Dw.a Mk.alloc fun _=>?_|refine Dw.a (Mk.lits rfl) fun _=>?_|(refine zY (g:=?_) ?_;intro cv hv)|refine zW (v:=?_) ?_|refine Cd.condT rfl ?_|refine Cd.condF rfl ?_|((first|refine Cd.cond rfl ?_ ?_|refine Rg.guardS rfl ?_ ?_|refine Dw.guardS rfl ?_ ?_)<;>(intro e;(try simp only [Bool.not_eq_true',Bool.not_eq_false'] at e);subst e;try contradiction))|refine Cd.skip ?_|refine Cd.blk ?_|refine Cd.ext ?_|refine Cd.ret ?_)
      refine Lp.weak ?hw (ih (i + 1) (by omega) (by omega))
      case hw => exact ⟨rfl, rfl, rfl, rfl, rfl, rfl, rfl, trivial⟩
    · repeat' (first|refine zA ?_|refine Cd.reg ?_|refine Rg.nil ?_|refine zF ?_|refine zG ?_|refine zH ?_|(refine Rg.p (v:=?_) ?_ ?_;rotate_left;exact zE)|(refine Rg.cmp (p:=?_) rfl rfl ?_ ?_;rotate_left;exact zC;intro cv hv)|(refine Rg.r (v:=?_) rfl rfl ?_ ?_;rotate_left;exact zN)|refine zL fun _=>?_|refine Rg.alloc fun _=>?_|refine Rg.a (Mk.lits rfl) fun _=>?_|refine zO (cs:=?_) (K':=?_) ?_|refine zP (cs:=?_) (K':=?_) ?_|(refine zQ (g:=?_) ?_;intro cv hv)|(refine zR (w:=?_) ?_;intro cv hv)|refine zS (v:=?_) ?_|refine zT (v:=?_) ?_|refine Lp.round ?_|refine Cd.draw ?_|refine Dw.nil ?_|refine Dw.guardY rfl ?_|refine Dw.guardN rfl ?_|refine Dw.guardT rfl ?_|(refine Dw.p (v:=?_) ?_ ?_;rotate_left;exact zE)|(refine Dw.cmp (p:=?_) rfl rfl ?_ ?_;rotate_left;exact zC;intro cv hv)|(refine Dw.r (v:=?_) rfl rfl ?_ ?_ ?_;rotate_left;exact zN;exact zM)|refine Dw.a Mk.alloc fun _=>?_|refine Dw.a (Mk.lits rfl) fun _=>?_|(refine zY (g:=?_) ?_;intro cv hv)|refine zW (v:=?_) ?_|refine Cd.condT rfl ?_|refine Cd.condF rfl ?_|((first|refine Cd.cond rfl ?_ ?_|refine Rg.guardS rfl ?_ ?_|refine Dw.guardS rfl ?_ ?_)<;>(intro e;(try simp only [Bool.not_eq_true',Bool.not_eq_false'] at e);subst e;try contradiction))|refine Cd.skip ?_|refine Cd.blk ?_|refine Cd.ext ?_|refine Cd.ret ?_)
      obtain rfl : i = N := by omega
      exact hend _ ⟨rfl, rfl, rfl, rfl, rfl, rfl, rfl, trivial⟩
end
end Go.Proofs.Ytggpnokhhpnnaaa

namespace Go.Proofs.Ytggpnokhhpnnaaa
open Go Go.Abs
theorem new1000 : CT Try.prog false 9 [.int .i64 (.ofNat 1000)] [] fun v K' => ∃ b, v = .tup [hP b, .int .i64 (.ofNat 0)] ∧ K' = [hB b 1000 0 .nilslc .nilslc .nilslc] :=
  new9.mono fun v K' h => by
    rcases h with ⟨h, _⟩ | ⟨room, b, h1, h2, h3, h4⟩
    · simp at h
    · cases h1; exact ⟨b, h3, h4⟩
theorem InvF.nil {ls : List Clo} {FC : Chk} : InvF ls 0 ⟨none, []⟩ ⟨none, []⟩ ⟨none, []⟩ FC := ⟨OS.ok.nil, OS.ok.nil, OS.ok.nil, rfl, fun j q h => absurd h (Nat.not_lt_zero _), rfl, rfl⟩
theorem fns5_b {lv : AV} {ls : List Clo} {n : Int} {v : Val} {b5 b N : Nat} {F C D : OS} {FC : Chk} {l' : SL} (hL : ASl 3 lv (ls.map cloR)) (hO : ∀ q, q ∈ ls → OkC q) (hll : ls.length ≤ 9223372036854775807) (I : InvF ls N F C D FC) (h30 : N ≤ 30) (hN : N ≤ ls.length) (hs : Sub2 (sl5 lv n b5 b D N) l') :
    Cd Try.prog false (.seq (.seq (.reg r5_15) (.blk 2 (.loop b5_2))) (.seq (.reg r5_26) (.seq (.seq (.reg r5_27) (.blk 6 (.loop b5_3))) (.seq (.reg r5_33) .ret)))) l' (me5 b 1000 N b5 v F C D FC) (DoneK fn5.results fun w _ => w = .bool true) := by
  have k15 := known15
  have dl := I.d.len
  rw [I.dr, numsR_len] at dl
  refine Cd.weak hs ?_
  repeat' (first|refine zA ?_|refine Cd.reg ?_|refine Rg.nil ?_|refine zF ?_|refine zG ?_|refine zH ?_|(refine Rg.p (v:=?_) ?_ ?_;rotate_left;exact zE)|(refine Rg.cmp (p:=?_) rfl rfl ?_ ?_;rotate_left;exact zC;intro cv hv)|(refine Rg.r (v:=?_) rfl rfl ?_ ?_;rotate_left;exact zN)|refine zL fun _=>?_|refine Rg.alloc fun _=>?_|refine Rg.a (Mk.lits rfl) fun _=>?_|refine zO (cs:=?_) (K':=?_) ?_|refine zP (cs:=?_) (K':=?_) ?_|(refine zQ (g:=?_) ?_;intro cv hv)|(refine zR (w:=?_) ?_;intro cv hv)|refine zS (v:=?_) ?_|refine zT (v:=?_) ?_|refine Lp.round ?_|refine Cd.draw ?_|refine Dw.nil ?_|refine Dw.guardY rfl ?_|refine Dw.guardN rfl ?_|refine Dw.guardT rfl ?_|(refine Dw.p (v:=?_) ?_ ?_;rotate_left;exact zE)|(refine Dw.cmp (p:=?_) rfl rfl ?_ ?_;rotate_left;exact zC;intro cv hv)|(refine Dw.r (v:=?_) rfl rfl ?_ ?_ ?_;rotate_left;exact zN;exact zM)|refine Dw.a Mk.alloc fun _=>?_|refine Dw.a (Mk.lits rfl) fun _=>?_|(refine zY (g:=?_) ?_;intro cv hv)|refine zW (v:=?_) ?_|refine Cd.condT rfl ?_|refine Cd.condF rfl ?_|((first|refine Cd.cond rfl ?_ ?_|refine Rg.guardS rfl ?_ ?_|refine Dw.guardS rfl ?_ ?_)<;>(intro e;(try simp only [Bool.not_eq_true',Bool.not_eq_false'] at e);subst e;try contradiction))|refine Cd.skip ?_|refine Cd.blk ?_|refine Cd.ext ?_|refine Cd.ret ?_)
  refine Cd.weak (l2 := s25 lv n b5 b D 0) ⟨rfl, rfl, rfl, rfl, rfl, rfl, trivial⟩ ?_
  refine Cd.loop (k := N + 1) (loop2 hL hO I hN h30 ?_ (N + 1) 0 (by omega) (by omega))
  intro l' hs
  show Cd _ _ _ _ _ _
  refine Cd.weak hs ?_
  repeat' (first|(refine Rg.callM rfl (set26 (v := v) I.c (by rw [I.cr, numsR_len]; omega)) (.cons .here (.cons (.there .here) .nil)) ?_; rintro _ _ ⟨rfl, C', hC', hcr, rfl⟩)|refine zA ?_|refine Cd.reg ?_|refine Rg.nil ?_|refine zF ?_|refine zG ?_|refine zH ?_|(refine Rg.p (v:=?_) ?_ ?_;rotate_left;exact zE)|(refine Rg.cmp (p:=?_) rfl rfl ?_ ?_;rotate_left;exact zC;intro cv hv)|(refine Rg.r (v:=?_) rfl rfl ?_ ?_;rotate_left;exact zN)|refine zL fun _=>?_|refine Rg.alloc fun _=>?_|refine Rg.a (Mk.lits rfl) fun _=>?_|refine zO (cs:=?_) (K':=?_) ?_|refine zP (cs:=?_) (K':=?_) ?_|(refine zQ (g:=?_) ?_;intro cv hv)|(refine zR (w:=?_) ?_;intro cv hv)|refine zS (v:=?_) ?_|refine zT (v:=?_) ?_|refine Lp.round ?_|refine Cd.draw ?_|refine Dw.nil ?_|refine Dw.guardY rfl ?_|refine Dw.guardN rfl ?_|refine Dw.guardT rfl ?_|(refine Dw.p (v:=?_) ?_ ?_;rotate_left;exact zE)|(refine Dw.cmp (p:=?_) rfl rfl ?_ ?_;rotate_left;exact zC;intro cv hv)|(refine Dw.r (v:=?_) rfl rfl ?_ ?_ ?_;rotate_left;exact zN;exact zM)|refine Dw.a Mk.alloc fun _=>?_|refine Dw.a (Mk.lits rfl) fun _=>?_|(refine zY (g:=?_) ?_;intro cv hv)|refine zW (v:=?_) ?_|refine Cd.condT rfl ?_|refine Cd.condF rfl ?_|((first|refine Cd.cond rfl ?_ ?_|refine Rg.guardS rfl ?_ ?_|refine Dw.guardS rfl ?_ ?_)<;>(intro e;(try simp only [Bool.not_eq_true',Bool.not_eq_false'] at e);subst e;try contradiction))|refine Cd.skip ?_|refine Cd.blk ?_|refine Cd.ext ?_|refine Cd.ret ?_)
  rw [I.cr, numsR_len]
  refine Cd.drop (m := me5 b 1000 N b5 v F C' D FC) (.cons .here (.cons (.there .here) (.cons .here (.cons .here (.cons .here (.cons .here .nil)))))) ?_
  refine Cd.weak (l2 := s35 lv n b5 b D (decide (0 ≤ n) && decide (n < (N : Int))) 0) ⟨rfl, rfl, rfl, rfl, rfl, rfl, rfl, trivial⟩ ?_
  refine Cd.loop (k := N + 1) (loop3 (N := N) hC' ?_ I.d (by rw [I.dr, numsR_len]) h30 ?_ (N + 1) 0 (by omega) (by omega))
  · intro j hj
    rw [hcr, I.cr]
    have hz : (numsR vInt N)[j]? = some (valR (vInt j)) := numsR_at hj
    split
    · rw [List.getElem?_set]
      by_cases e : n = (j : Int)
      · rw [if_pos (by omega), if_pos e, if_pos (by rw [numsR_len]; omega)]
      · rw [if_neg (by omega), if_neg e, hz]
    · rw [if_neg (by omega), hz]
  · intro l' hs
    show Cd _ _ _ _ _ _
    refine Cd.weak hs ?_
    by_cases h1 : 0 ≤ n
    · by_cases h2 : n < (N : Int)
      · rw [decide_eq_true h1, decide_eq_true h2]
        repeat' (first|refine zA ?_|refine Cd.reg ?_|refine Rg.nil ?_|refine zF ?_|refine zG ?_|refine zH ?_|(refine Rg.p (v:=?_) ?_ ?_;rotate_left;exact zE)|(refine Rg.cmp (p:=?_) rfl rfl ?_ ?_;rotate_left;exact zC;intro cv hv)|(refine Rg.r (v:=?_) rfl rfl ?_ ?_;rotate_left;exact zN)|refine zL fun _=>?_|refine Rg.alloc fun _=>?_|refine Rg.a (Mk.lits rfl) fun _=>?_|refine zO (cs:=?_) (K':=?_) ?_|refine zP (cs:=?_) (K':=?_) ?_|(refine zQ (g:=?_) ?_;intro cv hv)|(refine zR (w:=?_) ?_;intro cv hv)|refine zS (v:=?_) ?_|refine zT (v:=?_) ?_|refine Lp.round ?_|refine Cd.draw ?_|refine Dw.nil ?_|refine Dw.guardY rfl ?_|refine Dw.guardN rfl ?_|refine Dw.guardT rfl ?_|(refine Dw.p (v:=?_) ?_ ?_;rotate_left;exact zE)|(refine Dw.cmp (p:=?_) rfl rfl ?_ ?_;rotate_left;exact zC;intro cv hv)|(refine Dw.r (v:=?_) rfl rfl ?_ ?_ ?_;rotate_left;exact zN;exact zM)|refine Dw.a Mk.alloc fun _=>?_|refine Dw.a (Mk.lits rfl) fun _=>?_|(refine zY (g:=?_) ?_;intro cv hv)|refine zW (v:=?_) ?_|refine Cd.condT rfl ?_|refine Cd.condF rfl ?_|((first|refine Cd.cond rfl ?_ ?_|refine Rg.guardS rfl ?_ ?_|refine Dw.guardS rfl ?_ ?_)<;>(intro e;(try simp only [Bool.not_eq_true',Bool.not_eq_false'] at e);subst e;try contradiction))|refine Cd.skip ?_|refine Cd.blk ?_|refine Cd.ext ?_|refine Cd.ret ?_)
        all_goals (first|refine ⟨.inr rfl,_,.t rfl .nil,?_⟩|refine ⟨.inr rfl,_,.t rfl (.t rfl .nil),?_⟩|refine ⟨.inr rfl,_,.t rfl (.t rfl (.t rfl .nil)),?_⟩|refine ⟨.inr rfl,_,.nil,?_⟩|refine ⟨.inl rfl,_,.t rfl .nil,?_⟩|refine ⟨.inl rfl,_,.nil,?_⟩|refine ⟨.inr rfl,_,.cn rfl (by exact zN) .nil,?_⟩|refine ⟨.inr rfl,_,.cn rfl (by exact zN) (.t rfl .nil),?_⟩)
        all_goals (rw [← hv]; rfl)
      · rw [decide_eq_true h1, decide_eq_false h2]
        repeat' (first|refine zA ?_|refine Cd.reg ?_|refine Rg.nil ?_|refine zF ?_|refine zG ?_|refine zH ?_|(refine Rg.p (v:=?_) ?_ ?_;rotate_left;exact zE)|(refine Rg.cmp (p:=?_) rfl rfl ?_ ?_;rotate_left;exact zC;intro cv hv)|(refine Rg.r (v:=?_) rfl rfl ?_ ?_;rotate_left;exact zN)|refine zL fun _=>?_|refine Rg.alloc fun _=>?_|refine Rg.a (Mk.lits rfl) fun _=>?_|refine zO (cs:=?_) (K':=?_) ?_|refine zP (cs:=?_) (K':=?_) ?_|(refine zQ (g:=?_) ?_;intro cv hv)|(refine zR (w:=?_) ?_;intro cv hv)|refine zS (v:=?_) ?_|refine zT (v:=?_) ?_|refine Lp.round ?_|refine Cd.draw ?_|refine Dw.nil ?_|refine Dw.guardY rfl ?_|refine Dw.guardN rfl ?_|refine Dw.guardT rfl ?_|(refine Dw.p (v:=?_) ?_ ?_;rotate_left;exact zE)|(refine Dw.cmp (p:=?_) rfl rfl ?_ ?_;rotate_left;exact zC;intro cv hv)|(refine Dw.r (v:=?_) rfl rfl ?_ ?_ ?_;rotate_left;exact zN;exact zM)|refine Dw.a Mk.alloc fun _=>?_|refine Dw.a (Mk.lits rfl) fun _=>?_|(refine zY (g:=?_) ?_;intro cv hv)|refine zW (v:=?_) ?_|refine Cd.condT rfl ?_|refine Cd.condF rfl ?_|((first|refine Cd.cond rfl ?_ ?_|refine Rg.guardS rfl ?_ ?_|refine Dw.guardS rfl ?_ ?_)<;>(intro e;(try simp only [Bool.not_eq_true',Bool.not_eq_false'] at e);subst e;try contradiction))|refine Cd.skip ?_|refine Cd.blk ?_|refine Cd.ext ?_|refine Cd.ret ?_)
        all_goals (first|refine ⟨.inr rfl,_,.t rfl .nil,?_⟩|refine ⟨.inr rfl,_,.t rfl (.t rfl .nil),?_⟩|refine ⟨.inr rfl,_,.t rfl (.t rfl (.t rfl .nil)),?_⟩|refine ⟨.inr rfl,_,.nil,?_⟩|refine ⟨.inl rfl,_,.t rfl .nil,?_⟩|refine ⟨.inl rfl,_,.nil,?_⟩|refine ⟨.inr rfl,_,.cn rfl (by exact zN) .nil,?_⟩|refine ⟨.inr rfl,_,.cn rfl (by exact zN) (.t rfl .nil),?_⟩)
        all_goals (rw [← hv]; rfl)
    · rw [decide_eq_false h1, Bool.false_and]
      repeat' (first|refine zA ?_|refine Cd.reg ?_|refine Rg.nil ?_|refine zF ?_|refine zG ?_|refine zH ?_|(refine Rg.p (v:=?_) ?_ ?_;rotate_left;exact zE)|(refine Rg.cmp (p:=?_) rfl rfl ?_ ?_;rotate_left;exact zC;intro cv hv)|(refine Rg.r (v:=?_) rfl rfl ?_ ?_;rotate_left;exact zN)|refine zL fun _=>?_|refine Rg.alloc fun _=>?_|refine Rg.a (Mk.lits rfl) fun _=>?_|refine zO (cs:=?_) (K':=?_) ?_|refine zP (cs:=?_) (K':=?_) ?_|(refine zQ (g:=?_) ?_;intro cv hv)|(refine zR (w:=?_) ?_;intro cv hv)|refine zS (v:=?_) ?_|refine zT (v:=?_) ?_|refine Lp.round ?_|refine Cd.draw ?_|refine Dw.nil ?_|refine Dw.guardY rfl ?_|refine Dw.guardN rfl ?_|refine Dw.guardT rfl ?_|(refine Dw.p (v:=?_) ?_ ?_;rotate_left;exact zE)|(refine Dw.cmp (p:=?_) rfl rfl ?_ ?_;rotate_left;exact zC;intro cv hv)|(refine Dw.r (v:=?_) rfl rfl ?_ ?_ ?_;rotate_left;exact zN;exact zM)|refine Dw.a Mk.alloc fun _=>?_|refine Dw.a (Mk.lits rfl) fun _=>?_|(refine zY (g:=?_) ?_;intro cv hv)|refine zW (v:=?_) ?_|refine Cd.condT rfl ?_|refine Cd.condF rfl ?_|((first|refine Cd.cond rfl ?_ ?_|refine Rg.guardS rfl ?_ ?_|refine Dw.guardS rfl ?_ ?_)<;>(intro e;(try simp only [Bool.not_eq_true',Bool.not_eq_false'] at e);subst e;try contradiction))|refine Cd.skip ?_|refine Cd.blk ?_|refine Cd.ext ?_|refine Cd.ret ?_)
      all_goals (first|refine ⟨.inr rfl,_,.t rfl .nil,?_⟩|refine ⟨.inr rfl,_,.t rfl (.t rfl .nil),?_⟩|refine ⟨.inr rfl,_,.t rfl (.t rfl (.t rfl .nil)),?_⟩|refine ⟨.inr rfl,_,.nil,?_⟩|refine ⟨.inl rfl,_,.t rfl .nil,?_⟩|refine ⟨.inl rfl,_,.nil,?_⟩|refine ⟨.inr rfl,_,.cn rfl (by exact zN) .nil,?_⟩|refine ⟨.inr rfl,_,.cn rfl (by exact zN) (.t rfl .nil),?_⟩)
      all_goals (rw [← hv]; rfl)
theorem fns5 {lv : AV} {ls : List Clo} {n : Int} {v : Val} (hL : ASl 3 lv (ls.map cloR)) (hO : ∀ q, q ∈ ls → OkC q) (hll : ls.length ≤ 9223372036854775807) : CT Try.prog false 5 [lv, .int .i64 n, valA v] [] fun w _ => w = .bool true := by
  have k15 := known15
  have k21 := is21 (v := v)
  refine CT.enter mixed comp5 (Nat.le_of_ble_eq_true rfl) ?_
  cases hb : isB v with
  | false =>
    rw [hb] at k21
    repeat' (first|(refine Rg.callM rfl new1000 .nil ?_; rintro _ _ ⟨b, rfl, rfl⟩)|refine zA ?_|refine Cd.reg ?_|refine Rg.nil ?_|refine zF ?_|refine zG ?_|refine zH ?_|(refine Rg.p (v:=?_) ?_ ?_;rotate_left;exact zE)|(refine Rg.cmp (p:=?_) rfl rfl ?_ ?_;rotate_left;exact zC;intro cv hv)|(refine Rg.r (v:=?_) rfl rfl ?_ ?_;rotate_left;exact zN)|refine zL fun _=>?_|refine Rg.alloc fun _=>?_|refine Rg.a (Mk.lits rfl) fun _=>?_|refine zO (cs:=?_) (K':=?_) ?_|refine zP (cs:=?_) (K':=?_) ?_|(refine zQ (g:=?_) ?_;intro cv hv)|(refine zR (w:=?_) ?_;intro cv hv)|refine zS (v:=?_) ?_|refine zT (v:=?_) ?_|refine Lp.round ?_|refine Cd.draw ?_|refine Dw.nil ?_|refine Dw.guardY rfl ?_|refine Dw.guardN rfl ?_|refine Dw.guardT rfl ?_|(refine Dw.p (v:=?_) ?_ ?_;rotate_left;exact zE)|(refine Dw.cmp (p:=?_) rfl rfl ?_ ?_;rotate_left;exact zC;intro cv hv)|(refine Dw.r (v:=?_) rfl rfl ?_ ?_ ?_;rotate_left;exact zN;exact zM)|refine Dw.a Mk.alloc fun _=>?_|refine Dw.a (Mk.lits rfl) fun _=>?_|(refine zY (g:=?_) ?_;intro cv hv)|refine zW (v:=?_) ?_|refine Cd.condT rfl ?_|refine Cd.condF rfl ?_|((first|refine Cd.cond rfl ?_ ?_|refine Rg.guardS rfl ?_ ?_|refine Dw.guardS rfl ?_ ?_)<;>(intro e;(try simp only [Bool.not_eq_true',Bool.not_eq_false'] at e);subst e;try contradiction))|refine Cd.skip ?_|refine Cd.blk ?_|refine Cd.ext ?_|refine Cd.ret ?_)
    all_goals (first|refine ⟨.inr rfl,_,.t rfl .nil,?_⟩|refine ⟨.inr rfl,_,.t rfl (.t rfl .nil),?_⟩|refine ⟨.inr rfl,_,.t rfl (.t rfl (.t rfl .nil)),?_⟩|refine ⟨.inr rfl,_,.nil,?_⟩|refine ⟨.inl rfl,_,.t rfl .nil,?_⟩|refine ⟨.inl rfl,_,.nil,?_⟩|refine ⟨.inr rfl,_,.cn rfl (by exact zN) .nil,?_⟩|refine ⟨.inr rfl,_,.cn rfl (by exact zN) (.t rfl .nil),?_⟩)
    all_goals (rw [← hv]; rfl)
  | true =>
    rw [hb] at k21
    repeat' (first|(refine Rg.callM rfl new1000 .nil ?_; rintro _ _ ⟨b, rfl, rfl⟩)|refine zA ?_|refine Cd.reg ?_|refine Rg.nil ?_|refine zF ?_|refine zG ?_|refine zH ?_|(refine Rg.p (v:=?_) ?_ ?_;rotate_left;exact zE)|(refine Rg.cmp (p:=?_) rfl rfl ?_ ?_;rotate_left;exact zC;intro cv hv)|(refine Rg.r (v:=?_) rfl rfl ?_ ?_;rotate_left;exact zN)|refine zL fun _=>?_|refine Rg.alloc fun _=>?_|refine Rg.a (Mk.lits rfl) fun _=>?_|refine zO (cs:=?_) (K':=?_) ?_|refine zP (cs:=?_) (K':=?_) ?_|(refine zQ (g:=?_) ?_;intro cv hv)|(refine zR (w:=?_) ?_;intro cv hv)|refine zS (v:=?_) ?_|refine zT (v:=?_) ?_|refine Lp.round ?_|refine Cd.draw ?_|refine Dw.nil ?_|refine Dw.guardY rfl ?_|refine Dw.guardN rfl ?_|refine Dw.guardT rfl ?_|(refine Dw.p (v:=?_) ?_ ?_;rotate_left;exact zE)|(refine Dw.cmp (p:=?_) rfl rfl ?_ ?_;rotate_left;exact zC;intro cv hv)|(refine Dw.r (v:=?_) rfl rfl ?_ ?_ ?_;rotate_left;exact zN;exact zM)|refine Dw.a Mk.alloc fun _=>?_|refine Dw.a (Mk.lits rfl) fun _=>?_|(refine zY (g:=?_) ?_;intro cv hv)|refine zW (v:=?_) ?_|refine Cd.condT rfl ?_|refine Cd.condF rfl ?_|((first|refine Cd.cond rfl ?_ ?_|refine Rg.guardS rfl ?_ ?_|refine Dw.guardS rfl ?_ ?_)<;>(intro e;(try simp only [Bool.not_eq_true',Bool.not_eq_false'] at e);subst e;try contradiction))|refine Cd.skip ?_|refine Cd.blk ?_|refine Cd.ext ?_|refine Cd.ret ?_)
    refine Cd.weak (l2 := sl5 lv n _ b ⟨none, []⟩ 0) ⟨rfl, rfl, rfl, rfl, rfl, rfl, trivial⟩ ?_
    refine Cd.perm (K2 := me5 b 1000 0 _ v ⟨none, []⟩ ⟨none, []⟩ ⟨none, []⟩ []) (by simp [OS.c]; rfl) ?_
    refine Cd.loop (k := ls.length + 1) (loop1 hL hO hll ?_ ?_ (ls.length + 1) 0 _ _ _ _ (by omega) (by omega) (by omega) .nil)
    · intro l' K e
      exact ⟨.inr rfl, _, .t e .nil, rfl⟩
    · intro N F C D FC l' I h30 hN hs
      show Cd _ _ _ _ _ _
      exact fns5_b hL hO hll I h30 hN hs
end Go.Proofs.Ytggpnokhhpnnaaa
