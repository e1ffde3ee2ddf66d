/- Contracts: what is wrong of a unit's code, and where. -/
import Derived.Test.YtmedepnfpiheoaaVerG
import Derived.Test.YtmedepnfpiheoaaVerC
set_option autoImplicit false
set_option maxRecDepth 100000
set_option maxHeartbeats 2000000
set_option linter.unusedVariables false
set_option linter.unusedSimpArgs false
namespace Go.Proofs.Ytmedepnfpiheoaa
open Go Go.Abs
/-- The first instruction that may not run. -/
def firstBad (u : Unt) (p : Proto) : Nat → List Ins → Option Nat
  | _, [] => none
  | pc, x :: r => if mayB u p pc x = true then firstBad u p (pc + 1) r else some pc
theorem firstBad_drop {u : Unt} {p : Proto} {l : List Ins} {i : Nat} {x : Ins} (h : l[i]? = some x) (j : Nat) : firstBad u p j (l.drop i) = if mayB u p j x = true then firstBad u p (j + 1) (l.drop (i + 1)) else some j := by
  obtain ⟨h1, h2⟩ := List.getElem?_eq_some_iff.1 h
  rw [List.drop_eq_getElem_cons h1, h2]; rfl
/-- May it be the last one? -/
def endsB (x : Ins) : Bool := decide (x.op = 37 ∨ x.op = 25)
def protoBad (u : Unt) (p : Proto) : Option Nat := match p.code[p.code.length - 1]? with
  | some x => if endsB x = true then firstBad u p 0 p.code else some (p.code.length - 1)
  | none => some 0
def chk (u : Unt) : Nat → List Proto → Nat × Nat × Nat
  | _, [] => (0, 0, 0)
  | i, p :: r => match protoBad u p with
    | some pc => (14, i, pc)
    | none => chk u (i + 1) r
theorem chk_drop {u : Unt} {l : List Proto} {i : Nat} {p : Proto} (h : l[i]? = some p) (j : Nat) : chk u j (l.drop i) = match protoBad u p with
    | some pc => (14, j, pc)
    | none => chk u (j + 1) (l.drop (i + 1)) := by
  obtain ⟨h1, h2⟩ := List.getElem?_eq_some_iff.1 h
  rw [List.drop_eq_getElem_cons h1, h2]; rfl
def check (u : Unt) : Nat × Nat × Nat := if unitB u = true then chk u 0 u.protos else (4, 0, 0)
def tup3 (t : Nat × Nat × Nat) : AV := .tup [.int .i64 (.ofNat t.1), .int .i64 (.ofNat t.2.1), .int .i64 (.ofNat t.2.2)]
theorem protosB_all {funs : Int} : ∀ {l : List Proto} {i : Nat}, protosB funs i l = true → ∀ p, p ∈ l → ∃ top, protoB p top = true
  | [], _, _, p, hp => by simp at hp
  | q :: l, i, h, p, hp => by
    simp only [protosB, Bool.and_eq_true] at h
    rcases List.mem_cons.1 hp with rfl | hp
    · exact ⟨_, h.1⟩
    · exact protosB_all h.2 p hp
theorem unitB_ok {u : Unt} (h : unitB u = true) : OkN u ∧ ∀ p, p ∈ u.protos → ∀ x, x ∈ p.code → rightI x = true := by
  simp only [unitB, Bool.and_eq_true, decide_eq_true_eq] at h
  obtain ⟨⟨⟨⟨_, _⟩, h1⟩, _, h2⟩, _, h3⟩ := h
  refine ⟨⟨h1.1, by omega, by omega, ?_, ?_⟩, ?_⟩
  · intro p hp
    obtain ⟨top, h4⟩ := protosB_all h3 p hp
    simp only [protoB, shapedB, Bool.and_eq_true, decide_eq_true_eq] at h4
    exact h4.2.1.1.1
  · intro x hx
    have := List.all_eq_true.1 h2 x hx
    simp only [useB, Bool.and_eq_true, decide_eq_true_eq] at this
    exact this.2
  · intro p hp x hx
    obtain ⟨top, h4⟩ := protosB_all h3 p hp
    simp only [protoB, shapedB, Bool.and_eq_true, decide_eq_true_eq] at h4
    exact List.all_eq_true.1 h4.2.2.2 x hx
theorem check8_in {u : Unt} {p : Proto} (hu : OkU u) (hp : OkP p) (hn : OkN u) (hr : ∀ x, x ∈ p.code → rightI x = true) {b1 b8 i : Nat} {Q : AX → SL → Mem → Prop}
    (hret : ∀ l' K pc, firstBad u p 0 p.code = some pc → lkS l' 2 = some (.int .i64 (.ofNat 14)) → lkS l' 3 = some (.int .i64 (.ofNat i)) → lkS l' 4 = some (.int .i64 (.ofNat pc)) → Q .ret l' K)
    (hend : ∀ l', firstBad u p 0 p.code = none → Sub2 [(1, .ptr b1 0 0 5), (14, u.protosV), (15, .int .i64 (.ofNat u.protos.length)), (16, .int .i64 (.ofNat i))] l' → Q (.ext 2) l' [[(b8, .cells (unitR u ++ protoR p) 0 0 false)], boxU b1 u]) :
    ∀ (k j : Nat), p.code.length < j + k → j ≤ p.code.length → firstBad u p j (p.code.drop j) = firstBad u p 0 p.code →
    Lp Try.prog false b8_0 k [(1, .ptr b1 0 0 5), (5, .int .i64 (.ofNat i)), (8, .ptr b8 0 0 11), (14, u.protosV), (15, .int .i64 (.ofNat u.protos.length)), (16, .int .i64 (.ofNat i)), (45, .int .i64 (.ofNat p.code.length)), (46, .int .i64 (.ofNat j))] [[(b8, .cells (unitR u ++ protoR p) 0 0 false)], boxU b1 u] Q := by
  have hl := hp.lcode
  intro k
  induction k with
  | zero => intro j h1 h2; omega
  | succ k ih =>
    intro j h1 h2 h3
    refine Lp.round ?_
    by_cases hj : j < p.code.length
    · obtain ⟨x, hx⟩ : ∃ x, p.code[j]? = some x := ⟨_, List.getElem?_eq_getElem hj⟩
      have c := right13 hu hp hn hx (hr x (List.mem_of_getElem? hx))
      rw [firstBad_drop hx] at h3
      repeat' (first|refine zA ?_|refine Cd.reg ?_|refine Rg.nil ?_|refine zF ?_|refine zG ?_|refine zH ?_|(refine Rg.p (v:=?_) ?_ ?_;rotate_left;exact zE)|(refine Rg.cmp (p:=?_) rfl rfl ?_ ?_;rotate_left;exact zC;intro cv hv)|(refine Rg.r (v:=?_) rfl rfl ?_ ?_;rotate_left;exact zN)|refine zL fun _=>?_|refine Rg.alloc fun _=>?_|refine Rg.a (Mk.lits rfl) fun _=>?_|refine zO (cs:=?_) (K':=?_) ?_|refine zP (cs:=?_) (K':=?_) ?_|(refine zQ (g:=?_) ?_;intro cv hv)|(refine zR (w:=?_) ?_;intro cv hv)|refine zS (v:=?_) ?_|refine zT (v:=?_) ?_|refine Lp.round ?_|refine Cd.draw ?_|refine Dw.nil ?_|refine Dw.guardY rfl ?_|refine Dw.guardN rfl ?_|refine Dw.guardT rfl ?_|(refine Dw.p (v:=?_) ?_ ?_;rotate_left;exact zE)|(refine Dw.cmp (p:=?_) rfl rfl ?_ ?_;rotate_left;exact zC;intro cv hv)|(refine Dw.r (v:=?_) rfl rfl ?_ ?_ ?_;rotate_left;exact zN;exact zM)|refine Dw.a Mk.alloc fun _=>?_|refine Dw.a (Mk.lits rfl) fun _=>?_|(refine zY (g:=?_) ?_;intro cv hv)|refine zW (v:=?_) ?_|refine Cd.condT rfl ?_|refine Cd.condF rfl ?_|((first|refine Cd.cond rfl ?_ ?_|refine Rg.guardS rfl ?_ ?_|refine Dw.guardS rfl ?_ ?_)<;>(intro e;(try simp only [Bool.not_eq_true',Bool.not_eq_false'] at e);subst e;try contradiction))|refine Cd.skip ?_|refine Cd.blk ?_|refine Cd.ext ?_|refine Cd.ret ?_)
      · exact hret _ _ j (by rw [← h3, hv]; rfl) rfl rfl rfl
      · refine Lp.weak ?hw (ih (j + 1) (by omega) (by omega) ?_)
        case hw => exact ⟨rfl, rfl, rfl, rfl, rfl, rfl, rfl, rfl, trivial⟩
        rw [← h3, hv]; rfl
    · repeat' (first|refine zA ?_|refine Cd.reg ?_|refine Rg.nil ?_|refine zF ?_|refine zG ?_|refine zH ?_|(refine Rg.p (v:=?_) ?_ ?_;rotate_left;exact zE)|(refine Rg.cmp (p:=?_) rfl rfl ?_ ?_;rotate_left;exact zC;intro cv hv)|(refine Rg.r (v:=?_) rfl rfl ?_ ?_;rotate_left;exact zN)|refine zL fun _=>?_|refine Rg.alloc fun _=>?_|refine Rg.a (Mk.lits rfl) fun _=>?_|refine zO (cs:=?_) (K':=?_) ?_|refine zP (cs:=?_) (K':=?_) ?_|(refine zQ (g:=?_) ?_;intro cv hv)|(refine zR (w:=?_) ?_;intro cv hv)|refine zS (v:=?_) ?_|refine zT (v:=?_) ?_|refine Lp.round ?_|refine Cd.draw ?_|refine Dw.nil ?_|refine Dw.guardY rfl ?_|refine Dw.guardN rfl ?_|refine Dw.guardT rfl ?_|(refine Dw.p (v:=?_) ?_ ?_;rotate_left;exact zE)|(refine Dw.cmp (p:=?_) rfl rfl ?_ ?_;rotate_left;exact zC;intro cv hv)|(refine Dw.r (v:=?_) rfl rfl ?_ ?_ ?_;rotate_left;exact zN;exact zM)|refine Dw.a Mk.alloc fun _=>?_|refine Dw.a (Mk.lits rfl) fun _=>?_|(refine zY (g:=?_) ?_;intro cv hv)|refine zW (v:=?_) ?_|refine Cd.condT rfl ?_|refine Cd.condF rfl ?_|((first|refine Cd.cond rfl ?_ ?_|refine Rg.guardS rfl ?_ ?_|refine Dw.guardS rfl ?_ ?_)<;>(intro e;(try simp only [Bool.not_eq_true',Bool.not_eq_false'] at e);subst e;try contradiction))|refine Cd.skip ?_|refine Cd.blk ?_|refine Cd.ext ?_|refine Cd.ret ?_)
      exact hend _ (by rw [← h3, List.drop_of_length_le (by omega)]; rfl) ⟨rfl, rfl, rfl, rfl, trivial⟩
theorem check8_out {u : Unt} (hu : OkU u) (hn : OkN u) (hr : ∀ p, p ∈ u.protos → ∀ x, x ∈ p.code → rightI x = true) {b1 : Nat} {Q : AX → SL → Mem → Prop}
    (hret : ∀ l' K i pc, chk u 0 u.protos = (14, i, pc) → lkS l' 2 = some (.int .i64 (.ofNat 14)) → lkS l' 3 = some (.int .i64 (.ofNat i)) → lkS l' 4 = some (.int .i64 (.ofNat pc)) → Q .ret l' K)
    (hend : ∀ l' K, chk u 0 u.protos = (0, 0, 0) → Q (.ext 0) l' K) :
    ∀ (k i : Nat), u.protos.length < i + k → i ≤ u.protos.length → chk u i (u.protos.drop i) = chk u 0 u.protos →
    Lp Try.prog false b8_1 k [(1, .ptr b1 0 0 5), (14, u.protosV), (15, .int .i64 (.ofNat u.protos.length)), (16, .int .i64 (.ofNat i))] [boxU b1 u] Q := by
  have hl := hu.lprotos
  intro k
  induction k with
  | zero => intro j h1 h2; omega
  | succ k ih =>
    intro i h1 h2 h3
    refine Lp.round ?_
    by_cases hi : i < u.protos.length
    · obtain ⟨p, hx⟩ : ∃ p, u.protos[i]? = some p := ⟨_, List.getElem?_eq_getElem hi⟩
      have hm := List.mem_of_getElem? hx
      have hp := hu.ps p hm
      obtain ⟨m1, m2, m3⟩ := hp.lens
      have q1 := hu.protos.iadr (i := i) (r := protoR p) (k := .i64) (by rw [List.getElem?_map, hx]; rfl)
      rw [chk_drop hx] at h3
      by_cases hc : p.code.length = 0
      · have hpb : protoBad u p = some 0 := by rw [protoBad, List.getElem?_eq_none (by omega)]
        rw [hpb] at h3
        rw [hc] at m1
        have q2 : abin .sub (.int .i64 (.ofNat 0)) (.int .i64 (.ofNat 1)) = some (.int .i64 (.negSucc 0)) := rfl
        have q3 : amax .i64 (.ofNat 0) [.int .i64 (.negSucc 0)] = some (.int .i64 (.ofNat 0)) := rfl
        repeat' (first|refine zA ?_|refine Cd.reg ?_|refine Rg.nil ?_|refine zF ?_|refine zG ?_|refine zH ?_|(refine Rg.p (v:=?_) ?_ ?_;rotate_left;exact zE)|(refine Rg.cmp (p:=?_) rfl rfl ?_ ?_;rotate_left;exact zC;intro cv hv)|(refine Rg.r (v:=?_) rfl rfl ?_ ?_;rotate_left;exact zN)|refine zL fun _=>?_|refine Rg.alloc fun _=>?_|refine Rg.a (Mk.lits rfl) fun _=>?_|refine zO (cs:=?_) (K':=?_) ?_|refine zP (cs:=?_) (K':=?_) ?_|(refine zQ (g:=?_) ?_;intro cv hv)|(refine zR (w:=?_) ?_;intro cv hv)|refine zS (v:=?_) ?_|refine zT (v:=?_) ?_|refine Lp.round ?_|refine Cd.draw ?_|refine Dw.nil ?_|refine Dw.guardY rfl ?_|refine Dw.guardN rfl ?_|refine Dw.guardT rfl ?_|(refine Dw.p (v:=?_) ?_ ?_;rotate_left;exact zE)|(refine Dw.cmp (p:=?_) rfl rfl ?_ ?_;rotate_left;exact zC;intro cv hv)|(refine Dw.r (v:=?_) rfl rfl ?_ ?_ ?_;rotate_left;exact zN;exact zM)|refine Dw.a Mk.alloc fun _=>?_|refine Dw.a (Mk.lits rfl) fun _=>?_|(refine zY (g:=?_) ?_;intro cv hv)|refine zW (v:=?_) ?_|refine Cd.condT rfl ?_|refine Cd.condF rfl ?_|((first|refine Cd.cond rfl ?_ ?_|refine Rg.guardS rfl ?_ ?_|refine Dw.guardS rfl ?_ ?_)<;>(intro e;(try simp only [Bool.not_eq_true',Bool.not_eq_false'] at e);subst e;try contradiction))|refine Cd.skip ?_|refine Cd.blk ?_|refine Cd.ext ?_|refine Cd.ret ?_)
        exact hret _ _ i 0 h3.symm rfl rfl rfl
      · obtain ⟨y, hy⟩ : ∃ y, p.code[p.code.length - 1]? = some y := ⟨_, List.getElem?_eq_getElem (by omega)⟩
        have q2 := hp.code.iadr (i := p.code.length - 1) (r := insR y) (k := .i64) (by rw [List.getElem?_map, hy]; rfl)
        have c := ends12 y
        have hlc := hp.lcode
        cases he : endsB y with
        | false =>
          have hpb : protoBad u p = some (p.code.length - 1) := by rw [protoBad, hy]; simp [he]
          rw [hpb] at h3
          rw [show decide (y.op = 37 ∨ y.op = 25) = false from he] at c
          have q3 : amax .i64 (.ofNat 0) [.int .i64 (.ofNat (p.code.length - 1))] = some (.int .i64 (.ofNat (p.code.length - 1))) := by rw [amax2]; first | (congr 2; done) | (congr 2; simp; done) | (congr 2; simp; omega)
          repeat' (first|refine zA ?_|refine Cd.reg ?_|refine Rg.nil ?_|refine zF ?_|refine zG ?_|refine zH ?_|(refine Rg.p (v:=?_) ?_ ?_;rotate_left;exact zE)|(refine Rg.cmp (p:=?_) rfl rfl ?_ ?_;rotate_left;exact zC;intro cv hv)|(refine Rg.r (v:=?_) rfl rfl ?_ ?_;rotate_left;exact zN)|refine zL fun _=>?_|refine Rg.alloc fun _=>?_|refine Rg.a (Mk.lits rfl) fun _=>?_|refine zO (cs:=?_) (K':=?_) ?_|refine zP (cs:=?_) (K':=?_) ?_|(refine zQ (g:=?_) ?_;intro cv hv)|(refine zR (w:=?_) ?_;intro cv hv)|refine zS (v:=?_) ?_|refine zT (v:=?_) ?_|refine Lp.round ?_|refine Cd.draw ?_|refine Dw.nil ?_|refine Dw.guardY rfl ?_|refine Dw.guardN rfl ?_|refine Dw.guardT rfl ?_|(refine Dw.p (v:=?_) ?_ ?_;rotate_left;exact zE)|(refine Dw.cmp (p:=?_) rfl rfl ?_ ?_;rotate_left;exact zC;intro cv hv)|(refine Dw.r (v:=?_) rfl rfl ?_ ?_ ?_;rotate_left;exact zN;exact zM)|refine Dw.a Mk.alloc fun _=>?_|refine Dw.a (Mk.lits rfl) fun _=>?_|(refine zY (g:=?_) ?_;intro cv hv)|refine zW (v:=?_) ?_|refine Cd.condT rfl ?_|refine Cd.condF rfl ?_|((first|refine Cd.cond rfl ?_ ?_|refine Rg.guardS rfl ?_ ?_|refine Dw.guardS rfl ?_ ?_)<;>(intro e;(try simp only [Bool.not_eq_true',Bool.not_eq_false'] at e);subst e;try contradiction))|refine Cd.skip ?_|refine Cd.blk ?_|refine Cd.ext ?_|refine Cd.ret ?_)
          exact hret _ _ i (p.code.length - 1) h3.symm rfl rfl rfl
        | true =>
          have hpb : protoBad u p = firstBad u p 0 p.code := by rw [protoBad, hy]; simp [he]
          rw [hpb] at h3
          rw [show decide (y.op = 37 ∨ y.op = 25) = true from he] at c
          repeat' (first|(refine stopAt (c := r8_10) ?_)|refine zA ?_|refine Cd.reg ?_|refine Rg.nil ?_|refine zF ?_|refine zG ?_|refine zH ?_|(refine Rg.p (v:=?_) ?_ ?_;rotate_left;exact zE)|(refine Rg.cmp (p:=?_) rfl rfl ?_ ?_;rotate_left;exact zC;intro cv hv)|(refine Rg.r (v:=?_) rfl rfl ?_ ?_;rotate_left;exact zN)|refine zL fun _=>?_|refine Rg.alloc fun _=>?_|refine Rg.a (Mk.lits rfl) fun _=>?_|refine zO (cs:=?_) (K':=?_) ?_|refine zP (cs:=?_) (K':=?_) ?_|(refine zQ (g:=?_) ?_;intro cv hv)|(refine zR (w:=?_) ?_;intro cv hv)|refine zS (v:=?_) ?_|refine zT (v:=?_) ?_|refine Lp.round ?_|refine Cd.draw ?_|refine Dw.nil ?_|refine Dw.guardY rfl ?_|refine Dw.guardN rfl ?_|refine Dw.guardT rfl ?_|(refine Dw.p (v:=?_) ?_ ?_;rotate_left;exact zE)|(refine Dw.cmp (p:=?_) rfl rfl ?_ ?_;rotate_left;exact zC;intro cv hv)|(refine Dw.r (v:=?_) rfl rfl ?_ ?_ ?_;rotate_left;exact zN;exact zM)|refine Dw.a Mk.alloc fun _=>?_|refine Dw.a (Mk.lits rfl) fun _=>?_|(refine zY (g:=?_) ?_;intro cv hv)|refine zW (v:=?_) ?_|refine Cd.condT rfl ?_|refine Cd.condF rfl ?_|((first|refine Cd.cond rfl ?_ ?_|refine Rg.guardS rfl ?_ ?_|refine Dw.guardS rfl ?_ ?_)<;>(intro e;(try simp only [Bool.not_eq_true',Bool.not_eq_false'] at e);subst e;try contradiction))|refine Cd.skip ?_|refine Cd.blk ?_|refine Cd.ext ?_|refine Cd.ret ?_)
          refine ⟨?_⟩
          rename_i b6 b8
          refine Cd.weak (l2 := [(1, _), (5, _), (6, _), (8, _), (14, _), (15, _), (16, _)]) ⟨rfl, rfl, rfl, rfl, rfl, rfl, rfl, trivial⟩ ?_
          repeat' (first|refine zA ?_|refine Cd.reg ?_|refine Rg.nil ?_|refine zF ?_|refine zG ?_|refine zH ?_|(refine Rg.p (v:=?_) ?_ ?_;rotate_left;exact zE)|(refine Rg.cmp (p:=?_) rfl rfl ?_ ?_;rotate_left;exact zC;intro cv hv)|(refine Rg.r (v:=?_) rfl rfl ?_ ?_;rotate_left;exact zN)|refine zL fun _=>?_|refine Rg.alloc fun _=>?_|refine Rg.a (Mk.lits rfl) fun _=>?_|refine zO (cs:=?_) (K':=?_) ?_|refine zP (cs:=?_) (K':=?_) ?_|(refine zQ (g:=?_) ?_;intro cv hv)|(refine zR (w:=?_) ?_;intro cv hv)|refine zS (v:=?_) ?_|refine zT (v:=?_) ?_|refine Lp.round ?_|refine Cd.draw ?_|refine Dw.nil ?_|refine Dw.guardY rfl ?_|refine Dw.guardN rfl ?_|refine Dw.guardT rfl ?_|(refine Dw.p (v:=?_) ?_ ?_;rotate_left;exact zE)|(refine Dw.cmp (p:=?_) rfl rfl ?_ ?_;rotate_left;exact zC;intro cv hv)|(refine Dw.r (v:=?_) rfl rfl ?_ ?_ ?_;rotate_left;exact zN;exact zM)|refine Dw.a Mk.alloc fun _=>?_|refine Dw.a (Mk.lits rfl) fun _=>?_|(refine zY (g:=?_) ?_;intro cv hv)|refine zW (v:=?_) ?_|refine Cd.condT rfl ?_|refine Cd.condF rfl ?_|((first|refine Cd.cond rfl ?_ ?_|refine Rg.guardS rfl ?_ ?_|refine Dw.guardS rfl ?_ ?_)<;>(intro e;(try simp only [Bool.not_eq_true',Bool.not_eq_false'] at e);subst e;try contradiction))|refine Cd.skip ?_|refine Cd.blk ?_|refine Cd.ext ?_|refine Cd.ret ?_)
          refine Cd.weak (l2 := [(1, _), (5, _), (8, _), (14, _), (15, _), (16, _), (45, _), (46, _)]) ⟨rfl, rfl, rfl, rfl, rfl, rfl, rfl, rfl, trivial⟩ ?_
          refine Cd.drop (m := [[(b8, .cells (unitR u ++ protoR p) 0 0 false)], boxU b1 u]) (.cons .here (.cons (.there .here) .nil)) (Cd.loop (k := p.code.length + 1) (check8_in hu hp hn (hr p hm) ?_ ?_ (p.code.length + 1) 0 (by omega) (by omega) rfl))
          · intro l' K pc e1 e2 e3 e4
            rw [e1] at h3
            exact hret _ _ i pc h3.symm e2 e3 e4
          · intro l' e1 hs
            rw [e1] at h3
            show Cd _ _ _ _ _ _
            refine Cd.weak hs ?_
            repeat' (first|refine zA ?_|refine Cd.reg ?_|refine Rg.nil ?_|refine zF ?_|refine zG ?_|refine zH ?_|(refine Rg.p (v:=?_) ?_ ?_;rotate_left;exact zE)|(refine Rg.cmp (p:=?_) rfl rfl ?_ ?_;rotate_left;exact zC;intro cv hv)|(refine Rg.r (v:=?_) rfl rfl ?_ ?_;rotate_left;exact zN)|refine zL fun _=>?_|refine Rg.alloc fun _=>?_|refine Rg.a (Mk.lits rfl) fun _=>?_|refine zO (cs:=?_) (K':=?_) ?_|refine zP (cs:=?_) (K':=?_) ?_|(refine zQ (g:=?_) ?_;intro cv hv)|(refine zR (w:=?_) ?_;intro cv hv)|refine zS (v:=?_) ?_|refine zT (v:=?_) ?_|refine Lp.round ?_|refine Cd.draw ?_|refine Dw.nil ?_|refine Dw.guardY rfl ?_|refine Dw.guardN rfl ?_|refine Dw.guardT rfl ?_|(refine Dw.p (v:=?_) ?_ ?_;rotate_left;exact zE)|(refine Dw.cmp (p:=?_) rfl rfl ?_ ?_;rotate_left;exact zC;intro cv hv)|(refine Dw.r (v:=?_) rfl rfl ?_ ?_ ?_;rotate_left;exact zN;exact zM)|refine Dw.a Mk.alloc fun _=>?_|refine Dw.a (Mk.lits rfl) fun _=>?_|(refine zY (g:=?_) ?_;intro cv hv)|refine zW (v:=?_) ?_|refine Cd.condT rfl ?_|refine Cd.condF rfl ?_|((first|refine Cd.cond rfl ?_ ?_|refine Rg.guardS rfl ?_ ?_|refine Dw.guardS rfl ?_ ?_)<;>(intro e;(try simp only [Bool.not_eq_true',Bool.not_eq_false'] at e);subst e;try contradiction))|refine Cd.skip ?_|refine Cd.blk ?_|refine Cd.ext ?_|refine Cd.ret ?_)
            refine Lp.drop (m := [boxU b1 u]) (.cons (.there .here) .nil) (Lp.weak ?hw (ih (i + 1) (by omega) (by omega) h3))
            case hw => exact ⟨rfl, rfl, rfl, rfl, trivial⟩
    · repeat' (first|refine zA ?_|refine Cd.reg ?_|refine Rg.nil ?_|refine zF ?_|refine zG ?_|refine zH ?_|(refine Rg.p (v:=?_) ?_ ?_;rotate_left;exact zE)|(refine Rg.cmp (p:=?_) rfl rfl ?_ ?_;rotate_left;exact zC;intro cv hv)|(refine Rg.r (v:=?_) rfl rfl ?_ ?_;rotate_left;exact zN)|refine zL fun _=>?_|refine Rg.alloc fun _=>?_|refine Rg.a (Mk.lits rfl) fun _=>?_|refine zO (cs:=?_) (K':=?_) ?_|refine zP (cs:=?_) (K':=?_) ?_|(refine zQ (g:=?_) ?_;intro cv hv)|(refine zR (w:=?_) ?_;intro cv hv)|refine zS (v:=?_) ?_|refine zT (v:=?_) ?_|refine Lp.round ?_|refine Cd.draw ?_|refine Dw.nil ?_|refine Dw.guardY rfl ?_|refine Dw.guardN rfl ?_|refine Dw.guardT rfl ?_|(refine Dw.p (v:=?_) ?_ ?_;rotate_left;exact zE)|(refine Dw.cmp (p:=?_) rfl rfl ?_ ?_;rotate_left;exact zC;intro cv hv)|(refine Dw.r (v:=?_) rfl rfl ?_ ?_ ?_;rotate_left;exact zN;exact zM)|refine Dw.a Mk.alloc fun _=>?_|refine Dw.a (Mk.lits rfl) fun _=>?_|(refine zY (g:=?_) ?_;intro cv hv)|refine zW (v:=?_) ?_|refine Cd.condT rfl ?_|refine Cd.condF rfl ?_|((first|refine Cd.cond rfl ?_ ?_|refine Rg.guardS rfl ?_ ?_|refine Dw.guardS rfl ?_ ?_)<;>(intro e;(try simp only [Bool.not_eq_true',Bool.not_eq_false'] at e);subst e;try contradiction))|refine Cd.skip ?_|refine Cd.blk ?_|refine Cd.ext ?_|refine Cd.ret ?_)
      exact hend _ _ (by rw [← h3, List.drop_of_length_le (by omega)]; rfl)
theorem check8 {u : Unt} (hu : OkU u) : PT Try.prog false 8 [.agg (unitR u)] (tup3 (check u)) := by
  have hl := hu.lprotos
  obtain ⟨n1, n2⟩ := hu.lens
  refine PT.of (CT.enter mixed comp8 (Nat.le_of_ble_eq_true rfl) ?_)
  cases hb : unitB u with
  | false =>
    have c := right11 hu
    rw [hb] at c
    rw [show check u = (4, 0, 0) by rw [check, hb]; rfl]
    repeat' (first|refine zA ?_|refine Cd.reg ?_|refine Rg.nil ?_|refine zF ?_|refine zG ?_|refine zH ?_|(refine Rg.p (v:=?_) ?_ ?_;rotate_left;exact zE)|(refine Rg.cmp (p:=?_) rfl rfl ?_ ?_;rotate_left;exact zC;intro cv hv)|(refine Rg.r (v:=?_) rfl rfl ?_ ?_;rotate_left;exact zN)|refine zL fun _=>?_|refine Rg.alloc fun _=>?_|refine Rg.a (Mk.lits rfl) fun _=>?_|refine zO (cs:=?_) (K':=?_) ?_|refine zP (cs:=?_) (K':=?_) ?_|(refine zQ (g:=?_) ?_;intro cv hv)|(refine zR (w:=?_) ?_;intro cv hv)|refine zS (v:=?_) ?_|refine zT (v:=?_) ?_|refine Lp.round ?_|refine Cd.draw ?_|refine Dw.nil ?_|refine Dw.guardY rfl ?_|refine Dw.guardN rfl ?_|refine Dw.guardT rfl ?_|(refine Dw.p (v:=?_) ?_ ?_;rotate_left;exact zE)|(refine Dw.cmp (p:=?_) rfl rfl ?_ ?_;rotate_left;exact zC;intro cv hv)|(refine Dw.r (v:=?_) rfl rfl ?_ ?_ ?_;rotate_left;exact zN;exact zM)|refine Dw.a Mk.alloc fun _=>?_|refine Dw.a (Mk.lits rfl) fun _=>?_|(refine zY (g:=?_) ?_;intro cv hv)|refine zW (v:=?_) ?_|refine Cd.condT rfl ?_|refine Cd.condF rfl ?_|((first|refine Cd.cond rfl ?_ ?_|refine Rg.guardS rfl ?_ ?_|refine Dw.guardS rfl ?_ ?_)<;>(intro e;(try simp only [Bool.not_eq_true',Bool.not_eq_false'] at e);subst e;try contradiction))|refine Cd.skip ?_|refine Cd.blk ?_|refine Cd.ext ?_|refine Cd.ret ?_)
    all_goals (first|refine ⟨.inr rfl,_,.t rfl .nil,?_⟩|refine ⟨.inr rfl,_,.t rfl (.t rfl .nil),?_⟩|refine ⟨.inr rfl,_,.t rfl (.t rfl (.t rfl .nil)),?_⟩|refine ⟨.inr rfl,_,.nil,?_⟩|refine ⟨.inl rfl,_,.t rfl .nil,?_⟩|refine ⟨.inl rfl,_,.nil,?_⟩|refine ⟨.inr rfl,_,.cn rfl (by exact zN) .nil,?_⟩)
    all_goals rfl
  | true =>
    have c := right11 hu
    rw [hb] at c
    have hn := unitB_ok hb
    rw [show check u = chk u 0 u.protos by rw [check, hb]; rfl]
    repeat' (first|refine zA ?_|refine Cd.reg ?_|refine Rg.nil ?_|refine zF ?_|refine zG ?_|refine zH ?_|(refine Rg.p (v:=?_) ?_ ?_;rotate_left;exact zE)|(refine Rg.cmp (p:=?_) rfl rfl ?_ ?_;rotate_left;exact zC;intro cv hv)|(refine Rg.r (v:=?_) rfl rfl ?_ ?_;rotate_left;exact zN)|refine zL fun _=>?_|refine Rg.alloc fun _=>?_|refine Rg.a (Mk.lits rfl) fun _=>?_|refine zO (cs:=?_) (K':=?_) ?_|refine zP (cs:=?_) (K':=?_) ?_|(refine zQ (g:=?_) ?_;intro cv hv)|(refine zR (w:=?_) ?_;intro cv hv)|refine zS (v:=?_) ?_|refine zT (v:=?_) ?_|refine Lp.round ?_|refine Cd.draw ?_|refine Dw.nil ?_|refine Dw.guardY rfl ?_|refine Dw.guardN rfl ?_|refine Dw.guardT rfl ?_|(refine Dw.p (v:=?_) ?_ ?_;rotate_left;exact zE)|(refine Dw.cmp (p:=?_) rfl rfl ?_ ?_;rotate_left;exact zC;intro cv hv)|(refine Dw.r (v:=?_) rfl rfl ?_ ?_ ?_;rotate_left;exact zN;exact zM)|refine Dw.a Mk.alloc fun _=>?_|refine Dw.a (Mk.lits rfl) fun _=>?_|(refine zY (g:=?_) ?_;intro cv hv)|refine zW (v:=?_) ?_|refine Cd.condT rfl ?_|refine Cd.condF rfl ?_|((first|refine Cd.cond rfl ?_ ?_|refine Rg.guardS rfl ?_ ?_|refine Dw.guardS rfl ?_ ?_)<;>(intro e;(try simp only [Bool.not_eq_true',Bool.not_eq_false'] at e);subst e;try contradiction))|refine Cd.skip ?_|refine Cd.blk ?_|refine Cd.ext ?_|refine Cd.ret ?_)
    rename_i b1
    refine Cd.weak (l2 := [(1, _), (14, _), (15, _), (16, _)]) ⟨rfl, rfl, rfl, rfl, trivial⟩ ?_
    refine Cd.loop (k := u.protos.length + 1) (Lp.weak ?hw (check8_out hu hn.1 hn.2 ?_ ?_ (u.protos.length + 1) 0 (by omega) (by omega) rfl))
    case hw => exact ⟨rfl, rfl, rfl, rfl, trivial⟩
    · intro l' K i pc e1 e2 e3 e4
      rw [e1]
      exact ⟨.inr rfl, _, .t e2 (.t e3 (.t e4 .nil)), rfl⟩
    · intro l' K e1
      rw [e1]
      show Cd _ _ _ _ _ _
      refine Cd.weak (l2 := []) trivial ?_
      repeat' (first|refine zA ?_|refine Cd.reg ?_|refine Rg.nil ?_|refine zF ?_|refine zG ?_|refine zH ?_|(refine Rg.p (v:=?_) ?_ ?_;rotate_left;exact zE)|(refine Rg.cmp (p:=?_) rfl rfl ?_ ?_;rotate_left;exact zC;intro cv hv)|(refine Rg.r (v:=?_) rfl rfl ?_ ?_;rotate_left;exact zN)|refine zL fun _=>?_|refine Rg.alloc fun _=>?_|refine Rg.a (Mk.lits rfl) fun _=>?_|refine zO (cs:=?_) (K':=?_) ?_|refine zP (cs:=?_) (K':=?_) ?_|(refine zQ (g:=?_) ?_;intro cv hv)|(refine zR (w:=?_) ?_;intro cv hv)|refine zS (v:=?_) ?_|refine zT (v:=?_) ?_|refine Lp.round ?_|refine Cd.draw ?_|refine Dw.nil ?_|refine Dw.guardY rfl ?_|refine Dw.guardN rfl ?_|refine Dw.guardT rfl ?_|(refine Dw.p (v:=?_) ?_ ?_;rotate_left;exact zE)|(refine Dw.cmp (p:=?_) rfl rfl ?_ ?_;rotate_left;exact zC;intro cv hv)|(refine Dw.r (v:=?_) rfl rfl ?_ ?_ ?_;rotate_left;exact zN;exact zM)|refine Dw.a Mk.alloc fun _=>?_|refine Dw.a (Mk.lits rfl) fun _=>?_|(refine zY (g:=?_) ?_;intro cv hv)|refine zW (v:=?_) ?_|refine Cd.condT rfl ?_|refine Cd.condF rfl ?_|((first|refine Cd.cond rfl ?_ ?_|refine Rg.guardS rfl ?_ ?_|refine Dw.guardS rfl ?_ ?_)<;>(intro e;(try simp only [Bool.not_eq_true',Bool.not_eq_false'] at e);subst e;try contradiction))|refine Cd.skip ?_|refine Cd.blk ?_|refine Cd.ext ?_|refine Cd.ret ?_)
      all_goals (first|refine ⟨.inr rfl,_,.t rfl .nil,?_⟩|refine ⟨.inr rfl,_,.t rfl (.t rfl .nil),?_⟩|refine ⟨.inr rfl,_,.t rfl (.t rfl (.t rfl .nil)),?_⟩|refine ⟨.inr rfl,_,.nil,?_⟩|refine ⟨.inl rfl,_,.t rfl .nil,?_⟩|refine ⟨.inl rfl,_,.nil,?_⟩|refine ⟨.inr rfl,_,.cn rfl (by exact zN) .nil,?_⟩)
      all_goals rfl
end Go.Proofs.Ytmedepnfpiheoaa

namespace Go.Proofs.Ytmedepnfpiheoaa
open Go Go.Abs
theorem addX (x y : Int) : ∃ z, abin .add (.int .i64 x) (.int .i64 y) = some (.int .i64 z) := ⟨_, rfl⟩
theorem light6_uses {u : Unt} (hu : OkU u) {b : Nat} {Q : AX → SL → Mem → Prop} (hret : ∀ l' K c, lkS l' 2 = some (.bool c) → Q .ret l' K) (hend : ∀ l', lkS l' 1 = some (.ptr b 0 0 5) → Q (.ext 0) l' [boxU b u]) :
    ∀ (k i : Nat), u.uses.length < i + k → i ≤ u.uses.length → Lp Try.prog false b6_0 k [(1, .ptr b 0 0 5), (3, .int .i64 (.ofNat i))] [boxU b u] Q := by
  have hl := hu.luses
  obtain ⟨l1, l2⟩ := hu.lens
  intro k
  induction k with
  | zero => intro i h1 h2; omega
  | succ k ih =>
    intro i h1 h2
    refine Lp.round ?_
    by_cases hi : i < u.uses.length
    · obtain ⟨x, hx⟩ : ∃ x, u.uses[i]? = some x := ⟨_, List.getElem?_eq_getElem hi⟩
      have q1 := hu.uses.iadr (i := i) (r := useR x) (k := .i64) (by rw [List.getElem?_map, hx]; rfl)
      repeat' (first|refine zA ?_|refine Cd.reg ?_|refine Rg.nil ?_|refine zF ?_|refine zG ?_|refine zH ?_|(refine Rg.p (v:=?_) ?_ ?_;rotate_left;exact zE)|(refine Rg.cmp (p:=?_) rfl rfl ?_ ?_;rotate_left;exact zC;intro cv hv)|(refine Rg.r (v:=?_) rfl rfl ?_ ?_;rotate_left;exact zN)|refine zL fun _=>?_|refine Rg.alloc fun _=>?_|refine Rg.a (Mk.lits rfl) fun _=>?_|refine zO (cs:=?_) (K':=?_) ?_|refine zP (cs:=?_) (K':=?_) ?_|(refine zQ (g:=?_) ?_;intro cv hv)|(refine zR (w:=?_) ?_;intro cv hv)|refine zS (v:=?_) ?_|refine zT (v:=?_) ?_|refine Lp.round ?_|refine Cd.draw ?_|refine Dw.nil ?_|refine Dw.guardY rfl ?_|refine Dw.guardN rfl ?_|refine Dw.guardT rfl ?_|(refine Dw.p (v:=?_) ?_ ?_;rotate_left;exact zE)|(refine Dw.cmp (p:=?_) rfl rfl ?_ ?_;rotate_left;exact zC;intro cv hv)|(refine Dw.r (v:=?_) rfl rfl ?_ ?_ ?_;rotate_left;exact zN;exact zM)|refine Dw.a Mk.alloc fun _=>?_|refine Dw.a (Mk.lits rfl) fun _=>?_|(refine zY (g:=?_) ?_;intro cv hv)|refine zW (v:=?_) ?_|refine Cd.condT rfl ?_|refine Cd.condF rfl ?_|((first|refine Cd.cond rfl ?_ ?_|refine Rg.guardS rfl ?_ ?_|refine Dw.guardS rfl ?_ ?_)<;>(intro e;(try simp only [Bool.not_eq_true',Bool.not_eq_false'] at e);subst e;try contradiction))|refine Cd.skip ?_|refine Cd.blk ?_|refine Cd.ext ?_|refine Cd.ret ?_)
      all_goals first | exact hret _ _ _ rfl | skip
      all_goals (refine Lp.weak ?hw (ih (i + 1) (by omega) (by omega)); exact ⟨rfl, rfl, trivial⟩)
    · repeat' (first|refine zA ?_|refine Cd.reg ?_|refine Rg.nil ?_|refine zF ?_|refine zG ?_|refine zH ?_|(refine Rg.p (v:=?_) ?_ ?_;rotate_left;exact zE)|(refine Rg.cmp (p:=?_) rfl rfl ?_ ?_;rotate_left;exact zC;intro cv hv)|(refine Rg.r (v:=?_) rfl rfl ?_ ?_;rotate_left;exact zN)|refine zL fun _=>?_|refine Rg.alloc fun _=>?_|refine Rg.a (Mk.lits rfl) fun _=>?_|refine zO (cs:=?_) (K':=?_) ?_|refine zP (cs:=?_) (K':=?_) ?_|(refine zQ (g:=?_) ?_;intro cv hv)|(refine zR (w:=?_) ?_;intro cv hv)|refine zS (v:=?_) ?_|refine zT (v:=?_) ?_|refine Lp.round ?_|refine Cd.draw ?_|refine Dw.nil ?_|refine Dw.guardY rfl ?_|refine Dw.guardN rfl ?_|refine Dw.guardT rfl ?_|(refine Dw.p (v:=?_) ?_ ?_;rotate_left;exact zE)|(refine Dw.cmp (p:=?_) rfl rfl ?_ ?_;rotate_left;exact zC;intro cv hv)|(refine Dw.r (v:=?_) rfl rfl ?_ ?_ ?_;rotate_left;exact zN;exact zM)|refine Dw.a Mk.alloc fun _=>?_|refine Dw.a (Mk.lits rfl) fun _=>?_|(refine zY (g:=?_) ?_;intro cv hv)|refine zW (v:=?_) ?_|refine Cd.condT rfl ?_|refine Cd.condF rfl ?_|((first|refine Cd.cond rfl ?_ ?_|refine Rg.guardS rfl ?_ ?_|refine Dw.guardS rfl ?_ ?_)<;>(intro e;(try simp only [Bool.not_eq_true',Bool.not_eq_false'] at e);subst e;try contradiction))|refine Cd.skip ?_|refine Cd.blk ?_|refine Cd.ext ?_|refine Cd.ret ?_)
      exact hend _ rfl
theorem light6_consts {u : Unt} {p : Proto} (hp : OkP p) {b b6 i : Nat} {z : Int} {Q : AX → SL → Mem → Prop} (hret : ∀ l' K c, lkS l' 2 = some (.bool c) → Q .ret l' K)
    (hend : ∀ l', Sub2 [(1, .ptr b 0 0 5), (4, .int .i64 z), (5, .int .i64 (.ofNat i)), (6, .ptr b6 0 0 6)] l' → Q (.ext 4) l' [[(b6, .cells (protoR p) 0 0 false)], boxU b u]) :
    ∀ (k j : Nat), p.consts.length < j + k → j ≤ p.consts.length → Lp Try.prog false b6_1 k [(1, .ptr b 0 0 5), (4, .int .i64 z), (5, .int .i64 (.ofNat i)), (6, .ptr b6 0 0 6), (7, .int .i64 (.ofNat j))] [[(b6, .cells (protoR p) 0 0 false)], boxU b u] Q := by
  have hl := hp.lconsts
  obtain ⟨l1, l2, l3⟩ := hp.lens
  intro k
  induction k with
  | zero => intro i h1 h2; omega
  | succ k ih =>
    intro j h1 h2
    refine Lp.round ?_
    by_cases hi : j < p.consts.length
    · obtain ⟨x, hx⟩ : ∃ x, p.consts[j]? = some x := ⟨_, List.getElem?_eq_getElem hi⟩
      have q1 := hp.consts.iadr (i := j) (r := valR x) (k := .i64) (by rw [List.getElem?_map, hx]; rfl)
      repeat' (first|refine zA ?_|refine Cd.reg ?_|refine Rg.nil ?_|refine zF ?_|refine zG ?_|refine zH ?_|(refine Rg.p (v:=?_) ?_ ?_;rotate_left;exact zE)|(refine Rg.cmp (p:=?_) rfl rfl ?_ ?_;rotate_left;exact zC;intro cv hv)|(refine Rg.r (v:=?_) rfl rfl ?_ ?_;rotate_left;exact zN)|refine zL fun _=>?_|refine Rg.alloc fun _=>?_|refine Rg.a (Mk.lits rfl) fun _=>?_|refine zO (cs:=?_) (K':=?_) ?_|refine zP (cs:=?_) (K':=?_) ?_|(refine zQ (g:=?_) ?_;intro cv hv)|(refine zR (w:=?_) ?_;intro cv hv)|refine zS (v:=?_) ?_|refine zT (v:=?_) ?_|refine Lp.round ?_|refine Cd.draw ?_|refine Dw.nil ?_|refine Dw.guardY rfl ?_|refine Dw.guardN rfl ?_|refine Dw.guardT rfl ?_|(refine Dw.p (v:=?_) ?_ ?_;rotate_left;exact zE)|(refine Dw.cmp (p:=?_) rfl rfl ?_ ?_;rotate_left;exact zC;intro cv hv)|(refine Dw.r (v:=?_) rfl rfl ?_ ?_ ?_;rotate_left;exact zN;exact zM)|refine Dw.a Mk.alloc fun _=>?_|refine Dw.a (Mk.lits rfl) fun _=>?_|(refine zY (g:=?_) ?_;intro cv hv)|refine zW (v:=?_) ?_|refine Cd.condT rfl ?_|refine Cd.condF rfl ?_|((first|refine Cd.cond rfl ?_ ?_|refine Rg.guardS rfl ?_ ?_|refine Dw.guardS rfl ?_ ?_)<;>(intro e;(try simp only [Bool.not_eq_true',Bool.not_eq_false'] at e);subst e;try contradiction))|refine Cd.skip ?_|refine Cd.blk ?_|refine Cd.ext ?_|refine Cd.ret ?_)
      all_goals first | exact hret _ _ _ rfl | skip
      all_goals (refine Lp.weak ?hw (ih (j + 1) (by omega) (by omega)); exact ⟨rfl, rfl, rfl, rfl, rfl, trivial⟩)
    · repeat' (first|refine zA ?_|refine Cd.reg ?_|refine Rg.nil ?_|refine zF ?_|refine zG ?_|refine zH ?_|(refine Rg.p (v:=?_) ?_ ?_;rotate_left;exact zE)|(refine Rg.cmp (p:=?_) rfl rfl ?_ ?_;rotate_left;exact zC;intro cv hv)|(refine Rg.r (v:=?_) rfl rfl ?_ ?_;rotate_left;exact zN)|refine zL fun _=>?_|refine Rg.alloc fun _=>?_|refine Rg.a (Mk.lits rfl) fun _=>?_|refine zO (cs:=?_) (K':=?_) ?_|refine zP (cs:=?_) (K':=?_) ?_|(refine zQ (g:=?_) ?_;intro cv hv)|(refine zR (w:=?_) ?_;intro cv hv)|refine zS (v:=?_) ?_|refine zT (v:=?_) ?_|refine Lp.round ?_|refine Cd.draw ?_|refine Dw.nil ?_|refine Dw.guardY rfl ?_|refine Dw.guardN rfl ?_|refine Dw.guardT rfl ?_|(refine Dw.p (v:=?_) ?_ ?_;rotate_left;exact zE)|(refine Dw.cmp (p:=?_) rfl rfl ?_ ?_;rotate_left;exact zC;intro cv hv)|(refine Dw.r (v:=?_) rfl rfl ?_ ?_ ?_;rotate_left;exact zN;exact zM)|refine Dw.a Mk.alloc fun _=>?_|refine Dw.a (Mk.lits rfl) fun _=>?_|(refine zY (g:=?_) ?_;intro cv hv)|refine zW (v:=?_) ?_|refine Cd.condT rfl ?_|refine Cd.condF rfl ?_|((first|refine Cd.cond rfl ?_ ?_|refine Rg.guardS rfl ?_ ?_|refine Dw.guardS rfl ?_ ?_)<;>(intro e;(try simp only [Bool.not_eq_true',Bool.not_eq_false'] at e);subst e;try contradiction))|refine Cd.skip ?_|refine Cd.blk ?_|refine Cd.ext ?_|refine Cd.ret ?_)
      exact hend _ ⟨rfl, rfl, rfl, rfl, trivial⟩
theorem light6_protos {u : Unt} (hu : OkU u) {b : Nat} {Q : AX → SL → Mem → Prop} (hret : ∀ l' K c, lkS l' 2 = some (.bool c) → Q .ret l' K) (hend : ∀ l' K z, lkS l' 4 = some (.int .i64 z) → Q (.ext 2) l' K) :
    ∀ (k i : Nat) (z : Int), u.protos.length < i + k → i ≤ u.protos.length → Lp Try.prog false b6_2 k [(1, .ptr b 0 0 5), (4, .int .i64 z), (5, .int .i64 (.ofNat i))] [boxU b u] Q := by
  have hl := hu.lprotos
  obtain ⟨l1, l2⟩ := hu.lens
  intro k
  induction k with
  | zero => intro i z h1 h2; omega
  | succ k ih =>
    intro i z h1 h2
    refine Lp.round ?_
    by_cases hi : i < u.protos.length
    · obtain ⟨p, hx⟩ : ∃ p, u.protos[i]? = some p := ⟨_, List.getElem?_eq_getElem hi⟩
      have hm := List.mem_of_getElem? hx
      have hp := hu.ps p hm
      obtain ⟨m1, m2, m3⟩ := hp.lens
      have hlc := hp.lconsts
      obtain ⟨z1, a1⟩ := addX z (.ofNat p.code.length)
      obtain ⟨z2, a2⟩ := addX z1 (.ofNat p.consts.length)
      have q1 := hu.protos.iadr (i := i) (r := protoR p) (k := .i64) (by rw [List.getElem?_map, hx]; rfl)
      repeat' (first|refine zA ?_|refine Cd.reg ?_|refine Rg.nil ?_|refine zF ?_|refine zG ?_|refine zH ?_|(refine Rg.p (v:=?_) ?_ ?_;rotate_left;exact zE)|(refine Rg.cmp (p:=?_) rfl rfl ?_ ?_;rotate_left;exact zC;intro cv hv)|(refine Rg.r (v:=?_) rfl rfl ?_ ?_;rotate_left;exact zN)|refine zL fun _=>?_|refine Rg.alloc fun _=>?_|refine Rg.a (Mk.lits rfl) fun _=>?_|refine zO (cs:=?_) (K':=?_) ?_|refine zP (cs:=?_) (K':=?_) ?_|(refine zQ (g:=?_) ?_;intro cv hv)|(refine zR (w:=?_) ?_;intro cv hv)|refine zS (v:=?_) ?_|refine zT (v:=?_) ?_|refine Lp.round ?_|refine Cd.draw ?_|refine Dw.nil ?_|refine Dw.guardY rfl ?_|refine Dw.guardN rfl ?_|refine Dw.guardT rfl ?_|(refine Dw.p (v:=?_) ?_ ?_;rotate_left;exact zE)|(refine Dw.cmp (p:=?_) rfl rfl ?_ ?_;rotate_left;exact zC;intro cv hv)|(refine Dw.r (v:=?_) rfl rfl ?_ ?_ ?_;rotate_left;exact zN;exact zM)|refine Dw.a Mk.alloc fun _=>?_|refine Dw.a (Mk.lits rfl) fun _=>?_|(refine zY (g:=?_) ?_;intro cv hv)|refine zW (v:=?_) ?_|refine Cd.condT rfl ?_|refine Cd.condF rfl ?_|((first|refine Cd.cond rfl ?_ ?_|refine Rg.guardS rfl ?_ ?_|refine Dw.guardS rfl ?_ ?_)<;>(intro e;(try simp only [Bool.not_eq_true',Bool.not_eq_false'] at e);subst e;try contradiction))|refine Cd.skip ?_|refine Cd.blk ?_|refine Cd.ext ?_|refine Cd.ret ?_)
      all_goals first | exact hret _ _ _ rfl | skip
      rename_i b6
      refine Cd.weak (l2 := [(1, _), (4, _), (5, _), (6, _), (7, _)]) ⟨rfl, rfl, rfl, rfl, rfl, trivial⟩ ?_
      refine Cd.loop (k := p.consts.length + 1) (light6_consts (u := u) hp ?_ ?_ (p.consts.length + 1) 0 (by omega) (by omega))
      · intro l' K c e
        exact hret _ _ _ e
      · intro l' hs
        show Cd _ _ _ _ _ _
        refine Cd.weak hs ?_
        repeat' (first|refine zA ?_|refine Cd.reg ?_|refine Rg.nil ?_|refine zF ?_|refine zG ?_|refine zH ?_|(refine Rg.p (v:=?_) ?_ ?_;rotate_left;exact zE)|(refine Rg.cmp (p:=?_) rfl rfl ?_ ?_;rotate_left;exact zC;intro cv hv)|(refine Rg.r (v:=?_) rfl rfl ?_ ?_;rotate_left;exact zN)|refine zL fun _=>?_|refine Rg.alloc fun _=>?_|refine Rg.a (Mk.lits rfl) fun _=>?_|refine zO (cs:=?_) (K':=?_) ?_|refine zP (cs:=?_) (K':=?_) ?_|(refine zQ (g:=?_) ?_;intro cv hv)|(refine zR (w:=?_) ?_;intro cv hv)|refine zS (v:=?_) ?_|refine zT (v:=?_) ?_|refine Lp.round ?_|refine Cd.draw ?_|refine Dw.nil ?_|refine Dw.guardY rfl ?_|refine Dw.guardN rfl ?_|refine Dw.guardT rfl ?_|(refine Dw.p (v:=?_) ?_ ?_;rotate_left;exact zE)|(refine Dw.cmp (p:=?_) rfl rfl ?_ ?_;rotate_left;exact zC;intro cv hv)|(refine Dw.r (v:=?_) rfl rfl ?_ ?_ ?_;rotate_left;exact zN;exact zM)|refine Dw.a Mk.alloc fun _=>?_|refine Dw.a (Mk.lits rfl) fun _=>?_|(refine zY (g:=?_) ?_;intro cv hv)|refine zW (v:=?_) ?_|refine Cd.condT rfl ?_|refine Cd.condF rfl ?_|((first|refine Cd.cond rfl ?_ ?_|refine Rg.guardS rfl ?_ ?_|refine Dw.guardS rfl ?_ ?_)<;>(intro e;(try simp only [Bool.not_eq_true',Bool.not_eq_false'] at e);subst e;try contradiction))|refine Cd.skip ?_|refine Cd.blk ?_|refine Cd.ext ?_|refine Cd.ret ?_)
        refine Lp.drop (m := [boxU b u]) (.cons (.there .here) .nil) (Lp.weak ?hw (ih (i + 1) z2 (by omega) (by omega)))
        case hw => exact ⟨rfl, rfl, rfl, trivial⟩
    · repeat' (first|refine zA ?_|refine Cd.reg ?_|refine Rg.nil ?_|refine zF ?_|refine zG ?_|refine zH ?_|(refine Rg.p (v:=?_) ?_ ?_;rotate_left;exact zE)|(refine Rg.cmp (p:=?_) rfl rfl ?_ ?_;rotate_left;exact zC;intro cv hv)|(refine Rg.r (v:=?_) rfl rfl ?_ ?_;rotate_left;exact zN)|refine zL fun _=>?_|refine Rg.alloc fun _=>?_|refine Rg.a (Mk.lits rfl) fun _=>?_|refine zO (cs:=?_) (K':=?_) ?_|refine zP (cs:=?_) (K':=?_) ?_|(refine zQ (g:=?_) ?_;intro cv hv)|(refine zR (w:=?_) ?_;intro cv hv)|refine zS (v:=?_) ?_|refine zT (v:=?_) ?_|refine Lp.round ?_|refine Cd.draw ?_|refine Dw.nil ?_|refine Dw.guardY rfl ?_|refine Dw.guardN rfl ?_|refine Dw.guardT rfl ?_|(refine Dw.p (v:=?_) ?_ ?_;rotate_left;exact zE)|(refine Dw.cmp (p:=?_) rfl rfl ?_ ?_;rotate_left;exact zC;intro cv hv)|(refine Dw.r (v:=?_) rfl rfl ?_ ?_ ?_;rotate_left;exact zN;exact zM)|refine Dw.a Mk.alloc fun _=>?_|refine Dw.a (Mk.lits rfl) fun _=>?_|(refine zY (g:=?_) ?_;intro cv hv)|refine zW (v:=?_) ?_|refine Cd.condT rfl ?_|refine Cd.condF rfl ?_|((first|refine Cd.cond rfl ?_ ?_|refine Rg.guardS rfl ?_ ?_|refine Dw.guardS rfl ?_ ?_)<;>(intro e;(try simp only [Bool.not_eq_true',Bool.not_eq_false'] at e);subst e;try contradiction))|refine Cd.skip ?_|refine Cd.blk ?_|refine Cd.ext ?_|refine Cd.ret ?_)
      exact hend _ _ _ rfl
theorem light6 {u : Unt} (hu : OkU u) : CT Try.prog false 6 [.agg (unitR u)] [] (fun w K' => K' = [] ∧ ∃ c, w = .bool c) := by
  have key : CT Try.prog false 6 [.agg (unitR u)] [] (fun w K' => ∃ c, w = .bool c) := by
    refine CT.enter mixed comp6 (Nat.le_of_ble_eq_true rfl) ?_
    have hl := hu.lprotos
    have hl2 := hu.luses
    obtain ⟨l1, l2⟩ := hu.lens
    repeat' (first|refine zA ?_|refine Cd.reg ?_|refine Rg.nil ?_|refine zF ?_|refine zG ?_|refine zH ?_|(refine Rg.p (v:=?_) ?_ ?_;rotate_left;exact zE)|(refine Rg.cmp (p:=?_) rfl rfl ?_ ?_;rotate_left;exact zC;intro cv hv)|(refine Rg.r (v:=?_) rfl rfl ?_ ?_;rotate_left;exact zN)|refine zL fun _=>?_|refine Rg.alloc fun _=>?_|refine Rg.a (Mk.lits rfl) fun _=>?_|refine zO (cs:=?_) (K':=?_) ?_|refine zP (cs:=?_) (K':=?_) ?_|(refine zQ (g:=?_) ?_;intro cv hv)|(refine zR (w:=?_) ?_;intro cv hv)|refine zS (v:=?_) ?_|refine zT (v:=?_) ?_|refine Lp.round ?_|refine Cd.draw ?_|refine Dw.nil ?_|refine Dw.guardY rfl ?_|refine Dw.guardN rfl ?_|refine Dw.guardT rfl ?_|(refine Dw.p (v:=?_) ?_ ?_;rotate_left;exact zE)|(refine Dw.cmp (p:=?_) rfl rfl ?_ ?_;rotate_left;exact zC;intro cv hv)|(refine Dw.r (v:=?_) rfl rfl ?_ ?_ ?_;rotate_left;exact zN;exact zM)|refine Dw.a Mk.alloc fun _=>?_|refine Dw.a (Mk.lits rfl) fun _=>?_|(refine zY (g:=?_) ?_;intro cv hv)|refine zW (v:=?_) ?_|refine Cd.condT rfl ?_|refine Cd.condF rfl ?_|((first|refine Cd.cond rfl ?_ ?_|refine Rg.guardS rfl ?_ ?_|refine Dw.guardS rfl ?_ ?_)<;>(intro e;(try simp only [Bool.not_eq_true',Bool.not_eq_false'] at e);subst e;try contradiction))|refine Cd.skip ?_|refine Cd.blk ?_|refine Cd.ext ?_|refine Cd.ret ?_)
    rotate_left
    all_goals first | ((first|refine ⟨.inr rfl,_,.t rfl .nil,?_⟩|refine ⟨.inr rfl,_,.t rfl (.t rfl .nil),?_⟩|refine ⟨.inr rfl,_,.t rfl (.t rfl (.t rfl .nil)),?_⟩|refine ⟨.inr rfl,_,.nil,?_⟩|refine ⟨.inl rfl,_,.t rfl .nil,?_⟩|refine ⟨.inl rfl,_,.nil,?_⟩|refine ⟨.inr rfl,_,.cn rfl (by exact zN) .nil,?_⟩); exact ⟨_, rfl⟩) | skip
    refine Cd.weak (l2 := [(1, _), (3, _)]) ⟨rfl, rfl, trivial⟩ ?_
    refine Cd.loop (k := u.uses.length + 1) (light6_uses hu ?_ ?_ (u.uses.length + 1) 0 (by omega) (by omega))
    · intro l' K c e
      exact ⟨.inr rfl, _, .t e .nil, _, rfl⟩
    · intro l' e
      show Cd _ _ _ _ _ _
      refine Cd.weak (l2 := [(1, _)]) ⟨e, trivial⟩ ?_
      repeat' (first|refine zA ?_|refine Cd.reg ?_|refine Rg.nil ?_|refine zF ?_|refine zG ?_|refine zH ?_|(refine Rg.p (v:=?_) ?_ ?_;rotate_left;exact zE)|(refine Rg.cmp (p:=?_) rfl rfl ?_ ?_;rotate_left;exact zC;intro cv hv)|(refine Rg.r (v:=?_) rfl rfl ?_ ?_;rotate_left;exact zN)|refine zL fun _=>?_|refine Rg.alloc fun _=>?_|refine Rg.a (Mk.lits rfl) fun _=>?_|refine zO (cs:=?_) (K':=?_) ?_|refine zP (cs:=?_) (K':=?_) ?_|(refine zQ (g:=?_) ?_;intro cv hv)|(refine zR (w:=?_) ?_;intro cv hv)|refine zS (v:=?_) ?_|refine zT (v:=?_) ?_|refine Lp.round ?_|refine Cd.draw ?_|refine Dw.nil ?_|refine Dw.guardY rfl ?_|refine Dw.guardN rfl ?_|refine Dw.guardT rfl ?_|(refine Dw.p (v:=?_) ?_ ?_;rotate_left;exact zE)|(refine Dw.cmp (p:=?_) rfl rfl ?_ ?_;rotate_left;exact zC;intro cv hv)|(refine Dw.r (v:=?_) rfl rfl ?_ ?_ ?_;rotate_left;exact zN;exact zM)|refine Dw.a Mk.alloc fun _=>?_|refine Dw.a (Mk.lits rfl) fun _=>?_|(refine zY (g:=?_) ?_;intro cv hv)|refine zW (v:=?_) ?_|refine Cd.condT rfl ?_|refine Cd.condF rfl ?_|((first|refine Cd.cond rfl ?_ ?_|refine Rg.guardS rfl ?_ ?_|refine Dw.guardS rfl ?_ ?_)<;>(intro e;(try simp only [Bool.not_eq_true',Bool.not_eq_false'] at e);subst e;try contradiction))|refine Cd.skip ?_|refine Cd.blk ?_|refine Cd.ext ?_|refine Cd.ret ?_)
      refine Cd.weak (l2 := [(1, _), (4, _), (5, _)]) ⟨rfl, rfl, rfl, trivial⟩ ?_
      refine Cd.loop (k := u.protos.length + 1) (light6_protos hu ?_ ?_ (u.protos.length + 1) 0 (.ofNat 0) (by omega) (by omega))
      · intro l' K c e
        exact ⟨.inr rfl, _, .t e .nil, _, rfl⟩
      · intro l' K z e
        show Cd _ _ _ _ _ _
        refine Cd.weak (l2 := [(4, .int .i64 z)]) ⟨e, trivial⟩ ?_
        repeat' (first|refine zA ?_|refine Cd.reg ?_|refine Rg.nil ?_|refine zF ?_|refine zG ?_|refine zH ?_|(refine Rg.p (v:=?_) ?_ ?_;rotate_left;exact zE)|(refine Rg.cmp (p:=?_) rfl rfl ?_ ?_;rotate_left;exact zC;intro cv hv)|(refine Rg.r (v:=?_) rfl rfl ?_ ?_;rotate_left;exact zN)|refine zL fun _=>?_|refine Rg.alloc fun _=>?_|refine Rg.a (Mk.lits rfl) fun _=>?_|refine zO (cs:=?_) (K':=?_) ?_|refine zP (cs:=?_) (K':=?_) ?_|(refine zQ (g:=?_) ?_;intro cv hv)|(refine zR (w:=?_) ?_;intro cv hv)|refine zS (v:=?_) ?_|refine zT (v:=?_) ?_|refine Lp.round ?_|refine Cd.draw ?_|refine Dw.nil ?_|refine Dw.guardY rfl ?_|refine Dw.guardN rfl ?_|refine Dw.guardT rfl ?_|(refine Dw.p (v:=?_) ?_ ?_;rotate_left;exact zE)|(refine Dw.cmp (p:=?_) rfl rfl ?_ ?_;rotate_left;exact zC;intro cv hv)|(refine Dw.r (v:=?_) rfl rfl ?_ ?_ ?_;rotate_left;exact zN;exact zM)|refine Dw.a Mk.alloc fun _=>?_|refine Dw.a (Mk.lits rfl) fun _=>?_|(refine zY (g:=?_) ?_;intro cv hv)|refine zW (v:=?_) ?_|refine Cd.condT rfl ?_|refine Cd.condF rfl ?_|((first|refine Cd.cond rfl ?_ ?_|refine Rg.guardS rfl ?_ ?_|refine Dw.guardS rfl ?_ ?_)<;>(intro e;(try simp only [Bool.not_eq_true',Bool.not_eq_false'] at e);subst e;try contradiction))|refine Cd.skip ?_|refine Cd.blk ?_|refine Cd.ext ?_|refine Cd.ret ?_)
        all_goals (first|refine ⟨.inr rfl,_,.t rfl .nil,?_⟩|refine ⟨.inr rfl,_,.t rfl (.t rfl .nil),?_⟩|refine ⟨.inr rfl,_,.t rfl (.t rfl (.t rfl .nil)),?_⟩|refine ⟨.inr rfl,_,.nil,?_⟩|refine ⟨.inl rfl,_,.t rfl .nil,?_⟩|refine ⟨.inl rfl,_,.nil,?_⟩|refine ⟨.inr rfl,_,.cn rfl (by exact zN) .nil,?_⟩)
        all_goals exact ⟨_, rfl⟩
  refine key.dropR ?_
  rintro v K' ⟨c, rfl⟩
  exact ⟨[], _, .nil, rfl, _, rfl⟩
end Go.Proofs.Ytmedepnfpiheoaa

namespace Go.Proofs.Ytmedepnfpiheoaa
open Go Go.Abs
/-! Contracts of calls as stand-ins of the evaluator. -/
open Classical in
theorem PT.det {f : FuncId} {args : List AV} {v : AV} (h : PT Try.prog false f args v) (ha : args.all flatV = true) (hv : flatV v = true) (s : St) : MDet Try.prog f args s v s := by
  obtain ⟨w, s1, h1, _, _, _, _, rfl⟩ := h ⟨.e, 0⟩ ⟨by simp [idsM], by simp⟩
  have hg : SoundF Try.prog f (fun a t => if a = args ∧ t = ⟨.e, 0⟩ then some (w, s1) else none) := by
    intro a t v' s' e
    dsimp only at e
    split at e
    · rename_i h2
      obtain ⟨rfl, rfl⟩ := h2
      cases e
      exact h1
    · cases e
  refine ⟨h1.1, Keeps.refl _ _, ?_⟩
  intro ι w0 X w' args' hs hr
  refine (start_calls hg (if_pos ⟨rfl, rfl⟩) (W := w') (args' := args') (flat_relL ha hr)).mono ?_
  rintro e w2 ⟨v', κ, rfl, r1, r2⟩
  exact ⟨v', ι, rfl, IM.le_refl _, flat_rel hv r1, SR_below hs r2⟩
def g17 : List AV → St → Option (AV × St)
  | [.str [x]], s => bif Nat.beq x 109 then some (.bool true, s) else bif Nat.beq x 102 then some (.bool true, s) else none
  | [.str []], s => some (.bool false, s)
  | _, _ => none
theorem g17_sound : SoundF Try.prog 17 g17 := by
  intro args s v s' h
  unfold g17 at h
  split at h
  · rename_i x
    cases e : Nat.beq x 109 with
    | true =>
      rw [e] at h; cases h
      rw [Nat.eq_of_beq_eq_true e]
      exact PT.det (v := .bool true) (name17 (s := [109]) ⟨by decide, by decide⟩) rfl rfl s
    | false =>
      cases e2 : Nat.beq x 102 with
      | true =>
        rw [e, e2] at h; cases h
        rw [Nat.eq_of_beq_eq_true e2]
        exact PT.det (v := .bool true) (name17 (s := [102]) ⟨by decide, by decide⟩) rfl rfl s
      | false => rw [e, e2] at h; cases h
  · cases h
    exact PT.det (v := .bool false) (name17 (s := []) ⟨by decide, by decide⟩) rfl rfl s
  · cases h
theorem plain17 : Sound Try.prog (acall (comp Try.prog) (single 17 g17) 60) := acall_ok mixed (single_sound g17_sound) 60
set_option maxRecDepth 1000000 in
theorem known7_run : ans (acall (comp Try.prog) (single 17 g17) 60 7 [] ⟨.e, 0⟩) = some (.bool true) := by kernel_rfl
theorem known7 : PT Try.prog false 7 [] (.bool true) := PT.run plain17 known7_run rfl rfl
end Go.Proofs.Ytmedepnfpiheoaa
