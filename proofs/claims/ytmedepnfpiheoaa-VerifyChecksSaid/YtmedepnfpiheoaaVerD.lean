/- Contracts: whether a unit can be, the other way. -/
import Derived.Test.YtmedepnfpiheoaaVerC
set_option autoImplicit false
set_option maxRecDepth 100000
set_option maxHeartbeats 2000000
set_option linter.unusedVariables false
set_option linter.unusedSimpArgs false
namespace Go.Proofs.Ytmedepnfpiheoaa
open Go Go.Abs
theorem proto31_loop0 {p : Proto} (hp : OkP p) {b : Nat} {Q : AX → SL → Mem → Prop} (hret : ∀ l' K, p.caps.all capB = false → lkS l' 4 = some (.bool false) → Q .ret l' K) (hend : ∀ l', p.caps.all capB = true → lkS l' 2 = some (.ptr b 0 0 6) → Q (.ext 0) l' [[(b, .cells (protoR p) 0 0 false)]]) :
    ∀ (k i : Nat), p.caps.length < i + k → i ≤ p.caps.length → (∀ x, x ∈ p.caps.take i → capB x = true) → Lp Try.prog false b31_0 k [(2, .ptr b 0 0 6), (5, .int .i64 (.ofNat i))] [[(b, .cells (protoR p) 0 0 false)]] Q := by
  have hl := hp.lcaps
  obtain ⟨l1, l2, l3⟩ := hp.lens
  intro k
  induction k with
  | zero => intro i h1 h2; omega
  | succ k ih =>
    intro i h1 h2 h3
    refine Lp.round ?_
    by_cases hi : i < p.caps.length
    · obtain ⟨x, hx⟩ : ∃ x, p.caps[i]? = some x := ⟨_, List.getElem?_eq_getElem hi⟩
      have q1 := hp.caps.iadr (i := i) (r := capR x) (k := .i64) (by rw [List.getElem?_map, hx]; rfl)
      have q5 := @in_ x.i 0 255
      repeat' (first|refine zA ?_|refine Cd.reg ?_|refine Rg.nil ?_|refine zF ?_|refine zG ?_|refine zH ?_|(refine Rg.p (v:=?_) ?_ ?_;rotate_left;exact zE)|(refine Rg.cmp (p:=?_) rfl rfl ?_ ?_;rotate_left;exact zC;intro cv hv)|(refine Rg.r (v:=?_) rfl rfl ?_ ?_;rotate_left;exact zN)|refine zL fun _=>?_|refine Rg.alloc fun _=>?_|refine Rg.a (Mk.lits rfl) fun _=>?_|refine zO (cs:=?_) (K':=?_) ?_|refine zP (cs:=?_) (K':=?_) ?_|(refine zQ (g:=?_) ?_;intro cv hv)|(refine zR (w:=?_) ?_;intro cv hv)|refine zS (v:=?_) ?_|refine zT (v:=?_) ?_|refine Lp.round ?_|refine Cd.draw ?_|refine Dw.nil ?_|refine Dw.guardY rfl ?_|refine Dw.guardN rfl ?_|refine Dw.guardT rfl ?_|(refine Dw.p (v:=?_) ?_ ?_;rotate_left;exact zE)|(refine Dw.cmp (p:=?_) rfl rfl ?_ ?_;rotate_left;exact zC;intro cv hv)|(refine Dw.r (v:=?_) rfl rfl ?_ ?_ ?_;rotate_left;exact zN;exact zM)|refine Dw.a Mk.alloc fun _=>?_|refine Dw.a (Mk.lits rfl) fun _=>?_|(refine zY (g:=?_) ?_;intro cv hv)|refine zW (v:=?_) ?_|refine Cd.condT rfl ?_|refine Cd.condF rfl ?_|((first|refine Cd.cond rfl ?_ ?_|refine Rg.guardS rfl ?_ ?_|refine Dw.guardS rfl ?_ ?_)<;>(intro e;(try simp only [Bool.not_eq_true',Bool.not_eq_false'] at e);subst e;try contradiction))|refine Cd.skip ?_|refine Cd.blk ?_|refine Cd.ext ?_|refine Cd.ret ?_)
      · refine hret _ _ ?_ rfl
        cases ha : p.caps.all capB with
        | false => rfl
        | true => have hx1 := List.all_eq_true.1 ha x (List.mem_of_getElem? hx); simp only [capB] at hx1 hv; simp_all
      · refine Lp.drop (m := [[(b, .cells (protoR p) 0 0 false)]]) (.cons .here .nil) (Lp.weak ?hw (ih (i + 1) (by omega) (by omega) ?_))
        case hw => exact ⟨rfl, rfl, trivial⟩
        intro y hy
        rw [List.take_add_one, hx] at hy
        rcases List.mem_append.1 hy with hy | hy
        · exact h3 y hy
        · simp at hy; subst hy; exact hv
    · repeat' (first|refine zA ?_|refine Cd.reg ?_|refine Rg.nil ?_|refine zF ?_|refine zG ?_|refine zH ?_|(refine Rg.p (v:=?_) ?_ ?_;rotate_left;exact zE)|(refine Rg.cmp (p:=?_) rfl rfl ?_ ?_;rotate_left;exact zC;intro cv hv)|(refine Rg.r (v:=?_) rfl rfl ?_ ?_;rotate_left;exact zN)|refine zL fun _=>?_|refine Rg.alloc fun _=>?_|refine Rg.a (Mk.lits rfl) fun _=>?_|refine zO (cs:=?_) (K':=?_) ?_|refine zP (cs:=?_) (K':=?_) ?_|(refine zQ (g:=?_) ?_;intro cv hv)|(refine zR (w:=?_) ?_;intro cv hv)|refine zS (v:=?_) ?_|refine zT (v:=?_) ?_|refine Lp.round ?_|refine Cd.draw ?_|refine Dw.nil ?_|refine Dw.guardY rfl ?_|refine Dw.guardN rfl ?_|refine Dw.guardT rfl ?_|(refine Dw.p (v:=?_) ?_ ?_;rotate_left;exact zE)|(refine Dw.cmp (p:=?_) rfl rfl ?_ ?_;rotate_left;exact zC;intro cv hv)|(refine Dw.r (v:=?_) rfl rfl ?_ ?_ ?_;rotate_left;exact zN;exact zM)|refine Dw.a Mk.alloc fun _=>?_|refine Dw.a (Mk.lits rfl) fun _=>?_|(refine zY (g:=?_) ?_;intro cv hv)|refine zW (v:=?_) ?_|refine Cd.condT rfl ?_|refine Cd.condF rfl ?_|((first|refine Cd.cond rfl ?_ ?_|refine Rg.guardS rfl ?_ ?_|refine Dw.guardS rfl ?_ ?_)<;>(intro e;(try simp only [Bool.not_eq_true',Bool.not_eq_false'] at e);subst e;try contradiction))|refine Cd.skip ?_|refine Cd.blk ?_|refine Cd.ext ?_|refine Cd.ret ?_)
      exact hend _ (List.all_eq_true.2 fun x hx => h3 x (by rw [List.take_of_length_le (by omega)]; exact hx)) rfl
theorem proto31_loop1 {p : Proto} (hp : OkP p) {b : Nat} {Q : AX → SL → Mem → Prop} (hret : ∀ l' K, p.consts.all constB = false → lkS l' 4 = some (.bool false) → Q .ret l' K) (hend : ∀ l', p.consts.all constB = true → lkS l' 2 = some (.ptr b 0 0 6) → Q (.ext 2) l' [[(b, .cells (protoR p) 0 0 false)]]) :
    ∀ (k i : Nat), p.consts.length < i + k → i ≤ p.consts.length → (∀ x, x ∈ p.consts.take i → constB x = true) → Lp Try.prog false b31_1 k [(2, .ptr b 0 0 6), (6, .int .i64 (.ofNat i))] [[(b, .cells (protoR p) 0 0 false)]] Q := by
  have hl := hp.lconsts
  obtain ⟨l1, l2, l3⟩ := hp.lens
  intro k
  induction k with
  | zero => intro i h1 h2; omega
  | succ k ih =>
    intro i h1 h2 h3
    refine Lp.round ?_
    by_cases hi : i < p.consts.length
    · obtain ⟨x, hx⟩ : ∃ x, p.consts[i]? = some x := ⟨_, List.getElem?_eq_getElem hi⟩
      have q1 := hp.consts.iadr (i := i) (r := valR x) (k := .i64) (by rw [List.getElem?_map, hx]; rfl)
      have q5 := const46 x
      repeat' (first|refine zA ?_|refine Cd.reg ?_|refine Rg.nil ?_|refine zF ?_|refine zG ?_|refine zH ?_|(refine Rg.p (v:=?_) ?_ ?_;rotate_left;exact zE)|(refine Rg.cmp (p:=?_) rfl rfl ?_ ?_;rotate_left;exact zC;intro cv hv)|(refine Rg.r (v:=?_) rfl rfl ?_ ?_;rotate_left;exact zN)|refine zL fun _=>?_|refine Rg.alloc fun _=>?_|refine Rg.a (Mk.lits rfl) fun _=>?_|refine zO (cs:=?_) (K':=?_) ?_|refine zP (cs:=?_) (K':=?_) ?_|(refine zQ (g:=?_) ?_;intro cv hv)|(refine zR (w:=?_) ?_;intro cv hv)|refine zS (v:=?_) ?_|refine zT (v:=?_) ?_|refine Lp.round ?_|refine Cd.draw ?_|refine Dw.nil ?_|refine Dw.guardY rfl ?_|refine Dw.guardN rfl ?_|refine Dw.guardT rfl ?_|(refine Dw.p (v:=?_) ?_ ?_;rotate_left;exact zE)|(refine Dw.cmp (p:=?_) rfl rfl ?_ ?_;rotate_left;exact zC;intro cv hv)|(refine Dw.r (v:=?_) rfl rfl ?_ ?_ ?_;rotate_left;exact zN;exact zM)|refine Dw.a Mk.alloc fun _=>?_|refine Dw.a (Mk.lits rfl) fun _=>?_|(refine zY (g:=?_) ?_;intro cv hv)|refine zW (v:=?_) ?_|refine Cd.condT rfl ?_|refine Cd.condF rfl ?_|((first|refine Cd.cond rfl ?_ ?_|refine Rg.guardS rfl ?_ ?_|refine Dw.guardS rfl ?_ ?_)<;>(intro e;(try simp only [Bool.not_eq_true',Bool.not_eq_false'] at e);subst e;try contradiction))|refine Cd.skip ?_|refine Cd.blk ?_|refine Cd.ext ?_|refine Cd.ret ?_)
      · refine hret _ _ ?_ rfl
        cases ha : p.consts.all constB with
        | false => rfl
        | true => have hx1 := List.all_eq_true.1 ha x (List.mem_of_getElem? hx); rw [hx1] at hv; cases hv
      · refine Lp.drop (m := [[(b, .cells (protoR p) 0 0 false)]]) (.cons .here .nil) (Lp.weak ?hw (ih (i + 1) (by omega) (by omega) ?_))
        case hw => exact ⟨rfl, rfl, trivial⟩
        intro y hy
        rw [List.take_add_one, hx] at hy
        rcases List.mem_append.1 hy with hy | hy
        · exact h3 y hy
        · simp at hy; subst hy; exact hv
    · repeat' (first|refine zA ?_|refine Cd.reg ?_|refine Rg.nil ?_|refine zF ?_|refine zG ?_|refine zH ?_|(refine Rg.p (v:=?_) ?_ ?_;rotate_left;exact zE)|(refine Rg.cmp (p:=?_) rfl rfl ?_ ?_;rotate_left;exact zC;intro cv hv)|(refine Rg.r (v:=?_) rfl rfl ?_ ?_;rotate_left;exact zN)|refine zL fun _=>?_|refine Rg.alloc fun _=>?_|refine Rg.a (Mk.lits rfl) fun _=>?_|refine zO (cs:=?_) (K':=?_) ?_|refine zP (cs:=?_) (K':=?_) ?_|(refine zQ (g:=?_) ?_;intro cv hv)|(refine zR (w:=?_) ?_;intro cv hv)|refine zS (v:=?_) ?_|refine zT (v:=?_) ?_|refine Lp.round ?_|refine Cd.draw ?_|refine Dw.nil ?_|refine Dw.guardY rfl ?_|refine Dw.guardN rfl ?_|refine Dw.guardT rfl ?_|(refine Dw.p (v:=?_) ?_ ?_;rotate_left;exact zE)|(refine Dw.cmp (p:=?_) rfl rfl ?_ ?_;rotate_left;exact zC;intro cv hv)|(refine Dw.r (v:=?_) rfl rfl ?_ ?_ ?_;rotate_left;exact zN;exact zM)|refine Dw.a Mk.alloc fun _=>?_|refine Dw.a (Mk.lits rfl) fun _=>?_|(refine zY (g:=?_) ?_;intro cv hv)|refine zW (v:=?_) ?_|refine Cd.condT rfl ?_|refine Cd.condF rfl ?_|((first|refine Cd.cond rfl ?_ ?_|refine Rg.guardS rfl ?_ ?_|refine Dw.guardS rfl ?_ ?_)<;>(intro e;(try simp only [Bool.not_eq_true',Bool.not_eq_false'] at e);subst e;try contradiction))|refine Cd.skip ?_|refine Cd.blk ?_|refine Cd.ext ?_|refine Cd.ret ?_)
      exact hend _ (List.all_eq_true.2 fun x hx => h3 x (by rw [List.take_of_length_le (by omega)]; exact hx)) rfl
theorem proto31_loop2 {p : Proto} (hp : OkP p) {b : Nat} {Q : AX → SL → Mem → Prop} (hret : ∀ l' K, p.code.all rightI = false → lkS l' 4 = some (.bool false) → Q .ret l' K) (hend : ∀ l', p.code.all rightI = true → lkS l' 2 = some (.ptr b 0 0 6) → Q (.ext 4) l' [[(b, .cells (protoR p) 0 0 false)]]) :
    ∀ (k i : Nat), p.code.length < i + k → i ≤ p.code.length → (∀ x, x ∈ p.code.take i → rightI x = true) → Lp Try.prog false b31_2 k [(2, .ptr b 0 0 6), (7, .int .i64 (.ofNat i))] [[(b, .cells (protoR p) 0 0 false)]] Q := by
  have hl := hp.lcode
  obtain ⟨l1, l2, l3⟩ := hp.lens
  intro k
  induction k with
  | zero => intro i h1 h2; omega
  | succ k ih =>
    intro i h1 h2 h3
    refine Lp.round ?_
    by_cases hi : i < p.code.length
    · obtain ⟨x, hx⟩ : ∃ x, p.code[i]? = some x := ⟨_, List.getElem?_eq_getElem hi⟩
      have q1 := hp.code.iadr (i := i) (r := insR x) (k := .i64) (by rw [List.getElem?_map, hx]; rfl)
      have q5 := right47 x
      repeat' (first|refine zA ?_|refine Cd.reg ?_|refine Rg.nil ?_|refine zF ?_|refine zG ?_|refine zH ?_|(refine Rg.p (v:=?_) ?_ ?_;rotate_left;exact zE)|(refine Rg.cmp (p:=?_) rfl rfl ?_ ?_;rotate_left;exact zC;intro cv hv)|(refine Rg.r (v:=?_) rfl rfl ?_ ?_;rotate_left;exact zN)|refine zL fun _=>?_|refine Rg.alloc fun _=>?_|refine Rg.a (Mk.lits rfl) fun _=>?_|refine zO (cs:=?_) (K':=?_) ?_|refine zP (cs:=?_) (K':=?_) ?_|(refine zQ (g:=?_) ?_;intro cv hv)|(refine zR (w:=?_) ?_;intro cv hv)|refine zS (v:=?_) ?_|refine zT (v:=?_) ?_|refine Lp.round ?_|refine Cd.draw ?_|refine Dw.nil ?_|refine Dw.guardY rfl ?_|refine Dw.guardN rfl ?_|refine Dw.guardT rfl ?_|(refine Dw.p (v:=?_) ?_ ?_;rotate_left;exact zE)|(refine Dw.cmp (p:=?_) rfl rfl ?_ ?_;rotate_left;exact zC;intro cv hv)|(refine Dw.r (v:=?_) rfl rfl ?_ ?_ ?_;rotate_left;exact zN;exact zM)|refine Dw.a Mk.alloc fun _=>?_|refine Dw.a (Mk.lits rfl) fun _=>?_|(refine zY (g:=?_) ?_;intro cv hv)|refine zW (v:=?_) ?_|refine Cd.condT rfl ?_|refine Cd.condF rfl ?_|((first|refine Cd.cond rfl ?_ ?_|refine Rg.guardS rfl ?_ ?_|refine Dw.guardS rfl ?_ ?_)<;>(intro e;(try simp only [Bool.not_eq_true',Bool.not_eq_false'] at e);subst e;try contradiction))|refine Cd.skip ?_|refine Cd.blk ?_|refine Cd.ext ?_|refine Cd.ret ?_)
      · refine hret _ _ ?_ rfl
        cases ha : p.code.all rightI with
        | false => rfl
        | true => have hx1 := List.all_eq_true.1 ha x (List.mem_of_getElem? hx); rw [hx1] at hv; cases hv
      · refine Lp.drop (m := [[(b, .cells (protoR p) 0 0 false)]]) (.cons .here .nil) (Lp.weak ?hw (ih (i + 1) (by omega) (by omega) ?_))
        case hw => exact ⟨rfl, rfl, trivial⟩
        intro y hy
        rw [List.take_add_one, hx] at hy
        rcases List.mem_append.1 hy with hy | hy
        · exact h3 y hy
        · simp at hy; subst hy; exact hv
    · repeat' (first|refine zA ?_|refine Cd.reg ?_|refine Rg.nil ?_|refine zF ?_|refine zG ?_|refine zH ?_|(refine Rg.p (v:=?_) ?_ ?_;rotate_left;exact zE)|(refine Rg.cmp (p:=?_) rfl rfl ?_ ?_;rotate_left;exact zC;intro cv hv)|(refine Rg.r (v:=?_) rfl rfl ?_ ?_;rotate_left;exact zN)|refine zL fun _=>?_|refine Rg.alloc fun _=>?_|refine Rg.a (Mk.lits rfl) fun _=>?_|refine zO (cs:=?_) (K':=?_) ?_|refine zP (cs:=?_) (K':=?_) ?_|(refine zQ (g:=?_) ?_;intro cv hv)|(refine zR (w:=?_) ?_;intro cv hv)|refine zS (v:=?_) ?_|refine zT (v:=?_) ?_|refine Lp.round ?_|refine Cd.draw ?_|refine Dw.nil ?_|refine Dw.guardY rfl ?_|refine Dw.guardN rfl ?_|refine Dw.guardT rfl ?_|(refine Dw.p (v:=?_) ?_ ?_;rotate_left;exact zE)|(refine Dw.cmp (p:=?_) rfl rfl ?_ ?_;rotate_left;exact zC;intro cv hv)|(refine Dw.r (v:=?_) rfl rfl ?_ ?_ ?_;rotate_left;exact zN;exact zM)|refine Dw.a Mk.alloc fun _=>?_|refine Dw.a (Mk.lits rfl) fun _=>?_|(refine zY (g:=?_) ?_;intro cv hv)|refine zW (v:=?_) ?_|refine Cd.condT rfl ?_|refine Cd.condF rfl ?_|((first|refine Cd.cond rfl ?_ ?_|refine Rg.guardS rfl ?_ ?_|refine Dw.guardS rfl ?_ ?_)<;>(intro e;(try simp only [Bool.not_eq_true',Bool.not_eq_false'] at e);subst e;try contradiction))|refine Cd.skip ?_|refine Cd.blk ?_|refine Cd.ext ?_|refine Cd.ret ?_)
      exact hend _ (List.all_eq_true.2 fun x hx => h3 x (by rw [List.take_of_length_le (by omega)]; exact hx)) rfl
/-- Behind the conditions of a function: its lists. -/
theorem proto31_tail {p : Proto} (hp : OkP p) {top : Bool} {l : SL} {b : Nat} (h2 : lkS l 2 = some (.ptr b 0 0 6)) (hB : protoB p top = (p.caps.all capB && (p.consts.all constB && p.code.all rightI))) :
    Cd Try.prog false (.seq (.seq (.reg r31_5) (.blk 0 (.loop b31_0))) (.seq (.seq (.reg r31_10) (.blk 2 (.loop b31_1))) (.seq (.seq (.reg r31_15) (.blk 4 (.loop b31_2))) (.seq (.reg r31_20) .ret)))) l [[(b, .cells (protoR p) 0 0 false)]] (DoneK fn31.results fun w _ => w = .bool (protoB p top)) := by
  refine Cd.weak (l2 := [(2, .ptr b 0 0 6)]) ⟨h2, trivial⟩ ?_
  have lc := hp.lcaps
  have lk := hp.lconsts
  have lo := hp.lcode
  repeat' (first|refine zA ?_|refine Cd.reg ?_|refine Rg.nil ?_|refine zF ?_|refine zG ?_|refine zH ?_|(refine Rg.p (v:=?_) ?_ ?_;rotate_left;exact zE)|(refine Rg.cmp (p:=?_) rfl rfl ?_ ?_;rotate_left;exact zC;intro cv hv)|(refine Rg.r (v:=?_) rfl rfl ?_ ?_;rotate_left;exact zN)|refine zL fun _=>?_|refine Rg.alloc fun _=>?_|refine Rg.a (Mk.lits rfl) fun _=>?_|refine zO (cs:=?_) (K':=?_) ?_|refine zP (cs:=?_) (K':=?_) ?_|(refine zQ (g:=?_) ?_;intro cv hv)|(refine zR (w:=?_) ?_;intro cv hv)|refine zS (v:=?_) ?_|refine zT (v:=?_) ?_|refine Lp.round ?_|refine Cd.draw ?_|refine Dw.nil ?_|refine Dw.guardY rfl ?_|refine Dw.guardN rfl ?_|refine Dw.guardT rfl ?_|(refine Dw.p (v:=?_) ?_ ?_;rotate_left;exact zE)|(refine Dw.cmp (p:=?_) rfl rfl ?_ ?_;rotate_left;exact zC;intro cv hv)|(refine Dw.r (v:=?_) rfl rfl ?_ ?_ ?_;rotate_left;exact zN;exact zM)|refine Dw.a Mk.alloc fun _=>?_|refine Dw.a (Mk.lits rfl) fun _=>?_|(refine zY (g:=?_) ?_;intro cv hv)|refine zW (v:=?_) ?_|refine Cd.condT rfl ?_|refine Cd.condF rfl ?_|((first|refine Cd.cond rfl ?_ ?_|refine Rg.guardS rfl ?_ ?_|refine Dw.guardS rfl ?_ ?_)<;>(intro e;(try simp only [Bool.not_eq_true',Bool.not_eq_false'] at e);subst e;try contradiction))|refine Cd.skip ?_|refine Cd.blk ?_|refine Cd.ext ?_|refine Cd.ret ?_)
  refine Cd.loop (k := p.caps.length + 1) (Lp.weak ?hw (proto31_loop0 hp ?_ ?_ (p.caps.length + 1) 0 (by omega) (by omega) (by intro x hx; simp at hx)))
  case hw => exact ⟨rfl, rfl, trivial⟩
  · intro l' K h1 h3
    exact ⟨.inr rfl, _, .t h3 .nil, by rw [hB, h1]; rfl⟩
  intro l' h1 h3
  show Cd _ _ _ _ _ _
  refine Cd.weak (l2 := [(2, .ptr b 0 0 6)]) ⟨h3, trivial⟩ ?_
  repeat' (first|refine zA ?_|refine Cd.reg ?_|refine Rg.nil ?_|refine zF ?_|refine zG ?_|refine zH ?_|(refine Rg.p (v:=?_) ?_ ?_;rotate_left;exact zE)|(refine Rg.cmp (p:=?_) rfl rfl ?_ ?_;rotate_left;exact zC;intro cv hv)|(refine Rg.r (v:=?_) rfl rfl ?_ ?_;rotate_left;exact zN)|refine zL fun _=>?_|refine Rg.alloc fun _=>?_|refine Rg.a (Mk.lits rfl) fun _=>?_|refine zO (cs:=?_) (K':=?_) ?_|refine zP (cs:=?_) (K':=?_) ?_|(refine zQ (g:=?_) ?_;intro cv hv)|(refine zR (w:=?_) ?_;intro cv hv)|refine zS (v:=?_) ?_|refine zT (v:=?_) ?_|refine Lp.round ?_|refine Cd.draw ?_|refine Dw.nil ?_|refine Dw.guardY rfl ?_|refine Dw.guardN rfl ?_|refine Dw.guardT rfl ?_|(refine Dw.p (v:=?_) ?_ ?_;rotate_left;exact zE)|(refine Dw.cmp (p:=?_) rfl rfl ?_ ?_;rotate_left;exact zC;intro cv hv)|(refine Dw.r (v:=?_) rfl rfl ?_ ?_ ?_;rotate_left;exact zN;exact zM)|refine Dw.a Mk.alloc fun _=>?_|refine Dw.a (Mk.lits rfl) fun _=>?_|(refine zY (g:=?_) ?_;intro cv hv)|refine zW (v:=?_) ?_|refine Cd.condT rfl ?_|refine Cd.condF rfl ?_|((first|refine Cd.cond rfl ?_ ?_|refine Rg.guardS rfl ?_ ?_|refine Dw.guardS rfl ?_ ?_)<;>(intro e;(try simp only [Bool.not_eq_true',Bool.not_eq_false'] at e);subst e;try contradiction))|refine Cd.skip ?_|refine Cd.blk ?_|refine Cd.ext ?_|refine Cd.ret ?_)
  refine Cd.loop (k := p.consts.length + 1) (Lp.weak ?hw (proto31_loop1 hp ?_ ?_ (p.consts.length + 1) 0 (by omega) (by omega) (by intro x hx; simp at hx)))
  case hw => exact ⟨rfl, rfl, trivial⟩
  · intro l' K h4 h5
    exact ⟨.inr rfl, _, .t h5 .nil, by rw [hB, h1, h4]; rfl⟩
  intro l' h4 h5
  show Cd _ _ _ _ _ _
  refine Cd.weak (l2 := [(2, .ptr b 0 0 6)]) ⟨h5, trivial⟩ ?_
  repeat' (first|refine zA ?_|refine Cd.reg ?_|refine Rg.nil ?_|refine zF ?_|refine zG ?_|refine zH ?_|(refine Rg.p (v:=?_) ?_ ?_;rotate_left;exact zE)|(refine Rg.cmp (p:=?_) rfl rfl ?_ ?_;rotate_left;exact zC;intro cv hv)|(refine Rg.r (v:=?_) rfl rfl ?_ ?_;rotate_left;exact zN)|refine zL fun _=>?_|refine Rg.alloc fun _=>?_|refine Rg.a (Mk.lits rfl) fun _=>?_|refine zO (cs:=?_) (K':=?_) ?_|refine zP (cs:=?_) (K':=?_) ?_|(refine zQ (g:=?_) ?_;intro cv hv)|(refine zR (w:=?_) ?_;intro cv hv)|refine zS (v:=?_) ?_|refine zT (v:=?_) ?_|refine Lp.round ?_|refine Cd.draw ?_|refine Dw.nil ?_|refine Dw.guardY rfl ?_|refine Dw.guardN rfl ?_|refine Dw.guardT rfl ?_|(refine Dw.p (v:=?_) ?_ ?_;rotate_left;exact zE)|(refine Dw.cmp (p:=?_) rfl rfl ?_ ?_;rotate_left;exact zC;intro cv hv)|(refine Dw.r (v:=?_) rfl rfl ?_ ?_ ?_;rotate_left;exact zN;exact zM)|refine Dw.a Mk.alloc fun _=>?_|refine Dw.a (Mk.lits rfl) fun _=>?_|(refine zY (g:=?_) ?_;intro cv hv)|refine zW (v:=?_) ?_|refine Cd.condT rfl ?_|refine Cd.condF rfl ?_|((first|refine Cd.cond rfl ?_ ?_|refine Rg.guardS rfl ?_ ?_|refine Dw.guardS rfl ?_ ?_)<;>(intro e;(try simp only [Bool.not_eq_true',Bool.not_eq_false'] at e);subst e;try contradiction))|refine Cd.skip ?_|refine Cd.blk ?_|refine Cd.ext ?_|refine Cd.ret ?_)
  refine Cd.loop (k := p.code.length + 1) (Lp.weak ?hw (proto31_loop2 hp ?_ ?_ (p.code.length + 1) 0 (by omega) (by omega) (by intro x hx; simp at hx)))
  case hw => exact ⟨rfl, rfl, trivial⟩
  · intro l' K h6 h7
    exact ⟨.inr rfl, _, .t h7 .nil, by rw [hB, h1, h4, h6]; rfl⟩
  intro l' h6 h7
  show Cd _ _ _ _ _ _
  refine Cd.weak (l2 := []) trivial ?_
  repeat' (first|refine zA ?_|refine Cd.reg ?_|refine Rg.nil ?_|refine zF ?_|refine zG ?_|refine zH ?_|(refine Rg.p (v:=?_) ?_ ?_;rotate_left;exact zE)|(refine Rg.cmp (p:=?_) rfl rfl ?_ ?_;rotate_left;exact zC;intro cv hv)|(refine Rg.r (v:=?_) rfl rfl ?_ ?_;rotate_left;exact zN)|refine zL fun _=>?_|refine Rg.alloc fun _=>?_|refine Rg.a (Mk.lits rfl) fun _=>?_|refine zO (cs:=?_) (K':=?_) ?_|refine zP (cs:=?_) (K':=?_) ?_|(refine zQ (g:=?_) ?_;intro cv hv)|(refine zR (w:=?_) ?_;intro cv hv)|refine zS (v:=?_) ?_|refine zT (v:=?_) ?_|refine Lp.round ?_|refine Cd.draw ?_|refine Dw.nil ?_|refine Dw.guardY rfl ?_|refine Dw.guardN rfl ?_|refine Dw.guardT rfl ?_|(refine Dw.p (v:=?_) ?_ ?_;rotate_left;exact zE)|(refine Dw.cmp (p:=?_) rfl rfl ?_ ?_;rotate_left;exact zC;intro cv hv)|(refine Dw.r (v:=?_) rfl rfl ?_ ?_ ?_;rotate_left;exact zN;exact zM)|refine Dw.a Mk.alloc fun _=>?_|refine Dw.a (Mk.lits rfl) fun _=>?_|(refine zY (g:=?_) ?_;intro cv hv)|refine zW (v:=?_) ?_|refine Cd.condT rfl ?_|refine Cd.condF rfl ?_|((first|refine Cd.cond rfl ?_ ?_|refine Rg.guardS rfl ?_ ?_|refine Dw.guardS rfl ?_ ?_)<;>(intro e;(try simp only [Bool.not_eq_true',Bool.not_eq_false'] at e);subst e;try contradiction))|refine Cd.skip ?_|refine Cd.blk ?_|refine Cd.ext ?_|refine Cd.ret ?_)
  (first|refine ⟨.inr rfl,_,.t rfl .nil,?_⟩|refine ⟨.inr rfl,_,.t rfl (.t rfl .nil),?_⟩|refine ⟨.inr rfl,_,.t rfl (.t rfl (.t rfl .nil)),?_⟩|refine ⟨.inr rfl,_,.nil,?_⟩|refine ⟨.inl rfl,_,.t rfl .nil,?_⟩|refine ⟨.inl rfl,_,.nil,?_⟩|refine ⟨.inr rfl,_,.cn rfl (by exact zN) .nil,?_⟩)
  rw [hB, h1, h4, h6]; rfl
theorem proto31 {p : Proto} (hp : OkP p) (top : Bool) : PT Try.prog false 31 [.agg (protoR p), .bool top] (.bool (protoB p top)) := by
  refine PT.of (CT.enter mixed comp31 (Nat.le_of_ble_eq_true rfl) ?_)
  obtain ⟨l1, l2, l3⟩ := hp.lens
  have hn := name29 hp.name
  cases top with
  | true =>
    repeat' (first|(refine proto31_tail hp rfl ?_)|refine zA ?_|refine Cd.reg ?_|refine Rg.nil ?_|refine zF ?_|refine zG ?_|refine zH ?_|(refine Rg.p (v:=?_) ?_ ?_;rotate_left;exact zE)|(refine Rg.cmp (p:=?_) rfl rfl ?_ ?_;rotate_left;exact zC;intro cv hv)|(refine Rg.r (v:=?_) rfl rfl ?_ ?_;rotate_left;exact zN)|refine zL fun _=>?_|refine Rg.alloc fun _=>?_|refine Rg.a (Mk.lits rfl) fun _=>?_|refine zO (cs:=?_) (K':=?_) ?_|refine zP (cs:=?_) (K':=?_) ?_|((first|refine Rg.callB (g:=?_) rfl ?_ ?_|refine Rg.callvB (w:=?_) rfl rfl ?_ ?_);rotate_left;(first|assumption|exact in_);intro cv hv)|((first|refine Rg.callv (v:=?_) rfl rfl ?_ ?_|refine Rg.call (v:=?_) rfl ?_ ?_);rotate_left;(first|assumption|exact in_))|(refine Dw.callB (g:=?_) rfl ?_ ?_ ?_;rotate_left;(first|assumption|exact in_);(focus (repeat (first | exact trivial | refine And.intro (Or.inl rfl) ?_ | (refine And.intro (Or.inr ?_) ?_; (focus (first | exact Rdk.i1 | assumption | (refine Rdk.in ?_; first | assumption | exact rfl) | (refine Rdk.b1 (cs := ?_) ?_ ?_; rotate_left; (repeat (first | exact InK.here | refine InK.there ?_)); exact rfl) | (refine Rdk.bw (cs := ?_) ?_ ?_; rotate_left; (repeat (first | exact InK.here | refine InK.there ?_)); first | assumption | exact rfl) | (refine Rdk.bn (cs := ?_) ?_ ?_; rotate_left; (repeat (first | exact InK.here | refine InK.there ?_)); exact rfl)))))));intro cv hv)|(refine Dw.call (v:=?_) rfl ?_ ?_ ?_;rotate_left;(first|assumption|exact in_);focus (repeat (first | exact trivial | refine And.intro (Or.inl rfl) ?_ | (refine And.intro (Or.inr ?_) ?_; (focus (first | exact Rdk.i1 | assumption | (refine Rdk.in ?_; first | assumption | exact rfl) | (refine Rdk.b1 (cs := ?_) ?_ ?_; rotate_left; (repeat (first | exact InK.here | refine InK.there ?_)); exact rfl) | (refine Rdk.bw (cs := ?_) ?_ ?_; rotate_left; (repeat (first | exact InK.here | refine InK.there ?_)); first | assumption | exact rfl) | (refine Rdk.bn (cs := ?_) ?_ ?_; rotate_left; (repeat (first | exact InK.here | refine InK.there ?_)); exact rfl)))))))|(refine zQ (g:=?_) ?_;intro cv hv)|(refine zR (w:=?_) ?_;intro cv hv)|refine zS (v:=?_) ?_|refine zT (v:=?_) ?_|refine Lp.round ?_|refine Cd.draw ?_|refine Dw.nil ?_|refine Dw.guardY rfl ?_|refine Dw.guardN rfl ?_|refine Dw.guardT rfl ?_|(refine Dw.p (v:=?_) ?_ ?_;rotate_left;exact zE)|(refine Dw.cmp (p:=?_) rfl rfl ?_ ?_;rotate_left;exact zC;intro cv hv)|(refine Dw.r (v:=?_) rfl rfl ?_ ?_ ?_;rotate_left;exact zN;exact zM)|refine Dw.a Mk.alloc fun _=>?_|refine Dw.a (Mk.lits rfl) fun _=>?_|(refine zY (g:=?_) ?_;intro cv hv)|refine zW (v:=?_) ?_|refine Cd.condT rfl ?_|refine Cd.condF rfl ?_|((first|refine Cd.cond rfl ?_ ?_|refine Rg.guardS rfl ?_ ?_|refine Dw.guardS rfl ?_ ?_)<;>(intro e;(try simp only [Bool.not_eq_true',Bool.not_eq_false'] at e);subst e;try contradiction))|refine Cd.skip ?_|refine Cd.blk ?_|refine Cd.ext ?_|refine Cd.ret ?_)
    all_goals (try (first|refine ⟨.inr rfl,_,.t rfl .nil,?_⟩|refine ⟨.inr rfl,_,.t rfl (.t rfl .nil),?_⟩|refine ⟨.inr rfl,_,.t rfl (.t rfl (.t rfl .nil)),?_⟩|refine ⟨.inr rfl,_,.nil,?_⟩|refine ⟨.inl rfl,_,.t rfl .nil,?_⟩|refine ⟨.inl rfl,_,.nil,?_⟩|refine ⟨.inr rfl,_,.cn rfl (by exact zN) .nil,?_⟩))
    all_goals (clear hp l1 l2 l3 hn)
    all_goals (try (refine congrArg AV.bool ?_; symm; rw [← Bool.not_eq_true]; intro hb; simp only [protoB, headB, shapedB, Bool.and_eq_true, decide_eq_true_eq, if_true, if_false, Bool.false_eq_true] at hb; first | (simp_all; done) | (simp_all; omega) | omega))
    all_goals (rw [Bool.eq_iff_iff]; simp only [protoB, headB, shapedB, if_true, if_false, Bool.false_eq_true, Bool.and_eq_true, decide_eq_true_eq] at *)
    simp only [false_iff, ne_eq, Classical.not_not, Nat.not_lt, Int.not_lt] at *
    constructor
    · rintro ⟨⟨_, hc⟩, ⟨_, _, h1⟩, _, h2⟩
      exact ⟨by rw [List.eq_nil_of_length_eq_zero hc]; rfl, h1, h2⟩
    · rintro ⟨h0, h1, h2⟩
      exact ⟨⟨by assumption, by assumption⟩, ⟨⟨by simp at *; omega, by simp at *; omega⟩, by assumption, h1⟩, by assumption, h2⟩
  | false =>
    repeat' (first|(refine proto31_tail hp rfl ?_)|refine zA ?_|refine Cd.reg ?_|refine Rg.nil ?_|refine zF ?_|refine zG ?_|refine zH ?_|(refine Rg.p (v:=?_) ?_ ?_;rotate_left;exact zE)|(refine Rg.cmp (p:=?_) rfl rfl ?_ ?_;rotate_left;exact zC;intro cv hv)|(refine Rg.r (v:=?_) rfl rfl ?_ ?_;rotate_left;exact zN)|refine zL fun _=>?_|refine Rg.alloc fun _=>?_|refine Rg.a (Mk.lits rfl) fun _=>?_|refine zO (cs:=?_) (K':=?_) ?_|refine zP (cs:=?_) (K':=?_) ?_|((first|refine Rg.callB (g:=?_) rfl ?_ ?_|refine Rg.callvB (w:=?_) rfl rfl ?_ ?_);rotate_left;(first|assumption|exact in_);intro cv hv)|((first|refine Rg.callv (v:=?_) rfl rfl ?_ ?_|refine Rg.call (v:=?_) rfl ?_ ?_);rotate_left;(first|assumption|exact in_))|(refine Dw.callB (g:=?_) rfl ?_ ?_ ?_;rotate_left;(first|assumption|exact in_);(focus (repeat (first | exact trivial | refine And.intro (Or.inl rfl) ?_ | (refine And.intro (Or.inr ?_) ?_; (focus (first | exact Rdk.i1 | assumption | (refine Rdk.in ?_; first | assumption | exact rfl) | (refine Rdk.b1 (cs := ?_) ?_ ?_; rotate_left; (repeat (first | exact InK.here | refine InK.there ?_)); exact rfl) | (refine Rdk.bw (cs := ?_) ?_ ?_; rotate_left; (repeat (first | exact InK.here | refine InK.there ?_)); first | assumption | exact rfl) | (refine Rdk.bn (cs := ?_) ?_ ?_; rotate_left; (repeat (first | exact InK.here | refine InK.there ?_)); exact rfl)))))));intro cv hv)|(refine Dw.call (v:=?_) rfl ?_ ?_ ?_;rotate_left;(first|assumption|exact in_);focus (repeat (first | exact trivial | refine And.intro (Or.inl rfl) ?_ | (refine And.intro (Or.inr ?_) ?_; (focus (first | exact Rdk.i1 | assumption | (refine Rdk.in ?_; first | assumption | exact rfl) | (refine Rdk.b1 (cs := ?_) ?_ ?_; rotate_left; (repeat (first | exact InK.here | refine InK.there ?_)); exact rfl) | (refine Rdk.bw (cs := ?_) ?_ ?_; rotate_left; (repeat (first | exact InK.here | refine InK.there ?_)); first | assumption | exact rfl) | (refine Rdk.bn (cs := ?_) ?_ ?_; rotate_left; (repeat (first | exact InK.here | refine InK.there ?_)); exact rfl)))))))|(refine zQ (g:=?_) ?_;intro cv hv)|(refine zR (w:=?_) ?_;intro cv hv)|refine zS (v:=?_) ?_|refine zT (v:=?_) ?_|refine Lp.round ?_|refine Cd.draw ?_|refine Dw.nil ?_|refine Dw.guardY rfl ?_|refine Dw.guardN rfl ?_|refine Dw.guardT rfl ?_|(refine Dw.p (v:=?_) ?_ ?_;rotate_left;exact zE)|(refine Dw.cmp (p:=?_) rfl rfl ?_ ?_;rotate_left;exact zC;intro cv hv)|(refine Dw.r (v:=?_) rfl rfl ?_ ?_ ?_;rotate_left;exact zN;exact zM)|refine Dw.a Mk.alloc fun _=>?_|refine Dw.a (Mk.lits rfl) fun _=>?_|(refine zY (g:=?_) ?_;intro cv hv)|refine zW (v:=?_) ?_|refine Cd.condT rfl ?_|refine Cd.condF rfl ?_|((first|refine Cd.cond rfl ?_ ?_|refine Rg.guardS rfl ?_ ?_|refine Dw.guardS rfl ?_ ?_)<;>(intro e;(try simp only [Bool.not_eq_true',Bool.not_eq_false'] at e);subst e;try contradiction))|refine Cd.skip ?_|refine Cd.blk ?_|refine Cd.ext ?_|refine Cd.ret ?_)
    all_goals (try (first|refine ⟨.inr rfl,_,.t rfl .nil,?_⟩|refine ⟨.inr rfl,_,.t rfl (.t rfl .nil),?_⟩|refine ⟨.inr rfl,_,.t rfl (.t rfl (.t rfl .nil)),?_⟩|refine ⟨.inr rfl,_,.nil,?_⟩|refine ⟨.inl rfl,_,.t rfl .nil,?_⟩|refine ⟨.inl rfl,_,.nil,?_⟩|refine ⟨.inr rfl,_,.cn rfl (by exact zN) .nil,?_⟩))
    all_goals (clear hp l1 l2 l3 hn)
    all_goals (try (refine congrArg AV.bool ?_; symm; rw [← Bool.not_eq_true]; intro hb; simp only [protoB, headB, shapedB, Bool.and_eq_true, decide_eq_true_eq, if_true, if_false, Bool.false_eq_true] at hb; first | (simp_all; done) | (simp_all; omega) | omega))
    all_goals (rw [Bool.eq_iff_iff]; simp only [protoB, headB, shapedB, if_true, if_false, Bool.false_eq_true, Bool.and_eq_true, decide_eq_true_eq] at *)
    simp only [false_iff, ne_eq, Classical.not_not, Nat.not_lt, Int.not_lt] at *
    constructor
    · rintro ⟨⟨_, _, h0⟩, ⟨_, _, h1⟩, _, h2⟩
      exact ⟨h0, h1, h2⟩
    · rintro ⟨h0, h1, h2⟩
      exact ⟨⟨by assumption, by assumption, h0⟩, ⟨⟨by simp at *; omega, by simp at *; omega⟩, by assumption, h1⟩, by assumption, h2⟩
/-! The whole unit. -/
theorem right14_uses {u : Unt} (hu : OkU u) {b : Nat} {Q : AX → SL → Mem → Prop} (hret : ∀ l' K, u.uses.all useB = false → lkS l' 2 = some (.bool false) → Q .ret l' K) (hend : ∀ l', u.uses.all useB = true → lkS l' 1 = some (.ptr b 0 0 5) → Q (.ext 0) l' [boxU b u]) :
    ∀ (k i : Nat), u.uses.length < i + k → i ≤ u.uses.length → (∀ x, x ∈ u.uses.take i → useB x = true) → Lp Try.prog false b14_0 k [(1, .ptr b 0 0 5), (3, .int .i64 (.ofNat i))] [boxU b u] Q := by
  have hl := hu.luses
  obtain ⟨l1, l2⟩ := hu.lens
  intro k
  induction k with
  | zero => intro i h1 h2; omega
  | succ k ih =>
    intro i h1 h2 h3
    refine Lp.round ?_
    by_cases hi : i < u.uses.length
    · obtain ⟨x, hx⟩ : ∃ x, u.uses[i]? = some x := ⟨_, List.getElem?_eq_getElem hi⟩
      have q1 := hu.uses.iadr (i := i) (r := useR x) (k := .i64) (by rw [List.getElem?_map, hx]; rfl)
      obtain ⟨t1, t2⟩ := hu.um x (List.mem_of_getElem? hx)
      have bad : useB x = false → u.uses.all useB = false := fun hb => by
        cases ha : u.uses.all useB with
        | false => rfl
        | true => rw [List.all_eq_true.1 ha x (List.mem_of_getElem? hx)] at hb; cases hb
      repeat' (first|refine zA ?_|refine Cd.reg ?_|refine Rg.nil ?_|refine zF ?_|refine zG ?_|refine zH ?_|(refine Rg.p (v:=?_) ?_ ?_;rotate_left;exact zE)|(refine Rg.cmp (p:=?_) rfl rfl ?_ ?_;rotate_left;exact zC;intro cv hv)|(refine Rg.r (v:=?_) rfl rfl ?_ ?_;rotate_left;exact zN)|refine zL fun _=>?_|refine Rg.alloc fun _=>?_|refine Rg.a (Mk.lits rfl) fun _=>?_|refine zO (cs:=?_) (K':=?_) ?_|refine zP (cs:=?_) (K':=?_) ?_|((first|refine Rg.callB (g:=?_) rfl ?_ ?_|refine Rg.callvB (w:=?_) rfl rfl ?_ ?_);rotate_left;(first|assumption|exact name29 t1|exact name29 t2|exact in_);intro cv hv)|((first|refine Rg.callv (v:=?_) rfl rfl ?_ ?_|refine Rg.call (v:=?_) rfl ?_ ?_);rotate_left;(first|assumption|exact name29 t1|exact name29 t2|exact in_))|(refine Dw.callB (g:=?_) rfl ?_ ?_ ?_;rotate_left;(first|assumption|exact name29 t1|exact name29 t2|exact in_);(focus (repeat (first | exact trivial | refine And.intro (Or.inl rfl) ?_ | (refine And.intro (Or.inr ?_) ?_; (focus (first | exact Rdk.i1 | assumption | (refine Rdk.in ?_; first | assumption | exact rfl) | (refine Rdk.b1 (cs := ?_) ?_ ?_; rotate_left; (repeat (first | exact InK.here | refine InK.there ?_)); exact rfl) | (refine Rdk.bw (cs := ?_) ?_ ?_; rotate_left; (repeat (first | exact InK.here | refine InK.there ?_)); first | assumption | exact rfl) | (refine Rdk.bn (cs := ?_) ?_ ?_; rotate_left; (repeat (first | exact InK.here | refine InK.there ?_)); exact rfl)))))));intro cv hv)|(refine Dw.call (v:=?_) rfl ?_ ?_ ?_;rotate_left;(first|assumption|exact name29 t1|exact name29 t2|exact in_);focus (repeat (first | exact trivial | refine And.intro (Or.inl rfl) ?_ | (refine And.intro (Or.inr ?_) ?_; (focus (first | exact Rdk.i1 | assumption | (refine Rdk.in ?_; first | assumption | exact rfl) | (refine Rdk.b1 (cs := ?_) ?_ ?_; rotate_left; (repeat (first | exact InK.here | refine InK.there ?_)); exact rfl) | (refine Rdk.bw (cs := ?_) ?_ ?_; rotate_left; (repeat (first | exact InK.here | refine InK.there ?_)); first | assumption | exact rfl) | (refine Rdk.bn (cs := ?_) ?_ ?_; rotate_left; (repeat (first | exact InK.here | refine InK.there ?_)); exact rfl)))))))|(refine zQ (g:=?_) ?_;intro cv hv)|(refine zR (w:=?_) ?_;intro cv hv)|refine zS (v:=?_) ?_|refine zT (v:=?_) ?_|refine Lp.round ?_|refine Cd.draw ?_|refine Dw.nil ?_|refine Dw.guardY rfl ?_|refine Dw.guardN rfl ?_|refine Dw.guardT rfl ?_|(refine Dw.p (v:=?_) ?_ ?_;rotate_left;exact zE)|(refine Dw.cmp (p:=?_) rfl rfl ?_ ?_;rotate_left;exact zC;intro cv hv)|(refine Dw.r (v:=?_) rfl rfl ?_ ?_ ?_;rotate_left;exact zN;exact zM)|refine Dw.a Mk.alloc fun _=>?_|refine Dw.a (Mk.lits rfl) fun _=>?_|(refine zY (g:=?_) ?_;intro cv hv)|refine zW (v:=?_) ?_|refine Cd.condT rfl ?_|refine Cd.condF rfl ?_|((first|refine Cd.cond rfl ?_ ?_|refine Rg.guardS rfl ?_ ?_|refine Dw.guardS rfl ?_ ?_)<;>(intro e;(try simp only [Bool.not_eq_true',Bool.not_eq_false'] at e);subst e;try contradiction))|refine Cd.skip ?_|refine Cd.blk ?_|refine Cd.ext ?_|refine Cd.ret ?_)
      · exact hret _ _ (bad (by simp [useB, hv])) rfl
      · exact hret _ _ (bad (by simp [useB, hv])) rfl
      · rename_i h4 _ h5
        exact hret _ _ (bad (by simp only [useB]; simp_all)) rfl
      · refine Lp.drop (m := [boxU b u]) (.cons (.there .here) .nil) (Lp.weak ?hw (ih (i + 1) (by omega) (by omega) ?_))
        case hw => exact ⟨rfl, rfl, trivial⟩
        intro y hy
        rw [List.take_add_one, hx] at hy
        rcases List.mem_append.1 hy with hy | hy
        · exact h3 y hy
        · simp at hy; subst hy; simp only [useB]; simp_all
    · repeat' (first|refine zA ?_|refine Cd.reg ?_|refine Rg.nil ?_|refine zF ?_|refine zG ?_|refine zH ?_|(refine Rg.p (v:=?_) ?_ ?_;rotate_left;exact zE)|(refine Rg.cmp (p:=?_) rfl rfl ?_ ?_;rotate_left;exact zC;intro cv hv)|(refine Rg.r (v:=?_) rfl rfl ?_ ?_;rotate_left;exact zN)|refine zL fun _=>?_|refine Rg.alloc fun _=>?_|refine Rg.a (Mk.lits rfl) fun _=>?_|refine zO (cs:=?_) (K':=?_) ?_|refine zP (cs:=?_) (K':=?_) ?_|(refine zQ (g:=?_) ?_;intro cv hv)|(refine zR (w:=?_) ?_;intro cv hv)|refine zS (v:=?_) ?_|refine zT (v:=?_) ?_|refine Lp.round ?_|refine Cd.draw ?_|refine Dw.nil ?_|refine Dw.guardY rfl ?_|refine Dw.guardN rfl ?_|refine Dw.guardT rfl ?_|(refine Dw.p (v:=?_) ?_ ?_;rotate_left;exact zE)|(refine Dw.cmp (p:=?_) rfl rfl ?_ ?_;rotate_left;exact zC;intro cv hv)|(refine Dw.r (v:=?_) rfl rfl ?_ ?_ ?_;rotate_left;exact zN;exact zM)|refine Dw.a Mk.alloc fun _=>?_|refine Dw.a (Mk.lits rfl) fun _=>?_|(refine zY (g:=?_) ?_;intro cv hv)|refine zW (v:=?_) ?_|refine Cd.condT rfl ?_|refine Cd.condF rfl ?_|((first|refine Cd.cond rfl ?_ ?_|refine Rg.guardS rfl ?_ ?_|refine Dw.guardS rfl ?_ ?_)<;>(intro e;(try simp only [Bool.not_eq_true',Bool.not_eq_false'] at e);subst e;try contradiction))|refine Cd.skip ?_|refine Cd.blk ?_|refine Cd.ext ?_|refine Cd.ret ?_)
      exact hend _ (List.all_eq_true.2 fun x hx => h3 x (by rw [List.take_of_length_le (by omega)]; exact hx)) rfl
theorem right14_protos {u : Unt} (hu : OkU u) {b : Nat} {Q : AX → SL → Mem → Prop} (hret : ∀ l' K, protosB u.funs 0 u.protos = false → lkS l' 2 = some (.bool false) → Q .ret l' K) (hend : ∀ l' K, protosB u.funs 0 u.protos = true → Q (.ext 2) l' K) :
    ∀ (k i : Nat), u.protos.length < i + k → i ≤ u.protos.length → protosB u.funs i (u.protos.drop i) = protosB u.funs 0 u.protos → Lp Try.prog false b14_1 k [(1, .ptr b 0 0 5), (5, .int .i64 (.ofNat i))] [boxU b u] Q := by
  have hl := hu.lprotos
  obtain ⟨l1, l2⟩ := hu.lens
  intro k
  induction k with
  | zero => intro i h1 h2; omega
  | succ k ih =>
    intro i h1 h2 h3
    refine Lp.round ?_
    by_cases hi : i < u.protos.length
    · obtain ⟨x, hx⟩ : ∃ x, u.protos[i]? = some x := ⟨_, List.getElem?_eq_getElem hi⟩
      have q1 := hu.protos.iadr (i := i) (r := protoR x) (k := .i64) (by rw [List.getElem?_map, hx]; rfl)
      have q2 := fun top => proto31 (hu.ps x (List.mem_of_getElem? hx)) top
      rw [protosB_drop hx] at h3
      repeat' (first|refine zA ?_|refine Cd.reg ?_|refine Rg.nil ?_|refine zF ?_|refine zG ?_|refine zH ?_|(refine Rg.p (v:=?_) ?_ ?_;rotate_left;exact zE)|(refine Rg.cmp (p:=?_) rfl rfl ?_ ?_;rotate_left;exact zC;intro cv hv)|(refine Rg.r (v:=?_) rfl rfl ?_ ?_;rotate_left;exact zN)|refine zL fun _=>?_|refine Rg.alloc fun _=>?_|refine Rg.a (Mk.lits rfl) fun _=>?_|refine zO (cs:=?_) (K':=?_) ?_|refine zP (cs:=?_) (K':=?_) ?_|((first|refine Rg.callB (g:=?_) rfl ?_ ?_|refine Rg.callvB (w:=?_) rfl rfl ?_ ?_);rotate_left;(first|assumption|exact q2 _);intro cv hv)|((first|refine Rg.callv (v:=?_) rfl rfl ?_ ?_|refine Rg.call (v:=?_) rfl ?_ ?_);rotate_left;(first|assumption|exact q2 _))|(refine Dw.callB (g:=?_) rfl ?_ ?_ ?_;rotate_left;(first|assumption|exact q2 _);(focus (repeat (first | exact trivial | refine And.intro (Or.inl rfl) ?_ | (refine And.intro (Or.inr ?_) ?_; (focus (first | exact Rdk.i1 | assumption | (refine Rdk.in ?_; first | assumption | exact rfl) | (refine Rdk.b1 (cs := ?_) ?_ ?_; rotate_left; (repeat (first | exact InK.here | refine InK.there ?_)); exact rfl) | (refine Rdk.bw (cs := ?_) ?_ ?_; rotate_left; (repeat (first | exact InK.here | refine InK.there ?_)); first | assumption | exact rfl) | (refine Rdk.bn (cs := ?_) ?_ ?_; rotate_left; (repeat (first | exact InK.here | refine InK.there ?_)); exact rfl)))))));intro cv hv)|(refine Dw.call (v:=?_) rfl ?_ ?_ ?_;rotate_left;(first|assumption|exact q2 _);focus (repeat (first | exact trivial | refine And.intro (Or.inl rfl) ?_ | (refine And.intro (Or.inr ?_) ?_; (focus (first | exact Rdk.i1 | assumption | (refine Rdk.in ?_; first | assumption | exact rfl) | (refine Rdk.b1 (cs := ?_) ?_ ?_; rotate_left; (repeat (first | exact InK.here | refine InK.there ?_)); exact rfl) | (refine Rdk.bw (cs := ?_) ?_ ?_; rotate_left; (repeat (first | exact InK.here | refine InK.there ?_)); first | assumption | exact rfl) | (refine Rdk.bn (cs := ?_) ?_ ?_; rotate_left; (repeat (first | exact InK.here | refine InK.there ?_)); exact rfl)))))))|(refine zQ (g:=?_) ?_;intro cv hv)|(refine zR (w:=?_) ?_;intro cv hv)|refine zS (v:=?_) ?_|refine zT (v:=?_) ?_|refine Lp.round ?_|refine Cd.draw ?_|refine Dw.nil ?_|refine Dw.guardY rfl ?_|refine Dw.guardN rfl ?_|refine Dw.guardT rfl ?_|(refine Dw.p (v:=?_) ?_ ?_;rotate_left;exact zE)|(refine Dw.cmp (p:=?_) rfl rfl ?_ ?_;rotate_left;exact zC;intro cv hv)|(refine Dw.r (v:=?_) rfl rfl ?_ ?_ ?_;rotate_left;exact zN;exact zM)|refine Dw.a Mk.alloc fun _=>?_|refine Dw.a (Mk.lits rfl) fun _=>?_|(refine zY (g:=?_) ?_;intro cv hv)|refine zW (v:=?_) ?_|refine Cd.condT rfl ?_|refine Cd.condF rfl ?_|((first|refine Cd.cond rfl ?_ ?_|refine Rg.guardS rfl ?_ ?_|refine Dw.guardS rfl ?_ ?_)<;>(intro e;(try simp only [Bool.not_eq_true',Bool.not_eq_false'] at e);subst e;try contradiction))|refine Cd.skip ?_|refine Cd.blk ?_|refine Cd.ext ?_|refine Cd.ret ?_)
      all_goals (rename_i h4; have e4 : decide (((i + 1 : Nat) : Int) ≤ u.funs) = cv := by rw [Bool.eq_iff_iff, h4]; simp; omega)
      · exact hret _ _ (by rw [← h3, e4, hv]; rfl) rfl
      · refine Lp.drop (m := [boxU b u]) (.cons .here .nil) (Lp.weak ?hw (ih (i + 1) (by omega) (by omega) ?_))
        case hw => exact ⟨rfl, rfl, trivial⟩
        rw [← h3, e4, hv]; rfl
    · repeat' (first|refine zA ?_|refine Cd.reg ?_|refine Rg.nil ?_|refine zF ?_|refine zG ?_|refine zH ?_|(refine Rg.p (v:=?_) ?_ ?_;rotate_left;exact zE)|(refine Rg.cmp (p:=?_) rfl rfl ?_ ?_;rotate_left;exact zC;intro cv hv)|(refine Rg.r (v:=?_) rfl rfl ?_ ?_;rotate_left;exact zN)|refine zL fun _=>?_|refine Rg.alloc fun _=>?_|refine Rg.a (Mk.lits rfl) fun _=>?_|refine zO (cs:=?_) (K':=?_) ?_|refine zP (cs:=?_) (K':=?_) ?_|(refine zQ (g:=?_) ?_;intro cv hv)|(refine zR (w:=?_) ?_;intro cv hv)|refine zS (v:=?_) ?_|refine zT (v:=?_) ?_|refine Lp.round ?_|refine Cd.draw ?_|refine Dw.nil ?_|refine Dw.guardY rfl ?_|refine Dw.guardN rfl ?_|refine Dw.guardT rfl ?_|(refine Dw.p (v:=?_) ?_ ?_;rotate_left;exact zE)|(refine Dw.cmp (p:=?_) rfl rfl ?_ ?_;rotate_left;exact zC;intro cv hv)|(refine Dw.r (v:=?_) rfl rfl ?_ ?_ ?_;rotate_left;exact zN;exact zM)|refine Dw.a Mk.alloc fun _=>?_|refine Dw.a (Mk.lits rfl) fun _=>?_|(refine zY (g:=?_) ?_;intro cv hv)|refine zW (v:=?_) ?_|refine Cd.condT rfl ?_|refine Cd.condF rfl ?_|((first|refine Cd.cond rfl ?_ ?_|refine Rg.guardS rfl ?_ ?_|refine Dw.guardS rfl ?_ ?_)<;>(intro e;(try simp only [Bool.not_eq_true',Bool.not_eq_false'] at e);subst e;try contradiction))|refine Cd.skip ?_|refine Cd.blk ?_|refine Cd.ext ?_|refine Cd.ret ?_)
      refine hend _ _ ?_
      rw [← h3, List.drop_of_length_le (by omega)]; rfl
theorem right14_tail {u : Unt} (hu : OkU u) {l : SL} {b : Nat} (h2 : lkS l 1 = some (.ptr b 0 0 5)) (hB : unitB u = (u.uses.all useB && protosB u.funs 0 u.protos)) :
    Cd Try.prog false (.seq (.seq (.reg r14_3) (.blk 0 (.loop b14_0))) (.seq (.seq (.reg r14_9) (.blk 2 (.loop b14_1))) (.seq (.reg r14_14) .ret))) l [boxU b u] (DoneK fn14.results fun w _ => w = .bool (unitB u)) := by
  refine Cd.weak (l2 := [(1, .ptr b 0 0 5)]) ⟨h2, trivial⟩ ?_
  have lc := hu.luses
  have lk := hu.lprotos
  repeat' (first|refine zA ?_|refine Cd.reg ?_|refine Rg.nil ?_|refine zF ?_|refine zG ?_|refine zH ?_|(refine Rg.p (v:=?_) ?_ ?_;rotate_left;exact zE)|(refine Rg.cmp (p:=?_) rfl rfl ?_ ?_;rotate_left;exact zC;intro cv hv)|(refine Rg.r (v:=?_) rfl rfl ?_ ?_;rotate_left;exact zN)|refine zL fun _=>?_|refine Rg.alloc fun _=>?_|refine Rg.a (Mk.lits rfl) fun _=>?_|refine zO (cs:=?_) (K':=?_) ?_|refine zP (cs:=?_) (K':=?_) ?_|(refine zQ (g:=?_) ?_;intro cv hv)|(refine zR (w:=?_) ?_;intro cv hv)|refine zS (v:=?_) ?_|refine zT (v:=?_) ?_|refine Lp.round ?_|refine Cd.draw ?_|refine Dw.nil ?_|refine Dw.guardY rfl ?_|refine Dw.guardN rfl ?_|refine Dw.guardT rfl ?_|(refine Dw.p (v:=?_) ?_ ?_;rotate_left;exact zE)|(refine Dw.cmp (p:=?_) rfl rfl ?_ ?_;rotate_left;exact zC;intro cv hv)|(refine Dw.r (v:=?_) rfl rfl ?_ ?_ ?_;rotate_left;exact zN;exact zM)|refine Dw.a Mk.alloc fun _=>?_|refine Dw.a (Mk.lits rfl) fun _=>?_|(refine zY (g:=?_) ?_;intro cv hv)|refine zW (v:=?_) ?_|refine Cd.condT rfl ?_|refine Cd.condF rfl ?_|((first|refine Cd.cond rfl ?_ ?_|refine Rg.guardS rfl ?_ ?_|refine Dw.guardS rfl ?_ ?_)<;>(intro e;(try simp only [Bool.not_eq_true',Bool.not_eq_false'] at e);subst e;try contradiction))|refine Cd.skip ?_|refine Cd.blk ?_|refine Cd.ext ?_|refine Cd.ret ?_)
  refine Cd.loop (k := u.uses.length + 1) (Lp.weak ?hw (right14_uses hu ?_ ?_ (u.uses.length + 1) 0 (by omega) (by omega) (by intro x hx; simp at hx)))
  case hw => exact ⟨rfl, rfl, trivial⟩
  · intro l' K h1 h3
    exact ⟨.inr rfl, _, .t h3 .nil, by rw [hB, h1]; rfl⟩
  intro l' h1 h3
  show Cd _ _ _ _ _ _
  refine Cd.weak (l2 := [(1, .ptr b 0 0 5)]) ⟨h3, trivial⟩ ?_
  repeat' (first|refine zA ?_|refine Cd.reg ?_|refine Rg.nil ?_|refine zF ?_|refine zG ?_|refine zH ?_|(refine Rg.p (v:=?_) ?_ ?_;rotate_left;exact zE)|(refine Rg.cmp (p:=?_) rfl rfl ?_ ?_;rotate_left;exact zC;intro cv hv)|(refine Rg.r (v:=?_) rfl rfl ?_ ?_;rotate_left;exact zN)|refine zL fun _=>?_|refine Rg.alloc fun _=>?_|refine Rg.a (Mk.lits rfl) fun _=>?_|refine zO (cs:=?_) (K':=?_) ?_|refine zP (cs:=?_) (K':=?_) ?_|(refine zQ (g:=?_) ?_;intro cv hv)|(refine zR (w:=?_) ?_;intro cv hv)|refine zS (v:=?_) ?_|refine zT (v:=?_) ?_|refine Lp.round ?_|refine Cd.draw ?_|refine Dw.nil ?_|refine Dw.guardY rfl ?_|refine Dw.guardN rfl ?_|refine Dw.guardT rfl ?_|(refine Dw.p (v:=?_) ?_ ?_;rotate_left;exact zE)|(refine Dw.cmp (p:=?_) rfl rfl ?_ ?_;rotate_left;exact zC;intro cv hv)|(refine Dw.r (v:=?_) rfl rfl ?_ ?_ ?_;rotate_left;exact zN;exact zM)|refine Dw.a Mk.alloc fun _=>?_|refine Dw.a (Mk.lits rfl) fun _=>?_|(refine zY (g:=?_) ?_;intro cv hv)|refine zW (v:=?_) ?_|refine Cd.condT rfl ?_|refine Cd.condF rfl ?_|((first|refine Cd.cond rfl ?_ ?_|refine Rg.guardS rfl ?_ ?_|refine Dw.guardS rfl ?_ ?_)<;>(intro e;(try simp only [Bool.not_eq_true',Bool.not_eq_false'] at e);subst e;try contradiction))|refine Cd.skip ?_|refine Cd.blk ?_|refine Cd.ext ?_|refine Cd.ret ?_)
  refine Cd.loop (k := u.protos.length + 1) (Lp.weak ?hw (right14_protos hu ?_ ?_ (u.protos.length + 1) 0 (by omega) (by omega) rfl))
  case hw => exact ⟨rfl, rfl, trivial⟩
  · intro l' K h4 h5
    exact ⟨.inr rfl, _, .t h5 .nil, by rw [hB, h1, h4]; rfl⟩
  intro l' K h4
  show Cd _ _ _ _ _ _
  refine Cd.weak (l2 := []) trivial ?_
  repeat' (first|refine zA ?_|refine Cd.reg ?_|refine Rg.nil ?_|refine zF ?_|refine zG ?_|refine zH ?_|(refine Rg.p (v:=?_) ?_ ?_;rotate_left;exact zE)|(refine Rg.cmp (p:=?_) rfl rfl ?_ ?_;rotate_left;exact zC;intro cv hv)|(refine Rg.r (v:=?_) rfl rfl ?_ ?_;rotate_left;exact zN)|refine zL fun _=>?_|refine Rg.alloc fun _=>?_|refine Rg.a (Mk.lits rfl) fun _=>?_|refine zO (cs:=?_) (K':=?_) ?_|refine zP (cs:=?_) (K':=?_) ?_|(refine zQ (g:=?_) ?_;intro cv hv)|(refine zR (w:=?_) ?_;intro cv hv)|refine zS (v:=?_) ?_|refine zT (v:=?_) ?_|refine Lp.round ?_|refine Cd.draw ?_|refine Dw.nil ?_|refine Dw.guardY rfl ?_|refine Dw.guardN rfl ?_|refine Dw.guardT rfl ?_|(refine Dw.p (v:=?_) ?_ ?_;rotate_left;exact zE)|(refine Dw.cmp (p:=?_) rfl rfl ?_ ?_;rotate_left;exact zC;intro cv hv)|(refine Dw.r (v:=?_) rfl rfl ?_ ?_ ?_;rotate_left;exact zN;exact zM)|refine Dw.a Mk.alloc fun _=>?_|refine Dw.a (Mk.lits rfl) fun _=>?_|(refine zY (g:=?_) ?_;intro cv hv)|refine zW (v:=?_) ?_|refine Cd.condT rfl ?_|refine Cd.condF rfl ?_|((first|refine Cd.cond rfl ?_ ?_|refine Rg.guardS rfl ?_ ?_|refine Dw.guardS rfl ?_ ?_)<;>(intro e;(try simp only [Bool.not_eq_true',Bool.not_eq_false'] at e);subst e;try contradiction))|refine Cd.skip ?_|refine Cd.blk ?_|refine Cd.ext ?_|refine Cd.ret ?_)
  (first|refine ⟨.inr rfl,_,.t rfl .nil,?_⟩|refine ⟨.inr rfl,_,.t rfl (.t rfl .nil),?_⟩|refine ⟨.inr rfl,_,.t rfl (.t rfl (.t rfl .nil)),?_⟩|refine ⟨.inr rfl,_,.nil,?_⟩|refine ⟨.inl rfl,_,.t rfl .nil,?_⟩|refine ⟨.inl rfl,_,.nil,?_⟩|refine ⟨.inr rfl,_,.cn rfl (by exact zN) .nil,?_⟩)
  rw [hB, h1, h4]; rfl
theorem right14 {u : Unt} (hu : OkU u) : PT Try.prog false 14 [.agg (unitR u)] (.bool (unitB u)) := by
  refine PT.of (CT.enter mixed comp14 (Nat.le_of_ble_eq_true rfl) ?_)
  obtain ⟨l1, l2⟩ := hu.lens
  have hn := name29 hu.name
  repeat' (first|(refine right14_tail hu rfl ?_)|refine zA ?_|refine Cd.reg ?_|refine Rg.nil ?_|refine zF ?_|refine zG ?_|refine zH ?_|(refine Rg.p (v:=?_) ?_ ?_;rotate_left;exact zE)|(refine Rg.cmp (p:=?_) rfl rfl ?_ ?_;rotate_left;exact zC;intro cv hv)|(refine Rg.r (v:=?_) rfl rfl ?_ ?_;rotate_left;exact zN)|refine zL fun _=>?_|refine Rg.alloc fun _=>?_|refine Rg.a (Mk.lits rfl) fun _=>?_|refine zO (cs:=?_) (K':=?_) ?_|refine zP (cs:=?_) (K':=?_) ?_|((first|refine Rg.callB (g:=?_) rfl ?_ ?_|refine Rg.callvB (w:=?_) rfl rfl ?_ ?_);rotate_left;(first|assumption|exact in_);intro cv hv)|((first|refine Rg.callv (v:=?_) rfl rfl ?_ ?_|refine Rg.call (v:=?_) rfl ?_ ?_);rotate_left;(first|assumption|exact in_))|(refine Dw.callB (g:=?_) rfl ?_ ?_ ?_;rotate_left;(first|assumption|exact in_);(focus (repeat (first | exact trivial | refine And.intro (Or.inl rfl) ?_ | (refine And.intro (Or.inr ?_) ?_; (focus (first | exact Rdk.i1 | assumption | (refine Rdk.in ?_; first | assumption | exact rfl) | (refine Rdk.b1 (cs := ?_) ?_ ?_; rotate_left; (repeat (first | exact InK.here | refine InK.there ?_)); exact rfl) | (refine Rdk.bw (cs := ?_) ?_ ?_; rotate_left; (repeat (first | exact InK.here | refine InK.there ?_)); first | assumption | exact rfl) | (refine Rdk.bn (cs := ?_) ?_ ?_; rotate_left; (repeat (first | exact InK.here | refine InK.there ?_)); exact rfl)))))));intro cv hv)|(refine Dw.call (v:=?_) rfl ?_ ?_ ?_;rotate_left;(first|assumption|exact in_);focus (repeat (first | exact trivial | refine And.intro (Or.inl rfl) ?_ | (refine And.intro (Or.inr ?_) ?_; (focus (first | exact Rdk.i1 | assumption | (refine Rdk.in ?_; first | assumption | exact rfl) | (refine Rdk.b1 (cs := ?_) ?_ ?_; rotate_left; (repeat (first | exact InK.here | refine InK.there ?_)); exact rfl) | (refine Rdk.bw (cs := ?_) ?_ ?_; rotate_left; (repeat (first | exact InK.here | refine InK.there ?_)); first | assumption | exact rfl) | (refine Rdk.bn (cs := ?_) ?_ ?_; rotate_left; (repeat (first | exact InK.here | refine InK.there ?_)); exact rfl)))))))|(refine zQ (g:=?_) ?_;intro cv hv)|(refine zR (w:=?_) ?_;intro cv hv)|refine zS (v:=?_) ?_|refine zT (v:=?_) ?_|refine Lp.round ?_|refine Cd.draw ?_|refine Dw.nil ?_|refine Dw.guardY rfl ?_|refine Dw.guardN rfl ?_|refine Dw.guardT rfl ?_|(refine Dw.p (v:=?_) ?_ ?_;rotate_left;exact zE)|(refine Dw.cmp (p:=?_) rfl rfl ?_ ?_;rotate_left;exact zC;intro cv hv)|(refine Dw.r (v:=?_) rfl rfl ?_ ?_ ?_;rotate_left;exact zN;exact zM)|refine Dw.a Mk.alloc fun _=>?_|refine Dw.a (Mk.lits rfl) fun _=>?_|(refine zY (g:=?_) ?_;intro cv hv)|refine zW (v:=?_) ?_|refine Cd.condT rfl ?_|refine Cd.condF rfl ?_|((first|refine Cd.cond rfl ?_ ?_|refine Rg.guardS rfl ?_ ?_|refine Dw.guardS rfl ?_ ?_)<;>(intro e;(try simp only [Bool.not_eq_true',Bool.not_eq_false'] at e);subst e;try contradiction))|refine Cd.skip ?_|refine Cd.blk ?_|refine Cd.ext ?_|refine Cd.ret ?_)
  all_goals (try (first|refine ⟨.inr rfl,_,.t rfl .nil,?_⟩|refine ⟨.inr rfl,_,.t rfl (.t rfl .nil),?_⟩|refine ⟨.inr rfl,_,.t rfl (.t rfl (.t rfl .nil)),?_⟩|refine ⟨.inr rfl,_,.nil,?_⟩|refine ⟨.inl rfl,_,.t rfl .nil,?_⟩|refine ⟨.inl rfl,_,.nil,?_⟩|refine ⟨.inr rfl,_,.cn rfl (by exact zN) .nil,?_⟩))
  all_goals (clear l1 l2 hn)
  all_goals (try (clear hu; (refine congrArg AV.bool ?_; symm; rw [← Bool.not_eq_true]; intro hb; simp only [unitB, Bool.and_eq_true, decide_eq_true_eq, if_true, if_false, Bool.false_eq_true] at hb; first | (simp_all; done) | (simp_all; omega) | omega); done))
  rw [Bool.eq_iff_iff]
  simp only [unitB, Bool.and_eq_true, decide_eq_true_eq] at *
  simp only [Bool.false_eq_true, false_iff, Nat.not_lt, Int.not_lt] at *
  constructor
  · rintro ⟨⟨_, _, h1⟩, _, h2⟩
    exact ⟨h1, h2⟩
  · rintro ⟨h1, h2⟩
    exact ⟨⟨⟨⟨by assumption, by assumption⟩, by simp at *; omega⟩, by assumption, h1⟩, by assumption, h2⟩
end Go.Proofs.Ytmedepnfpiheoaa
