/- HeapPlays: objects are made in both heaps. -/
import Derived.Test.YtggpnokhhpnnaaaHepP
set_option autoImplicit false
set_option maxRecDepth 100000
set_option maxHeartbeats 4000000
set_option linter.unusedVariables false
set_option linter.unusedSimpArgs false
namespace Go.Proofs.Ytggpnokhhpnnaaa
open Go Go.Abs
attribute [local irreducible] Cmp Rg Dw Cd Lp Ev Rdk CT Upd InK
theorem aeqV (x : Val) : aeq (.flat true [.i, .i, .s]) (.agg (valR x)) (.agg (valR x)) = some true := by
  rw [show (AV.agg (valR x)) = valA x from rfl]
  simp only [aeq, flatVal, decide_true]
structure Bd (H : MH) (i : Nat) : Prop where
  ok : H.ok
  used : H.used ≤ i
  cells : H.cells.length ≤ i
  fns : ∀ q, q ∈ H.fns → q.cells.length ≤ 100000
def opC (o : OpS) : Cl := ⟨o.u, o.p, o.cells⟩
def mMake (H : MH) (o : OpS) : MH := if o.kind = 0 then (mTable H).1 else if o.kind = 4 then (mFn H (opC o)).1 else mCell H o.v
theorem Bd.make {H : MH} {i : Nat} {o : OpS} (h : Bd H i) (ho : o.cells.length ≤ 100000) : Bd (mMake H o) (i + 1) := by
  have hu := h.used
  have hc := h.cells
  unfold mMake
  split
  · refine ⟨h.ok.table, ?_, ?_, ?_⟩
    · unfold mTable; split
      · exact Nat.succ_le_succ hu
      · exact Nat.le_succ_of_le hu
    · unfold mTable; split <;> exact Nat.le_succ_of_le hc
    · unfold mTable; split <;> exact h.fns
  · split
    · refine ⟨h.ok.fn, ?_, ?_, ?_⟩
      · unfold mFn; split
        · exact Nat.succ_le_succ hu
        · exact Nat.le_succ_of_le hu
      · unfold mFn; split <;> exact Nat.le_succ_of_le hc
      · unfold mFn; split
        · intro q hq
          rcases List.mem_append.1 hq with hq | hq
          · exact h.fns q hq
          · rw [List.mem_singleton] at hq; subst hq; exact ho
        · exact h.fns
    · exact ⟨⟨h.ok.room, h.ok.used, h.ok.le, h.ok.srt, h.ok.kl⟩, by show H.used ≤ _; omega, by simp [mCell]; omega, h.fns⟩
/-- Each cell of a slice is set. -/
theorem fill43 {z0 z1 z5 z12 z13 z14 z15 : AV} {Q : AX → SL → Mem → Prop} {n : Nat} (hn : n ≤ 100000)
    (hend : ∀ (O : OS) (l' : SL), Sub2 [(0, z0), (1, z1), (5, z5), (12, z12), (13, z13), (14, z14), (15, z15)] l' → Q (.ext 1) l' [O.c]) :
    ∀ (f i : Nat) (O : OS), n < i + f → i ≤ n → O.ok 1 → O.rows.length = n → Lp Try.prog false b43_0 f [(0, z0), (1, z1), (5, z5), (11, O.v 1), (12, z12), (13, z13), (14, z14), (15, z15), (16, .int .i64 (.ofNat i))] [O.c] Q := by
  intro f
  induction f with
  | zero => intro i O h1 h2; omega
  | succ f ih =>
    intro i O h1 h2 hO hl
    have hln := hO.len
    rw [hl] at hln
    refine Lp.round ?_
    by_cases hi : i < n
    · obtain ⟨row, hrw⟩ : ∃ row, O.rows[i]? = some row := ⟨_, List.getElem?_eq_getElem (by omega)⟩
      obtain ⟨id, g, e⟩ := hO.at hrw
      have hrow := hO.row
      generalize O.rows = rows at *
      subst e
      subst hl
      have q1 := iadr_slc (sz := 1) (b := id) (g := g) (off := 0) (len := rows.length) (cap := rows.length) (i := i) (k := .i64) hi
      repeat' (first|refine zz ?_|(refine zw ?_;refine And.intro ?_ ?_<;>intro hc)|(refine zv ?_;intro cv hv)|(refine za ?_;intro _)|refine zc ?_|(refine zd ?_;refine And.intro ?_ ?_<;>(intro e;(try simp only [Bool.not_eq_true',Bool.not_eq_false'] at e);subst e;try contradiction)))
      refine Rg.e (Ef.store (x := .t 74) (y := .c (.int .i64 (.negSucc 6))) (g := g) (w := g) (gr := true) rfl rfl (cs := rows.flatten) (K' := OS.c ⟨some (id, g), rows.set i [.int .i64 (.negSucc 6)]⟩ :: []) ?_ rfl rfl (Nat.le_refl _) ?_) ?_
      · rw [show setSeg rows.flatten (0 + i * 1) (cellsOf (.int .i64 (.negSucc 6))) = (rows.set i [.int .i64 (.negSucc 6)]).flatten from setSeg_rows hrow hi rfl]
        exact Upd.here
      · rw [rows_len hrow]; omega
      rintro _ _ ⟨rfl, rfl⟩
      repeat' (first|refine zz ?_|(refine zw ?_;refine And.intro ?_ ?_<;>intro hc)|(refine zv ?_;intro cv hv)|(refine za ?_;intro _)|refine zc ?_|(refine zd ?_;refine And.intro ?_ ?_<;>(intro e;(try simp only [Bool.not_eq_true',Bool.not_eq_false'] at e);subst e;try contradiction)))
      have hl2 : (rows.set i [AV.int .i64 (.negSucc 6)]).length = rows.length := List.length_set
      refine Lp.weak ?hw (ih (i + 1) ⟨some (id, g), rows.set i [.int .i64 (.negSucc 6)]⟩ (by omega) (by omega) ⟨fun h => (nomatch h), ?_⟩ hl2)
      case hw =>
        simp only [OS.v, hl2]
        exact ⟨rfl, rfl, rfl, rfl, rfl, rfl, rfl, rfl, rfl, trivial⟩
      intro r hr
      rcases List.mem_or_eq_of_mem_set hr with h | rfl
      · exact hrow r h
      · rfl
    · repeat' (first|refine zz ?_|(refine zw ?_;refine And.intro ?_ ?_<;>intro hc)|(refine zv ?_;intro cv hv)|(refine za ?_;intro _)|refine zc ?_|(refine zd ?_;refine And.intro ?_ ?_<;>(intro e;(try simp only [Bool.not_eq_true',Bool.not_eq_false'] at e);subst e;try contradiction)))
      exact hend O _ ⟨rfl, rfl, rfl, rfl, rfl, rfl, rfl, trivial⟩
section
variable {b r i : Nat} {H : MH} {fs gs : List OS} {c d : Chk} {o : OpS}
theorem make0 (hX : HC b H fs c) (hY : RC r H gs d) (hB : Bd H i) (h0 : o.kind = 0) : CT Try.prog false 43 [hP b, rP r, .agg (opS o)] [c, d] fun w K' => w = .bool true ∧ ∃ c' d', HC b (mTable H).1 fs c' ∧ RC r (mTable H).1 gs d' ∧ K' = [c', d'] := by
  have e1 := aeqV (mTable H).2.1
  refine CT.enterS mixed comp43 (Nat.le_of_ble_eq_true rfl) ?_
  repeat' (first|(refine Rg.callM rfl (tableH hX hB.ok) (.cons (.there .here) .nil) ?_; rintro _ _ ⟨rfl, c', hX', rfl⟩)|(refine Rg.callM rfl (tableR hY hB.ok) (.cons (.there (.there (.there .here))) .nil) ?_; rintro _ _ ⟨rfl, d', hY', rfl⟩)|refine zz ?_|(refine zw ?_;refine And.intro ?_ ?_<;>intro hc)|(refine zv ?_;intro cv hv)|(refine za ?_;intro _)|refine zc ?_|(refine zd ?_;refine And.intro ?_ ?_<;>(intro e;(try simp only [Bool.not_eq_true',Bool.not_eq_false'] at e);subst e;try contradiction)))
  (first|refine ⟨.inr rfl,_,.t rfl .nil,?_⟩|refine ⟨.inr rfl,_,.t rfl (.t rfl .nil),?_⟩|refine ⟨.inr rfl,_,.t rfl (.t rfl (.t rfl .nil)),?_⟩|refine ⟨.inr rfl,_,.nil,?_⟩|refine ⟨.inl rfl,_,.t rfl .nil,?_⟩|refine ⟨.inl rfl,_,.nil,?_⟩|refine ⟨.inr rfl,_,.cn rfl (by exact zN) .nil,?_⟩|refine ⟨.inr rfl,_,.cn rfl (by exact zN) (.t rfl .nil),?_⟩)
  exact ⟨_, _, (.cons (.there (.there (.there (.here)))) (.cons (.there (.here)) (.nil))), rfl, c', d', hX', hY', rfl⟩
theorem makeE (hX : HC b H fs c) (hY : RC r H gs d) (hl : H.cells.length < 100000) (h0 : ¬ o.kind = 0) (h4 : ¬ o.kind = 4) : CT Try.prog false 43 [hP b, rP r, .agg (opS o)] [c, d] fun w K' => w = .bool true ∧ ∃ c' d', HC b (mCell H o.v) fs c' ∧ RC r (mCell H o.v) gs d' ∧ K' = [c', d'] := by
  have rv : ∀ (K : Mem) (b' : Nat) y, InK K b' (.cells (opS o) 0 0 false) → Rdk K (.loadn 3) (.ptr b' 0 (0 + 7) 3) y (valA o.v) := fun K b' y h => Rdk.bn h rfl
  refine CT.enterS mixed comp43 (Nat.le_of_ble_eq_true rfl) ?_
  repeat' (first|(refine Dw.r rfl rfl (rv _ _ _ (by repeat (first | exact InK.here | refine InK.there ?_))) (by repeat (first | exact trivial | refine And.intro (Or.inl rfl) ?_ | (refine And.intro (Or.inr ?_) ?_; (focus (first | exact rt _ _ _ (by repeat (first | exact InK.here | refine InK.there ?_)) | exact rk _ _ _ (by repeat (first | exact InK.here | refine InK.there ?_)) | exact rv _ _ _ (by repeat (first | exact InK.here | refine InK.there ?_)) | first | exact Rdk.i1 | assumption | (refine Rdk.in ?_; first | assumption | exact rfl) | (refine Rdk.b1 (cs := ?_) ?_ ?_; rotate_left; (repeat (first | exact InK.here | refine InK.there ?_)); exact rfl) | (refine Rdk.bw ?_ ?_; (repeat (first | exact InK.here | refine InK.there ?_)); first | assumption | exact rfl) | (refine Rdk.bw (cs := ?_) ?_ ?_; rotate_left; (repeat (first | exact InK.here | refine InK.there ?_)); first | assumption | exact rfl) | (refine Rdk.bn ?_ ?_; (repeat (first | exact InK.here | refine InK.there ?_)); exact rfl) | (refine Rdk.bn (cs := ?_) ?_ ?_; rotate_left; (repeat (first | exact InK.here | refine InK.there ?_)); exact rfl)))))) ?_)|(refine Dw.callM rfl (cellH hX hl) (.cons (.there .here) .nil) ?_; rintro _ _ ⟨rfl, c', hX', rfl⟩; refine ⟨by repeat (first | exact trivial | refine rdsB rfl ?_ | (refine rdsR ?_ ?_; (focus (first | exact rt _ _ _ (by repeat (first | exact InK.here | refine InK.there ?_)) | exact rk _ _ _ (by repeat (first | exact InK.here | refine InK.there ?_)) | exact rv _ _ _ (by repeat (first | exact InK.here | refine InK.there ?_)) | first | assumption | (refine Rdk.b1 (cs := ?_) ?_ ?_; rotate_left; (repeat (first | exact InK.here | refine InK.there ?_)); exact rfl) | (refine Rdk.bw ?_ ?_; (repeat (first | exact InK.here | refine InK.there ?_)); first | assumption | exact rfl) | (refine Rdk.bn ?_ ?_; (repeat (first | exact InK.here | refine InK.there ?_)); exact rfl) | (refine Rdk.in ?_; first | assumption | exact rfl) | exact Rdk.i1)))), ?_⟩)|(refine Dw.callM rfl (cellR hY hl) (.cons (.there (.there .here)) .nil) ?_; rintro _ _ ⟨rfl, d', hY', rfl⟩; refine ⟨by repeat (first | exact trivial | refine rdsB rfl ?_ | (refine rdsR ?_ ?_; (focus (first | exact rt _ _ _ (by repeat (first | exact InK.here | refine InK.there ?_)) | exact rk _ _ _ (by repeat (first | exact InK.here | refine InK.there ?_)) | exact rv _ _ _ (by repeat (first | exact InK.here | refine InK.there ?_)) | first | assumption | (refine Rdk.b1 (cs := ?_) ?_ ?_; rotate_left; (repeat (first | exact InK.here | refine InK.there ?_)); exact rfl) | (refine Rdk.bw ?_ ?_; (repeat (first | exact InK.here | refine InK.there ?_)); first | assumption | exact rfl) | (refine Rdk.bn ?_ ?_; (repeat (first | exact InK.here | refine InK.there ?_)); exact rfl) | (refine Rdk.in ?_; first | assumption | exact rfl) | exact Rdk.i1)))), ?_⟩)|refine zz ?_|(refine zw ?_;refine And.intro ?_ ?_<;>intro hc)|(refine zv ?_;intro cv hv)|(refine za ?_;intro _)|refine zc ?_|(refine zd ?_;refine And.intro ?_ ?_<;>(intro e;(try simp only [Bool.not_eq_true',Bool.not_eq_false'] at e);subst e;try contradiction)))
  (first|refine ⟨.inr rfl,_,.t rfl .nil,?_⟩|refine ⟨.inr rfl,_,.t rfl (.t rfl .nil),?_⟩|refine ⟨.inr rfl,_,.t rfl (.t rfl (.t rfl .nil)),?_⟩|refine ⟨.inr rfl,_,.nil,?_⟩|refine ⟨.inl rfl,_,.t rfl .nil,?_⟩|refine ⟨.inl rfl,_,.nil,?_⟩|refine ⟨.inr rfl,_,.cn rfl (by exact zN) .nil,?_⟩|refine ⟨.inr rfl,_,.cn rfl (by exact zN) (.t rfl .nil),?_⟩)
  exact ⟨_, _, (.cons (.there (.here)) (.cons (.here) (.nil))), rfl, c', d', hX', hY', rfl⟩
theorem make4 (hX : HC b H fs c) (hY : RC r H gs d) (hB : Bd H i) (ho : ASl 1 o.cv (o.cells.map rowI)) (hol : o.cells.length ≤ 100000) (h4 : o.kind = 4) : CT Try.prog false 43 [hP b, rP r, .agg (opS o)] [c, d] fun w K' => w = .bool true ∧ ∃ c' fs' x d' gs' y, HC b (mFn H (opC o)).1 fs' c' ∧ fsC fs' = fsC fs ++ x ∧ RC r (mFn H (opC o)).1 gs' d' ∧ fsC gs' = fsC gs ++ y ∧ K' = [c', x, d', y] := by
  have e1 := aeqV (mFn H (opC o)).2.1
  refine CT.enterS mixed comp43 (Nat.le_of_ble_eq_true rfl) ?_
  repeat' (first|refine zz ?_|(refine zw ?_;refine And.intro ?_ ?_<;>intro hc)|(refine zv ?_;intro cv hv)|(refine za ?_;intro _)|refine zc ?_|(refine zd ?_;refine And.intro ?_ ?_<;>(intro e;(try simp only [Bool.not_eq_true',Bool.not_eq_false'] at e);subst e;try contradiction)))
  refine Rg.e (Ef.appI (rs := o.cells.map rowI) (n := (o.cells.map rowI).length) rfl rfl ho.1 rfl (Rw.asl ho) (by rw [List.length_map]; simp only [lim]; omega)) ?_
  rintro _ _ ⟨O, hO, hOr, rfl, rfl⟩
  repeat' (first|refine zz ?_|(refine zw ?_;refine And.intro ?_ ?_<;>intro hc)|(refine zv ?_;intro cv hv)|(refine za ?_;intro _)|refine zc ?_|(refine zd ?_;refine And.intro ?_ ?_<;>(intro e;(try simp only [Bool.not_eq_true',Bool.not_eq_false'] at e);subst e;try contradiction)))
  refine Rg.p (Ev.build (cs := [.int .i64 o.u, .int .i64 o.p, O.v 1]) (fillL1 rfl ⟨rfl, rfl⟩ (Nat.le_of_ble_eq_true rfl) (fillL1 rfl ⟨rfl, rfl⟩ (Nat.le_of_ble_eq_true rfl) (fillL1 rfl (O.one 1) (Nat.le_of_ble_eq_true rfl) rfl)))) ?_
  refine Rg.callM rfl (fnH (q := opC o) hX hB.ok hO hOr hol) (.cons (.there (.there (.here))) (.cons (.here) (.nil))) ?_
  rintro _ _ ⟨rfl, c', fs', x, hX', hfs, rfl⟩
  have hq : ∀ (K : Mem) (b' : Nat) y, InK K b' (.cells (opS o) 0 0 false) → Rdk K (.loadn 3) (.ptr b' 0 (0 + 10) 3) y (.agg [.int .i64 o.u, .int .i64 o.p, o.cv]) := fun K b' y h => Rdk.bn h rfl
  repeat' (first|(refine Rg.r rfl rfl (hq _ _ _ (by repeat (first | exact InK.here | refine InK.there ?_))) ?_)|refine zz ?_|(refine zw ?_;refine And.intro ?_ ?_<;>intro hc)|(refine zv ?_;intro cv hv)|(refine za ?_;intro _)|refine zc ?_|(refine zd ?_;refine And.intro ?_ ?_<;>(intro e;(try simp only [Bool.not_eq_true',Bool.not_eq_false'] at e);subst e;try contradiction)))
  refine Rg.callM rfl (fnRH (q := opC o) hY hB.ok ho hol) (.cons (.there (.there (.there (.there (.there (.here)))))) (.nil)) ?_
  rintro _ _ ⟨rfl, d', gs', y, hY', hgs, rfl⟩
  repeat' (first|refine zz ?_|(refine zw ?_;refine And.intro ?_ ?_<;>intro hc)|(refine zv ?_;intro cv hv)|(refine za ?_;intro _)|refine zc ?_|(refine zd ?_;refine And.intro ?_ ?_<;>(intro e;(try simp only [Bool.not_eq_true',Bool.not_eq_false'] at e);subst e;try contradiction)))
  refine Cd.weak (l2 := [(0, _), (1, _), (5, _), (11, _), (12, _), (13, _), (14, _), (15, _), (16, _)]) ⟨rfl, rfl, rfl, rfl, rfl, rfl, rfl, rfl, rfl, trivial⟩ ?_
  refine Cd.loop (k := o.cells.length + 1) (Lp.fr (.cons (.there (.there (.there (.there (.there (.there (.here))))))) (.nil)) (fill43 (n := o.cells.length) hol ?_ (o.cells.length + 1) 0 O (by omega) (by omega) hO (by rw [hOr, List.length_map])))
  intro O' l' hs
  show Cd _ _ _ _ _ _
  refine Cd.weak hs ?_
  repeat' (first|refine zz ?_|(refine zw ?_;refine And.intro ?_ ?_<;>intro hc)|(refine zv ?_;intro cv hv)|(refine za ?_;intro _)|refine zc ?_|(refine zd ?_;refine And.intro ?_ ?_<;>(intro e;(try simp only [Bool.not_eq_true',Bool.not_eq_false'] at e);subst e;try contradiction)))
  (first|refine ⟨.inr rfl,_,.t rfl .nil,?_⟩|refine ⟨.inr rfl,_,.t rfl (.t rfl .nil),?_⟩|refine ⟨.inr rfl,_,.t rfl (.t rfl (.t rfl .nil)),?_⟩|refine ⟨.inr rfl,_,.nil,?_⟩|refine ⟨.inl rfl,_,.t rfl .nil,?_⟩|refine ⟨.inl rfl,_,.nil,?_⟩|refine ⟨.inr rfl,_,.cn rfl (by exact zN) .nil,?_⟩|refine ⟨.inr rfl,_,.cn rfl (by exact zN) (.t rfl .nil),?_⟩)
  exact ⟨_, _, (.cons (.there (.there (.there (.there (.there (.here)))))) (.cons (.there (.there (.there (.there (.there (.here)))))) (.cons (.there (.there (.here))) (.cons (.there (.there (.here))) (.nil))))), rfl, c', fs', x, d', gs', y, hX', hfs, hY', hgs, rfl⟩
end
end Go.Proofs.Ytggpnokhhpnnaaa

namespace Go.Proofs.Ytggpnokhhpnnaaa
open Go Go.Abs
attribute [local irreducible] Cmp Rg Dw Cd Lp Ev Rdk CT Upd InK
section
variable {b r i : Nat} {H : MH} {fs gs : List OS} {c d : Chk} {o : OpS}
theorem rdT (K : Mem) (b' : Nat) (y : AV) (h : InK K b' (.cells (opS o) 0 0 false)) : Rdk K (.loadn 3) (.ptr b' 0 (0 + 1) 3) y (valA o.t) := Rdk.bn h rfl
theorem rdK (K : Mem) (b' : Nat) (y : AV) (h : InK K b' (.cells (opS o) 0 0 false)) : Rdk K (.loadn 3) (.ptr b' 0 (0 + 4) 3) y (valA o.k) := Rdk.bn h rfl
theorem rdV (K : Mem) (b' : Nat) (y : AV) (h : InK K b' (.cells (opS o) 0 0 false)) : Rdk K (.loadn 3) (.ptr b' 0 (0 + 7) 3) y (valA o.v) := Rdk.bn h rfl
theorem rdO (K : Mem) (b' : Nat) (y : AV) (h : InK K b' (.cells (opS o) 0 0 false)) : Rdk K (.loadn 14) (.ptr b' 0 0 14) y (.agg (opS o)) := Rdk.bw h rfl
theorem makes43 (hX : HC b H fs c) (hY : RC r H gs d) (hB : Bd H i) (hi : i < 1000) (ho : ASl 1 o.cv (o.cells.map rowI)) (hol : o.cells.length ≤ 100000) :
    CT Try.prog false 43 [hP b, rP r, .agg (opS o)] [c, d] fun w K' => w = .bool true ∧ ∃ c' fs' x d' gs' y, HC b (mMake H o) fs' c' ∧ fsC fs' = fsC fs ++ x ∧ RC r (mMake H o) gs' d' ∧ fsC gs' = fsC gs ++ y ∧ K' = [c', x, d', y] := by
  have hc := hB.cells
  unfold mMake
  by_cases h0 : o.kind = 0
  · rw [if_pos h0]
    refine (make0 hX hY hB h0).re ?_
    rintro w K' ⟨rfl, c', d', h1, h2, rfl⟩
    exact ⟨[c', [], d', []], by simp, rfl, c', fs, [], d', gs, [], h1, by simp, h2, by simp, rfl⟩
  rw [if_neg h0]
  by_cases h4 : o.kind = 4
  · rw [if_pos h4]
    exact make4 hX hY hB ho hol h4
  · rw [if_neg h4]
    refine (makeE hX hY (by omega) h0 h4).re ?_
    rintro w K' ⟨rfl, c', d', h1, h2, rfl⟩
    exact ⟨[c', [], d', []], by simp, rfl, c', fs, [], d', gs, [], h1, by simp, h2, by simp, rfl⟩
/-- What comes of both. -/
def Both (r : Nat) (H : MH) (w : AV) (K' : Mem) : Prop := ∃ b' c' fs' d' gs', w = .tup [hP b', .bool true] ∧ HC b' H fs' c' ∧ RC r H gs' d' ∧ K' = [c', fsC fs', d', fsC gs']
theorem doesM (hX : HC b H fs c) (hY : RC r H gs d) (hB : Bd H i) (hi : i < 1000) (ho : ASl 1 o.cv (o.cells.map rowI)) (hol : o.cells.length ≤ 100000) (hk : o.kind = 0 ∨ o.kind = 4 ∨ o.kind = 6) :
    CT Try.prog true 29 [hP b, rP r, .agg (opS o)] [c, fsC fs, d, fsC gs] (Both r (mMake H o)) := by
  refine CT.re (Q := fun w K' => w = .tup [hP b, .bool true] ∧ ∃ c' fs' x d' gs' y, HC b (mMake H o) fs' c' ∧ fsC fs' = fsC fs ++ x ∧ RC r (mMake H o) gs' d' ∧ fsC gs' = fsC gs ++ y ∧ K' = [c', fsC fs, x, d', fsC gs, y]) ?_ ?_
  · refine CT.enterS mixed comp29 (Nat.le_of_ble_eq_true rfl) ?_
    rcases hk with h0 | h0 | h0
    all_goals
      repeat' (first|(refine Rg.r rfl rfl (rdO _ _ _ (by repeat (first | exact InK.here | refine InK.there ?_))) ?_)|(refine Rg.callM rfl (makes43 hX hY hB hi ho hol).up (.cons (.there (.here)) (.cons (.there (.there (.here))) (.nil))) ?_; rintro _ _ ⟨rfl, c', fs', x, d', gs', y, hX', hfs, hY', hgs, rfl⟩)|refine zz ?_|(refine zw ?_;refine And.intro ?_ ?_<;>intro hc)|(refine zv ?_;intro cv hv)|(refine za ?_;intro _)|refine zc ?_|(refine zd ?_;refine And.intro ?_ ?_<;>(intro e;(try simp only [Bool.not_eq_true',Bool.not_eq_false'] at e);subst e;try contradiction)))
      (first|refine ⟨.inr rfl,_,.t rfl .nil,?_⟩|refine ⟨.inr rfl,_,.t rfl (.t rfl .nil),?_⟩|refine ⟨.inr rfl,_,.t rfl (.t rfl (.t rfl .nil)),?_⟩|refine ⟨.inr rfl,_,.nil,?_⟩|refine ⟨.inl rfl,_,.t rfl .nil,?_⟩|refine ⟨.inl rfl,_,.nil,?_⟩|refine ⟨.inr rfl,_,.cn rfl (by exact zN) .nil,?_⟩|refine ⟨.inr rfl,_,.cn rfl (by exact zN) (.t rfl .nil),?_⟩)
      exact ⟨_, _, (.cons (.here) (.cons (.there (.there (.there (.there (.here))))) (.cons (.here) (.cons (.here) (.cons (.there (.there (.here))) (.cons (.here) (.nil))))))), rfl, c', fs', x, d', gs', y, hX', hfs, hY', hgs, rfl⟩
  · rintro w K' ⟨rfl, c', fs', x, d', gs', y, hX', hfs, hY', hgs, rfl⟩
    exact ⟨[c', fsC fs', d', fsC gs'], by simp [hfs, hgs], b, c', fs', d', gs', rfl, hX', hY', rfl⟩
theorem does1 (hX : HC b H fs c) (hY : RC r H gs d) (hok : H.ok) (hk : keyB o.k = true → Can o.k) (hkl : keyB o.k = true → o.k.s.length ≤ 1024) (h1 : o.kind = 1) : CT Try.prog true 29 [hP b, rP r, .agg (opS o)] [c, fsC fs, d, fsC gs] (Both r (mPut H o.t o.k o.v).1) := by
  refine CT.enterS mixed comp29 (Nat.le_of_ble_eq_true rfl) ?_
  have rt := @rdT o
  have rk := @rdK o
  have rv := @rdV o
  repeat' (first|(refine Dw.r rfl rfl (rt _ _ _ (by repeat (first | exact InK.here | refine InK.there ?_))) (by repeat (first | exact trivial | refine And.intro (Or.inl rfl) ?_ | (refine And.intro (Or.inr ?_) ?_; (focus (first | exact rt _ _ _ (by repeat (first | exact InK.here | refine InK.there ?_)) | exact rk _ _ _ (by repeat (first | exact InK.here | refine InK.there ?_)) | exact rv _ _ _ (by repeat (first | exact InK.here | refine InK.there ?_)) | first | exact Rdk.i1 | assumption | (refine Rdk.in ?_; first | assumption | exact rfl) | (refine Rdk.b1 (cs := ?_) ?_ ?_; rotate_left; (repeat (first | exact InK.here | refine InK.there ?_)); exact rfl) | (refine Rdk.bw ?_ ?_; (repeat (first | exact InK.here | refine InK.there ?_)); first | assumption | exact rfl) | (refine Rdk.bw (cs := ?_) ?_ ?_; rotate_left; (repeat (first | exact InK.here | refine InK.there ?_)); first | assumption | exact rfl) | (refine Rdk.bn ?_ ?_; (repeat (first | exact InK.here | refine InK.there ?_)); exact rfl) | (refine Rdk.bn (cs := ?_) ?_ ?_; rotate_left; (repeat (first | exact InK.here | refine InK.there ?_)); exact rfl)))))) ?_)|(refine Dw.r rfl rfl (rk _ _ _ (by repeat (first | exact InK.here | refine InK.there ?_))) (by repeat (first | exact trivial | refine And.intro (Or.inl rfl) ?_ | (refine And.intro (Or.inr ?_) ?_; (focus (first | exact rt _ _ _ (by repeat (first | exact InK.here | refine InK.there ?_)) | exact rk _ _ _ (by repeat (first | exact InK.here | refine InK.there ?_)) | exact rv _ _ _ (by repeat (first | exact InK.here | refine InK.there ?_)) | first | exact Rdk.i1 | assumption | (refine Rdk.in ?_; first | assumption | exact rfl) | (refine Rdk.b1 (cs := ?_) ?_ ?_; rotate_left; (repeat (first | exact InK.here | refine InK.there ?_)); exact rfl) | (refine Rdk.bw ?_ ?_; (repeat (first | exact InK.here | refine InK.there ?_)); first | assumption | exact rfl) | (refine Rdk.bw (cs := ?_) ?_ ?_; rotate_left; (repeat (first | exact InK.here | refine InK.there ?_)); first | assumption | exact rfl) | (refine Rdk.bn ?_ ?_; (repeat (first | exact InK.here | refine InK.there ?_)); exact rfl) | (refine Rdk.bn (cs := ?_) ?_ ?_; rotate_left; (repeat (first | exact InK.here | refine InK.there ?_)); exact rfl)))))) ?_)|(refine Dw.r rfl rfl (rv _ _ _ (by repeat (first | exact InK.here | refine InK.there ?_))) (by repeat (first | exact trivial | refine And.intro (Or.inl rfl) ?_ | (refine And.intro (Or.inr ?_) ?_; (focus (first | exact rt _ _ _ (by repeat (first | exact InK.here | refine InK.there ?_)) | exact rk _ _ _ (by repeat (first | exact InK.here | refine InK.there ?_)) | exact rv _ _ _ (by repeat (first | exact InK.here | refine InK.there ?_)) | first | exact Rdk.i1 | assumption | (refine Rdk.in ?_; first | assumption | exact rfl) | (refine Rdk.b1 (cs := ?_) ?_ ?_; rotate_left; (repeat (first | exact InK.here | refine InK.there ?_)); exact rfl) | (refine Rdk.bw ?_ ?_; (repeat (first | exact InK.here | refine InK.there ?_)); first | assumption | exact rfl) | (refine Rdk.bw (cs := ?_) ?_ ?_; rotate_left; (repeat (first | exact InK.here | refine InK.there ?_)); first | assumption | exact rfl) | (refine Rdk.bn ?_ ?_; (repeat (first | exact InK.here | refine InK.there ?_)); exact rfl) | (refine Rdk.bn (cs := ?_) ?_ ?_; rotate_left; (repeat (first | exact InK.here | refine InK.there ?_)); exact rfl)))))) ?_)|(refine Dw.callM rfl (putH hX hok hk) (.cons (.there (.here)) (.nil)) ?_; rintro _ _ ⟨rfl, c', hX', rfl⟩; refine ⟨by repeat (first | exact trivial | refine rdsB rfl ?_ | (refine rdsR ?_ ?_; (focus (first | exact rt _ _ _ (by repeat (first | exact InK.here | refine InK.there ?_)) | exact rk _ _ _ (by repeat (first | exact InK.here | refine InK.there ?_)) | exact rv _ _ _ (by repeat (first | exact InK.here | refine InK.there ?_)) | first | assumption | (refine Rdk.b1 (cs := ?_) ?_ ?_; rotate_left; (repeat (first | exact InK.here | refine InK.there ?_)); exact rfl) | (refine Rdk.bw ?_ ?_; (repeat (first | exact InK.here | refine InK.there ?_)); first | assumption | exact rfl) | (refine Rdk.bn ?_ ?_; (repeat (first | exact InK.here | refine InK.there ?_)); exact rfl) | (refine Rdk.in ?_; first | assumption | exact rfl) | exact Rdk.i1)))), ?_⟩)|(refine Dw.callM rfl (putR hY hok hk hkl) (.cons (.there (.there (.there (.here)))) (.nil)) ?_; rintro _ _ ⟨rfl, d', hY', rfl⟩; refine ⟨by repeat (first | exact trivial | refine rdsB rfl ?_ | (refine rdsR ?_ ?_; (focus (first | exact rt _ _ _ (by repeat (first | exact InK.here | refine InK.there ?_)) | exact rk _ _ _ (by repeat (first | exact InK.here | refine InK.there ?_)) | exact rv _ _ _ (by repeat (first | exact InK.here | refine InK.there ?_)) | first | assumption | (refine Rdk.b1 (cs := ?_) ?_ ?_; rotate_left; (repeat (first | exact InK.here | refine InK.there ?_)); exact rfl) | (refine Rdk.bw ?_ ?_; (repeat (first | exact InK.here | refine InK.there ?_)); first | assumption | exact rfl) | (refine Rdk.bn ?_ ?_; (repeat (first | exact InK.here | refine InK.there ?_)); exact rfl) | (refine Rdk.in ?_; first | assumption | exact rfl) | exact Rdk.i1)))), ?_⟩)|refine zz ?_|(refine zw ?_;refine And.intro ?_ ?_<;>intro hc)|(refine zv ?_;intro cv hv)|(refine za ?_;intro _)|refine zc ?_|(refine zd ?_;refine And.intro ?_ ?_<;>(intro e;(try simp only [Bool.not_eq_true',Bool.not_eq_false'] at e);subst e;try contradiction)))
  (first|refine ⟨.inr rfl,_,.t rfl .nil,?_⟩|refine ⟨.inr rfl,_,.t rfl (.t rfl .nil),?_⟩|refine ⟨.inr rfl,_,.t rfl (.t rfl (.t rfl .nil)),?_⟩|refine ⟨.inr rfl,_,.nil,?_⟩|refine ⟨.inl rfl,_,.t rfl .nil,?_⟩|refine ⟨.inl rfl,_,.nil,?_⟩|refine ⟨.inr rfl,_,.cn rfl (by exact zN) .nil,?_⟩|refine ⟨.inr rfl,_,.cn rfl (by exact zN) (.t rfl .nil),?_⟩)
  exact ⟨_, _, (.cons (.there (.here)) (.cons (.there (.there (.here))) (.cons (.here) (.cons (.there (.here)) (.nil))))), b, c', fs, d', gs, rfl, hX', hY', rfl⟩
theorem does2 (hX : HC b H fs c) (hY : RC r H gs d) (hok : H.ok) (h1 : o.kind = 2) : CT Try.prog true 29 [hP b, rP r, .agg (opS o)] [c, fsC fs, d, fsC gs] (Both r H) := by
  refine CT.enterS mixed comp29 (Nat.le_of_ble_eq_true rfl) ?_
  have e1 := aeqV (mGet H o.t o.k).1
  repeat' (first|(refine Rg.r rfl rfl (rdT _ _ _ (by repeat (first | exact InK.here | refine InK.there ?_))) ?_)|(refine Rg.r rfl rfl (rdK _ _ _ (by repeat (first | exact InK.here | refine InK.there ?_))) ?_)|(refine Rg.callM rfl (getH (k := o.k) (t := o.t) hX).up (.cons (.there (.here)) (.nil)) ?_; rintro _ _ ⟨rfl, rfl⟩)|(refine Rg.callM rfl (getR (k := o.k) (t := o.t) hY hok).up (.cons (.there (.there (.there (.there (.here))))) (.nil)) ?_; rintro _ _ ⟨rfl, rfl⟩)|refine zz ?_|(refine zw ?_;refine And.intro ?_ ?_<;>intro hc)|(refine zv ?_;intro cv hv)|(refine za ?_;intro _)|refine zc ?_|(refine zd ?_;refine And.intro ?_ ?_<;>(intro e;(try simp only [Bool.not_eq_true',Bool.not_eq_false'] at e);subst e;try contradiction)))
  (first|refine ⟨.inr rfl,_,.t rfl .nil,?_⟩|refine ⟨.inr rfl,_,.t rfl (.t rfl .nil),?_⟩|refine ⟨.inr rfl,_,.t rfl (.t rfl (.t rfl .nil)),?_⟩|refine ⟨.inr rfl,_,.nil,?_⟩|refine ⟨.inl rfl,_,.t rfl .nil,?_⟩|refine ⟨.inl rfl,_,.nil,?_⟩|refine ⟨.inr rfl,_,.cn rfl (by exact zN) .nil,?_⟩|refine ⟨.inr rfl,_,.cn rfl (by exact zN) (.t rfl .nil),?_⟩)
  exact ⟨_, _, (.cons (.there (.there (.there (.here)))) (.cons (.there (.there (.there (.there (.here))))) (.cons (.there (.here)) (.cons (.there (.there (.there (.here)))) (.nil))))), b, c, fs, d, gs, rfl, hX, hY, rfl⟩
theorem aeqB (x : Bool) : aeq (.flat false [.b]) (.bool x) (.bool x) = some true := by cases x <;> rfl
theorem does7 (hX : HC b H fs c) (hY : RC r H gs d) (hl : H.cells.length < 100000) (h1 : o.kind = 7) : CT Try.prog true 29 [hP b, rP r, .agg (opS o)] [c, fsC fs, d, fsC gs] (Both r (mSet H o.n o.v)) := by
  refine CT.enterS mixed comp29 (Nat.le_of_ble_eq_true rfl) ?_
  have rt := @rdT o
  have rk := @rdK o
  have rv := @rdV o
  have e1 := aeqB (decide (0 ≤ o.n) && decide (o.n < (H.cells.length : Int)))
  repeat' (first|(refine Dw.r rfl rfl (rv _ _ _ (by repeat (first | exact InK.here | refine InK.there ?_))) (by repeat (first | exact trivial | refine And.intro (Or.inl rfl) ?_ | (refine And.intro (Or.inr ?_) ?_; (focus (first | exact rt _ _ _ (by repeat (first | exact InK.here | refine InK.there ?_)) | exact rk _ _ _ (by repeat (first | exact InK.here | refine InK.there ?_)) | exact rv _ _ _ (by repeat (first | exact InK.here | refine InK.there ?_)) | first | exact Rdk.i1 | assumption | (refine Rdk.in ?_; first | assumption | exact rfl) | (refine Rdk.b1 (cs := ?_) ?_ ?_; rotate_left; (repeat (first | exact InK.here | refine InK.there ?_)); exact rfl) | (refine Rdk.bw ?_ ?_; (repeat (first | exact InK.here | refine InK.there ?_)); first | assumption | exact rfl) | (refine Rdk.bw (cs := ?_) ?_ ?_; rotate_left; (repeat (first | exact InK.here | refine InK.there ?_)); first | assumption | exact rfl) | (refine Rdk.bn ?_ ?_; (repeat (first | exact InK.here | refine InK.there ?_)); exact rfl) | (refine Rdk.bn (cs := ?_) ?_ ?_; rotate_left; (repeat (first | exact InK.here | refine InK.there ?_)); exact rfl)))))) ?_)|(refine Dw.callM rfl (setH hX hl) (.cons (.there (.here)) (.nil)) ?_; rintro _ _ ⟨rfl, c', hX', rfl⟩; refine ⟨by repeat (first | exact trivial | refine rdsB rfl ?_ | (refine rdsR ?_ ?_; (focus (first | exact rt _ _ _ (by repeat (first | exact InK.here | refine InK.there ?_)) | exact rk _ _ _ (by repeat (first | exact InK.here | refine InK.there ?_)) | exact rv _ _ _ (by repeat (first | exact InK.here | refine InK.there ?_)) | first | assumption | (refine Rdk.b1 (cs := ?_) ?_ ?_; rotate_left; (repeat (first | exact InK.here | refine InK.there ?_)); exact rfl) | (refine Rdk.bw ?_ ?_; (repeat (first | exact InK.here | refine InK.there ?_)); first | assumption | exact rfl) | (refine Rdk.bn ?_ ?_; (repeat (first | exact InK.here | refine InK.there ?_)); exact rfl) | (refine Rdk.in ?_; first | assumption | exact rfl) | exact Rdk.i1)))), ?_⟩)|(refine Dw.callM rfl (setR hY) (.cons (.there (.there (.there (.here)))) (.nil)) ?_; rintro _ _ ⟨rfl, d', hY', rfl⟩; refine ⟨by repeat (first | exact trivial | refine rdsB rfl ?_ | (refine rdsR ?_ ?_; (focus (first | exact rt _ _ _ (by repeat (first | exact InK.here | refine InK.there ?_)) | exact rk _ _ _ (by repeat (first | exact InK.here | refine InK.there ?_)) | exact rv _ _ _ (by repeat (first | exact InK.here | refine InK.there ?_)) | first | assumption | (refine Rdk.b1 (cs := ?_) ?_ ?_; rotate_left; (repeat (first | exact InK.here | refine InK.there ?_)); exact rfl) | (refine Rdk.bw ?_ ?_; (repeat (first | exact InK.here | refine InK.there ?_)); first | assumption | exact rfl) | (refine Rdk.bn ?_ ?_; (repeat (first | exact InK.here | refine InK.there ?_)); exact rfl) | (refine Rdk.in ?_; first | assumption | exact rfl) | exact Rdk.i1)))), ?_⟩)|refine zz ?_|(refine zw ?_;refine And.intro ?_ ?_<;>intro hc)|(refine zv ?_;intro cv hv)|(refine za ?_;intro _)|refine zc ?_|(refine zd ?_;refine And.intro ?_ ?_<;>(intro e;(try simp only [Bool.not_eq_true',Bool.not_eq_false'] at e);subst e;try contradiction)))
  (first|refine ⟨.inr rfl,_,.t rfl .nil,?_⟩|refine ⟨.inr rfl,_,.t rfl (.t rfl .nil),?_⟩|refine ⟨.inr rfl,_,.t rfl (.t rfl (.t rfl .nil)),?_⟩|refine ⟨.inr rfl,_,.nil,?_⟩|refine ⟨.inl rfl,_,.t rfl .nil,?_⟩|refine ⟨.inl rfl,_,.nil,?_⟩|refine ⟨.inr rfl,_,.cn rfl (by exact zN) .nil,?_⟩|refine ⟨.inr rfl,_,.cn rfl (by exact zN) (.t rfl .nil),?_⟩)
  exact ⟨_, _, (.cons (.there (.here)) (.cons (.there (.there (.here))) (.cons (.here) (.cons (.there (.here)) (.nil))))), b, c', fs, d', gs, rfl, hX', hY', rfl⟩
theorem does8 (hX : HC b H fs c) (hY : RC r H gs d) (h1 : o.kind = 8) : CT Try.prog true 29 [hP b, rP r, .agg (opS o)] [c, fsC fs, d, fsC gs] (Both r H) := by
  refine CT.enterS mixed comp29 (Nat.le_of_ble_eq_true rfl) ?_
  have e1 := aeqV ((mRead H o.n).getD v0)
  have e2 := aeqB (mRead H o.n).isSome
  repeat' (first|(refine Rg.callM rfl (readH (n := o.n) hX).up (.cons (.there (.here)) (.nil)) ?_; rintro _ _ ⟨rfl, rfl⟩)|(refine Rg.callM rfl (readR (n := o.n) hY).up (.cons (.there (.there (.there (.there (.here))))) (.nil)) ?_; rintro _ _ ⟨rfl, rfl⟩)|refine zz ?_|(refine zw ?_;refine And.intro ?_ ?_<;>intro hc)|(refine zv ?_;intro cv hv)|(refine za ?_;intro _)|refine zc ?_|(refine zd ?_;refine And.intro ?_ ?_<;>(intro e;(try simp only [Bool.not_eq_true',Bool.not_eq_false'] at e);subst e;try contradiction)))
  (first|refine ⟨.inr rfl,_,.t rfl .nil,?_⟩|refine ⟨.inr rfl,_,.t rfl (.t rfl .nil),?_⟩|refine ⟨.inr rfl,_,.t rfl (.t rfl (.t rfl .nil)),?_⟩|refine ⟨.inr rfl,_,.nil,?_⟩|refine ⟨.inl rfl,_,.t rfl .nil,?_⟩|refine ⟨.inl rfl,_,.nil,?_⟩|refine ⟨.inr rfl,_,.cn rfl (by exact zN) .nil,?_⟩|refine ⟨.inr rfl,_,.cn rfl (by exact zN) (.t rfl .nil),?_⟩)
  exact ⟨_, _, (.cons (.there (.there (.there (.here)))) (.cons (.there (.there (.there (.there (.here))))) (.cons (.there (.here)) (.cons (.there (.there (.there (.here)))) (.nil))))), b, c, fs, d, gs, rfl, hX, hY, rfl⟩
theorem text35 {s : List Nat} : PT Try.prog false 35 [.str s] (valA ⟨2, 0, s⟩) := by
  refine PT.of (CT.enter mixed comp35 (Nat.le_of_ble_eq_true rfl) ?_)
  repeat' (first|refine zz ?_|(refine zw ?_;refine And.intro ?_ ?_<;>intro hc)|(refine zv ?_;intro cv hv)|(refine za ?_;intro _)|refine zc ?_|(refine zd ?_;refine And.intro ?_ ?_<;>(intro e;(try simp only [Bool.not_eq_true',Bool.not_eq_false'] at e);subst e;try contradiction)))
  (first|refine ⟨.inr rfl,_,.t rfl .nil,?_⟩|refine ⟨.inr rfl,_,.t rfl (.t rfl .nil),?_⟩|refine ⟨.inr rfl,_,.t rfl (.t rfl (.t rfl .nil)),?_⟩|refine ⟨.inr rfl,_,.nil,?_⟩|refine ⟨.inl rfl,_,.t rfl .nil,?_⟩|refine ⟨.inl rfl,_,.nil,?_⟩|refine ⟨.inr rfl,_,.cn rfl (by exact zN) .nil,?_⟩|refine ⟨.inr rfl,_,.cn rfl (by exact zN) (.t rfl .nil),?_⟩)
  rfl
def left : List Nat := [108, 101, 102, 116]
theorem mPut_cells {t k v : Val} : (mPut H t k v).1.cells = H.cells := by
  unfold mPut
  split
  · rfl
  · split
    · split <;> rfl
    · rfl
theorem MH.ok.set {n : Int} {v : Val} (h : H.ok) : (mSet H n v).ok := by
  unfold mSet
  split
  · exact ⟨h.room, h.used, h.le, h.srt, h.kl⟩
  · exact h
theorem doesX (hX : HC b H fs c) (hY : RC r H gs d) (hok : H.ok) (hl : H.cells.length < 1000) (h0 : o.kind ≠ 0) (h1 : o.kind ≠ 1) (h2 : o.kind ≠ 2) (h3 : o.kind ≠ 3) (h4 : o.kind ≠ 4) (h5 : o.kind ≠ 5) (h6 : o.kind ≠ 6) (h7 : o.kind ≠ 7) (h8 : o.kind ≠ 8) : CT Try.prog true 29 [hP b, rP r, .agg (opS o)] [c, fsC fs, d, fsC gs] (Both r H) := by
  refine CT.enterS mixed comp29 (Nat.le_of_ble_eq_true rfl) ?_
  have rt := @rdT o
  have rk := @rdK o
  have rv := @rdV o
  have kl : keyB ⟨2, 0, left⟩ = true → Can ⟨2, 0, left⟩ := fun _ => .inr ⟨rfl, rfl⟩
  have hok1 : (mPut H o.t ⟨2, 0, left⟩ ⟨1, 1, []⟩).1.ok := hok.put kl fun _ => Nat.le_of_ble_eq_true rfl
  have k35 := text35 (s := left)
  have k23 := int23 (n := 1)
  have k23b : PT Try.prog true 23 _ _ := (int23 (n := 99)).up
  repeat' (first|(refine Rg.callM rfl (copyH hX hok (by omega)) (.cons (.there (.here)) (.nil)) ?_; rintro _ _ ⟨b2, c2, rfl, hX2, rfl⟩)|(refine Dw.r rfl rfl (rt _ _ _ (by repeat (first | exact InK.here | refine InK.there ?_))) (by repeat (first | exact trivial | refine And.intro (Or.inl rfl) ?_ | (refine And.intro (Or.inr ?_) ?_; (focus (first | exact rt _ _ _ (by repeat (first | exact InK.here | refine InK.there ?_)) | exact rk _ _ _ (by repeat (first | exact InK.here | refine InK.there ?_)) | exact rv _ _ _ (by repeat (first | exact InK.here | refine InK.there ?_)) | first | exact Rdk.i1 | assumption | (refine Rdk.in ?_; first | assumption | exact rfl) | (refine Rdk.b1 (cs := ?_) ?_ ?_; rotate_left; (repeat (first | exact InK.here | refine InK.there ?_)); exact rfl) | (refine Rdk.bw ?_ ?_; (repeat (first | exact InK.here | refine InK.there ?_)); first | assumption | exact rfl) | (refine Rdk.bw (cs := ?_) ?_ ?_; rotate_left; (repeat (first | exact InK.here | refine InK.there ?_)); first | assumption | exact rfl) | (refine Rdk.bn ?_ ?_; (repeat (first | exact InK.here | refine InK.there ?_)); exact rfl) | (refine Rdk.bn (cs := ?_) ?_ ?_; rotate_left; (repeat (first | exact InK.here | refine InK.there ?_)); exact rfl)))))) ?_)|(refine Dw.callM rfl (putH (t := o.t) (k := ⟨2, 0, left⟩) (v := ⟨1, 1, []⟩) hX hok kl) (.cons (.here) (.nil)) ?_; rintro _ _ ⟨rfl, c', hX', rfl⟩; refine ⟨by repeat (first | exact trivial | refine rdsB rfl ?_ | (refine rdsR ?_ ?_; (focus (first | exact rt _ _ _ (by repeat (first | exact InK.here | refine InK.there ?_)) | exact rk _ _ _ (by repeat (first | exact InK.here | refine InK.there ?_)) | exact rv _ _ _ (by repeat (first | exact InK.here | refine InK.there ?_)) | first | assumption | (refine Rdk.b1 (cs := ?_) ?_ ?_; rotate_left; (repeat (first | exact InK.here | refine InK.there ?_)); exact rfl) | (refine Rdk.bw ?_ ?_; (repeat (first | exact InK.here | refine InK.there ?_)); first | assumption | exact rfl) | (refine Rdk.bn ?_ ?_; (repeat (first | exact InK.here | refine InK.there ?_)); exact rfl) | (refine Rdk.in ?_; first | assumption | exact rfl) | exact Rdk.i1)))), ?_⟩)|refine zz ?_|(refine zw ?_;refine And.intro ?_ ?_<;>intro hc)|(refine zv ?_;intro cv hv)|(refine za ?_;intro _)|refine zc ?_|(refine zd ?_;refine And.intro ?_ ?_<;>(intro e;(try simp only [Bool.not_eq_true',Bool.not_eq_false'] at e);subst e;try contradiction)))
  rename_i hc1
  refine Rg.callM rfl (setH (n := 0) (v := ⟨1, 99, []⟩) hX' (by rw [mPut_cells]; omega)).up (.cons (.here) (.nil)) ?_
  rintro _ _ ⟨rfl, c3, hX3, rfl⟩
  repeat' (first|(refine Rg.callM rfl (tableH hX3 hok1.set).up (.cons (.here) (.nil)) ?_; rintro _ _ ⟨rfl, c4, hX4, rfl⟩)|refine zz ?_|(refine zw ?_;refine And.intro ?_ ?_<;>intro hc)|(refine zv ?_;intro cv hv)|(refine za ?_;intro _)|refine zc ?_|(refine zd ?_;refine And.intro ?_ ?_<;>(intro e;(try simp only [Bool.not_eq_true',Bool.not_eq_false'] at e);subst e;try contradiction)))
  (first|refine ⟨.inr rfl,_,.t rfl .nil,?_⟩|refine ⟨.inr rfl,_,.t rfl (.t rfl .nil),?_⟩|refine ⟨.inr rfl,_,.t rfl (.t rfl (.t rfl .nil)),?_⟩|refine ⟨.inr rfl,_,.nil,?_⟩|refine ⟨.inl rfl,_,.t rfl .nil,?_⟩|refine ⟨.inl rfl,_,.nil,?_⟩|refine ⟨.inr rfl,_,.cn rfl (by exact zN) .nil,?_⟩|refine ⟨.inr rfl,_,.cn rfl (by exact zN) (.t rfl .nil),?_⟩)
  exact ⟨_, _, (.cons (.there (.here)) (.cons (.there (.there (.here))) (.cons (.there (.there (.here))) (.cons (.there (.there (.here))) (.nil))))), b2, c2, fs, d, gs, rfl, hX2, hY, rfl⟩
end
end Go.Proofs.Ytggpnokhhpnnaaa
