/- The program's Save. -/
import Derived.Test.YtlflpjjmkigepaaPlnD
set_option autoImplicit false
set_option maxRecDepth 100000
set_option maxHeartbeats 4000000
set_option linter.unusedVariables false
set_option linter.unusedSimpArgs false
namespace Go.Proofs.Ytlflpjjmkigepaa
open Go Go.Abs
attribute [local irreducible] Cmp Rg Dw Cd Lp Ev Rdk CT Upd InK
theorem Rw.str {K : Mem} {s : List Nat} : Rw K 1 (.str s) (byR s).flatten s.length := by
  rw [byR_flat]
  intro st _
  refine ⟨rfl, ?_⟩
  simp only [St.row]
  rw [show (Nat.beq 1 1 && Nat.ble s.length s.length) = true by simp, cond_true, List.take_length]
  rfl
theorem _root_.Go.Abs.Sel.app_right {K m r m2 : Mem} (h : Sel K m r) : Sel (K ++ m2) m (r ++ m2) := by
  induction h with
  | nil => exact .nil
  | cons h _ ih => exact .cons h.app ih
abbrev bx (i : Nat) (v : AV) : Chk := [(i, .cells [v] 0 0 false)]
abbrev pt (i : Nat) : AV := .ptr i 0 0 1
abbrev fn36v (i1 i2 i3 i4 : Nat) : AV := .fn 36 [] [pt i1, pt i2, pt i3, pt i4]
abbrev K36 (i1 i2 i3 i4 b left : Nat) (B : OS) (c : Chk) : Mem := [bx i1 (.int .i64 (.ofNat left)), bx i2 (B.v 1), B.c, bx i3 (hP b), c, bx i4 (fn36v i1 i2 i3 i4)]
section
variable {i1 i2 i3 i4 b : Nat} {c : Chk}
theorem lay36_sc {v : Val} {left : Nat} {B : OS} {bs : List Nat} (hv : ScOk v) (hl : left < 1000) (hB : B.ok 1) (hr : B.rows = byR bs) (hbs : bs.length ≤ 1000000) :
    CT Try.prog false 36 [valA v, pt i1, pt i2, pt i3, pt i4] (K36 i1 i2 i3 i4 b (left + 1) B c) fun w K' => w = .bool true ∧ ∃ B' : OS, B'.ok 1 ∧ B'.rows = byR (bs ++ sc v) ∧ K' = K36 i1 i2 i3 i4 b left B' c := by
  have hBl : B.rows.length = bs.length := by rw [hr]; simp [byR]
  have hvl := hv.len
  have k37 := num37 (n := v.n) (w := 8) (.inl rfl)
  have k38 := text38 (s := v.s) (by omega)
  have e0 := sub_one (n := left) (by omega)
  refine CT.enterS mixed comp36 (Nat.le_of_ble_eq_true rfl) ?_
  by_cases h0 : v.k = 0
  · repeat' (first|(refine Rg.e (Ef.appO (rs := byR [0]) (n := 1) rfl rfl hB byR_one (.there (.there (.there (.there (.here))))) rfl (by decide) (Rw.slc (InK.there InK.here) (Nat.le_refl _) (Nat.le_refl _) rfl) (by simp only [lim]; omega)) ?_; rintro _ _ ⟨B', hB', hr', rfl, rfl⟩)|refine zz ?_|(refine zw ?_;refine And.intro ?_ ?_<;>intro hc)|(refine zv ?_;intro cv hv)|(refine za ?_;intro _)|refine zc ?_|(refine zd ?_;refine And.intro ?_ ?_<;>(intro e;(try simp only [Bool.not_eq_true',Bool.not_eq_false'] at e);subst e;try contradiction)))
    refine Rg.e (Ef.store1 rfl rfl (B'.one 1) (.there (.there (.there (.there (Upd.here))))) (Nat.le_of_ble_eq_true rfl)) ?_
    rintro _ _ ⟨rfl, rfl⟩
    repeat' (first|refine zz ?_|(refine zw ?_;refine And.intro ?_ ?_<;>intro hc)|(refine zv ?_;intro cv hv)|(refine za ?_;intro _)|refine zc ?_|(refine zd ?_;refine And.intro ?_ ?_<;>(intro e;(try simp only [Bool.not_eq_true',Bool.not_eq_false'] at e);subst e;try contradiction)))
    (first|refine ⟨.inr rfl,_,.t rfl .nil,?_⟩|refine ⟨.inr rfl,_,.t rfl (.t rfl .nil),?_⟩|refine ⟨.inr rfl,_,.t rfl (.t rfl (.t rfl .nil)),?_⟩|refine ⟨.inr rfl,_,.nil,?_⟩|refine ⟨.inl rfl,_,.t rfl .nil,?_⟩|refine ⟨.inl rfl,_,.nil,?_⟩|refine ⟨.inr rfl,_,.cn rfl (by exact zN) .nil,?_⟩|refine ⟨.inr rfl,_,.cn rfl (by exact zN) (.t rfl .nil),?_⟩)
    refine ⟨_, _, (.cons (.there (.there (.there (.here)))) (.cons (.there (.there (.there (.here)))) (.cons (.here) (.cons (.there (.there (.here))) (.cons (.there (.there (.here))) (.cons (.there (.there (.here))) (.nil))))))), rfl, B', hB', ?_, rfl⟩
    rw [hr', hr, ← byR_add]
    simp [sc, h0]
  · by_cases h1 : v.k = 1
    · repeat' (first|refine zz ?_|(refine zw ?_;refine And.intro ?_ ?_<;>intro hc)|(refine zv ?_;intro cv hv)|(refine za ?_;intro _)|refine zc ?_|(refine zd ?_;refine And.intro ?_ ?_<;>(intro e;(try simp only [Bool.not_eq_true',Bool.not_eq_false'] at e);subst e;try contradiction)))
      refine Dw.e (Ef.appO (rs := byR [1]) (n := 1) rfl rfl hB byR_one (.there (.there (.there (.there (.here))))) rfl (by decide) (Rw.slc (InK.there InK.here) (Nat.le_refl _) (Nat.le_refl _) rfl) (by simp only [lim]; omega)) ?_
      rintro _ _ ⟨B1, hB1, hr1, rfl, rfl⟩
      refine ⟨by repeat (first | exact trivial | refine rdsB rfl ?_ | (refine rdsR ?_ ?_; (focus (first | assumption | (refine Rdk.b1 (cs := ?_) ?_ ?_; rotate_left; (repeat (first | exact InK.here | refine InK.there ?_)); exact rfl) | (refine Rdk.bw ?_ ?_; (repeat (first | exact InK.here | refine InK.there ?_)); first | assumption | exact rfl) | (refine Rdk.bn ?_ ?_; (repeat (first | exact InK.here | refine InK.there ?_)); exact rfl) | (refine Rdk.in ?_; first | assumption | exact rfl) | exact Rdk.i1)))), ?_⟩
      repeat' (first|refine zz ?_|(refine zw ?_;refine And.intro ?_ ?_<;>intro hc)|(refine zv ?_;intro cv hv)|(refine za ?_;intro _)|refine zc ?_|(refine zd ?_;refine And.intro ?_ ?_<;>(intro e;(try simp only [Bool.not_eq_true',Bool.not_eq_false'] at e);subst e;try contradiction)))
      refine Dw.e (Ef.appO (rs := byR (leB v.n 8)) (n := (leB v.n 8).length) rfl rfl hB1 byR_one (.here) (by simp [byR]) (by simp [leB_len]) Rw.str (by rw [hr1]; simp only [lim, List.length_append, leB_len]; simp [byR]; omega)) ?_
      rintro _ _ ⟨B2, hB2, hr2, rfl, rfl⟩
      refine ⟨by repeat (first | exact trivial | refine rdsB rfl ?_ | (refine rdsR ?_ ?_; (focus (first | assumption | (refine Rdk.b1 (cs := ?_) ?_ ?_; rotate_left; (repeat (first | exact InK.here | refine InK.there ?_)); exact rfl) | (refine Rdk.bw ?_ ?_; (repeat (first | exact InK.here | refine InK.there ?_)); first | assumption | exact rfl) | (refine Rdk.bn ?_ ?_; (repeat (first | exact InK.here | refine InK.there ?_)); exact rfl) | (refine Rdk.in ?_; first | assumption | exact rfl) | exact Rdk.i1)))), ?_⟩
      refine Dw.e (Ef.store1 rfl rfl (B2.one 1) (.there (.there (.there (.there (Upd.here))))) (Nat.le_of_ble_eq_true rfl)) ?_
      rintro _ _ ⟨rfl, rfl⟩
      refine ⟨by repeat (first | exact trivial | refine rdsB rfl ?_ | (refine rdsR ?_ ?_; (focus (first | assumption | (refine Rdk.b1 (cs := ?_) ?_ ?_; rotate_left; (repeat (first | exact InK.here | refine InK.there ?_)); exact rfl) | (refine Rdk.bw ?_ ?_; (repeat (first | exact InK.here | refine InK.there ?_)); first | assumption | exact rfl) | (refine Rdk.bn ?_ ?_; (repeat (first | exact InK.here | refine InK.there ?_)); exact rfl) | (refine Rdk.in ?_; first | assumption | exact rfl) | exact Rdk.i1)))), ?_⟩
      repeat' (first|refine zz ?_|(refine zw ?_;refine And.intro ?_ ?_<;>intro hc)|(refine zv ?_;intro cv hv)|(refine za ?_;intro _)|refine zc ?_|(refine zd ?_;refine And.intro ?_ ?_<;>(intro e;(try simp only [Bool.not_eq_true',Bool.not_eq_false'] at e);subst e;try contradiction)))
      (first|refine ⟨.inr rfl,_,.t rfl .nil,?_⟩|refine ⟨.inr rfl,_,.t rfl (.t rfl .nil),?_⟩|refine ⟨.inr rfl,_,.t rfl (.t rfl (.t rfl .nil)),?_⟩|refine ⟨.inr rfl,_,.nil,?_⟩|refine ⟨.inl rfl,_,.t rfl .nil,?_⟩|refine ⟨.inl rfl,_,.nil,?_⟩|refine ⟨.inr rfl,_,.cn rfl (by exact zN) .nil,?_⟩|refine ⟨.inr rfl,_,.cn rfl (by exact zN) (.t rfl .nil),?_⟩)
      refine ⟨_, _, (.cons (.there (.there (.there (.here)))) (.cons (.there (.there (.there (.here)))) (.cons (.here) (.cons (.there (.there (.here))) (.cons (.there (.there (.here))) (.cons (.there (.there (.here))) (.nil))))))), rfl, B2, hB2, ?_, rfl⟩
      rw [hr2, hr1, hr, ← byR_add, ← byR_add]
      simp [sc, h1]
    · have h2 : v.k = 2 := by have := hv.kind; omega
      repeat' (first|refine zz ?_|(refine zw ?_;refine And.intro ?_ ?_<;>intro hc)|(refine zv ?_;intro cv hv)|(refine za ?_;intro _)|refine zc ?_|(refine zd ?_;refine And.intro ?_ ?_<;>(intro e;(try simp only [Bool.not_eq_true',Bool.not_eq_false'] at e);subst e;try contradiction)))
      refine Dw.e (Ef.appO (rs := byR [2]) (n := 1) rfl rfl hB byR_one (.there (.there (.there (.there (.here))))) rfl (by decide) (Rw.slc (InK.there InK.here) (Nat.le_refl _) (Nat.le_refl _) rfl) (by simp only [lim]; omega)) ?_
      rintro _ _ ⟨B1, hB1, hr1, rfl, rfl⟩
      refine ⟨by repeat (first | exact trivial | refine rdsB rfl ?_ | (refine rdsR ?_ ?_; (focus (first | assumption | (refine Rdk.b1 (cs := ?_) ?_ ?_; rotate_left; (repeat (first | exact InK.here | refine InK.there ?_)); exact rfl) | (refine Rdk.bw ?_ ?_; (repeat (first | exact InK.here | refine InK.there ?_)); first | assumption | exact rfl) | (refine Rdk.bn ?_ ?_; (repeat (first | exact InK.here | refine InK.there ?_)); exact rfl) | (refine Rdk.in ?_; first | assumption | exact rfl) | exact Rdk.i1)))), ?_⟩
      repeat' (first|refine zz ?_|(refine zw ?_;refine And.intro ?_ ?_<;>intro hc)|(refine zv ?_;intro cv hv)|(refine za ?_;intro _)|refine zc ?_|(refine zd ?_;refine And.intro ?_ ?_<;>(intro e;(try simp only [Bool.not_eq_true',Bool.not_eq_false'] at e);subst e;try contradiction)))
      refine Dw.e (Ef.appO (rs := byR (leB v.s.length 4 ++ v.s)) (n := (leB v.s.length 4 ++ v.s).length) rfl rfl hB1 byR_one (.here) (by simp [byR]) (by simp [leB_len]) Rw.str (by rw [hr1]; simp only [lim, List.length_append, leB_len]; simp [byR]; omega)) ?_
      rintro _ _ ⟨B2, hB2, hr2, rfl, rfl⟩
      refine ⟨by repeat (first | exact trivial | refine rdsB rfl ?_ | (refine rdsR ?_ ?_; (focus (first | assumption | (refine Rdk.b1 (cs := ?_) ?_ ?_; rotate_left; (repeat (first | exact InK.here | refine InK.there ?_)); exact rfl) | (refine Rdk.bw ?_ ?_; (repeat (first | exact InK.here | refine InK.there ?_)); first | assumption | exact rfl) | (refine Rdk.bn ?_ ?_; (repeat (first | exact InK.here | refine InK.there ?_)); exact rfl) | (refine Rdk.in ?_; first | assumption | exact rfl) | exact Rdk.i1)))), ?_⟩
      refine Dw.e (Ef.store1 rfl rfl (B2.one 1) (.there (.there (.there (.there (Upd.here))))) (Nat.le_of_ble_eq_true rfl)) ?_
      rintro _ _ ⟨rfl, rfl⟩
      refine ⟨by repeat (first | exact trivial | refine rdsB rfl ?_ | (refine rdsR ?_ ?_; (focus (first | assumption | (refine Rdk.b1 (cs := ?_) ?_ ?_; rotate_left; (repeat (first | exact InK.here | refine InK.there ?_)); exact rfl) | (refine Rdk.bw ?_ ?_; (repeat (first | exact InK.here | refine InK.there ?_)); first | assumption | exact rfl) | (refine Rdk.bn ?_ ?_; (repeat (first | exact InK.here | refine InK.there ?_)); exact rfl) | (refine Rdk.in ?_; first | assumption | exact rfl) | exact Rdk.i1)))), ?_⟩
      repeat' (first|refine zz ?_|(refine zw ?_;refine And.intro ?_ ?_<;>intro hc)|(refine zv ?_;intro cv hv)|(refine za ?_;intro _)|refine zc ?_|(refine zd ?_;refine And.intro ?_ ?_<;>(intro e;(try simp only [Bool.not_eq_true',Bool.not_eq_false'] at e);subst e;try contradiction)))
      (first|refine ⟨.inr rfl,_,.t rfl .nil,?_⟩|refine ⟨.inr rfl,_,.t rfl (.t rfl .nil),?_⟩|refine ⟨.inr rfl,_,.t rfl (.t rfl (.t rfl .nil)),?_⟩|refine ⟨.inr rfl,_,.nil,?_⟩|refine ⟨.inl rfl,_,.t rfl .nil,?_⟩|refine ⟨.inl rfl,_,.nil,?_⟩|refine ⟨.inr rfl,_,.cn rfl (by exact zN) .nil,?_⟩|refine ⟨.inr rfl,_,.cn rfl (by exact zN) (.t rfl .nil),?_⟩)
      refine ⟨_, _, (.cons (.there (.there (.there (.here)))) (.cons (.there (.there (.there (.here)))) (.cons (.here) (.cons (.there (.there (.here))) (.cons (.there (.there (.here))) (.cons (.there (.there (.here))) (.nil))))))), rfl, B2, hB2, ?_, rfl⟩
      rw [hr2, hr1, hr, ← byR_add, ← byR_add]
      simp [sc, h2]
abbrev KL36 (i1 i2 i3 i4 b left : Nat) (B : OS) (c : Chk) (O : OS) (b5 : Nat) (v : Val) : Mem := [bx i1 (.int .i64 (.ofNat left)), bx i2 (B.v 1), B.c, bx i3 (hP b), c, bx i4 (fn36v i1 i2 i3 i4), O.c, [(b5, .cells (valR v) 0 0 false)]]
def Lay (i1 i2 i3 i4 b : Nat) (c : Chk) (g : Val → Nat → ER) (x : Val) (left : Nat) (bs : List Nat) (w : AV) (K' : Mem) : Prop :=
  (∃ s l m, ∃ B' : OS, g x left = some (s, l, m) ∧ w = .bool true ∧ B'.ok 1 ∧ B'.rows = byR (bs ++ s) ∧ K' = K36 i1 i2 i3 i4 b l B' c) ∨ (g x left = none ∧ w = .bool false ∧ ∃ r, Sel K' [c] r)
theorem lay36_loop {H : MH} {fs : List OS} {g : Val → Nat → ER} {v : Val} {j : Nat} {O : OS} {b5 Bd : Nat} {Q : AX → SL → Mem → Prop} (hBd : Bd ≤ 199) (hX : HC b H fs c) (hW : WOk H) (hj : tabI H v = some j) (hO : O.ok 3) (hr : O.rows = (tabL H j).map fun e => valR e.1)
    (hg : ∀ (x : Val) (left : Nat) (B : OS) (bs : List Nat), VOk x → left ≤ Bd → B.ok 1 → B.rows = byR bs → bs.length + 2100 * left ≤ 1000000 → CT Try.prog true 36 [valA x, pt i1, pt i2, pt i3, pt i4] (K36 i1 i2 i3 i4 b left B c) (Lay i1 i2 i3 i4 b c g x left bs))
    (hsz : ∀ v left s l m, VOk v → g v left = some (s, l, m) → l < left ∧ s.length + 1040 ≤ 2100 * (left - l) ∧ m + 1 ≤ 2 * (left - l)) :
    ∀ (f i left : Nat) (B : OS) (bs : List Nat), (tabL H j).length < i + f → i ≤ (tabL H j).length → left ≤ Bd → B.ok 1 → B.rows = byR bs → bs.length + 2100 * left + 1100 ≤ 1000000 →
      (hend : ∀ (l' : SL) s l m, ∀ B' : OS, encL g ((tabL H j).drop i) left = some (s, l, m) → B'.ok 1 → B'.rows = byR (bs ++ s) → Q (.ext 1) l' (KL36 i1 i2 i3 i4 b l B' c O b5 v)) →
      (hret : encL g ((tabL H j).drop i) left = none → ∀ l' K', lkS l' 6 = some (.bool false) → (∃ r, Sel K' [c] r) → Q .ret l' K') →
      Lp Try.prog true b36_0 f [(1, pt i1), (2, pt i2), (3, pt i3), (4, pt i4), (5, .ptr b5 0 0 3), (62, O.v 3), (63, .int .i64 (.ofNat (tabL H j).length)), (64, .int .i64 (.ofNat i))] (KL36 i1 i2 i3 i4 b left B c O b5 v) Q := by
  have hOl := hO.len
  rw [hr, List.length_map] at hOl
  have hlen := hW.len _ (tabL_mem (tabI_some hj).2)
  intro f
  induction f with
  | zero => intro i left B bs h1 h2; omega
  | succ f ih =>
    intro i left B bs h1 h2 h3 hB hBr h4 hend hret
    refine Lp.round ?_
    by_cases hi : i < (tabL H j).length
    · have hmem := tabL_mem (tabI_some hj).2
      have he : (tabL H j)[i]? = some (tabL H j)[i] := List.getElem?_eq_getElem hi
      have hdrop : (tabL H j).drop i = (tabL H j)[i] :: (tabL H j).drop (i + 1) := List.drop_eq_getElem_cons hi
      generalize (tabL H j)[i] = e at he hdrop
      have hem : e ∈ tabL H j := List.mem_of_getElem? he
      obtain ⟨hk1, hk2⟩ := hW.key _ hmem e hem
      obtain ⟨hv1, hv2⟩ := hW.val _ hmem e hem
      have hget := mGet_at hj (hW.ok.srt _ hmem) he hk2
      have cg := getH hX (t := v) (k := e.1)
      rw [hget] at cg
      have ra : ((tabL H j).map fun e => valR e.1)[i]? = some (valR e.1) := by rw [List.getElem?_map, he]; rfl
      obtain ⟨ia, ga, ea⟩ := hO.at (by rw [hr]; exact ra)
      rw [hr] at ea
      subst ea
      have q1 := iadr_slc (sz := 3) (b := ia) (g := ga) (off := 0) (len := ((tabL H j).map fun e => valR e.1).length) (cap := ((tabL H j).map fun e => valR e.1).length) (i := i) (k := .i64) (by rw [List.length_map]; exact hi)
      have hrow : ∀ r, r ∈ ((tabL H j).map fun e => valR e.1) → r.length = 3 := by
        intro r h
        obtain ⟨e, _, rfl⟩ := List.mem_map.1 h
        rfl
      have hp : ∀ K, InK K ia (.cells ((tabL H j).map fun e => valR e.1).flatten ga ga true) → Rdk K (.loadn 3) (.ptr ia ga (0 + i * 3) 3) (.ptr ia ga (0 + i * 3) 3) (valA e.1) := fun K h => Rdk.row h hrow ra
      have hsl := sc_len hk1.len
      have ck := lay36_sc (i1 := i1) (i2 := i2) (i3 := i3) (i4 := i4) (b := b) (c := c) (left := left) hk1 (by omega) hB hBr (by omega)
      repeat' (first|(refine Rg.r rfl rfl (hp _ (by repeat (first | exact InK.here | refine InK.there ?_))) ?_)|(refine Rg.callM rfl cg.up (.cons (.there (.there (.there (.there (.there (.here)))))) (.nil)) ?_; rintro _ _ ⟨rfl, rfl⟩)|(refine Rg.callvM rfl rfl ck.up (.cons (.there (.there (.there (.here)))) (.cons (.there (.there (.there (.here)))) (.cons (.there (.there (.there (.here)))) (.cons (.there (.there (.there (.here)))) (.cons (.there (.here)) (.cons (.there (.there (.here))) (.nil))))))) ?_; rintro _ _ ⟨rfl, B1, hB1, hr1, rfl⟩)|refine zz ?_|(refine zw ?_;refine And.intro ?_ ?_<;>intro hc)|(refine zv ?_;intro cv hv)|(refine za ?_;intro _)|refine zc ?_|(refine zd ?_;refine And.intro ?_ ?_<;>(intro e;(try simp only [Bool.not_eq_true',Bool.not_eq_false'] at e);subst e;try contradiction)))
      have hc := hg e.2 left B1 (bs ++ sc e.1) hv1 h3 hB1 hr1 (by rw [List.length_append]; omega)
      have hs := hsz e.2 left
      cases hgv : g e.2 left with
      | none =>
        repeat' (first|(refine Rg.callvM rfl rfl hc (.cons (.here) (.cons (.here) (.cons (.here) (.cons (.here) (.cons (.here) (.cons (.here) (.nil))))))) ?_; rintro _ _ (⟨s, l, m, B2, h, _⟩ | ⟨h, rfl, r0, hr0⟩); (rw [hgv] at h; cases h))|refine zz ?_|(refine zw ?_;refine And.intro ?_ ?_<;>intro hc)|(refine zv ?_;intro cv hv)|(refine za ?_;intro _)|refine zc ?_|(refine zd ?_;refine And.intro ?_ ?_<;>(intro e;(try simp only [Bool.not_eq_true',Bool.not_eq_false'] at e);subst e;try contradiction)))
        exact hret (by rw [hdrop, encL, hgv]) _ _ rfl ⟨_, hr0.app_right⟩
      | some p =>
        obtain ⟨t, l1, m1⟩ := p
        obtain ⟨z1, z2, z3⟩ := hs t l1 m1 hv1 hgv
        repeat' (first|(refine Rg.callvM rfl rfl hc (.cons (.here) (.cons (.here) (.cons (.here) (.cons (.here) (.cons (.here) (.cons (.here) (.nil))))))) ?_; rintro _ _ (⟨s, l, m, B2, h, rfl, hB2, hr2, rfl⟩ | ⟨h, _⟩); rotate_left; (rw [hgv] at h; cases h))|refine zz ?_|(refine zw ?_;refine And.intro ?_ ?_<;>intro hc)|(refine zv ?_;intro cv hv)|(refine za ?_;intro _)|refine zc ?_|(refine zd ?_;refine And.intro ?_ ?_<;>(intro e;(try simp only [Bool.not_eq_true',Bool.not_eq_false'] at e);subst e;try contradiction)))
        rw [hgv] at h
        cases h
        have := ih (i + 1) l1 B2 (bs ++ sc e.1 ++ t) (by omega) hi (by omega) hB2 hr2 (by simp only [List.length_append]; omega) (fun l' s l m B3 hl hB3 hr3 => hend l' (sc e.1 ++ (t ++ s)) l (m1 + m) B3 (by rw [hdrop, encL, hgv]; simp only [hl]) hB3 (by rw [hr3]; simp only [List.append_assoc]))
          (fun hno => hret (by rw [hdrop, encL, hgv]; simp only [hno]))
        refine Lp.drop (.cons (.here) (.cons (.here) (.cons (.here) (.cons (.here) (.cons (.here) (.cons (.here) (.cons (.there (.there (.here))) (.cons (.there (.there (.here))) (.nil))))))))) (Lp.weak ?hw this)
        case hw => exact ⟨rfl, rfl, rfl, rfl, rfl, rfl, rfl, rfl, trivial⟩
    · obtain rfl : i = (tabL H j).length := by omega
      repeat' (first|refine zz ?_|(refine zw ?_;refine And.intro ?_ ?_<;>intro hc)|(refine zv ?_;intro cv hv)|(refine za ?_;intro _)|refine zc ?_|(refine zd ?_;refine And.intro ?_ ?_<;>(intro e;(try simp only [Bool.not_eq_true',Bool.not_eq_false'] at e);subst e;try contradiction)))
      refine hend _ [] left 0 B ?_ hB ?_
      · rw [List.drop_length]; rfl
      · rw [List.append_nil]; exact hBr
theorem lay36 {H : MH} {fs : List OS} (hX : HC b H fs c) (hW : WOk H) : ∀ (f : Nat) {v : Val} {left : Nat} {B : OS} {bs : List Nat}, left ≤ f → left ≤ 200 → VOk v → B.ok 1 → B.rows = byR bs → bs.length + 2100 * left ≤ 1000000 →
    CT Try.prog true 36 [valA v, pt i1, pt i2, pt i3, pt i4] (K36 i1 i2 i3 i4 b left B c) (Lay i1 i2 i3 i4 b c (enc H f) v left bs) := by
  intro f
  induction f with
  | zero =>
    intro v left B bs h1 h2 hv hB hr h4
    obtain rfl : left = 0 := by omega
    have e0 := sub_zero
    refine CT.enterS mixed comp36 (Nat.le_of_ble_eq_true rfl) ?_
    repeat' (first|refine zz ?_|(refine zw ?_;refine And.intro ?_ ?_<;>intro hc)|(refine zv ?_;intro cv hv)|(refine za ?_;intro _)|refine zc ?_|(refine zd ?_;refine And.intro ?_ ?_<;>(intro e;(try simp only [Bool.not_eq_true',Bool.not_eq_false'] at e);subst e;try contradiction)))
    (first|refine ⟨.inr rfl,_,.t rfl .nil,?_⟩|refine ⟨.inr rfl,_,.t rfl (.t rfl .nil),?_⟩|refine ⟨.inr rfl,_,.t rfl (.t rfl (.t rfl .nil)),?_⟩|refine ⟨.inr rfl,_,.nil,?_⟩|refine ⟨.inl rfl,_,.t rfl .nil,?_⟩|refine ⟨.inl rfl,_,.nil,?_⟩|refine ⟨.inr rfl,_,.cn rfl (by exact zN) .nil,?_⟩|refine ⟨.inr rfl,_,.cn rfl (by exact zN) (.t rfl .nil),?_⟩)
    exact ⟨[c], _, (.cons (.there (.there (.there (.there (.there (.here)))))) (.nil)), .inr ⟨rfl, rfl, [], (.cons (.here) (.nil))⟩⟩
  | succ f ih =>
    intro v left B bs h1 h2 hv hB hr h4
    cases left with
    | zero =>
      have e0 := sub_zero
      refine CT.enterS mixed comp36 (Nat.le_of_ble_eq_true rfl) ?_
      repeat' (first|refine zz ?_|(refine zw ?_;refine And.intro ?_ ?_<;>intro hc)|(refine zv ?_;intro cv hv)|(refine za ?_;intro _)|refine zc ?_|(refine zd ?_;refine And.intro ?_ ?_<;>(intro e;(try simp only [Bool.not_eq_true',Bool.not_eq_false'] at e);subst e;try contradiction)))
      (first|refine ⟨.inr rfl,_,.t rfl .nil,?_⟩|refine ⟨.inr rfl,_,.t rfl (.t rfl .nil),?_⟩|refine ⟨.inr rfl,_,.t rfl (.t rfl (.t rfl .nil)),?_⟩|refine ⟨.inr rfl,_,.nil,?_⟩|refine ⟨.inl rfl,_,.t rfl .nil,?_⟩|refine ⟨.inl rfl,_,.nil,?_⟩|refine ⟨.inr rfl,_,.cn rfl (by exact zN) .nil,?_⟩|refine ⟨.inr rfl,_,.cn rfl (by exact zN) (.t rfl .nil),?_⟩)
      exact ⟨[c], _, (.cons (.there (.there (.there (.there (.there (.here)))))) (.nil)), .inr ⟨rfl, rfl, [], (.cons (.here) (.nil))⟩⟩
    | succ left =>
      by_cases hsc : ScOk v
      · have hk := hsc.kind
        refine CT.mono (lay36_sc (i1 := i1) (i2 := i2) (i3 := i3) (i4 := i4) (b := b) (c := c) (left := left) hsc (by omega) hB hr (by omega)).up ?_
        rintro w K' ⟨rfl, B', hB', hr', rfl⟩
        refine .inl ⟨sc v, left, 0, B', ?_, rfl, hB', hr', rfl⟩
        simp only [enc]
        rw [if_neg (by omega), if_pos (by omega)]
      · have hk : v.k = 3 ∨ v.k = 4 ∨ v.k = 5 := by
          rcases hv with h | ⟨h, _⟩
          · exact absurd h hsc
          · exact h
        have hBl : B.rows.length = bs.length := by rw [hr]; simp [byR]
        have e0 := sub_one (n := left) (by omega)
        have hl := lenH hX (t := v)
        refine CT.enterS mixed comp36 (Nat.le_of_ble_eq_true rfl) ?_
        cases hj : tabI H v with
        | none =>
          simp only [mLen, hj] at hl
          repeat' (first|(refine Rg.callM rfl hl.up (.cons (.there (.there (.there (.there (.there (.here)))))) (.nil)) ?_; rintro _ _ ⟨rfl, rfl⟩)|refine zz ?_|(refine zw ?_;refine And.intro ?_ ?_<;>intro hc)|(refine zv ?_;intro cv hv)|(refine za ?_;intro _)|refine zc ?_|(refine zd ?_;refine And.intro ?_ ?_<;>(intro e;(try simp only [Bool.not_eq_true',Bool.not_eq_false'] at e);subst e;try contradiction)))
          (first|refine ⟨.inr rfl,_,.t rfl .nil,?_⟩|refine ⟨.inr rfl,_,.t rfl (.t rfl .nil),?_⟩|refine ⟨.inr rfl,_,.t rfl (.t rfl (.t rfl .nil)),?_⟩|refine ⟨.inr rfl,_,.nil,?_⟩|refine ⟨.inl rfl,_,.t rfl .nil,?_⟩|refine ⟨.inl rfl,_,.nil,?_⟩|refine ⟨.inr rfl,_,.cn rfl (by exact zN) .nil,?_⟩|refine ⟨.inr rfl,_,.cn rfl (by exact zN) (.t rfl .nil),?_⟩)
          refine ⟨[c], _, (.cons (.here) (.nil)), .inr ⟨?_, rfl, [], (.cons (.here) (.nil))⟩⟩
          simp only [enc, hj]
          split
          · rfl
          · rw [if_neg (by omega)]
        | some j =>
          simp only [mLen, hj] at hl
          have hmem := tabL_mem (tabI_some hj).2
          have hlen := hW.len _ hmem
          have c37 : PT Try.prog true 37 [.int .i64 (tabL H j).length, .int .i64 (.ofNat 2)] (.str (leB (tabL H j).length 2)) := CT.up (num37 (n := (tabL H j).length) (w := 2) (.inr ⟨.inl rfl, by omega, by simp; omega⟩))
          have hks := keysH hX (t := v) hW.len
          simp only [mKeys, hj] at hks
          have h3 : v.k = 3 := by have := (tabI_some hj).1; rw [this]
          repeat' (first|(refine Rg.callM rfl hl.up (.cons (.there (.there (.there (.there (.there (.here)))))) (.nil)) ?_; rintro _ _ ⟨rfl, rfl⟩)|refine zz ?_|(refine zw ?_;refine And.intro ?_ ?_<;>intro hc)|(refine zv ?_;intro cv hv)|(refine za ?_;intro _)|refine zc ?_|(refine zd ?_;refine And.intro ?_ ?_<;>(intro e;(try simp only [Bool.not_eq_true',Bool.not_eq_false'] at e);subst e;try contradiction)))
          refine Rg.e (Ef.appO (rs := byR [3]) (n := 1) rfl rfl hB byR_one (.there (.there (.there (.there (.there (.here)))))) rfl (by decide) (Rw.slc (InK.there InK.here) (Nat.le_refl _) (Nat.le_refl _) rfl) (by simp only [lim]; omega)) ?_
          rintro _ _ ⟨B1, hB1, hr1, rfl, rfl⟩
          repeat' (first|refine zz ?_|(refine zw ?_;refine And.intro ?_ ?_<;>intro hc)|(refine zv ?_;intro cv hv)|(refine za ?_;intro _)|refine zc ?_|(refine zd ?_;refine And.intro ?_ ?_<;>(intro e;(try simp only [Bool.not_eq_true',Bool.not_eq_false'] at e);subst e;try contradiction)))
          refine Rg.e (Ef.appO (bytes := 1) (rs := byR (leB (tabL H j).length 2)) (n := (leB (tabL H j).length 2).length) rfl rfl hB1 byR_one (.here) (by simp [byR]) (by simp [leB_len]) Rw.str (by rw [hr1]; simp only [lim, List.length_append, leB_len]; simp [byR]; omega)) ?_
          rintro _ _ ⟨B2, hB2, hr2, rfl, rfl⟩
          refine Rg.e (Ef.store1 rfl rfl (B2.one 1) (.there (.there (.there (.there (.there (Upd.here)))))) (Nat.le_of_ble_eq_true rfl)) ?_
          rintro _ _ ⟨rfl, rfl⟩
          have hB2r : B2.rows = byR (bs ++ 3 :: leB (tabL H j).length 2) := by
            rw [hr2, hr1, hr, ← byR_add, ← byR_add]
            simp
          repeat' (first|(refine Rg.callM rfl hks (.cons (.there (.there (.here))) (.nil)) ?_; rintro _ _ ⟨O, hO, hOr, rfl, rfl⟩)|refine zz ?_|(refine zw ?_;refine And.intro ?_ ?_<;>intro hc)|(refine zv ?_;intro cv hv)|(refine za ?_;intro _)|refine zc ?_|(refine zd ?_;refine And.intro ?_ ?_<;>(intro e;(try simp only [Bool.not_eq_true',Bool.not_eq_false'] at e);subst e;try contradiction)))
          have hOl := hO.len
          rw [hOr, List.length_map, List.length_map] at hOl
          repeat' (first|refine zz ?_|(refine zw ?_;refine And.intro ?_ ?_<;>intro hc)|(refine zv ?_;intro cv hv)|(refine za ?_;intro _)|refine zc ?_|(refine zd ?_;refine And.intro ?_ ?_<;>(intro e;(try simp only [Bool.not_eq_true',Bool.not_eq_false'] at e);subst e;try contradiction)))
          rename_i vb lb
          refine Cd.loop (k := (tabL H j).length + 1) (Lp.drop (.cons (.there (.there (.there (.there (.there (.here)))))) (.cons (.there (.there (.there (.there (.there (.here)))))) (.cons (.there (.there (.here))) (.cons (.there (.there (.there (.there (.here))))) (.cons (.here) (.cons (.there (.there (.there (.here)))) (.cons (.here) (.cons (.there (.here)) (.nil))))))))) (Lp.weak (l2 := [(1, pt i1), (2, pt i2), (3, pt i3), (4, pt i4), (5, .ptr vb 0 0 3), (62, O.v 3), (63, .int .i64 (.ofNat (tabL H j).length)), (64, .int .i64 (.ofNat 0))]) ⟨rfl, rfl, rfl, rfl, rfl, rfl, rfl, rfl, trivial⟩ (lay36_loop (g := enc H f) (b5 := vb) (Bd := left) (by omega) hX hW hj hO (by rw [hOr, List.map_map]; rfl) (fun x l B bs hx hl hB hr h => ih (by omega) (by omega) hx hB hr h) (fun _ _ _ _ _ hx h => enc_size hW hx h) _ 0 left B2 _ (by omega) (by omega) (by omega) hB2 hB2r (by rw [List.length_append, List.length_cons, leB_len]; omega) ?_ ?_)))
          · intro l' s l m B' he hB' hr'
            rw [List.drop_zero] at he
            show Cd _ _ _ _ _ _
            repeat' (first|refine zz ?_|(refine zw ?_;refine And.intro ?_ ?_<;>intro hc)|(refine zv ?_;intro cv hv)|(refine za ?_;intro _)|refine zc ?_|(refine zd ?_;refine And.intro ?_ ?_<;>(intro e;(try simp only [Bool.not_eq_true',Bool.not_eq_false'] at e);subst e;try contradiction)))
            (first|refine ⟨.inr rfl,_,.t rfl .nil,?_⟩|refine ⟨.inr rfl,_,.t rfl (.t rfl .nil),?_⟩|refine ⟨.inr rfl,_,.t rfl (.t rfl (.t rfl .nil)),?_⟩|refine ⟨.inr rfl,_,.nil,?_⟩|refine ⟨.inl rfl,_,.t rfl .nil,?_⟩|refine ⟨.inl rfl,_,.nil,?_⟩|refine ⟨.inr rfl,_,.cn rfl (by exact zN) .nil,?_⟩|refine ⟨.inr rfl,_,.cn rfl (by exact zN) (.t rfl .nil),?_⟩)
            refine ⟨_, _, (.cons (.here) (.cons (.here) (.cons (.here) (.cons (.here) (.cons (.here) (.cons (.here) (.nil))))))), .inl ⟨3 :: (leB (tabL H j).length 2 ++ s), l, 1 + (tabL H j).length + m, B', ?_, rfl, hB', hr'.trans ?_, rfl⟩⟩
            · simp only [enc, h3, if_true, hj, he]
            · simp
          · intro he l' K' h6 hsel
            rw [List.drop_zero] at he
            obtain ⟨r0, hr0⟩ := hsel
            refine ⟨.inr rfl, _, .t h6 .nil, ⟨[c], _, hr0, .inr ⟨?_, rfl, [], (.cons (.here) (.nil))⟩⟩⟩
            simp only [enc, h3, if_true, hj, he]
theorem save12 {H : MH} {fs : List OS} (hX : HC b H fs c) (hW : WOk H) {v : Val} (hv : VOk v) : CT Try.prog true 12 [hP b, valA v] [c] fun w K' => w = svE (enc H 200 v 200) ∧ K' = [c] := by
  refine CT.enterS mixed comp12 (Nat.le_of_ble_eq_true rfl) ?_
  refine Cd.perm (K2 := [OS.c ⟨none, []⟩, c]) (.refl _) ?_
  repeat' (first|refine zz ?_|(refine zw ?_;refine And.intro ?_ ?_<;>intro hc)|(refine zv ?_;intro cv hv)|(refine za ?_;intro _)|refine zc ?_|(refine zd ?_;refine And.intro ?_ ?_<;>(intro e;(try simp only [Bool.not_eq_true',Bool.not_eq_false'] at e);subst e;try contradiction)))
  rename_i hb vb j1 j2 j4
  have hc := lay36 (i1 := j1) (i2 := j2) (i3 := hb) (i4 := j4) hX hW 200 (v := v) (left := 200) (B := ⟨none, []⟩) (bs := []) (Nat.le_refl _) (Nat.le_refl _) hv OS.ok.nil rfl (by decide)
  cases he : enc H 200 v 200 with
  | none =>
    repeat' (first|(refine Rg.callvM rfl rfl hc (.cons (.there (.there (.here))) (.cons (.there (.here)) (.cons (.there (.there (.there (.here)))) (.cons (.there (.there (.here))) (.cons (.there (.there (.here))) (.cons (.here) (.nil))))))) ?_; rintro _ _ (⟨s, l, m, B2, h, _⟩ | ⟨h, rfl, r0, hr0⟩); (rw [he] at h; cases h))|refine zz ?_|(refine zw ?_;refine And.intro ?_ ?_<;>intro hc)|(refine zv ?_;intro cv hv)|(refine za ?_;intro _)|refine zc ?_|(refine zd ?_;refine And.intro ?_ ?_<;>(intro e;(try simp only [Bool.not_eq_true',Bool.not_eq_false'] at e);subst e;try contradiction)))
    (first|refine ⟨.inr rfl,_,.t rfl .nil,?_⟩|refine ⟨.inr rfl,_,.t rfl (.t rfl .nil),?_⟩|refine ⟨.inr rfl,_,.t rfl (.t rfl (.t rfl .nil)),?_⟩|refine ⟨.inr rfl,_,.nil,?_⟩|refine ⟨.inl rfl,_,.t rfl .nil,?_⟩|refine ⟨.inl rfl,_,.nil,?_⟩|refine ⟨.inr rfl,_,.cn rfl (by exact zN) .nil,?_⟩|refine ⟨.inr rfl,_,.cn rfl (by exact zN) (.t rfl .nil),?_⟩)
    exact ⟨_, _, hr0.app_right, rfl, rfl⟩
  | some p =>
    obtain ⟨t, l1, m1⟩ := p
    repeat' (first|(refine Rg.callvM rfl rfl hc (.cons (.there (.there (.here))) (.cons (.there (.here)) (.cons (.there (.there (.there (.here)))) (.cons (.there (.there (.here))) (.cons (.there (.there (.here))) (.cons (.here) (.nil))))))) ?_; rintro _ _ (⟨s, l, m, B2, h, rfl, hB2, hr2, rfl⟩ | ⟨h, _⟩); rotate_left; (rw [he] at h; cases h))|refine zz ?_|(refine zw ?_;refine And.intro ?_ ?_<;>intro hc)|(refine zv ?_;intro cv hv)|(refine za ?_;intro _)|refine zc ?_|(refine zd ?_;refine And.intro ?_ ?_<;>(intro e;(try simp only [Bool.not_eq_true',Bool.not_eq_false'] at e);subst e;try contradiction)))
    rw [he] at h
    cases h
    have hd := fun K hi => Rdk.b2sO (K := K) (y := B2.v 1) hB2 hr2 (enc_lt hW hv he) hi
    repeat' (first|(refine Rg.r rfl rfl (hd _ ?_) ?_; (intro id o h; exact .there (.there (.mem h))))|refine zz ?_|(refine zw ?_;refine And.intro ?_ ?_<;>intro hc)|(refine zv ?_;intro cv hv)|(refine za ?_;intro _)|refine zc ?_|(refine zd ?_;refine And.intro ?_ ?_<;>(intro e;(try simp only [Bool.not_eq_true',Bool.not_eq_false'] at e);subst e;try contradiction)))
    (first|refine ⟨.inr rfl,_,.t rfl .nil,?_⟩|refine ⟨.inr rfl,_,.t rfl (.t rfl .nil),?_⟩|refine ⟨.inr rfl,_,.t rfl (.t rfl (.t rfl .nil)),?_⟩|refine ⟨.inr rfl,_,.nil,?_⟩|refine ⟨.inl rfl,_,.t rfl .nil,?_⟩|refine ⟨.inl rfl,_,.nil,?_⟩|refine ⟨.inr rfl,_,.cn rfl (by exact zN) .nil,?_⟩|refine ⟨.inr rfl,_,.cn rfl (by exact zN) (.t rfl .nil),?_⟩)
    exact ⟨_, _, (.cons (.there (.there (.there (.there (.here))))) (.nil)), rfl, rfl⟩
end
end Go.Proofs.Ytlflpjjmkigepaa

namespace Go.Proofs.Ytlflpjjmkigepaa
open Go Go.Abs
theorem MH.ok.tabs {H : MH} (h : H.ok) : ∀ L, L ∈ H.tabs → L.length ≤ H.used := by
  intro L hL
  obtain ⟨j, hj, e⟩ := List.getElem_of_mem hL
  have := len_le hj
  rw [tabL, List.getElem?_eq_getElem hj, e] at this
  have hu := h.used
  simp only [Option.getD_some] at *
  omega
theorem mem_setL2 {k v : Val} {L : List KV} {e : KV} (h : e ∈ setL k v L) : e ∈ L ∨ e = (k, v) ∧ v.k ≠ 0 := by
  by_cases hv : v.k = 0
  · rw [setL, if_pos hv] at h
    exact .inl (List.mem_filter.1 h).1
  · rcases mem_setL h with h | h
    · exact .inl h
    · exact .inr ⟨h, hv⟩
theorem ScOk.can {k : Val} (h : ScOk k) (hk : keyB k = true) : Can k := by
  rcases h with rfl | ⟨h1, h2, _⟩ | ⟨h1, h2, _⟩
  · exact absurd hk (by decide)
  · exact .inl ⟨h1, h2⟩
  · exact .inr ⟨h1, h2⟩
theorem mPut_cases (H : MH) (t k v : Val) : (mPut H t k v).1 = H ∨ ∃ i, tabI H t = some i ∧ keyB k = true ∧ (mPut H t k v).1 = { H with used := H.used - (tabL H i).length + (setL k v (tabL H i)).length, tabs := H.tabs.set i (setL k v (tabL H i)) } := by
  unfold mPut
  split
  · exact .inl rfl
  · rename_i i hi
    split
    · rename_i hk
      split
      · exact .inl rfl
      · exact .inr ⟨i, hi, hk, rfl⟩
    · exact .inl rfl
theorem WOk.put {H : MH} {t k v : Val} (h : WOk H) (hk : ScOk k) (hv : VOk v) (hu : (mPut H t k v).1.used ≤ 1000) : WOk (mPut H t k v).1 := by
  have hok : (mPut H t k v).1.ok := h.ok.put (fun hb => hk.can hb) (fun _ => hk.len)
  have hl := hok.tabs
  rcases mPut_cases H t k v with e | ⟨i, hi, hkb, e⟩
  · rw [e]; exact h
  · refine ⟨hok, fun L hL => Nat.le_trans (hl L hL) hu, ?_, ?_⟩
    · intro L hL x hx
      rw [e] at hL
      rcases List.mem_or_eq_of_mem_set hL with hL | rfl
      · exact h.key L hL x hx
      · rcases mem_setL2 hx with hx | ⟨rfl, _⟩
        · exact h.key _ (tabL_mem (tabI_some hi).2) x hx
        · exact ⟨hk, hkb⟩
    · intro L hL x hx
      rw [e] at hL
      rcases List.mem_or_eq_of_mem_set hL with hL | rfl
      · exact h.val L hL x hx
      · rcases mem_setL2 hx with hx | ⟨rfl, hv0⟩
        · exact h.val _ (tabL_mem (tabI_some hi).2) x hx
        · exact ⟨hv, hv0⟩
theorem WOk.table {H : MH} (h : WOk H) : WOk (mTable H).1 := by
  have hok := h.ok.table
  unfold mTable at hok ⊢
  split
  · rename_i hr
    rw [if_pos hr] at hok
    refine ⟨hok, ?_, ?_, ?_⟩
    all_goals
      intro L hL
      rcases List.mem_append.1 hL with hL | hL
    · exact h.len L hL
    · rw [List.mem_singleton] at hL; subst hL; simp
    · exact h.key L hL
    · rw [List.mem_singleton] at hL; subst hL; intro e he; cases he
    · exact h.val L hL
    · rw [List.mem_singleton] at hL; subst hL; intro e he; cases he
  · exact h
theorem WOk.new {room : Nat} (h : room ≤ 1000000) : WOk (mNew room) := ⟨MH.ok.new h, (fun _ h => by cases h), (fun _ h => by cases h), (fun _ h => by cases h)⟩
theorem put_used {H : MH} {t k v : Val} (h : H.ok) (hk : ScOk k) : (mPut H t k v).1.used ≤ H.used + 1 ∧ (mPut H t k v).1.used ≤ H.room ∧ (mPut H t k v).1.room = H.room ∧ (mPut H t k v).1.tabs.length = H.tabs.length ∧ (mPut H t k v).1.fns = H.fns := by
  have hok : (mPut H t k v).1.ok := h.put (fun hb => hk.can hb) (fun _ => hk.len)
  have hle := hok.le
  rcases mPut_cases H t k v with e | ⟨i, hi, hkb, e⟩
  · rw [e] at hle ⊢
    exact ⟨by omega, hle, rfl, rfl, rfl⟩
  · rw [e] at hle ⊢
    have hlen := setL_len (v := v) (h.srt _ (tabL_mem (tabI_some hi).2)) (hk.can hkb)
    have hle2 := len_le (tabI_some hi).2
    have hu := h.used
    refine ⟨?_, hle, rfl, by simp, rfl⟩
    show H.used - (tabL H i).length + (setL k v (tabL H i)).length ≤ H.used + 1
    split at hlen <;> split at hlen <;> omega
/-- What is kept while values are put. -/
structure Jv (i : Nat) (H : MH) : Prop where
  wok : WOk H
  room : H.room = 1000
  tl : H.tabs.length = 4
  used : H.used ≤ 4 + i
  fns : H.fns = []
theorem Jv.put {i : Nat} {H : MH} {t k v : Val} (h : Jv i H) (hk : ScOk k) (hv : VOk v) : Jv (i + 1) (mPut H t k v).1 := by
  obtain ⟨h1, h2, h3, h4, h5⟩ := put_used (t := t) (v := v) h.wok.ok hk
  refine ⟨h.wok.put hk hv (by rw [h.room] at h2; exact h2), h3.trans h.room, h4.trans h.tl, by have := h.used; omega, h5.trans h.fns⟩
theorem Jv.next {i : Nat} {H : MH} (h : Jv i H) : Jv (i + 1) H := ⟨h.wok, h.room, h.tl, by have := h.used; omega, h.fns⟩
/-- Tables are made. -/
def tabsM : Nat → MH → MH
  | 0, H => H
  | n + 1, H => (mTable (tabsM n H)).1
theorem tabsM_ok {n : Nat} (hn : n ≤ 1000) : WOk (tabsM n (mNew 1000)) ∧ (tabsM n (mNew 1000)).room = 1000 ∧ (tabsM n (mNew 1000)).tabs.length = n ∧ (tabsM n (mNew 1000)).used = n ∧ (tabsM n (mNew 1000)).fns = [] := by
  induction n with
  | zero => exact ⟨WOk.new (by omega), rfl, rfl, rfl, rfl⟩
  | succ n ih =>
    obtain ⟨h1, h2, h3, h4, h5⟩ := ih (by omega)
    have hw := h1.table
    simp only [tabsM]
    have e : mTable (tabsM n (mNew 1000)) = ({ tabsM n (mNew 1000) with used := (tabsM n (mNew 1000)).used + 1, tabs := (tabsM n (mNew 1000)).tabs ++ [[]] }, ⟨3, (tabsM n (mNew 1000)).tabs.length, []⟩, 0) := by
      unfold mTable; rw [if_pos (by rw [h4, h2]; omega)]
    refine ⟨hw, ?_⟩
    rw [e]
    exact ⟨h2, by simp [h3], by simp [h4], h5⟩
/-- A value that is put. -/
structure PO where
  t : Int
  k : Val
  v : Val
  tab : Bool
  to : Int
def poR (o : PO) : List AV := [.int .i64 o.t, .int .i64 o.k.k, .int .i64 o.k.n, .str o.k.s, .int .i64 o.v.k, .int .i64 o.v.n, .str o.v.s, .bool o.tab, .int .i64 o.to]
structure PO.ok (o : PO) : Prop where
  t : rng o.t
  to : rng o.to
  kn : rng o.k.n
  vn : rng o.v.n
  ks : ∀ x, x ∈ o.k.s → x < 256
  vs : ∀ x, x ∈ o.v.s → x < 256
theorem isB_ok {v : Val} (h : isB v = true) (hn : rng v.n) (hs : ∀ x, x ∈ v.s → x < 256) : VOk v := by
  obtain ⟨k, n, s⟩ := v
  simp only [isB] at h
  split at h
  · rename_i h0
    simp only [Bool.and_eq_true, decide_eq_true_eq] at h
    obtain ⟨rfl, rfl⟩ := h
    subst h0
    exact .inl (.inl rfl)
  · split at h
    · rename_i h2
      simp only [Bool.and_eq_true, decide_eq_true_eq] at h
      exact .inl (.inr (.inr ⟨h2, h.1, h.2, hs⟩))
    · rename_i h0 h2
      simp only [Bool.and_eq_true, decide_eq_true_eq] at h h0 h2
      by_cases h1 : k = 1
      · exact .inl (.inr (.inl ⟨h1, h.2, hn⟩))
      · exact .inr ⟨by show k = 3 ∨ k = 4 ∨ k = 5; omega, h.2⟩
/-- A number below another one. -/
def cnt (n : Int) (m : Nat) : Nat := ((if n < 0 then -(n + 1) else n) % m).toNat
theorem cnt_lt {n : Int} {m : Nat} (h : 0 < m) : cnt n m < m := by
  unfold cnt
  have := Int.emod_lt_of_pos (if n < 0 then -(n + 1) else n) (b := m) (by omega)
  have := Int.emod_nonneg (if n < 0 then -(n + 1) else n) (b := m) (by omega)
  omega
end Go.Proofs.Ytlflpjjmkigepaa

namespace Go.Proofs.Ytlflpjjmkigepaa
open Go Go.Abs
attribute [local irreducible] Cmp Rg Dw Cd Lp Ev Rdk CT Upd InK
theorem rem_i {a m : Nat} (hm : 0 < m) : abin .rem (.int .i64 (.ofNat a)) (.int .i64 (.ofNat m)) = some (.int .i64 (.ofNat (a % m))) := by
  have e : abin .rem (.int .i64 (.ofNat a)) (.int .i64 (.ofNat m)) = (bif ieq (.ofNat m) 0 then none else some (.int .i64 ((Int.ofNat a).tmod (.ofNat m)))) := rfl
  have e2 : ieq (.ofNat m) 0 = false := by
    rw [ieq_dec]; simp; omega
  rw [e, e2, cond_false]
  rfl
theorem count18 {n : Int} {m : Nat} (hn : rng n) (hm : 0 < m) : PT Try.prog false 18 [.int .i64 n, .int .i64 (.ofNat m)] (.int .i64 (.ofNat (cnt n m))) := by
  unfold rng at hn
  refine PT.of (CT.enter mixed comp18 (Nat.le_of_ble_eq_true rfl) ?_)
  by_cases h : n < 0
  · obtain ⟨a, ha⟩ : ∃ a : Nat, -(n + 1) = .ofNat a := ⟨(-(n + 1)).toNat, by simp; omega⟩
    have p1 := add_int (x := n) (y := 1) (by omega) (by omega)
    have p2 : apure .e (.un .neg (.c (.int .i64 (n + 1)))) = some (.int .i64 (.ofNat a)) := by
      have e : apure .e (.un .neg (.c (.int .i64 (n + 1)))) = some (.int .i64 (awrap .i64 (0 - (n + 1)))) := rfl
      rw [e, Int.zero_sub, ha, awrap_eq]
      congr 2
      simp only [IntKind.wrap, IntKind.bits, IntKind.signed]
      simp at ha ⊢
      omega
    have p3 := rem_i (a := a) hm
    have e : cnt n m = a % m := by
      unfold cnt
      rw [if_pos h, ha]
      exact Int.toNat_natCast _
    rw [e]
    repeat' (first|(refine zz ?_ (by refine iP (v:=?_) ?_; rotate_left; refine Ev.un rfl ?_; exact p2))|refine zz ?_|(refine zw ?_;refine And.intro ?_ ?_<;>intro hc)|(refine zv ?_;intro cv hv)|(refine za ?_;intro _)|refine zc ?_|(refine zd ?_;refine And.intro ?_ ?_<;>(intro e;(try simp only [Bool.not_eq_true',Bool.not_eq_false'] at e);subst e;try contradiction)))
    (first|refine ⟨.inr rfl,_,.t rfl .nil,?_⟩|refine ⟨.inr rfl,_,.t rfl (.t rfl .nil),?_⟩|refine ⟨.inr rfl,_,.t rfl (.t rfl (.t rfl .nil)),?_⟩|refine ⟨.inr rfl,_,.nil,?_⟩|refine ⟨.inl rfl,_,.t rfl .nil,?_⟩|refine ⟨.inl rfl,_,.nil,?_⟩|refine ⟨.inr rfl,_,.cn rfl (by exact zN) .nil,?_⟩|refine ⟨.inr rfl,_,.cn rfl (by exact zN) (.t rfl .nil),?_⟩)
    rfl
  · obtain ⟨a, rfl⟩ : ∃ a : Nat, n = .ofNat a := ⟨n.toNat, by simp; omega⟩
    have p3 := rem_i (a := a) hm
    have e : cnt (.ofNat a) m = a % m := by
      unfold cnt
      rw [if_neg h]
      exact Int.toNat_natCast _
    rw [e]
    repeat' (first|refine zz ?_|(refine zw ?_;refine And.intro ?_ ?_<;>intro hc)|(refine zv ?_;intro cv hv)|(refine za ?_;intro _)|refine zc ?_|(refine zd ?_;refine And.intro ?_ ?_<;>(intro e;(try simp only [Bool.not_eq_true',Bool.not_eq_false'] at e);subst e;try contradiction)))
    (first|refine ⟨.inr rfl,_,.t rfl .nil,?_⟩|refine ⟨.inr rfl,_,.t rfl (.t rfl .nil),?_⟩|refine ⟨.inr rfl,_,.t rfl (.t rfl (.t rfl .nil)),?_⟩|refine ⟨.inr rfl,_,.nil,?_⟩|refine ⟨.inl rfl,_,.t rfl .nil,?_⟩|refine ⟨.inl rfl,_,.nil,?_⟩|refine ⟨.inr rfl,_,.cn rfl (by exact zN) .nil,?_⟩|refine ⟨.inr rfl,_,.cn rfl (by exact zN) (.t rfl .nil),?_⟩)
    rfl
theorem m13 {o : PO} {b13 : Nat} {z1 z7 z9 z12 : AV} (h1 : o.k.s.length ≤ 1024) (h2 : isB o.k = true) (h3 : isB o.v = true) (h4 : ¬ o.v.k = 3) : Cd Try.prog false (.reg r9_13) [(1, z1), (7, z7), (9, z9), (12, z12), (13, .ptr b13 0 0 9)] [[(b13, .cells (poR o) 0 0 false)]] fun e l K => e = .nrm ∧ Sub2 [(1, z1), (7, z7), (9, z9), (12, z12), (13, .ptr b13 0 0 9), (81, .bool false)] l ∧ K = [[(b13, .cells (poR o) 0 0 false)]] := by
  have k1 := is21 (v := o.k)
  have k2 := is21 (v := o.v)
  rw [h2] at k1
  rw [h3] at k2
  have hrk : ∀ K, InK K b13 (.cells (poR o) 0 0 false) → Rdk K (.loadn 3) (.ptr b13 0 1 3) (.ptr b13 0 1 3) (valA o.k) := fun K h => Rdk.bn h rfl
  have hrv : ∀ K, InK K b13 (.cells (poR o) 0 0 false) → Rdk K (.loadn 3) (.ptr b13 0 4 3) (.ptr b13 0 4 3) (valA o.v) := fun K h => Rdk.bn h rfl
  repeat' (first|(refine Rg.r rfl rfl (hrk _ (by repeat (first | exact InK.here | refine InK.there ?_))) ?_)|(refine Rg.r rfl rfl (hrv _ (by repeat (first | exact InK.here | refine InK.there ?_))) ?_)|refine zz ?_|(refine zw ?_;refine And.intro ?_ ?_<;>intro hc)|(refine zv ?_;intro cv hv)|(refine za ?_;intro _)|refine zc ?_|(refine zd ?_;refine And.intro ?_ ?_<;>(intro e;(try simp only [Bool.not_eq_true',Bool.not_eq_false'] at e);subst e;try contradiction)))
  exact ⟨rfl, ⟨rfl, rfl, rfl, rfl, rfl, rfl, trivial⟩, rfl⟩
def poV (o : PO) : Val := if o.tab then ⟨3, (cnt o.to 4 : Nat), []⟩ else o.v
theorem m14 {o : PO} {b13 : Nat} {z1 z7 z9 z12 : AV} (h1 : PT Try.prog false 18 [.int .i64 o.t, .int .i64 (.ofNat 4)] (.int .i64 (.ofNat (cnt o.t 4)))) (h2 : PT Try.prog false 18 [.int .i64 o.to, .int .i64 (.ofNat 4)] (.int .i64 (.ofNat (cnt o.to 4)))) {c d : Chk} {X : ACode} {Q : AX → SL → Mem → Prop}
    (h : ∀ b14 b15 l, Sub2 [(1, z1), (7, z7), (9, z9), (12, z12), (13, .ptr b13 0 0 9), (14, .ptr b14 0 0 3), (15, .ptr b15 0 0 3)] l → Cd Try.prog false X l [[(b15, .cells (valR (poV o)) 0 0 false)], [(b14, .cells (valR ⟨3, (cnt o.t 4 : Nat), []⟩) 0 0 false)], [(b13, .cells (poR o) 0 0 false)], c, d] Q) :
    Cd Try.prog false (.seq (.reg r9_14) (.seq (.reg r9_15) (.seq (.seq (.reg r9_16) (.cond (.t 89) (.reg r9_17) .skip)) X))) [(1, z1), (7, z7), (9, z9), (12, z12), (13, .ptr b13 0 0 9)] [[(b13, .cells (poR o) 0 0 false)], c, d] Q := by
  have hrk : ∀ K, InK K b13 (.cells (poR o) 0 0 false) → Rdk K (.loadn 3) (.ptr b13 0 1 3) (.ptr b13 0 1 3) (valA o.k) := fun K h => Rdk.bn h rfl
  have hrv : ∀ K, InK K b13 (.cells (poR o) 0 0 false) → Rdk K (.loadn 3) (.ptr b13 0 4 3) (.ptr b13 0 4 3) (valA o.v) := fun K h => Rdk.bn h rfl
  obtain ⟨t, k, v, tab, to⟩ := o
  cases tab
  · repeat' (first|(refine Rg.r rfl rfl (hrk _ (by repeat (first | exact InK.here | refine InK.there ?_))) ?_)|(refine Rg.r rfl rfl (hrv _ (by repeat (first | exact InK.here | refine InK.there ?_))) ?_)|refine zz ?_|(refine zw ?_;refine And.intro ?_ ?_<;>intro hc)|(refine zv ?_;intro cv hv)|(refine za ?_;intro _)|refine zc ?_|(refine zd ?_;refine And.intro ?_ ?_<;>(intro e;(try simp only [Bool.not_eq_true',Bool.not_eq_false'] at e);subst e;try contradiction)))
    exact h _ _ _ ⟨rfl, rfl, rfl, rfl, rfl, rfl, rfl, trivial⟩
  · repeat' (first|(refine Rg.r rfl rfl (hrk _ (by repeat (first | exact InK.here | refine InK.there ?_))) ?_)|(refine Rg.r rfl rfl (hrv _ (by repeat (first | exact InK.here | refine InK.there ?_))) ?_)|refine zz ?_|(refine zw ?_;refine And.intro ?_ ?_<;>intro hc)|(refine zv ?_;intro cv hv)|(refine za ?_;intro _)|refine zc ?_|(refine zd ?_;refine And.intro ?_ ?_<;>(intro e;(try simp only [Bool.not_eq_true',Bool.not_eq_false'] at e);subst e;try contradiction)))
    exact h _ _ _ ⟨rfl, rfl, rfl, rfl, rfl, rfl, rfl, trivial⟩
theorem m18 {o : PO} {b13 b14 b15 b r : Nat} {H : MH} {c d : Chk} {V : Val} {z1 z12 : AV} (hX : HC b H [] c) (hY : RC r H [] d) (hok : H.ok) (hk : keyB o.k = true → ScOk o.k) :
    Cd Try.prog false (.draw r9_18) [(1, z1), (7, hP b), (9, rP r), (12, z12), (13, .ptr b13 0 0 9), (14, .ptr b14 0 0 3), (15, .ptr b15 0 0 3)] [[(b15, .cells (valR V) 0 0 false)], [(b14, .cells (valR ⟨3, (cnt o.t 4 : Nat), []⟩) 0 0 false)], [(b13, .cells (poR o) 0 0 false)], c, d]
    fun e l K => e = .nrm ∧ Sub2 [(1, z1), (7, hP b), (9, rP r), (12, z12), (106, .bool false)] l ∧ ∃ c' d' R, HC b (mPut H ⟨3, (cnt o.t 4 : Nat), []⟩ o.k V).1 [] c' ∧ RC r (mPut H ⟨3, (cnt o.t 4 : Nat), []⟩ o.k V).1 [] d' ∧ Sel K [c', d'] R := by
  have hrk : ∀ K, InK K b13 (.cells (poR o) 0 0 false) → Rdk K (.loadn 3) (.ptr b13 0 1 3) (.ptr b13 0 1 3) (valA o.k) := fun K h => Rdk.bn h rfl
  have p1 := putH hX hok (t := ⟨3, (cnt o.t 4 : Nat), []⟩) (k := o.k) (v := V) (fun hb => (hk hb).can hb)
  have p2 := putR hY hok (t := ⟨3, (cnt o.t 4 : Nat), []⟩) (k := o.k) (v := V) (fun hb => (hk hb).can hb) (fun hb => (hk hb).len)
  have hr4 : ∀ K, InK K b14 (.cells (valR ⟨3, (cnt o.t 4 : Nat), []⟩) 0 0 false) → Rdk K (.loadn 3) (.ptr b14 0 0 3) (.ptr b14 0 0 3) (valA ⟨3, (cnt o.t 4 : Nat), []⟩) := fun K h => Rdk.bn h rfl
  have hr5 : ∀ K, InK K b15 (.cells (valR V) 0 0 false) → Rdk K (.loadn 3) (.ptr b15 0 0 3) (.ptr b15 0 0 3) (valA V) := fun K h => Rdk.bn h rfl
  repeat' (first|(refine Dw.r rfl rfl (hrk _ (by repeat (first | exact InK.here | refine InK.there ?_))) (by repeat (first | exact trivial | refine And.intro (Or.inl rfl) ?_ | (refine And.intro (Or.inr ?_) ?_; (focus (first | exact hrk _ (by repeat (first | exact InK.here | refine InK.there ?_)) | first | exact Rdk.i1 | assumption | (refine Rdk.in ?_; first | assumption | exact rfl) | (refine Rdk.b1 (cs := ?_) ?_ ?_; rotate_left; (repeat (first | exact InK.here | refine InK.there ?_)); exact rfl) | (refine Rdk.bw ?_ ?_; (repeat (first | exact InK.here | refine InK.there ?_)); first | assumption | exact rfl) | (refine Rdk.bw (cs := ?_) ?_ ?_; rotate_left; (repeat (first | exact InK.here | refine InK.there ?_)); first | assumption | exact rfl) | (refine Rdk.bn ?_ ?_; (repeat (first | exact InK.here | refine InK.there ?_)); exact rfl) | (refine Rdk.bn (cs := ?_) ?_ ?_; rotate_left; (repeat (first | exact InK.here | refine InK.there ?_)); exact rfl)))))) ?_)|(refine Dw.r rfl rfl (hr4 _ (by repeat (first | exact InK.here | refine InK.there ?_))) (by repeat (first | exact trivial | refine And.intro (Or.inl rfl) ?_ | (refine And.intro (Or.inr ?_) ?_; (focus (first | exact hr4 _ (by repeat (first | exact InK.here | refine InK.there ?_)) | first | exact Rdk.i1 | assumption | (refine Rdk.in ?_; first | assumption | exact rfl) | (refine Rdk.b1 (cs := ?_) ?_ ?_; rotate_left; (repeat (first | exact InK.here | refine InK.there ?_)); exact rfl) | (refine Rdk.bw ?_ ?_; (repeat (first | exact InK.here | refine InK.there ?_)); first | assumption | exact rfl) | (refine Rdk.bw (cs := ?_) ?_ ?_; rotate_left; (repeat (first | exact InK.here | refine InK.there ?_)); first | assumption | exact rfl) | (refine Rdk.bn ?_ ?_; (repeat (first | exact InK.here | refine InK.there ?_)); exact rfl) | (refine Rdk.bn (cs := ?_) ?_ ?_; rotate_left; (repeat (first | exact InK.here | refine InK.there ?_)); exact rfl)))))) ?_)|(refine Dw.r rfl rfl (hr5 _ (by repeat (first | exact InK.here | refine InK.there ?_))) (by repeat (first | exact trivial | refine And.intro (Or.inl rfl) ?_ | (refine And.intro (Or.inr ?_) ?_; (focus (first | exact hr5 _ (by repeat (first | exact InK.here | refine InK.there ?_)) | first | exact Rdk.i1 | assumption | (refine Rdk.in ?_; first | assumption | exact rfl) | (refine Rdk.b1 (cs := ?_) ?_ ?_; rotate_left; (repeat (first | exact InK.here | refine InK.there ?_)); exact rfl) | (refine Rdk.bw ?_ ?_; (repeat (first | exact InK.here | refine InK.there ?_)); first | assumption | exact rfl) | (refine Rdk.bw (cs := ?_) ?_ ?_; rotate_left; (repeat (first | exact InK.here | refine InK.there ?_)); first | assumption | exact rfl) | (refine Rdk.bn ?_ ?_; (repeat (first | exact InK.here | refine InK.there ?_)); exact rfl) | (refine Rdk.bn (cs := ?_) ?_ ?_; rotate_left; (repeat (first | exact InK.here | refine InK.there ?_)); exact rfl)))))) ?_)|refine zz ?_|(refine zw ?_;refine And.intro ?_ ?_<;>intro hc)|(refine zv ?_;intro cv hv)|(refine za ?_;intro _)|refine zc ?_|(refine zd ?_;refine And.intro ?_ ?_<;>(intro e;(try simp only [Bool.not_eq_true',Bool.not_eq_false'] at e);subst e;try contradiction)))
  refine Dw.callM rfl p1 (.cons (.there (.there (.there (.here)))) (.nil)) ?_
  rintro _ _ ⟨rfl, c', hX', rfl⟩
  refine ⟨by repeat (first | exact trivial | refine rdsB rfl ?_ | (refine rdsR ?_ ?_; (focus (first | assumption | (refine Rdk.b1 (cs := ?_) ?_ ?_; rotate_left; (repeat (first | exact InK.here | refine InK.there ?_)); exact rfl) | (refine Rdk.bw ?_ ?_; (repeat (first | exact InK.here | refine InK.there ?_)); first | assumption | exact rfl) | (refine Rdk.bn ?_ ?_; (repeat (first | exact InK.here | refine InK.there ?_)); exact rfl) | (refine Rdk.in ?_; first | assumption | exact rfl) | exact Rdk.i1)))), ?_⟩
  repeat' (first|(refine Dw.r rfl rfl (hrk _ (by repeat (first | exact InK.here | refine InK.there ?_))) (by repeat (first | exact trivial | refine And.intro (Or.inl rfl) ?_ | (refine And.intro (Or.inr ?_) ?_; (focus (first | exact hrk _ (by repeat (first | exact InK.here | refine InK.there ?_)) | first | exact Rdk.i1 | assumption | (refine Rdk.in ?_; first | assumption | exact rfl) | (refine Rdk.b1 (cs := ?_) ?_ ?_; rotate_left; (repeat (first | exact InK.here | refine InK.there ?_)); exact rfl) | (refine Rdk.bw ?_ ?_; (repeat (first | exact InK.here | refine InK.there ?_)); first | assumption | exact rfl) | (refine Rdk.bw (cs := ?_) ?_ ?_; rotate_left; (repeat (first | exact InK.here | refine InK.there ?_)); first | assumption | exact rfl) | (refine Rdk.bn ?_ ?_; (repeat (first | exact InK.here | refine InK.there ?_)); exact rfl) | (refine Rdk.bn (cs := ?_) ?_ ?_; rotate_left; (repeat (first | exact InK.here | refine InK.there ?_)); exact rfl)))))) ?_)|(refine Dw.r rfl rfl (hr4 _ (by repeat (first | exact InK.here | refine InK.there ?_))) (by repeat (first | exact trivial | refine And.intro (Or.inl rfl) ?_ | (refine And.intro (Or.inr ?_) ?_; (focus (first | exact hr4 _ (by repeat (first | exact InK.here | refine InK.there ?_)) | first | exact Rdk.i1 | assumption | (refine Rdk.in ?_; first | assumption | exact rfl) | (refine Rdk.b1 (cs := ?_) ?_ ?_; rotate_left; (repeat (first | exact InK.here | refine InK.there ?_)); exact rfl) | (refine Rdk.bw ?_ ?_; (repeat (first | exact InK.here | refine InK.there ?_)); first | assumption | exact rfl) | (refine Rdk.bw (cs := ?_) ?_ ?_; rotate_left; (repeat (first | exact InK.here | refine InK.there ?_)); first | assumption | exact rfl) | (refine Rdk.bn ?_ ?_; (repeat (first | exact InK.here | refine InK.there ?_)); exact rfl) | (refine Rdk.bn (cs := ?_) ?_ ?_; rotate_left; (repeat (first | exact InK.here | refine InK.there ?_)); exact rfl)))))) ?_)|(refine Dw.r rfl rfl (hr5 _ (by repeat (first | exact InK.here | refine InK.there ?_))) (by repeat (first | exact trivial | refine And.intro (Or.inl rfl) ?_ | (refine And.intro (Or.inr ?_) ?_; (focus (first | exact hr5 _ (by repeat (first | exact InK.here | refine InK.there ?_)) | first | exact Rdk.i1 | assumption | (refine Rdk.in ?_; first | assumption | exact rfl) | (refine Rdk.b1 (cs := ?_) ?_ ?_; rotate_left; (repeat (first | exact InK.here | refine InK.there ?_)); exact rfl) | (refine Rdk.bw ?_ ?_; (repeat (first | exact InK.here | refine InK.there ?_)); first | assumption | exact rfl) | (refine Rdk.bw (cs := ?_) ?_ ?_; rotate_left; (repeat (first | exact InK.here | refine InK.there ?_)); first | assumption | exact rfl) | (refine Rdk.bn ?_ ?_; (repeat (first | exact InK.here | refine InK.there ?_)); exact rfl) | (refine Rdk.bn (cs := ?_) ?_ ?_; rotate_left; (repeat (first | exact InK.here | refine InK.there ?_)); exact rfl)))))) ?_)|refine zz ?_|(refine zw ?_;refine And.intro ?_ ?_<;>intro hc)|(refine zv ?_;intro cv hv)|(refine za ?_;intro _)|refine zc ?_|(refine zd ?_;refine And.intro ?_ ?_<;>(intro e;(try simp only [Bool.not_eq_true',Bool.not_eq_false'] at e);subst e;try contradiction)))
  refine Dw.callM rfl p2 (.cons (.there (.there (.there (.there (.here))))) (.nil)) ?_
  rintro _ _ ⟨rfl, d', hY', rfl⟩
  refine ⟨by repeat (first | exact trivial | refine rdsB rfl ?_ | (refine rdsR ?_ ?_; (focus (first | assumption | (refine Rdk.b1 (cs := ?_) ?_ ?_; rotate_left; (repeat (first | exact InK.here | refine InK.there ?_)); exact rfl) | (refine Rdk.bw ?_ ?_; (repeat (first | exact InK.here | refine InK.there ?_)); first | assumption | exact rfl) | (refine Rdk.bn ?_ ?_; (repeat (first | exact InK.here | refine InK.there ?_)); exact rfl) | (refine Rdk.in ?_; first | assumption | exact rfl) | exact Rdk.i1)))), ?_⟩
  repeat' (first|refine zz ?_|(refine zw ?_;refine And.intro ?_ ?_<;>intro hc)|(refine zv ?_;intro cv hv)|(refine za ?_;intro _)|refine zc ?_|(refine zd ?_;refine And.intro ?_ ?_<;>(intro e;(try simp only [Bool.not_eq_true',Bool.not_eq_false'] at e);subst e;try contradiction)))
  exact ⟨rfl, ⟨rfl, rfl, rfl, rfl, rfl, trivial⟩, c', d', _, hX', hY', (.cons (.there (.here)) (.cons (.here) (.nil)))⟩
section
variable {b r : Nat} {H : MH} {c d : Chk}
theorem laid9_tabs {Q : AX → SL → Mem → Prop} {z1 : AV} (hend : ∀ l' c d, Sub2 [(1, z1), (7, hP b), (9, rP r)] l' → HC b (tabsM 4 (mNew 1000)) [] c → RC r (tabsM 4 (mNew 1000)) [] d → Q (.ext 0) l' [c, d]) :
    ∀ (f i : Nat) (c d : Chk), 4 < i + f → i ≤ 4 → HC b (tabsM i (mNew 1000)) [] c → RC r (tabsM i (mNew 1000)) [] d → Lp Try.prog false b9_0 f [(1, z1), (7, hP b), (9, rP r), (11, .int .i64 (.ofNat i))] [c, d] Q := by
  intro f
  induction f with
  | zero => intro i c d h1; omega
  | succ f ih =>
    intro i c d h1 h2 hX hY
    refine Lp.round ?_
    by_cases hi : i < 4
    · obtain ⟨hW, _⟩ := tabsM_ok (n := i) (by omega)
      have k1 := tableH hX hW.ok
      have k2 := tableR hY hW.ok
      repeat' (first|(refine Rg.callM rfl k1 (.cons (.here) (.nil)) ?_; rintro _ _ ⟨rfl, c', hX', rfl⟩)|(refine Rg.callM rfl k2 (.cons (.there (.here)) (.nil)) ?_; rintro _ _ ⟨rfl, d', hY', rfl⟩)|refine zz ?_|(refine zw ?_;refine And.intro ?_ ?_<;>intro hc)|(refine zv ?_;intro cv hv)|(refine za ?_;intro _)|refine zc ?_|(refine zd ?_;refine And.intro ?_ ?_<;>(intro e;(try simp only [Bool.not_eq_true',Bool.not_eq_false'] at e);subst e;try contradiction)))
      refine Lp.drop (.cons (.there (.here)) (.cons (.here) (.nil))) (Lp.weak ?hw (ih (i + 1) c' d' (by omega) hi hX' hY'))
      case hw => exact ⟨rfl, rfl, rfl, rfl, trivial⟩
    · obtain rfl : i = 4 := by omega
      repeat' (first|refine zz ?_|(refine zw ?_;refine And.intro ?_ ?_<;>intro hc)|(refine zv ?_;intro cv hv)|(refine za ?_;intro _)|refine zc ?_|(refine zd ?_;refine And.intro ?_ ?_<;>(intro e;(try simp only [Bool.not_eq_true',Bool.not_eq_false'] at e);subst e;try contradiction)))
      exact hend _ c d ⟨rfl, rfl, rfl, trivial⟩ hX hY
theorem VOk.sc {k : Val} (h : VOk k) (hk : keyB k = true) : ScOk k := by
  rcases h with h | ⟨h, _⟩
  · exact h
  · simp only [keyB, Bool.or_eq_true, decide_eq_true_eq] at hk
    omega
theorem mPut_no {H : MH} {t k v : Val} (hk : ¬ keyB k = true) : (mPut H t k v).1 = H := by
  rcases mPut_cases H t k v with e | ⟨_, _, h, _⟩
  · exact e
  · exact absurd h hk
theorem Jv.putV {i : Nat} {H : MH} {t k v : Val} (h : Jv i H) (hk : VOk k) (hv : VOk v) : Jv (i + 1) (mPut H t k v).1 := by
  by_cases hb : keyB k = true
  · exact h.put (hk.sc hb) hv
  · rw [mPut_no hb]; exact h.next
def skipB (o : PO) : Prop := 1024 < o.k.s.length ∨ isB o.k = false ∨ isB o.v = false ∨ o.v.k = 3
theorem laid9_puts {Q : AX → SL → Mem → Prop} {lv : AV} {ls : List PO} (hL : ASl 9 lv (ls.map poR)) (hO : ∀ o, o ∈ ls → o.ok) (hll : ls.length ≤ 9223372036854775807)
    (hend : ∀ l' c d H, Sub2 [(7, hP b), (9, rP r)] l' → HC b H [] c → RC r H [] d → Jv 60 H → Q (.ext 2) l' [c, d]) :
    ∀ (f i : Nat) (c d : Chk) (H : MH), 60 < i + f → i ≤ 60 → HC b H [] c → RC r H [] d → Jv i H → Lp Try.prog false b9_1 f [(1, lv), (7, hP b), (9, rP r), (12, .int .i64 (.ofNat i))] [c, d] Q := by
  have hln := hL.len
  rw [List.length_map] at hln
  intro f
  induction f with
  | zero => intro i c d H h1; omega
  | succ f ih =>
    intro i c d H h1 h2 hX hY hJ
    refine Lp.round ?_
    by_cases hi : i < ls.length ∧ i < 60
    · obtain ⟨hi1, hi2⟩ := hi
      obtain ⟨o, ho⟩ : ∃ o, ls[i]? = some o := ⟨_, List.getElem?_eq_getElem hi1⟩
      have hOk := hO o (List.mem_of_getElem? ho)
      have q1 := hL.iadr (i := i) (r := poR o) (k := .i64) (by rw [List.getElem?_map, ho]; rfl)
      have k1 := is21 (v := o.k)
      have k2 := is21 (v := o.v)
      by_cases hA : skipB o
      · unfold skipB at hA
        repeat' (first|(refine Rg.r rfl rfl (Rdk.bn (n := 3) (cs := poR o) (by repeat (first | exact InK.here | refine InK.there ?_)) (by exact rfl)) ?_)|refine zz ?_|(refine zw ?_;refine And.intro ?_ ?_<;>intro hc)|(refine zv ?_;intro cv hv)|(refine za ?_;intro _)|refine zc ?_|(refine zd ?_;refine And.intro ?_ ?_<;>(intro e;(try simp only [Bool.not_eq_true',Bool.not_eq_false'] at e);subst e;try contradiction)))
        all_goals first
          | exact Lp.drop (.cons (.there (.here)) (.cons (.there (.here)) (.nil))) (Lp.weak (by exact ⟨rfl, rfl, rfl, rfl, trivial⟩) (ih (i + 1) c d H (by omega) hi2 hX hY hJ.next))
          | (exfalso; simp_all)
      · unfold skipB at hA
        simp only [not_or, Nat.not_lt, Bool.not_eq_false] at hA
        obtain ⟨hA1, hA2, hA3, hA4⟩ := hA
        rw [hA2] at k1
        rw [hA3] at k2
        have hv := isB_ok hA3 hOk.vn hOk.vs
        have hk := isB_ok hA2 hOk.kn hOk.ks
        have c1 := count18 (m := 4) hOk.t (by decide)
        have c2 := count18 (m := 4) hOk.to (by decide)
        have hvV : VOk (poV o) := by
          unfold poV
          split
          · exact .inr ⟨.inl rfl, rfl⟩
          · exact hv
        have hJ' := hJ.putV (t := ⟨3, (cnt o.t 4 : Nat), []⟩) (v := poV o) hk hvV
        repeat' (first|(refine stopAt (c := r9_13) ?_)|refine zz ?_|(refine zw ?_;refine And.intro ?_ ?_<;>intro hc)|(refine zv ?_;intro cv hv)|(refine za ?_;intro _)|refine zc ?_|(refine zd ?_;refine And.intro ?_ ?_<;>(intro e;(try simp only [Bool.not_eq_true',Bool.not_eq_false'] at e);subst e;try contradiction)))
        rename_i b13
        refine ⟨?_⟩
        refine Cd.seq (Cd.weak (l2 := [(1, lv), (7, hP b), (9, rP r), (12, .int .i64 (.ofNat i)), (13, .ptr b13 0 0 9)]) ⟨rfl, rfl, rfl, rfl, rfl, trivial⟩ (Cd.framed (.cons (.here) (.nil)) (m13 (by omega) hA2 hA3 hA4) ?_))
        rintro _ l _ ⟨rfl, hs, rfl⟩
        show Cd _ _ _ _ _ _
        refine Cd.weak hs ?_
        repeat' (first|(refine stopAt (c := r9_14) ?_)|refine zz ?_|(refine zw ?_;refine And.intro ?_ ?_<;>intro hc)|(refine zv ?_;intro cv hv)|(refine za ?_;intro _)|refine zc ?_|(refine zd ?_;refine And.intro ?_ ?_<;>(intro e;(try simp only [Bool.not_eq_true',Bool.not_eq_false'] at e);subst e;try contradiction)))
        refine ⟨?_⟩
        refine Cd.weak (l2 := [(1, lv), (7, hP b), (9, rP r), (12, .int .i64 (.ofNat i)), (13, .ptr b13 0 0 9)]) ⟨rfl, rfl, rfl, rfl, rfl, trivial⟩ (m14 c1 c2 ?_)
        intro b14 b15 l hs
        refine Cd.weak hs (Cd.seq (Cd.mono (m18 hX hY hJ.wok.ok fun hb => hk.sc hb) ?_))
        rintro _ l _ ⟨rfl, hs, c', d', R, hX', hY', hsel⟩
        show Cd _ _ _ _ _ _
        refine Cd.weak hs (Cd.drop hsel ?_)
        repeat' (first|refine zz ?_|(refine zw ?_;refine And.intro ?_ ?_<;>intro hc)|(refine zv ?_;intro cv hv)|(refine za ?_;intro _)|refine zc ?_|(refine zd ?_;refine And.intro ?_ ?_<;>(intro e;(try simp only [Bool.not_eq_true',Bool.not_eq_false'] at e);subst e;try contradiction)))
        exact Lp.weak (by exact ⟨rfl, rfl, rfl, rfl, trivial⟩) (ih (i + 1) c' d' _ (by omega) hi2 hX' hY' hJ')
    · have hJ' : Jv 60 H := ⟨hJ.wok, hJ.room, hJ.tl, by have := hJ.used; omega, hJ.fns⟩
      repeat' (first|refine zz ?_|(refine zw ?_;refine And.intro ?_ ?_<;>intro hc)|(refine zv ?_;intro cv hv)|(refine za ?_;intro _)|refine zc ?_|(refine zd ?_;refine And.intro ?_ ?_<;>(intro e;(try simp only [Bool.not_eq_true',Bool.not_eq_false'] at e);subst e;try contradiction)))
      all_goals first | exact hend _ _ _ _ ⟨rfl, rfl, trivial⟩ hX hY hJ' | (exfalso; omega)
theorem new19 {room : Nat} (h : room ≤ 1000000) : CT Try.prog false 19 [.int .i64 (.ofNat room)] [] fun v K' => ∃ b c, v = .tup [hP b, .int .i64 (.ofNat 0)] ∧ HC b (mNew room) [] c ∧ K' = [c] := by
  refine CT.mono newH ?_
  rintro v K' (⟨h1, _⟩ | ⟨room2, b, c, hr, _, rfl, hX, rfl⟩)
  · exfalso; simp at h1; omega
  · have : room = room2 := by rw [Int.ofNat_eq_natCast, Int.ofNat_eq_natCast] at hr; omega
    subst this
    exact ⟨b, c, rfl, hX, rfl⟩
theorem new20 {room : Nat} (h : room ≤ 1000000) : CT Try.prog false 20 [.int .i64 (.ofNat room)] [] fun v K' => ∃ b c, v = .tup [rP b, .int .i64 (.ofNat 0)] ∧ RC b (mNew room) [] c ∧ K' = [c] := by
  refine CT.mono newR ?_
  rintro v K' (⟨h1, _⟩ | ⟨room2, b, c, hr, _, rfl, hX, rfl⟩)
  · exfalso; simp at h1; omega
  · have : room = room2 := by rw [Int.ofNat_eq_natCast, Int.ofNat_eq_natCast] at hr; omega
    subst this
    exact ⟨b, c, rfl, hX, rfl⟩
theorem laid9 {lv : AV} {ls : List PO} (hL : ASl 9 lv (ls.map poR)) (hO : ∀ o, o ∈ ls → o.ok) (hll : ls.length ≤ 9223372036854775807) (hv1 : OneC lv) : CT Try.prog false 9 [.int .i64 (.ofNat 1000), lv] [] fun w K' => ∃ b r H c d, w = .tup [hP b, rP r, .bool true] ∧ HC b H [] c ∧ RC r H [] d ∧ Jv 60 H ∧ K' = [c, d] := by
  have n1 := new19 (room := 1000) (by decide)
  have n2 := new20 (room := 1000) (by decide)
  refine CT.enterS mixed comp9 (Nat.le_of_ble_eq_true rfl) ?_
  repeat' (first|refine zz ?_|(refine zw ?_;refine And.intro ?_ ?_<;>intro hc)|(refine zv ?_;intro cv hv)|(refine za ?_;intro _)|refine zc ?_|(refine zd ?_;refine And.intro ?_ ?_<;>(intro e;(try simp only [Bool.not_eq_true',Bool.not_eq_false'] at e);subst e;try contradiction)))
  refine Rg.callM (m := []) rfl n1 .nil ?_
  rintro _ _ ⟨b, c, rfl, hX, rfl⟩
  repeat' (first|refine zz ?_|(refine zw ?_;refine And.intro ?_ ?_<;>intro hc)|(refine zv ?_;intro cv hv)|(refine za ?_;intro _)|refine zc ?_|(refine zd ?_;refine And.intro ?_ ?_<;>(intro e;(try simp only [Bool.not_eq_true',Bool.not_eq_false'] at e);subst e;try contradiction)))
  refine Rg.callM (m := []) rfl n2 .nil ?_
  rintro _ _ ⟨r, d, rfl, hY, rfl⟩
  repeat' (first|refine zz ?_|(refine zw ?_;refine And.intro ?_ ?_<;>intro hc)|(refine zv ?_;intro cv hv)|(refine za ?_;intro _)|refine zc ?_|(refine zd ?_;refine And.intro ?_ ?_<;>(intro e;(try simp only [Bool.not_eq_true',Bool.not_eq_false'] at e);subst e;try contradiction)))
  refine Cd.loop (k := 5) (Lp.drop (.cons (.there (.here)) (.cons (.here) (.nil))) (Lp.weak (l2 := [(1, lv), (7, hP b), (9, rP r), (11, .int .i64 (.ofNat 0))]) ⟨rfl, rfl, rfl, rfl, trivial⟩ (laid9_tabs ?_ 5 0 c d (by omega) (by omega) hX hY)))
  intro l c d hs hX hY
  show Cd _ _ _ _ _ _
  refine Cd.weak hs ?_
  repeat' (first|refine zz ?_|(refine zw ?_;refine And.intro ?_ ?_<;>intro hc)|(refine zv ?_;intro cv hv)|(refine za ?_;intro _)|refine zc ?_|(refine zd ?_;refine And.intro ?_ ?_<;>(intro e;(try simp only [Bool.not_eq_true',Bool.not_eq_false'] at e);subst e;try contradiction)))
  obtain ⟨w1, w2, w3, w4, w5⟩ := tabsM_ok (n := 4) (by omega)
  refine Cd.loop (k := 61) (Lp.weak (l2 := [(1, lv), (7, hP b), (9, rP r), (12, .int .i64 (.ofNat 0))]) ⟨rfl, rfl, rfl, rfl, trivial⟩ (laid9_puts hL hO hll ?_ 61 0 c d _ (by omega) (by omega) hX hY ⟨w1, w2, w3, by omega, w5⟩))
  intro l c d H hs hX hY hJ
  show Cd _ _ _ _ _ _
  refine Cd.weak hs ?_
  repeat' (first|refine zz ?_|(refine zw ?_;refine And.intro ?_ ?_<;>intro hc)|(refine zv ?_;intro cv hv)|(refine za ?_;intro _)|refine zc ?_|(refine zd ?_;refine And.intro ?_ ?_<;>(intro e;(try simp only [Bool.not_eq_true',Bool.not_eq_false'] at e);subst e;try contradiction)))
  (first|refine ⟨.inr rfl,_,.t rfl .nil,?_⟩|refine ⟨.inr rfl,_,.t rfl (.t rfl .nil),?_⟩|refine ⟨.inr rfl,_,.t rfl (.t rfl (.t rfl .nil)),?_⟩|refine ⟨.inr rfl,_,.nil,?_⟩|refine ⟨.inl rfl,_,.t rfl .nil,?_⟩|refine ⟨.inl rfl,_,.nil,?_⟩|refine ⟨.inr rfl,_,.cn rfl (by exact zN) .nil,?_⟩|refine ⟨.inr rfl,_,.cn rfl (by exact zN) (.t rfl .nil),?_⟩)
  exact ⟨_, _, (.cons (.here) (.cons (.here) (.nil))), b, r, H, c, d, rfl, hX, hY, hJ, rfl⟩
end
end Go.Proofs.Ytlflpjjmkigepaa

namespace Go.Proofs.Ytlflpjjmkigepaa
open Go Go.Abs
attribute [local irreducible] Cmp Rg Dw Cd Lp Ev Rdk CT Upd InK
theorem wide68a : PT Try.prog false 68 [.int .i64 (.ofNat 1)] (.bool true) := PT.run plain0 (by kernel_rfl) rfl rfl
theorem deB_snoc : ∀ {l : List Nat} {x : Nat}, deB (l ++ [x]) = deB l + 256 ^ l.length * x
  | [], x => by simp [deB]
  | a :: r, x => by
    simp only [List.cons_append, deB, deB_snoc (l := r), List.length_cons, Nat.pow_succ, Nat.mul_add]
    rw [Nat.mul_comm (256 ^ r.length) 256, Nat.mul_assoc]
    omega
theorem seg_snoc {s : List Nat} {a i x : Nat} (h : s[a + i]? = some x) : sgm s a (a + (i + 1)) = sgm s a (a + i) ++ [x] := by
  rw [← seg_one h, seg_app (by omega) (by omega)]
  rfl
theorem pow8 {i : Nat} (hi : i < 8) : 2 ^ (8 * i) ≤ 72057594037927936 := by
  have := Nat.pow_le_pow_right (n := 2) (by omega) (show 8 * i ≤ 56 by omega)
  simpa using this
theorem or_u {a x i : Nat} (ha : a < 2 ^ (8 * i)) (hx : x < 256) (hi : i < 8) : abin .or (.int .u64 (.ofNat a)) (.int .u64 (.ofNat (x * 2 ^ (8 * i)))) = some (.int .u64 (.ofNat (a + 2 ^ (8 * i) * x))) := by
  have e : abin .or (.int .u64 (.ofNat a)) (.int .u64 (.ofNat (x * 2 ^ (8 * i)))) = abitw .or .u64 Nat.lor (.ofNat a) (.ofNat (x * 2 ^ (8 * i))) := rfl
  rw [e]
  simp only [abitw]
  have e2 : Nat.lor a (x * 2 ^ (8 * i)) = a + 2 ^ (8 * i) * x := by
    have := Nat.shiftLeft_add_eq_or_of_lt ha x
    rw [Nat.shiftLeft_eq] at this
    show a ||| x * 2 ^ (8 * i) = _
    rw [Nat.or_comm, ← this, Nat.mul_comm x]
    omega
  rw [e2]
  have hp := pow8 hi
  have hm := Nat.mul_le_mul_right (2 ^ (8 * i)) (show x ≤ 255 by omega)
  generalize x * 2 ^ (8 * i) = y at hm
  have et : top .u64 = 18446744073709551615 := by decide
  rw [et, Nat.ble_eq_true_of_le (by omega), Nat.ble_eq_true_of_le (by omega)]
  rfl
theorem shl_u {x i : Nat} (hx : x < 256) (hi : i < 8) : abin .shl (.int .u64 (.ofNat x)) (.int .u64 (.ofNat (8 * i))) = some (.int .u64 (.ofNat (x * 2 ^ (8 * i)))) := by
  have e : abin .shl (.int .u64 (.ofNat x)) (.int .u64 (.ofNat (8 * i))) = ashift true .u64 (.ofNat x) (.ofNat (8 * i)) := rfl
  rw [e]
  have hb : Nat.ble (8 * i) (nbits .u64) = true := Nat.ble_eq_true_of_le (by show 8 * i ≤ 64; omega)
  simp only [ashift, hb, cond_true]
  have hp := pow8 hi
  have hm := Nat.mul_le_mul_right (2 ^ (8 * i)) (show x ≤ 255 by omega)
  generalize x * 2 ^ (8 * i) = y at hm
  rw [awrap_eq]
  congr 2
  simp only [IntKind.wrap, IntKind.bits, IntKind.signed]
  simp
  omega
theorem u8_u64 {x : Nat} (hx : x < 256) : apure .e (.toInt .u64 (.c (.int .u8 (.ofNat x)))) = some (.int .u64 (.ofNat x)) := by
  have e : apure .e (.toInt .u64 (.c (.int .u8 (.ofNat x)))) = some (.int .u64 (awrap .u64 (.ofNat x))) := rfl
  rw [e, awrap_eq]
  congr 2
  simp only [IntKind.wrap, IntKind.bits, IntKind.signed]
  simp
  omega
theorem u64_i64 {u : Nat} (hu : u < 18446744073709551616) : apure .e (.toInt .i64 (.c (.int .u64 (.ofNat u)))) = some (.int .i64 (i64 u)) := by
  have e : apure .e (.toInt .i64 (.c (.int .u64 (.ofNat u)))) = some (.int .i64 (awrap .i64 (.ofNat u))) := rfl
  rw [e, awrap_eq]
  congr 2
  simp only [IntKind.wrap, IntKind.bits, IntKind.signed, i64]
  simp
  split <;> omega
theorem mul8 {i : Nat} (hi : i < 8) : abin .mul (.int .i64 (.ofNat 8)) (.int .i64 (.ofNat i)) = some (.int .i64 (.ofNat (8 * i))) := by
  have e : abin .mul (.int .i64 (.ofNat 8)) (.int .i64 (.ofNat i)) = some (.int .i64 (awrap .i64 (.ofNat (8 * i)))) := rfl
  rw [e, awrap_eq]
  congr 2
  simp only [IntKind.wrap, IntKind.bits, IntKind.signed]
  simp
  omega
theorem segd_lt {s : List Nat} {a b w : Nat} (hs : ∀ x, x ∈ s → x < 256) (hb : b ≤ s.length) (hw : b - a ≤ w) (h8 : w ≤ 8) : deB (sgm s a b) < 256 ^ w := by
  have h := deB_lt (seg_lt (a := a) (b := b) hs)
  rw [seg_len hb] at h
  exact Nat.lt_of_lt_of_le h (Nat.pow_le_pow_right (by omega) hw)
theorem lt8 {n w : Nat} (h : n < 256 ^ w) (h8 : w ≤ 8) : n < 18446744073709551616 := by
  have := Nat.pow_le_pow_right (n := 256) (by omega) h8
  have e : 256 ^ 8 = 18446744073709551616 := by decide
  omega
theorem get81_loop {s : List Nat} {a w : Nat} {Q : AX → SL → Mem → Prop} (hs : ∀ x, x ∈ s → x < 256) (hw : w ≤ 8) (haw : a + w ≤ s.length) (hl : s.length ≤ 1000000)
    (hend : ∀ l', lkS l' 8 = some (.int .u64 (.ofNat (deB (sgm s a (a + w))))) → Q (.ext 1) l' []) :
    ∀ (f i : Nat), w < i + f → i ≤ w → Lp Try.prog false b81_0 f [(0, .str s), (1, .int .i64 (.ofNat a)), (8, .int .u64 (.ofNat (deB (sgm s a (a + i))))), (31, .int .i64 (.ofNat w)), (32, .int .i64 (.ofNat i))] [] Q := by
  intro f
  induction f with
  | zero => intro i h1; omega
  | succ f ih =>
    intro i h1 h2
    refine Lp.round ?_
    by_cases hi : i < w
    · have hx : s[a + i]? = some s[a + i] := List.getElem?_eq_getElem (by omega)
      have hxl := hs _ (List.mem_of_getElem? hx)
      generalize s[a + i] = x at hx hxl
      have hlt := segd_lt (w := i) (a := a) (b := a + i) hs (by omega) (by omega) (by omega)
      have q1 := idxs_at (k := .i64) hx
      have q2 := u8_u64 hxl
      have q3 := mul8 (i := i) (by omega)
      have q4 := to_u64 (n := 8 * i) (by omega)
      have q5 := shl_u (x := x) (i := i) hxl (by omega)
      have q6 := or_u (a := deB (sgm s a (a + i))) (x := x) (i := i) (by rw [Nat.pow_mul]; exact hlt) hxl (by omega)
      have e : deB (sgm s a (a + i)) + 2 ^ (8 * i) * x = deB (sgm s a (a + (i + 1))) := by
        rw [seg_snoc hx, deB_snoc, seg_len (by omega), Nat.pow_mul, show a + i - a = i by omega]
      rw [e] at q6
      repeat' (first|refine zz ?_|(refine zw ?_;refine And.intro ?_ ?_<;>intro hc)|(refine zv ?_;intro cv hv)|(refine za ?_;intro _)|refine zc ?_|(refine zd ?_;refine And.intro ?_ ?_<;>(intro e;(try simp only [Bool.not_eq_true',Bool.not_eq_false'] at e);subst e;try contradiction)))
      exact Lp.weak (by exact ⟨rfl, rfl, rfl, rfl, rfl, trivial⟩) (ih (i + 1) (by omega) hi)
    · obtain rfl : i = w := by omega
      repeat' (first|refine zz ?_|(refine zw ?_;refine And.intro ?_ ?_<;>intro hc)|(refine zv ?_;intro cv hv)|(refine za ?_;intro _)|refine zc ?_|(refine zd ?_;refine And.intro ?_ ?_<;>(intro e;(try simp only [Bool.not_eq_true',Bool.not_eq_false'] at e);subst e;try contradiction)))
      exact hend _ rfl
theorem get81 {s : List Nat} {a w : Nat} (hs : ∀ x, x ∈ s → x < 256) (hl : s.length ≤ 1000000) (ha : a ≤ 1000000) (hw : w = 1 ∨ w = 2 ∨ w = 4 ∨ w = 8) : PT Try.prog false 81 [.str s, .int .i64 (.ofNat a), .int .i64 (.ofNat w)]
    (if a + w ≤ s.length then .tup [.int .i64 (i64 (deB (sgm s a (a + w)))), .int .i64 (.ofNat 0)] else .tup [.int .i64 (.ofNat 0), .int .i64 (.ofNat 2)]) := by
  have k68 : PT Try.prog false 68 [.int .i64 (.ofNat w)] (.bool true) := by
    rcases hw with rfl | rfl | rfl | rfl
    · exact wide68a
    · exact wide68b
    · exact wide68d
    · exact wide68
  have h8 : w ≤ 8 := by omega
  refine PT.of (CT.enter mixed comp81 (Nat.le_of_ble_eq_true rfl) ?_)
  by_cases h : a + w ≤ s.length
  · rw [if_pos h]
    clear hw
    have q1 := u64_i64 (lt8 (segd_lt (w := w) (a := a) (b := a + w) hs h (by omega) h8) h8)
    have key : ∀ l', lkS l' 8 = some (.int .u64 (.ofNat (deB (sgm s a (a + w))))) → Cd Try.prog false (.seq (.reg r81_11) .ret) l' [] (DoneK fn81.results fun v _ => v = .tup [.int .i64 (i64 (deB (sgm s a (a + w)))), .int .i64 (.ofNat 0)]) := by
      intro l' h8
      refine Cd.weak (l2 := [(8, _)]) (And.intro h8 trivial) ?_
      repeat' (first|refine zz ?_|(refine zw ?_;refine And.intro ?_ ?_<;>intro hc)|(refine zv ?_;intro cv hv)|(refine za ?_;intro _)|refine zc ?_|(refine zd ?_;refine And.intro ?_ ?_<;>(intro e;(try simp only [Bool.not_eq_true',Bool.not_eq_false'] at e);subst e;try contradiction)))
      (first|refine ⟨.inr rfl,_,.t rfl .nil,?_⟩|refine ⟨.inr rfl,_,.t rfl (.t rfl .nil),?_⟩|refine ⟨.inr rfl,_,.t rfl (.t rfl (.t rfl .nil)),?_⟩|refine ⟨.inr rfl,_,.nil,?_⟩|refine ⟨.inl rfl,_,.t rfl .nil,?_⟩|refine ⟨.inl rfl,_,.nil,?_⟩|refine ⟨.inr rfl,_,.cn rfl (by exact zN) .nil,?_⟩|refine ⟨.inr rfl,_,.cn rfl (by exact zN) (.t rfl .nil),?_⟩)
      rfl
    repeat' (first|refine zz ?_|(refine zw ?_;refine And.intro ?_ ?_<;>intro hc)|(refine zv ?_;intro cv hv)|(refine za ?_;intro _)|refine zc ?_|(refine zd ?_;refine And.intro ?_ ?_<;>(intro e;(try simp only [Bool.not_eq_true',Bool.not_eq_false'] at e);subst e;try contradiction)))
    refine Cd.loop (k := w + 1) (Lp.weak (l2 := [(0, .str s), (1, .int .i64 (.ofNat a)), (8, .int .u64 (.ofNat (deB (sgm s a (a + 0))))), (31, .int .i64 (.ofNat w)), (32, .int .i64 (.ofNat 0))]) ?_ (get81_loop hs h8 h hl key (w + 1) 0 (by omega) (by omega)))
    refine ⟨rfl, rfl, ?_, rfl, rfl, trivial⟩
    rw [show sgm s a (a + 0) = [] by simp [sgm]]
    rfl
  · rw [if_neg h]
    clear hw
    repeat' (first|refine zz ?_|(refine zw ?_;refine And.intro ?_ ?_<;>intro hc)|(refine zv ?_;intro cv hv)|(refine za ?_;intro _)|refine zc ?_|(refine zd ?_;refine And.intro ?_ ?_<;>(intro e;(try simp only [Bool.not_eq_true',Bool.not_eq_false'] at e);subst e;try contradiction)))
    all_goals (first|refine ⟨.inr rfl,_,.t rfl .nil,?_⟩|refine ⟨.inr rfl,_,.t rfl (.t rfl .nil),?_⟩|refine ⟨.inr rfl,_,.t rfl (.t rfl (.t rfl .nil)),?_⟩|refine ⟨.inr rfl,_,.nil,?_⟩|refine ⟨.inl rfl,_,.t rfl .nil,?_⟩|refine ⟨.inl rfl,_,.nil,?_⟩|refine ⟨.inr rfl,_,.cn rfl (by exact zN) .nil,?_⟩|refine ⟨.inr rfl,_,.cn rfl (by exact zN) (.t rfl .nil),?_⟩)
    all_goals rfl
def nextA (s : List Nat) (a : Nat) : AV := if a + 4 ≤ s.length ∧ a + 4 + deB (sgm s a (a + 4)) ≤ s.length then .tup [.str (sgm s (a + 4) (a + 4 + deB (sgm s a (a + 4)))), .int .i64 (.ofNat (a + 4 + deB (sgm s a (a + 4)))), .int .i64 (.ofNat 0)] else .tup [.str [], .int .i64 (.ofNat 0), .int .i64 (.ofNat 2)]
theorem i64_lo {u : Nat} (h : u < 4294967296) : i64 u = .ofNat u := by unfold i64; rw [if_pos (by omega)]; rfl
theorem next82 {s : List Nat} {a : Nat} (hs : ∀ x, x ∈ s → x < 256) (hl : s.length ≤ 1000000) (ha : a ≤ 1000000) : PT Try.prog false 82 [.str s, .int .i64 (.ofNat a)] (nextA s a) := by
  have k := get81 (a := a) (w := 4) hs hl ha (by omega)
  unfold nextA
  by_cases h : a + 4 ≤ s.length
  · have hlt := segd_lt (w := 4) (a := a) (b := a + 4) hs h (by omega) (by omega)
    have e4 : 256 ^ 4 = 4294967296 := by decide
    rw [e4] at hlt
    rw [if_pos h, i64_lo hlt] at k
    generalize deB (sgm s a (a + 4)) = n at k hlt
    have q1 := sstr_from (s := s) (k := .i64) (m := a + 4) h
    have q2 : (s.drop (a + 4)).length = s.length - (a + 4) := List.length_drop
    refine PT.of (CT.enter mixed comp82 (Nat.le_of_ble_eq_true rfl) ?_)
    by_cases h2 : a + 4 + n ≤ s.length
    · rw [if_pos ⟨h, h2⟩]
      have q3 := sstr_to (s := s.drop (a + 4)) (k := .i64) (n := n) (by omega)
      rw [show (s.drop (a + 4)).take n = sgm s (a + 4) (a + 4 + n) by unfold sgm; congr 1; omega] at q3
      repeat' (first|refine zz ?_|(refine zw ?_;refine And.intro ?_ ?_<;>intro hc)|(refine zv ?_;intro cv hv)|(refine za ?_;intro _)|refine zc ?_|(refine zd ?_;refine And.intro ?_ ?_<;>(intro e;(try simp only [Bool.not_eq_true',Bool.not_eq_false'] at e);subst e;try contradiction)))
      all_goals (first|refine ⟨.inr rfl,_,.t rfl .nil,?_⟩|refine ⟨.inr rfl,_,.t rfl (.t rfl .nil),?_⟩|refine ⟨.inr rfl,_,.t rfl (.t rfl (.t rfl .nil)),?_⟩|refine ⟨.inr rfl,_,.nil,?_⟩|refine ⟨.inl rfl,_,.t rfl .nil,?_⟩|refine ⟨.inl rfl,_,.nil,?_⟩|refine ⟨.inr rfl,_,.cn rfl (by exact zN) .nil,?_⟩|refine ⟨.inr rfl,_,.cn rfl (by exact zN) (.t rfl .nil),?_⟩)
      all_goals rfl
    · rw [if_neg (by omega)]
      repeat' (first|refine zz ?_|(refine zw ?_;refine And.intro ?_ ?_<;>intro hc)|(refine zv ?_;intro cv hv)|(refine za ?_;intro _)|refine zc ?_|(refine zd ?_;refine And.intro ?_ ?_<;>(intro e;(try simp only [Bool.not_eq_true',Bool.not_eq_false'] at e);subst e;try contradiction)))
      all_goals (first|refine ⟨.inr rfl,_,.t rfl .nil,?_⟩|refine ⟨.inr rfl,_,.t rfl (.t rfl .nil),?_⟩|refine ⟨.inr rfl,_,.t rfl (.t rfl (.t rfl .nil)),?_⟩|refine ⟨.inr rfl,_,.nil,?_⟩|refine ⟨.inl rfl,_,.t rfl .nil,?_⟩|refine ⟨.inl rfl,_,.nil,?_⟩|refine ⟨.inr rfl,_,.cn rfl (by exact zN) .nil,?_⟩|refine ⟨.inr rfl,_,.cn rfl (by exact zN) (.t rfl .nil),?_⟩)
      all_goals rfl
  · rw [if_neg h] at k
    rw [if_neg (by omega)]
    refine PT.of (CT.enter mixed comp82 (Nat.le_of_ble_eq_true rfl) ?_)
    repeat' (first|refine zz ?_|(refine zw ?_;refine And.intro ?_ ?_<;>intro hc)|(refine zv ?_;intro cv hv)|(refine za ?_;intro _)|refine zc ?_|(refine zd ?_;refine And.intro ?_ ?_<;>(intro e;(try simp only [Bool.not_eq_true',Bool.not_eq_false'] at e);subst e;try contradiction)))
    (first|refine ⟨.inr rfl,_,.t rfl .nil,?_⟩|refine ⟨.inr rfl,_,.t rfl (.t rfl .nil),?_⟩|refine ⟨.inr rfl,_,.t rfl (.t rfl (.t rfl .nil)),?_⟩|refine ⟨.inr rfl,_,.nil,?_⟩|refine ⟨.inl rfl,_,.t rfl .nil,?_⟩|refine ⟨.inl rfl,_,.nil,?_⟩|refine ⟨.inr rfl,_,.cn rfl (by exact zN) .nil,?_⟩|refine ⟨.inr rfl,_,.cn rfl (by exact zN) (.t rfl .nil),?_⟩)
    rfl
end Go.Proofs.Ytlflpjjmkigepaa
