/- The program's Save. -/
import Derived.Test.YtlflpjjmkigepaaPlnD
set_option autoImplicit false
set_option maxRecDepth 100000
set_option maxHeartbeats 4000000
set_option linter.unusedVariables false
set_option linter.unusedSimpArgs false
namespace Go.Proofs.Ytlflpjjmkigepaa
open Go Go.Abs
attribute [local irreducible] Cmp Rg Dw Cd Lp Ev Rdk CT Upd InK
theorem Rw.str {K : Mem} {s : List Nat} : Rw K 1 (.str s) (byR s).flatten s.length := by
  rw [byR_flat]
  intro st _
  refine ⟨rfl, ?_⟩
  simp only [St.row]
  rw [show (Nat.beq 1 1 && Nat.ble s.length s.length) = true by simp, cond_true, List.take_length]
  rfl
theorem _root_.Go.Abs.Sel.app_right {K m r m2 : Mem} (h : Sel K m r) : Sel (K ++ m2) m (r ++ m2) := by
  induction h with
  | nil => exact .nil
  | cons h _ ih => exact .cons h.app ih
abbrev bx (i : Nat) (v : AV) : Chk := [(i, .cells [v] 0 0 false)]
abbrev pt (i : Nat) : AV := .ptr i 0 0 1
abbrev fn36v (i1 i2 i3 i4 : Nat) : AV := .fn 36 [] [pt i1, pt i2, pt i3, pt i4]
abbrev K36 (i1 i2 i3 i4 b left : Nat) (B : OS) (c : Chk) : Mem := [bx i1 (.int .i64 (.ofNat left)), bx i2 (B.v 1), B.c, bx i3 (hP b), c, bx i4 (fn36v i1 i2 i3 i4)]
section
variable {i1 i2 i3 i4 b : Nat} {c : Chk}
theorem lay36_sc {v : Val} {left : Nat} {B : OS} {bs : List Nat} (hv : ScOk v) (hl : left < 1000) (hB : B.ok 1) (hr : B.rows = byR bs) (hbs : bs.length ≤ 1000000) :
    CT Try.prog false 36 [valA v, pt i1, pt i2, pt i3, pt i4] (K36 i1 i2 i3 i4 b (left + 1) B c) fun w K' => w = .bool true ∧ ∃ B' : OS, B'.ok 1 ∧ B'.rows = byR (bs ++ sc v) ∧ K' = K36 i1 i2 i3 i4 b left B' c := by
  have hBl : B.rows.length = bs.length := by rw [hr]; simp [byR]
  have hvl := hv.len
  have k37 := num37 (n := v.n) (w := 8) (.inl rfl)
  have k38 := text38 (s := v.s) (by omega)
  have e0 := sub_one (n := left) (by omega)
  refine CT.enterS mixed comp36 (Nat.le_of_ble_eq_true rfl) ?_
  by_cases h0 : v.k = 0
  · repeat' (first|(refine Rg.e (Ef.appO (rs := byR [0]) (n := 1) rfl rfl hB byR_one (.there (.there (.there (.there (.here))))) rfl (by decide) (Rw.slc (InK.there InK.here) (Nat.le_refl _) (Nat.le_refl _) rfl) (by simp only [lim]; omega)) ?_; rintro _ _ ⟨B', hB', hr', rfl, rfl⟩)|refine zz ?_|(refine zw ?_;refine And.intro ?_ ?_<;>intro hc)|(refine zv ?_;intro cv hv)|(refine za ?_;intro _)|refine zc ?_|(refine zd ?_;refine And.intro ?_ ?_<;>(intro e;(try simp only [Bool.not_eq_true',Bool.not_eq_false'] at e);subst e;try contradiction)))
    refine Rg.e (Ef.store1 rfl rfl (B'.one 1) (.there (.there (.there (.there (Upd.here))))) (Nat.le_of_ble_eq_true rfl)) ?_
    rintro _ _ ⟨rfl, rfl⟩
    repeat' (first|refine zz ?_|(refine zw ?_;refine And.intro ?_ ?_<;>intro hc)|(refine zv ?_;intro cv hv)|(refine za ?_;intro _)|refine zc ?_|(refine zd ?_;refine And.intro ?_ ?_<;>(intro e;(try simp only [Bool.not_eq_true',Bool.not_eq_false'] at e);subst e;try contradiction)))
    (first|refine ⟨.inr rfl,_,.t rfl .nil,?_⟩|refine ⟨.inr rfl,_,.t rfl (.t rfl .nil),?_⟩|refine ⟨.inr rfl,_,.t rfl (.t rfl (.t rfl .nil)),?_⟩|refine ⟨.inr rfl,_,.nil,?_⟩|refine ⟨.inl rfl,_,.t rfl .nil,?_⟩|refine ⟨.inl rfl,_,.nil,?_⟩|refine ⟨.inr rfl,_,.cn rfl (by exact zN) .nil,?_⟩|refine ⟨.inr rfl,_,.cn rfl (by exact zN) (.t rfl .nil),?_⟩)
    refine ⟨_, _, (.cons (.there (.there (.there (.here)))) (.cons (.there (.there (.there (.here)))) (.cons (.here) (.cons (.there (.there (.here))) (.cons (.there (.there (.here))) (.cons (.there (.there (.here))) (.nil))))))), rfl, B', hB', ?_, rfl⟩
    rw [hr', hr, ← byR_add]
    simp [sc, h0]
  · by_cases h1 : v.k = 1
    · repeat' (first|refine zz ?_|(refine zw ?_;refine And.intro ?_ ?_<;>intro hc)|(refine zv ?_;intro cv hv)|(refine za ?_;intro _)|refine zc ?_|(refine zd ?_;refine And.intro ?_ ?_<;>(intro e;(try simp only [Bool.not_eq_true',Bool.not_eq_false'] at e);subst e;try contradiction)))
      refine Dw.e (Ef.appO (rs := byR [1]) (n := 1) rfl rfl hB byR_one (.there (.there (.there (.there (.here))))) rfl (by decide) (Rw.slc (InK.there InK.here) (Nat.le_refl _) (Nat.le_refl _) rfl) (by simp only [lim]; omega)) ?_
      rintro _ _ ⟨B1, hB1, hr1, rfl, rfl⟩
      refine ⟨by repeat (first | exact trivial | refine rdsB rfl ?_ | (refine rdsR ?_ ?_; (focus (first | assumption | (refine Rdk.b1 (cs := ?_) ?_ ?_; rotate_left; (repeat (first | exact InK.here | refine InK.there ?_)); exact rfl) | (refine Rdk.bw ?_ ?_; (repeat (first | exact InK.here | refine InK.there ?_)); first | assumption | exact rfl) | (refine Rdk.bn ?_ ?_; (repeat (first | exact InK.here | refine InK.there ?_)); exact rfl) | (refine Rdk.in ?_; first | assumption | exact rfl) | exact Rdk.i1)))), ?_⟩
      repeat' (first|refine zz ?_|(refine zw ?_;refine And.intro ?_ ?_<;>intro hc)|(refine zv ?_;intro cv hv)|(refine za ?_;intro _)|refine zc ?_|(refine zd ?_;refine And.intro ?_ ?_<;>(intro e;(try simp only [Bool.not_eq_true',Bool.not_eq_false'] at e);subst e;try contradiction)))
      refine Dw.e (Ef.appO (rs := byR (leB v.n 8)) (n := (leB v.n 8).length) rfl rfl hB1 byR_one (.here) (by simp [byR]) (by simp [leB_len]) Rw.str (by rw [hr1]; simp only [lim, List.length_append, leB_len]; simp [byR]; omega)) ?_
      rintro _ _ ⟨B2, hB2, hr2, rfl, rfl⟩
      refine ⟨by repeat (first | exact trivial | refine rdsB rfl ?_ | (refine rdsR ?_ ?_; (focus (first | assumption | (refine Rdk.b1 (cs := ?_) ?_ ?_; rotate_left; (repeat (first | exact InK.here | refine InK.there ?_)); exact rfl) | (refine Rdk.bw ?_ ?_; (repeat (first | exact InK.here | refine InK.there ?_)); first | assumption | exact rfl) | (refine Rdk.bn ?_ ?_; (repeat (first | exact InK.here | refine InK.there ?_)); exact rfl) | (refine Rdk.in ?_; first | assumption | exact rfl) | exact Rdk.i1)))), ?_⟩
      refine Dw.e (Ef.store1 rfl rfl (B2.one 1) (.there (.there (.there (.there (Upd.here))))) (Nat.le_of_ble_eq_true rfl)) ?_
      rintro _ _ ⟨rfl, rfl⟩
      refine ⟨by repeat (first | exact trivial | refine rdsB rfl ?_ | (refine rdsR ?_ ?_; (focus (first | assumption | (refine Rdk.b1 (cs := ?_) ?_ ?_; rotate_left; (repeat (first | exact InK.here | refine InK.there ?_)); exact rfl) | (refine Rdk.bw ?_ ?_; (repeat (first | exact InK.here | refine InK.there ?_)); first | assumption | exact rfl) | (refine Rdk.bn ?_ ?_; (repeat (first | exact InK.here | refine InK.there ?_)); exact rfl) | (refine Rdk.in ?_; first | assumption | exact rfl) | exact Rdk.i1)))), ?_⟩
      repeat' (first|refine zz ?_|(refine zw ?_;refine And.intro ?_ ?_<;>intro hc)|(refine zv ?_;intro cv hv)|(refine za ?_;intro _)|refine zc ?_|(refine zd ?_;refine And.intro ?_ ?_<;>(intro e;(try simp only [Bool.not_eq_true',Bool.not_eq_false'] at e);subst e;try contradiction)))
      (first|refine ⟨.inr rfl,_,.t rfl .nil,?_⟩|refine ⟨.inr rfl,_,.t rfl (.t rfl .nil),?_⟩|refine ⟨.inr rfl,_,.t rfl (.t rfl (.t rfl .nil)),?_⟩|refine ⟨.inr rfl,_,.nil,?_⟩|refine ⟨.inl rfl,_,.t rfl .nil,?_⟩|refine ⟨.inl rfl,_,.nil,?_⟩|refine ⟨.inr rfl,_,.cn rfl (by exact zN) .nil,?_⟩|refine ⟨.inr rfl,_,.cn rfl (by exact zN) (.t rfl .nil),?_⟩)
      refine ⟨_, _, (.cons (.there (.there (.there (.here)))) (.cons (.there (.there (.there (.here)))) (.cons (.here) (.cons (.there (.there (.here))) (.cons (.there (.there (.here))) (.cons (.there (.there (.here))) (.nil))))))), rfl, B2, hB2, ?_, rfl⟩
      rw [hr2, hr1, hr, ← byR_add, ← byR_add]
      simp [sc, h1]
    · have h2 : v.k = 2 := by have := hv.kind; omega
      repeat' (first|refine zz ?_|(refine zw ?_;refine And.intro ?_ ?_<;>intro hc)|(refine zv ?_;intro cv hv)|(refine za ?_;intro _)|refine zc ?_|(refine zd ?_;refine And.intro ?_ ?_<;>(intro e;(try simp only [Bool.not_eq_true',Bool.not_eq_false'] at e);subst e;try contradiction)))
      refine Dw.e (Ef.appO (rs := byR [2]) (n := 1) rfl rfl hB byR_one (.there (.there (.there (.there (.here))))) rfl (by decide) (Rw.slc (InK.there InK.here) (Nat.le_refl _) (Nat.le_refl _) rfl) (by simp only [lim]; omega)) ?_
      rintro _ _ ⟨B1, hB1, hr1, rfl, rfl⟩
      refine ⟨by repeat (first | exact trivial | refine rdsB rfl ?_ | (refine rdsR ?_ ?_; (focus (first | assumption | (refine Rdk.b1 (cs := ?_) ?_ ?_; rotate_left; (repeat (first | exact InK.here | refine InK.there ?_)); exact rfl) | (refine Rdk.bw ?_ ?_; (repeat (first | exact InK.here | refine InK.there ?_)); first | assumption | exact rfl) | (refine Rdk.bn ?_ ?_; (repeat (first | exact InK.here | refine InK.there ?_)); exact rfl) | (refine Rdk.in ?_; first | assumption | exact rfl) | exact Rdk.i1)))), ?_⟩
      repeat' (first|refine zz ?_|(refine zw ?_;refine And.intro ?_ ?_<;>intro hc)|(refine zv ?_;intro cv hv)|(refine za ?_;intro _)|refine zc ?_|(refine zd ?_;refine And.intro ?_ ?_<;>(intro e;(try simp only [Bool.not_eq_true',Bool.not_eq_false'] at e);subst e;try contradiction)))
      refine Dw.e (Ef.appO (rs := byR (leB v.s.length 4 ++ v.s)) (n := (leB v.s.length 4 ++ v.s).length) rfl rfl hB1 byR_one (.here) (by simp [byR]) (by simp [leB_len]) Rw.str (by rw [hr1]; simp only [lim, List.length_append, leB_len]; simp [byR]; omega)) ?_
      rintro _ _ ⟨B2, hB2, hr2, rfl, rfl⟩
      refine ⟨by repeat (first | exact trivial | refine rdsB rfl ?_ | (refine rdsR ?_ ?_; (focus (first | assumption | (refine Rdk.b1 (cs := ?_) ?_ ?_; rotate_left; (repeat (first | exact InK.here | refine InK.there ?_)); exact rfl) | (refine Rdk.bw ?_ ?_; (repeat (first | exact InK.here | refine InK.there ?_)); first | assumption | exact rfl) | (refine Rdk.bn ?_ ?_; (repeat (first | exact InK.here | refine InK.there ?_)); exact rfl) | (refine Rdk.in ?_; first | assumption | exact rfl) | exact Rdk.i1)))), ?_⟩
      refine Dw.e (Ef.store1 rfl rfl (B2.one 1) (.there (.there (.there (.there (Upd.here))))) (Nat.le_of_ble_eq_true rfl)) ?_
      rintro _ _ ⟨rfl, rfl⟩
      refine ⟨by repeat (first | exact trivial | refine rdsB rfl ?_ | (refine rdsR ?_ ?_; (focus (first | assumption | (refine Rdk.b1 (cs := ?_) ?_ ?_; rotate_left; (repeat (first | exact InK.here | refine InK.there ?_)); exact rfl) | (refine Rdk.bw ?_ ?_; (repeat (first | exact InK.here | refine InK.there ?_)); first | assumption | exact rfl) | (refine Rdk.bn ?_ ?_; (repeat (first | exact InK.here | refine InK.there ?_)); exact rfl) | (refine Rdk.in ?_; first | assumption | exact rfl) | exact Rdk.i1)))), ?_⟩
      repeat' (first|refine zz ?_|(refine zw ?_;refine And.intro ?_ ?_<;>intro hc)|(refine zv ?_;intro cv hv)|(refine za ?_;intro _)|refine zc ?_|(refine zd ?_;refine And.intro ?_ ?_<;>(intro e;(try simp only [Bool.not_eq_true',Bool.not_eq_false'] at e);subst e;try contradiction)))
      (first|refine ⟨.inr rfl,_,.t rfl .nil,?_⟩|refine ⟨.inr rfl,_,.t rfl (.t rfl .nil),?_⟩|refine ⟨.inr rfl,_,.t rfl (.t rfl (.t rfl .nil)),?_⟩|refine ⟨.inr rfl,_,.nil,?_⟩|refine ⟨.inl rfl,_,.t rfl .nil,?_⟩|refine ⟨.inl rfl,_,.nil,?_⟩|refine ⟨.inr rfl,_,.cn rfl (by exact zN) .nil,?_⟩|refine ⟨.inr rfl,_,.cn rfl (by exact zN) (.t rfl .nil),?_⟩)
      refine ⟨_, _, (.cons (.there (.there (.there (.here)))) (.cons (.there (.there (.there (.here)))) (.cons (.here) (.cons (.there (.there (.here))) (.cons (.there (.there (.here))) (.cons (.there (.there (.here))) (.nil))))))), rfl, B2, hB2, ?_, rfl⟩
      rw [hr2, hr1, hr, ← byR_add, ← byR_add]
      simp [sc, h2]
abbrev KL36 (i1 i2 i3 i4 b left : Nat) (B : OS) (c : Chk) (O : OS) (b5 : Nat) (v : Val) : Mem := [bx i1 (.int .i64 (.ofNat left)), bx i2 (B.v 1), B.c, bx i3 (hP b), c, bx i4 (fn36v i1 i2 i3 i4), O.c, [(b5, .cells (valR v) 0 0 false)]]
def Lay (i1 i2 i3 i4 b : Nat) (c : Chk) (g : Val → Nat → ER) (x : Val) (left : Nat) (bs : List Nat) (w : AV) (K' : Mem) : Prop :=
  (∃ s l m, ∃ B' : OS, g x left = some (s, l, m) ∧ w = .bool true ∧ B'.ok 1 ∧ B'.rows = byR (bs ++ s) ∧ K' = K36 i1 i2 i3 i4 b l B' c) ∨ (g x left = none ∧ w = .bool false ∧ ∃ r, Sel K' [c] r)
theorem lay36_loop {H : MH} {fs : List OS} {g : Val → Nat → ER} {v : Val} {j : Nat} {O : OS} {b5 Bd : Nat} {Q : AX → SL → Mem → Prop} (hBd : Bd ≤ 199) (hX : HC b H fs c) (hW : WOk H) (hj : tabI H v = some j) (hO : O.ok 3) (hr : O.rows = (tabL H j).map fun e => valR e.1)
    (hg : ∀ (x : Val) (left : Nat) (B : OS) (bs : List Nat), VOk x → left ≤ Bd → B.ok 1 → B.rows = byR bs → bs.length + 2100 * left ≤ 1000000 → CT Try.prog true 36 [valA x, pt i1, pt i2, pt i3, pt i4] (K36 i1 i2 i3 i4 b left B c) (Lay i1 i2 i3 i4 b c g x left bs))
    (hsz : ∀ v left s l m, VOk v → g v left = some (s, l, m) → l < left ∧ s.length + 1040 ≤ 2100 * (left - l) ∧ m + 1 ≤ 2 * (left - l)) :
    ∀ (f i left : Nat) (B : OS) (bs : List Nat), (tabL H j).length < i + f → i ≤ (tabL H j).length → left ≤ Bd → B.ok 1 → B.rows = byR bs → bs.length + 2100 * left + 1100 ≤ 1000000 →
      (hend : ∀ (l' : SL) s l m, ∀ B' : OS, encL g ((tabL H j).drop i) left = some (s, l, m) → B'.ok 1 → B'.rows = byR (bs ++ s) → Q (.ext 1) l' (KL36 i1 i2 i3 i4 b l B' c O b5 v)) →
      (hret : encL g ((tabL H j).drop i) left = none → ∀ l' K', lkS l' 6 = some (.bool false) → (∃ r, Sel K' [c] r) → Q .ret l' K') →
      Lp Try.prog true b36_0 f [(1, pt i1), (2, pt i2), (3, pt i3), (4, pt i4), (5, .ptr b5 0 0 3), (62, O.v 3), (63, .int .i64 (.ofNat (tabL H j).length)), (64, .int .i64 (.ofNat i))] (KL36 i1 i2 i3 i4 b left B c O b5 v) Q := by
  have hOl := hO.len
  rw [hr, List.length_map] at hOl
  have hlen := hW.len _ (tabL_mem (tabI_some hj).2)
  intro f
  induction f with
  | zero => intro i left B bs h1 h2; omega
  | succ f ih =>
    intro i left B bs h1 h2 h3 hB hBr h4 hend hret
    refine Lp.round ?_
    by_cases hi : i < (tabL H j).length
    · have hmem := tabL_mem (tabI_some hj).2
      have he : (tabL H j)[i]? = some (tabL H j)[i] := List.getElem?_eq_getElem hi
      have hdrop : (tabL H j).drop i = (tabL H j)[i] :: (tabL H j).drop (i + 1) := List.drop_eq_getElem_cons hi
      generalize (tabL H j)[i] = e at he hdrop
      have hem : e ∈ tabL H j := List.mem_of_getElem? he
      obtain ⟨hk1, hk2⟩ := hW.key _ hmem e hem
      obtain ⟨hv1, hv2⟩ := hW.val _ hmem e hem
      have hget := mGet_at hj (hW.ok.srt _ hmem) he hk2
      have cg := getH hX (t := v) (k := e.1)
      rw [hget] at cg
      have ra : ((tabL H j).map fun e => valR e.1)[i]? = some (valR e.1) := by rw [List.getElem?_map, he]; rfl
      obtain ⟨ia, ga, ea⟩ := hO.at (by rw [hr]; exact ra)
      rw [hr] at ea
      subst ea
      have q1 := iadr_slc (sz := 3) (b := ia) (g := ga) (off := 0) (len := ((tabL H j).map fun e => valR e.1).length) (cap := ((tabL H j).map fun e => valR e.1).length) (i := i) (k := .i64) (by rw [List.length_map]; exact hi)
      have hrow : ∀ r, r ∈ ((tabL H j).map fun e => valR e.1) → r.length = 3 := by
        intro r h
        obtain ⟨e, _, rfl⟩ := List.mem_map.1 h
        rfl
      have hp : ∀ K, InK K ia (.cells ((tabL H j).map fun e => valR e.1).flatten ga ga true) → Rdk K (.loadn 3) (.ptr ia ga (0 + i * 3) 3) (.ptr ia ga (0 + i * 3) 3) (valA e.1) := fun K h => Rdk.row h hrow ra
      have hsl := sc_len hk1.len
      have ck := lay36_sc (i1 := i1) (i2 := i2) (i3 := i3) (i4 := i4) (b := b) (c := c) (left := left) hk1 (by omega) hB hBr (by omega)
      repeat' (first|(refine Rg.r rfl rfl (hp _ (by repeat (first | exact InK.here | refine InK.there ?_))) ?_)|(refine Rg.callM rfl cg.up (.cons (.there (.there (.there (.there (.there (.here)))))) (.nil)) ?_; rintro _ _ ⟨rfl, rfl⟩)|(refine Rg.callvM rfl rfl ck.up (.cons (.there (.there (.there (.here)))) (.cons (.there (.there (.there (.here)))) (.cons (.there (.there (.there (.here)))) (.cons (.there (.there (.there (.here)))) (.cons (.there (.here)) (.cons (.there (.there (.here))) (.nil))))))) ?_; rintro _ _ ⟨rfl, B1, hB1, hr1, rfl⟩)|refine zz ?_|(refine zw ?_;refine And.intro ?_ ?_<;>intro hc)|(refine zv ?_;intro cv hv)|(refine za ?_;intro _)|refine zc ?_|(refine zd ?_;refine And.intro ?_ ?_<;>(intro e;(try simp only [Bool.not_eq_true',Bool.not_eq_false'] at e);subst e;try contradiction)))
      have hc := hg e.2 left B1 (bs ++ sc e.1) hv1 h3 hB1 hr1 (by rw [List.length_append]; omega)
      have hs := hsz e.2 left
      cases hgv : g e.2 left with
      | none =>
        repeat' (first|(refine Rg.callvM rfl rfl hc (.cons (.here) (.cons (.here) (.cons (.here) (.cons (.here) (.cons (.here) (.cons (.here) (.nil))))))) ?_; rintro _ _ (⟨s, l, m, B2, h, _⟩ | ⟨h, rfl, r0, hr0⟩); (rw [hgv] at h; cases h))|refine zz ?_|(refine zw ?_;refine And.intro ?_ ?_<;>intro hc)|(refine zv ?_;intro cv hv)|(refine za ?_;intro _)|refine zc ?_|(refine zd ?_;refine And.intro ?_ ?_<;>(intro e;(try simp only [Bool.not_eq_true',Bool.not_eq_false'] at e);subst e;try contradiction)))
        exact hret (by rw [hdrop, encL, hgv]) _ _ rfl ⟨_, hr0.app_right⟩
      | some p =>
        obtain ⟨t, l1, m1⟩ := p
        obtain ⟨z1, z2, z3⟩ := hs t l1 m1 hv1 hgv
        repeat' (first|(refine Rg.callvM rfl rfl hc (.cons (.here) (.cons (.here) (.cons (.here) (.cons (.here) (.cons (.here) (.cons (.here) (.nil))))))) ?_; rintro _ _ (⟨s, l, m, B2, h, rfl, hB2, hr2, rfl⟩ | ⟨h, _⟩); rotate_left; (rw [hgv] at h; cases h))|refine zz ?_|(refine zw ?_;refine And.intro ?_ ?_<;>intro hc)|(refine zv ?_;intro cv hv)|(refine za ?_;intro _)|refine zc ?_|(refine zd ?_;refine And.intro ?_ ?_<;>(intro e;(try simp only [Bool.not_eq_true',Bool.not_eq_false'] at e);subst e;try contradiction)))
        rw [hgv] at h
        cases h
        have := ih (i + 1) l1 B2 (bs ++ sc e.1 ++ t) (by omega) hi (by omega) hB2 hr2 (by simp only [List.length_append]; omega) (fun l' s l m B3 hl hB3 hr3 => hend l' (sc e.1 ++ (t ++ s)) l (m1 + m) B3 (by rw [hdrop, encL, hgv]; simp only [hl]) hB3 (by rw [hr3]; simp only [List.append_assoc]))
          (fun hno => hret (by rw [hdrop, encL, hgv]; simp only [hno]))
        refine Lp.drop (.cons (.here) (.cons (.here) (.cons (.here) (.cons (.here) (.cons (.here) (.cons (.here) (.cons (.there (.there (.here))) (.cons (.there (.there (.here))) (.nil))))))))) (Lp.weak ?hw this)
        case hw => exact ⟨rfl, rfl, rfl, rfl, rfl, rfl, rfl, rfl, trivial⟩
    · obtain rfl : i = (tabL H j).length := by omega
      repeat' (first|refine zz ?_|(refine zw ?_;refine And.intro ?_ ?_<;>intro hc)|(refine zv ?_;intro cv hv)|(refine za ?_;intro _)|refine zc ?_|(refine zd ?_;refine And.intro ?_ ?_<;>(intro e;(try simp only [Bool.not_eq_true',Bool.not_eq_false'] at e);subst e;try contradiction)))
      refine hend _ [] left 0 B ?_ hB ?_
      · rw [List.drop_length]; rfl
      · rw [List.append_nil]; exact hBr
theorem lay36 {H : MH} {fs : List OS} (hX : HC b H fs c) (hW : WOk H) : ∀ (f : Nat) {v : Val} {left : Nat} {B : OS} {bs : List Nat}, left ≤ f → left ≤ 200 → VOk v → B.ok 1 → B.rows = byR bs → bs.length + 2100 * left ≤ 1000000 →
    CT Try.prog true 36 [valA v, pt i1, pt i2, pt i3, pt i4] (K36 i1 i2 i3 i4 b left B c) (Lay i1 i2 i3 i4 b c (enc H f) v left bs) := by
  intro f
  induction f with
  | zero =>
    intro v left B bs h1 h2 hv hB hr h4
    obtain rfl : left = 0 := by omega
    have e0 := sub_zero
    refine CT.enterS mixed comp36 (Nat.le_of_ble_eq_true rfl) ?_
    repeat' (first|refine zz ?_|(refine zw ?_;refine And.intro ?_ ?_<;>intro hc)|(refine zv ?_;intro cv hv)|(refine za ?_;intro _)|refine zc ?_|(refine zd ?_;refine And.intro ?_ ?_<;>(intro e;(try simp only [Bool.not_eq_true',Bool.not_eq_false'] at e);subst e;try contradiction)))
    (first|refine ⟨.inr rfl,_,.t rfl .nil,?_⟩|refine ⟨.inr rfl,_,.t rfl (.t rfl .nil),?_⟩|refine ⟨.inr rfl,_,.t rfl (.t rfl (.t rfl .nil)),?_⟩|refine ⟨.inr rfl,_,.nil,?_⟩|refine ⟨.inl rfl,_,.t rfl .nil,?_⟩|refine ⟨.inl rfl,_,.nil,?_⟩|refine ⟨.inr rfl,_,.cn rfl (by exact zN) .nil,?_⟩|refine ⟨.inr rfl,_,.cn rfl (by exact zN) (.t rfl .nil),?_⟩)
    exact ⟨[c], _, (.cons (.there (.there (.there (.there (.there (.here)))))) (.nil)), .inr ⟨rfl, rfl, [], (.cons (.here) (.nil))⟩⟩
  | succ f ih =>
    intro v left B bs h1 h2 hv hB hr h4
    cases left with
    | zero =>
      have e0 := sub_zero
      refine CT.enterS mixed comp36 (Nat.le_of_ble_eq_true rfl) ?_
      repeat' (first|refine zz ?_|(refine zw ?_;refine And.intro ?_ ?_<;>intro hc)|(refine zv ?_;intro cv hv)|(refine za ?_;intro _)|refine zc ?_|(refine zd ?_;refine And.intro ?_ ?_<;>(intro e;(try simp only [Bool.not_eq_true',Bool.not_eq_false'] at e);subst e;try contradiction)))
      (first|refine ⟨.inr rfl,_,.t rfl .nil,?_⟩|refine ⟨.inr rfl,_,.t rfl (.t rfl .nil),?_⟩|refine ⟨.inr rfl,_,.t rfl (.t rfl (.t rfl .nil)),?_⟩|refine ⟨.inr rfl,_,.nil,?_⟩|refine ⟨.inl rfl,_,.t rfl .nil,?_⟩|refine ⟨.inl rfl,_,.nil,?_⟩|refine ⟨.inr rfl,_,.cn rfl (by exact zN) .nil,?_⟩|refine ⟨.inr rfl,_,.cn rfl (by exact zN) (.t rfl .nil),?_⟩)
      exact ⟨[c], _, (.cons (.there (.there (.there (.there (.there (.here)))))) (.nil)), .inr ⟨rfl, rfl, [], (.cons (.here) (.nil))⟩⟩
    | succ left =>
      by_cases hsc : ScOk v
      · have hk := hsc.kind
        refine CT.mono (lay36_sc (i1 := i1) (i2 := i2) (i3 := i3) (i4 := i4) (b := b) (c := c) (left := left) hsc (by omega) hB hr (by omega)).up ?_
        rintro w K' ⟨rfl, B', hB', hr', rfl⟩
        refine .inl ⟨sc v, left, 0, B', ?_, rfl, hB', hr', rfl⟩
        simp only [enc]
        rw [if_neg (by omega), if_pos (by omega)]
      · have hk : v.k = 3 ∨ v.k = 4 ∨ v.k = 5 := by
          rcases hv with h | ⟨h, _⟩
          · exact absurd h hsc
          · exact h
        have hBl : B.rows.length = bs.length := by rw [hr]; simp [byR]
        have e0 := sub_one (n := left) (by omega)
        have hl := lenH hX (t := v)
        refine CT.enterS mixed comp36 (Nat.le_of_ble_eq_true rfl) ?_
        cases hj : tabI H v with
        | none =>
          simp only [mLen, hj] at hl
          repeat' (first|(refine Rg.callM rfl hl.up (.cons (.there (.there (.there (.there (.there (.here)))))) (.nil)) ?_; rintro _ _ ⟨rfl, rfl⟩)|refine zz ?_|(refine zw ?_;refine And.intro ?_ ?_<;>intro hc)|(refine zv ?_;intro cv hv)|(refine za ?_;intro _)|refine zc ?_|(refine zd ?_;refine And.intro ?_ ?_<;>(intro e;(try simp only [Bool.not_eq_true',Bool.not_eq_false'] at e);subst e;try contradiction)))
          (first|refine ⟨.inr rfl,_,.t rfl .nil,?_⟩|refine ⟨.inr rfl,_,.t rfl (.t rfl .nil),?_⟩|refine ⟨.inr rfl,_,.t rfl (.t rfl (.t rfl .nil)),?_⟩|refine ⟨.inr rfl,_,.nil,?_⟩|refine ⟨.inl rfl,_,.t rfl .nil,?_⟩|refine ⟨.inl rfl,_,.nil,?_⟩|refine ⟨.inr rfl,_,.cn rfl (by exact zN) .nil,?_⟩|refine ⟨.inr rfl,_,.cn rfl (by exact zN) (.t rfl .nil),?_⟩)
          refine ⟨[c], _, (.cons (.here) (.nil)), .inr ⟨?_, rfl, [], (.cons (.here) (.nil))⟩⟩
          simp only [enc, hj]
          split
          · rfl
          · rw [if_neg (by omega)]
        | some j =>
          simp only [mLen, hj] at hl
          have hmem := tabL_mem (tabI_some hj).2
          have hlen := hW.len _ hmem
          have c37 : PT Try.prog true 37 [.int .i64 (tabL H j).length, .int .i64 (.ofNat 2)] (.str (leB (tabL H j).length 2)) := CT.up (num37 (n := (tabL H j).length) (w := 2) (.inr ⟨.inl rfl, by omega, by simp; omega⟩))
          have hks := keysH hX (t := v) hW.len
          simp only [mKeys, hj] at hks
          have h3 : v.k = 3 := by have := (tabI_some hj).1; rw [this]
          repeat' (first|(refine Rg.callM rfl hl.up (.cons (.there (.there (.there (.there (.there (.here)))))) (.nil)) ?_; rintro _ _ ⟨rfl, rfl⟩)|refine zz ?_|(refine zw ?_;refine And.intro ?_ ?_<;>intro hc)|(refine zv ?_;intro cv hv)|(refine za ?_;intro _)|refine zc ?_|(refine zd ?_;refine And.intro ?_ ?_<;>(intro e;(try simp only [Bool.not_eq_true',Bool.not_eq_false'] at e);subst e;try contradiction)))
          refine Rg.e (Ef.appO (rs := byR [3]) (n := 1) rfl rfl hB byR_one (.there (.there (.there (.there (.there (.here)))))) rfl (by decide) (Rw.slc (InK.there InK.here) (Nat.le_refl _) (Nat.le_refl _) rfl) (by simp only [lim]; omega)) ?_
          rintro _ _ ⟨B1, hB1, hr1, rfl, rfl⟩
          repeat' (first|refine zz ?_|(refine zw ?_;refine And.intro ?_ ?_<;>intro hc)|(refine zv ?_;intro cv hv)|(refine za ?_;intro _)|refine zc ?_|(refine zd ?_;refine And.intro ?_ ?_<;>(intro e;(try simp only [Bool.not_eq_true',Bool.not_eq_false'] at e);subst e;try contradiction)))
          refine Rg.e (Ef.appO (bytes := 1) (rs := byR (leB (tabL H j).length 2)) (n := (leB (tabL H j).length 2).length) rfl rfl hB1 byR_one (.here) (by simp [byR]) (by simp [leB_len]) Rw.str (by rw [hr1]; simp only [lim, List.length_append, leB_len]; simp [byR]; omega)) ?_
          rintro _ _ ⟨B2, hB2, hr2, rfl, rfl⟩
          refine Rg.e (Ef.store1 rfl rfl (B2.one 1) (.there (.there (.there (.there (.there (Upd.here)))))) (Nat.le_of_ble_eq_true rfl)) ?_
          rintro _ _ ⟨rfl, rfl⟩
          have hB2r : B2.rows = byR (bs ++ 3 :: leB (tabL H j).length 2) := by
            rw [hr2, hr1, hr, ← byR_add, ← byR_add]
            simp
          repeat' (first|(refine Rg.callM rfl hks (.cons (.there (.there (.here))) (.nil)) ?_; rintro _ _ ⟨O, hO, hOr, rfl, rfl⟩)|refine zz ?_|(refine zw ?_;refine And.intro ?_ ?_<;>intro hc)|(refine zv ?_;intro cv hv)|(refine za ?_;intro _)|refine zc ?_|(refine zd ?_;refine And.intro ?_ ?_<;>(intro e;(try simp only [Bool.not_eq_true',Bool.not_eq_false'] at e);subst e;try contradiction)))
          have hOl := hO.len
          rw [hOr, List.length_map, List.length_map] at hOl
          repeat' (first|refine zz ?_|(refine zw ?_;refine And.intro ?_ ?_<;>intro hc)|(refine zv ?_;intro cv hv)|(refine za ?_;intro _)|refine zc ?_|(refine zd ?_;refine And.intro ?_ ?_<;>(intro e;(try simp only [Bool.not_eq_true',Bool.not_eq_false'] at e);subst e;try contradiction)))
          rename_i vb lb
          refine Cd.loop (k := (tabL H j).length + 1) (Lp.drop (.cons (.there (.there (.there (.there (.there (.here)))))) (.cons (.there (.there (.there (.there (.there (.here)))))) (.cons (.there (.there (.here))) (.cons (.there (.there (.there (.there (.here))))) (.cons (.here) (.cons (.there (.there (.there (.here)))) (.cons (.here) (.cons (.there (.here)) (.nil))))))))) (Lp.weak (l2 := [(1, pt i1), (2, pt i2), (3, pt i3), (4, pt i4), (5, .ptr vb 0 0 3), (62, O.v 3), (63, .int .i64 (.ofNat (tabL H j).length)), (64, .int .i64 (.ofNat 0))]) ⟨rfl, rfl, rfl, rfl, rfl, rfl, rfl, rfl, trivial⟩ (lay36_loop (g := enc H f) (b5 := vb) (Bd := left) (by omega) hX hW hj hO (by rw [hOr, List.map_map]; rfl) (fun x l B bs hx hl hB hr h => ih (by omega) (by omega) hx hB hr h) (fun _ _ _ _ _ hx h => enc_size hW hx h) _ 0 left B2 _ (by omega) (by omega) (by omega) hB2 hB2r (by rw [List.length_append, List.length_cons, leB_len]; omega) ?_ ?_)))
          · intro l' s l m B' he hB' hr'
            rw [List.drop_zero] at he
            show Cd _ _ _ _ _ _
            repeat' (first|refine zz ?_|(refine zw ?_;refine And.intro ?_ ?_<;>intro hc)|(refine zv ?_;intro cv hv)|(refine za ?_;intro _)|refine zc ?_|(refine zd ?_;refine And.intro ?_ ?_<;>(intro e;(try simp only [Bool.not_eq_true',Bool.not_eq_false'] at e);subst e;try contradiction)))
            (first|refine ⟨.inr rfl,_,.t rfl .nil,?_⟩|refine ⟨.inr rfl,_,.t rfl (.t rfl .nil),?_⟩|refine ⟨.inr rfl,_,.t rfl (.t rfl (.t rfl .nil)),?_⟩|refine ⟨.inr rfl,_,.nil,?_⟩|refine ⟨.inl rfl,_,.t rfl .nil,?_⟩|refine ⟨.inl rfl,_,.nil,?_⟩|refine ⟨.inr rfl,_,.cn rfl (by exact zN) .nil,?_⟩|refine ⟨.inr rfl,_,.cn rfl (by exact zN) (.t rfl .nil),?_⟩)
            refine ⟨_, _, (.cons (.here) (.cons (.here) (.cons (.here) (.cons (.here) (.cons (.here) (.cons (.here) (.nil))))))), .inl ⟨3 :: (leB (tabL H j).length 2 ++ s), l, 1 + (tabL H j).length + m, B', ?_, rfl, hB', hr'.trans ?_, rfl⟩⟩
            · simp only [enc, h3, if_true, hj, he]
            · simp
          · intro he l' K' h6 hsel
            rw [List.drop_zero] at he
            obtain ⟨r0, hr0⟩ := hsel
            refine ⟨.inr rfl, _, .t h6 .nil, ⟨[c], _, hr0, .inr ⟨?_, rfl, [], (.cons (.here) (.nil))⟩⟩⟩
            simp only [enc, h3, if_true, hj, he]
theorem save12 {H : MH} {fs : List OS} (hX : HC b H fs c) (hW : WOk H) {v : Val} (hv : VOk v) : CT Try.prog true 12 [hP b, valA v] [c] fun w K' => w = svE (enc H 200 v 200) ∧ K' = [c] := by
  refine CT.enterS mixed comp12 (Nat.le_of_ble_eq_true rfl) ?_
  refine Cd.perm (K2 := [OS.c ⟨none, []⟩, c]) (.refl _) ?_
  repeat' (first|refine zz ?_|(refine zw ?_;refine And.intro ?_ ?_<;>intro hc)|(refine zv ?_;intro cv hv)|(refine za ?_;intro _)|refine zc ?_|(refine zd ?_;refine And.intro ?_ ?_<;>(intro e;(try simp only [Bool.not_eq_true',Bool.not_eq_false'] at e);subst e;try contradiction)))
  rename_i hb vb j1 j2 j4
  have hc := lay36 (i1 := j1) (i2 := j2) (i3 := hb) (i4 := j4) hX hW 200 (v := v) (left := 200) (B := ⟨none, []⟩) (bs := []) (Nat.le_refl _) (Nat.le_refl _) hv OS.ok.nil rfl (by decide)
  cases he : enc H 200 v 200 with
  | none =>
    repeat' (first|(refine Rg.callvM rfl rfl hc (.cons (.there (.there (.here))) (.cons (.there (.here)) (.cons (.there (.there (.there (.here)))) (.cons (.there (.there (.here))) (.cons (.there (.there (.here))) (.cons (.here) (.nil))))))) ?_; rintro _ _ (⟨s, l, m, B2, h, _⟩ | ⟨h, rfl, r0, hr0⟩); (rw [he] at h; cases h))|refine zz ?_|(refine zw ?_;refine And.intro ?_ ?_<;>intro hc)|(refine zv ?_;intro cv hv)|(refine za ?_;intro _)|refine zc ?_|(refine zd ?_;refine And.intro ?_ ?_<;>(intro e;(try simp only [Bool.not_eq_true',Bool.not_eq_false'] at e);subst e;try contradiction)))
    (first|refine ⟨.inr rfl,_,.t rfl .nil,?_⟩|refine ⟨.inr rfl,_,.t rfl (.t rfl .nil),?_⟩|refine ⟨.inr rfl,_,.t rfl (.t rfl (.t rfl .nil)),?_⟩|refine ⟨.inr rfl,_,.nil,?_⟩|refine ⟨.inl rfl,_,.t rfl .nil,?_⟩|refine ⟨.inl rfl,_,.nil,?_⟩|refine ⟨.inr rfl,_,.cn rfl (by exact zN) .nil,?_⟩|refine ⟨.inr rfl,_,.cn rfl (by exact zN) (.t rfl .nil),?_⟩)
    exact ⟨_, _, hr0.app_right, rfl, rfl⟩
  | some p =>
    obtain ⟨t, l1, m1⟩ := p
    repeat' (first|(refine Rg.callvM rfl rfl hc (.cons (.there (.there (.here))) (.cons (.there (.here)) (.cons (.there (.there (.there (.here)))) (.cons (.there (.there (.here))) (.cons (.there (.there (.here))) (.cons (.here) (.nil))))))) ?_; rintro _ _ (⟨s, l, m, B2, h, rfl, hB2, hr2, rfl⟩ | ⟨h, _⟩); rotate_left; (rw [he] at h; cases h))|refine zz ?_|(refine zw ?_;refine And.intro ?_ ?_<;>intro hc)|(refine zv ?_;intro cv hv)|(refine za ?_;intro _)|refine zc ?_|(refine zd ?_;refine And.intro ?_ ?_<;>(intro e;(try simp only [Bool.not_eq_true',Bool.not_eq_false'] at e);subst e;try contradiction)))
    rw [he] at h
    cases h
    have hd := fun K hi => Rdk.b2sO (K := K) (y := B2.v 1) hB2 hr2 (enc_lt hW hv he) hi
    repeat' (first|(refine Rg.r rfl rfl (hd _ ?_) ?_; (intro id o h; exact .there (.there (.mem h))))|refine zz ?_|(refine zw ?_;refine And.intro ?_ ?_<;>intro hc)|(refine zv ?_;intro cv hv)|(refine za ?_;intro _)|refine zc ?_|(refine zd ?_;refine And.intro ?_ ?_<;>(intro e;(try simp only [Bool.not_eq_true',Bool.not_eq_false'] at e);subst e;try contradiction)))
    (first|refine ⟨.inr rfl,_,.t rfl .nil,?_⟩|refine ⟨.inr rfl,_,.t rfl (.t rfl .nil),?_⟩|refine ⟨.inr rfl,_,.t rfl (.t rfl (.t rfl .nil)),?_⟩|refine ⟨.inr rfl,_,.nil,?_⟩|refine ⟨.inl rfl,_,.t rfl .nil,?_⟩|refine ⟨.inl rfl,_,.nil,?_⟩|refine ⟨.inr rfl,_,.cn rfl (by exact zN) .nil,?_⟩|refine ⟨.inr rfl,_,.cn rfl (by exact zN) (.t rfl .nil),?_⟩)
    exact ⟨_, _, (.cons (.there (.there (.there (.there (.here))))) (.nil)), rfl, rfl⟩
end
end Go.Proofs.Ytlflpjjmkigepaa

namespace Go.Proofs.Ytlflpjjmkigepaa
open Go Go.Abs
theorem MH.ok.tabs {H : MH} (h : H.ok) : ∀ L, L ∈ H.tabs → L.length ≤ H.used := by
  intro L hL
  obtain ⟨j, hj, e⟩ := List.getElem_of_mem hL
  have := len_le hj
  rw [tabL, List.getElem?_eq_getElem hj, e] at this
  have hu := h.used
  simp only [Option.getD_some] at *
  omega
theorem mem_setL2 {k v : Val} {L : List KV} {e : KV} (h : e ∈ setL k v L) : e ∈ L ∨ e = (k, v) ∧ v.k ≠ 0 := by
  by_cases hv : v.k = 0
  · rw [setL, if_pos hv] at h
    exact .inl (List.mem_filter.1 h).1
  · rcases mem_setL h with h | h
    · exact .inl h
    · exact .inr ⟨h, hv⟩
theorem ScOk.can {k : Val} (h : ScOk k) (hk : keyB k = true) : Can k := by
  rcases h with rfl | ⟨h1, h2, _⟩ | ⟨h1, h2, _⟩
  · exact absurd hk (by decide)
  · exact .inl ⟨h1, h2⟩
  · exact .inr ⟨h1, h2⟩
theorem mPut_cases (H : MH) (t k v : Val) : (mPut H t k v).1 = H ∨ ∃ i, tabI H t = some i ∧ keyB k = true ∧ (mPut H t k v).1 = { H with used := H.used - (tabL H i).length + (setL k v (tabL H i)).length, tabs := H.tabs.set i (setL k v (tabL H i)) } := by
  unfold mPut
  split
  · exact .inl rfl
  · rename_i i hi
    split
    · rename_i hk
      split
      · exact .inl rfl
      · exact .inr ⟨i, hi, hk, rfl⟩
    · exact .inl rfl
theorem WOk.put {H : MH} {t k v : Val} (h : WOk H) (hk : ScOk k) (hv : VOk v) (hu : (mPut H t k v).1.used ≤ 1000) : WOk (mPut H t k v).1 := by
  have hok : (mPut H t k v).1.ok := h.ok.put (fun hb => hk.can hb) (fun _ => hk.len)
  have hl := hok.tabs
  rcases mPut_cases H t k v with e | ⟨i, hi, hkb, e⟩
  · rw [e]; exact h
  · refine ⟨hok, fun L hL => Nat.le_trans (hl L hL) hu, ?_, ?_⟩
    · intro L hL x hx
      rw [e] at hL
      rcases List.mem_or_eq_of_mem_set hL with hL | rfl
      · exact h.key L hL x hx
      · rcases mem_setL2 hx with hx | ⟨rfl, _⟩
        · exact h.key _ (tabL_mem (tabI_some hi).2) x hx
        · exact ⟨hk, hkb⟩
    · intro L hL x hx
      rw [e] at hL
      rcases List.mem_or_eq_of_mem_set hL with hL | rfl
      · exact h.val L hL x hx
      · rcases mem_setL2 hx with hx | ⟨rfl, hv0⟩
        · exact h.val _ (tabL_mem (tabI_some hi).2) x hx
        · exact ⟨hv, hv0⟩
theorem WOk.table {H : MH} (h : WOk H) : WOk (mTable H).1 := by
  have hok := h.ok.table
  unfold mTable at hok ⊢
  split
  · rename_i hr
    rw [if_pos hr] at hok
    refine ⟨hok, ?_, ?_, ?_⟩
    all_goals
      intro L hL
      rcases List.mem_append.1 hL with hL | hL
    · exact h.len L hL
    · rw [List.mem_singleton] at hL; subst hL; simp
    · exact h.key L hL
    · rw [List.mem_singleton] at hL; subst hL; intro e he; cases he
    · exact h.val L hL
    · rw [List.mem_singleton] at hL; subst hL; intro e he; cases he
  · exact h
theorem WOk.new {room : Nat} (h : room ≤ 1000000) : WOk (mNew room) := ⟨MH.ok.new h, (fun _ h => by cases h), (fun _ h => by cases h), (fun _ h => by cases h)⟩
end Go.Proofs.Ytlflpjjmkigepaa

namespace Go.Proofs.Ytlflpjjmkigepaa
open Go Go.Abs
attribute [local irreducible] Cmp Rg Dw Cd Lp Ev Rdk CT Upd InK
section
variable {b r : Nat} {H : MH} {c d : Chk}
theorem VOk.sc {k : Val} (h : VOk k) (hk : keyB k = true) : ScOk k := by
  rcases h with h | ⟨h, _⟩
  · exact h
  · simp only [keyB, Bool.or_eq_true, decide_eq_true_eq] at hk
    omega
theorem new19 {room : Nat} (h : room ≤ 1000000) : CT Try.prog false 19 [.int .i64 (.ofNat room)] [] fun v K' => ∃ b c, v = .tup [hP b, .int .i64 (.ofNat 0)] ∧ HC b (mNew room) [] c ∧ K' = [c] := by
  refine CT.mono newH ?_
  rintro v K' (⟨h1, _⟩ | ⟨room2, b, c, hr, _, rfl, hX, rfl⟩)
  · exfalso; simp at h1; omega
  · have : room = room2 := by rw [Int.ofNat_eq_natCast, Int.ofNat_eq_natCast] at hr; omega
    subst this
    exact ⟨b, c, rfl, hX, rfl⟩
end
end Go.Proofs.Ytlflpjjmkigepaa

namespace Go.Proofs.Ytlflpjjmkigepaa
open Go Go.Abs
attribute [local irreducible] Cmp Rg Dw Cd Lp Ev Rdk CT Upd InK
theorem wide68a : PT Try.prog false 68 [.int .i64 (.ofNat 1)] (.bool true) := PT.run plain0 (by kernel_rfl) rfl rfl
theorem deB_snoc : ∀ {l : List Nat} {x : Nat}, deB (l ++ [x]) = deB l + 256 ^ l.length * x
  | [], x => by simp [deB]
  | a :: r, x => by
    simp only [List.cons_append, deB, deB_snoc (l := r), List.length_cons, Nat.pow_succ, Nat.mul_add]
    rw [Nat.mul_comm (256 ^ r.length) 256, Nat.mul_assoc]
    omega
theorem seg_snoc {s : List Nat} {a i x : Nat} (h : s[a + i]? = some x) : sgm s a (a + (i + 1)) = sgm s a (a + i) ++ [x] := by
  rw [← seg_one h, seg_app (by omega) (by omega)]
  rfl
theorem pow8 {i : Nat} (hi : i < 8) : 2 ^ (8 * i) ≤ 72057594037927936 := by
  have := Nat.pow_le_pow_right (n := 2) (by omega) (show 8 * i ≤ 56 by omega)
  simpa using this
theorem or_u {a x i : Nat} (ha : a < 2 ^ (8 * i)) (hx : x < 256) (hi : i < 8) : abin .or (.int .u64 (.ofNat a)) (.int .u64 (.ofNat (x * 2 ^ (8 * i)))) = some (.int .u64 (.ofNat (a + 2 ^ (8 * i) * x))) := by
  have e : abin .or (.int .u64 (.ofNat a)) (.int .u64 (.ofNat (x * 2 ^ (8 * i)))) = abitw .or .u64 Nat.lor (.ofNat a) (.ofNat (x * 2 ^ (8 * i))) := rfl
  rw [e]
  simp only [abitw]
  have e2 : Nat.lor a (x * 2 ^ (8 * i)) = a + 2 ^ (8 * i) * x := by
    have := Nat.shiftLeft_add_eq_or_of_lt ha x
    rw [Nat.shiftLeft_eq] at this
    show a ||| x * 2 ^ (8 * i) = _
    rw [Nat.or_comm, ← this, Nat.mul_comm x]
    omega
  rw [e2]
  have hp := pow8 hi
  have hm := Nat.mul_le_mul_right (2 ^ (8 * i)) (show x ≤ 255 by omega)
  generalize x * 2 ^ (8 * i) = y at hm
  have et : top .u64 = 18446744073709551615 := by decide
  rw [et, Nat.ble_eq_true_of_le (by omega), Nat.ble_eq_true_of_le (by omega)]
  rfl
theorem shl_u {x i : Nat} (hx : x < 256) (hi : i < 8) : abin .shl (.int .u64 (.ofNat x)) (.int .u64 (.ofNat (8 * i))) = some (.int .u64 (.ofNat (x * 2 ^ (8 * i)))) := by
  have e : abin .shl (.int .u64 (.ofNat x)) (.int .u64 (.ofNat (8 * i))) = ashift true .u64 (.ofNat x) (.ofNat (8 * i)) := rfl
  rw [e]
  have hb : Nat.ble (8 * i) (nbits .u64) = true := Nat.ble_eq_true_of_le (by show 8 * i ≤ 64; omega)
  simp only [ashift, hb, cond_true]
  have hp := pow8 hi
  have hm := Nat.mul_le_mul_right (2 ^ (8 * i)) (show x ≤ 255 by omega)
  generalize x * 2 ^ (8 * i) = y at hm
  rw [awrap_eq]
  congr 2
  simp only [IntKind.wrap, IntKind.bits, IntKind.signed]
  simp
  omega
theorem u8_u64 {x : Nat} (hx : x < 256) : apure .e (.toInt .u64 (.c (.int .u8 (.ofNat x)))) = some (.int .u64 (.ofNat x)) := by
  have e : apure .e (.toInt .u64 (.c (.int .u8 (.ofNat x)))) = some (.int .u64 (awrap .u64 (.ofNat x))) := rfl
  rw [e, awrap_eq]
  congr 2
  simp only [IntKind.wrap, IntKind.bits, IntKind.signed]
  simp
  omega
theorem u64_i64 {u : Nat} (hu : u < 18446744073709551616) : apure .e (.toInt .i64 (.c (.int .u64 (.ofNat u)))) = some (.int .i64 (i64 u)) := by
  have e : apure .e (.toInt .i64 (.c (.int .u64 (.ofNat u)))) = some (.int .i64 (awrap .i64 (.ofNat u))) := rfl
  rw [e, awrap_eq]
  congr 2
  simp only [IntKind.wrap, IntKind.bits, IntKind.signed, i64]
  simp
  split <;> omega
theorem mul8 {i : Nat} (hi : i < 8) : abin .mul (.int .i64 (.ofNat 8)) (.int .i64 (.ofNat i)) = some (.int .i64 (.ofNat (8 * i))) := by
  have e : abin .mul (.int .i64 (.ofNat 8)) (.int .i64 (.ofNat i)) = some (.int .i64 (awrap .i64 (.ofNat (8 * i)))) := rfl
  rw [e, awrap_eq]
  congr 2
  simp only [IntKind.wrap, IntKind.bits, IntKind.signed]
  simp
  omega
theorem segd_lt {s : List Nat} {a b w : Nat} (hs : ∀ x, x ∈ s → x < 256) (hb : b ≤ s.length) (hw : b - a ≤ w) (h8 : w ≤ 8) : deB (sgm s a b) < 256 ^ w := by
  have h := deB_lt (seg_lt (a := a) (b := b) hs)
  rw [seg_len hb] at h
  exact Nat.lt_of_lt_of_le h (Nat.pow_le_pow_right (by omega) hw)
theorem lt8 {n w : Nat} (h : n < 256 ^ w) (h8 : w ≤ 8) : n < 18446744073709551616 := by
  have := Nat.pow_le_pow_right (n := 256) (by omega) h8
  have e : 256 ^ 8 = 18446744073709551616 := by decide
  omega
theorem get81_loop {s : List Nat} {a w : Nat} {Q : AX → SL → Mem → Prop} (hs : ∀ x, x ∈ s → x < 256) (hw : w ≤ 8) (haw : a + w ≤ s.length) (hl : s.length ≤ 1000000)
    (hend : ∀ l', lkS l' 8 = some (.int .u64 (.ofNat (deB (sgm s a (a + w))))) → Q (.ext 1) l' []) :
    ∀ (f i : Nat), w < i + f → i ≤ w → Lp Try.prog false b81_0 f [(0, .str s), (1, .int .i64 (.ofNat a)), (8, .int .u64 (.ofNat (deB (sgm s a (a + i))))), (31, .int .i64 (.ofNat w)), (32, .int .i64 (.ofNat i))] [] Q := by
  intro f
  induction f with
  | zero => intro i h1; omega
  | succ f ih =>
    intro i h1 h2
    refine Lp.round ?_
    by_cases hi : i < w
    · have hx : s[a + i]? = some s[a + i] := List.getElem?_eq_getElem (by omega)
      have hxl := hs _ (List.mem_of_getElem? hx)
      generalize s[a + i] = x at hx hxl
      have hlt := segd_lt (w := i) (a := a) (b := a + i) hs (by omega) (by omega) (by omega)
      have q1 := idxs_at (k := .i64) hx
      have q2 := u8_u64 hxl
      have q3 := mul8 (i := i) (by omega)
      have q4 := to_u64 (n := 8 * i) (by omega)
      have q5 := shl_u (x := x) (i := i) hxl (by omega)
      have q6 := or_u (a := deB (sgm s a (a + i))) (x := x) (i := i) (by rw [Nat.pow_mul]; exact hlt) hxl (by omega)
      have e : deB (sgm s a (a + i)) + 2 ^ (8 * i) * x = deB (sgm s a (a + (i + 1))) := by
        rw [seg_snoc hx, deB_snoc, seg_len (by omega), Nat.pow_mul, show a + i - a = i by omega]
      rw [e] at q6
      repeat' (first|refine zz ?_|(refine zw ?_;refine And.intro ?_ ?_<;>intro hc)|(refine zv ?_;intro cv hv)|(refine za ?_;intro _)|refine zc ?_|(refine zd ?_;refine And.intro ?_ ?_<;>(intro e;(try simp only [Bool.not_eq_true',Bool.not_eq_false'] at e);subst e;try contradiction)))
      exact Lp.weak (by exact ⟨rfl, rfl, rfl, rfl, rfl, trivial⟩) (ih (i + 1) (by omega) hi)
    · obtain rfl : i = w := by omega
      repeat' (first|refine zz ?_|(refine zw ?_;refine And.intro ?_ ?_<;>intro hc)|(refine zv ?_;intro cv hv)|(refine za ?_;intro _)|refine zc ?_|(refine zd ?_;refine And.intro ?_ ?_<;>(intro e;(try simp only [Bool.not_eq_true',Bool.not_eq_false'] at e);subst e;try contradiction)))
      exact hend _ rfl
theorem get81 {s : List Nat} {a w : Nat} (hs : ∀ x, x ∈ s → x < 256) (hl : s.length ≤ 1000000) (ha : a ≤ 1000000) (hw : w = 1 ∨ w = 2 ∨ w = 4 ∨ w = 8) : PT Try.prog false 81 [.str s, .int .i64 (.ofNat a), .int .i64 (.ofNat w)]
    (if a + w ≤ s.length then .tup [.int .i64 (i64 (deB (sgm s a (a + w)))), .int .i64 (.ofNat 0)] else .tup [.int .i64 (.ofNat 0), .int .i64 (.ofNat 2)]) := by
  have k68 : PT Try.prog false 68 [.int .i64 (.ofNat w)] (.bool true) := by
    rcases hw with rfl | rfl | rfl | rfl
    · exact wide68a
    · exact wide68b
    · exact wide68d
    · exact wide68
  have h8 : w ≤ 8 := by omega
  refine PT.of (CT.enter mixed comp81 (Nat.le_of_ble_eq_true rfl) ?_)
  by_cases h : a + w ≤ s.length
  · rw [if_pos h]
    clear hw
    have q1 := u64_i64 (lt8 (segd_lt (w := w) (a := a) (b := a + w) hs h (by omega) h8) h8)
    have key : ∀ l', lkS l' 8 = some (.int .u64 (.ofNat (deB (sgm s a (a + w))))) → Cd Try.prog false (.seq (.reg r81_11) .ret) l' [] (DoneK fn81.results fun v _ => v = .tup [.int .i64 (i64 (deB (sgm s a (a + w)))), .int .i64 (.ofNat 0)]) := by
      intro l' h8
      refine Cd.weak (l2 := [(8, _)]) (And.intro h8 trivial) ?_
      repeat' (first|refine zz ?_|(refine zw ?_;refine And.intro ?_ ?_<;>intro hc)|(refine zv ?_;intro cv hv)|(refine za ?_;intro _)|refine zc ?_|(refine zd ?_;refine And.intro ?_ ?_<;>(intro e;(try simp only [Bool.not_eq_true',Bool.not_eq_false'] at e);subst e;try contradiction)))
      (first|refine ⟨.inr rfl,_,.t rfl .nil,?_⟩|refine ⟨.inr rfl,_,.t rfl (.t rfl .nil),?_⟩|refine ⟨.inr rfl,_,.t rfl (.t rfl (.t rfl .nil)),?_⟩|refine ⟨.inr rfl,_,.nil,?_⟩|refine ⟨.inl rfl,_,.t rfl .nil,?_⟩|refine ⟨.inl rfl,_,.nil,?_⟩|refine ⟨.inr rfl,_,.cn rfl (by exact zN) .nil,?_⟩|refine ⟨.inr rfl,_,.cn rfl (by exact zN) (.t rfl .nil),?_⟩)
      rfl
    repeat' (first|refine zz ?_|(refine zw ?_;refine And.intro ?_ ?_<;>intro hc)|(refine zv ?_;intro cv hv)|(refine za ?_;intro _)|refine zc ?_|(refine zd ?_;refine And.intro ?_ ?_<;>(intro e;(try simp only [Bool.not_eq_true',Bool.not_eq_false'] at e);subst e;try contradiction)))
    refine Cd.loop (k := w + 1) (Lp.weak (l2 := [(0, .str s), (1, .int .i64 (.ofNat a)), (8, .int .u64 (.ofNat (deB (sgm s a (a + 0))))), (31, .int .i64 (.ofNat w)), (32, .int .i64 (.ofNat 0))]) ?_ (get81_loop hs h8 h hl key (w + 1) 0 (by omega) (by omega)))
    refine ⟨rfl, rfl, ?_, rfl, rfl, trivial⟩
    rw [show sgm s a (a + 0) = [] by simp [sgm]]
    rfl
  · rw [if_neg h]
    clear hw
    repeat' (first|refine zz ?_|(refine zw ?_;refine And.intro ?_ ?_<;>intro hc)|(refine zv ?_;intro cv hv)|(refine za ?_;intro _)|refine zc ?_|(refine zd ?_;refine And.intro ?_ ?_<;>(intro e;(try simp only [Bool.not_eq_true',Bool.not_eq_false'] at e);subst e;try contradiction)))
    all_goals (first|refine ⟨.inr rfl,_,.t rfl .nil,?_⟩|refine ⟨.inr rfl,_,.t rfl (.t rfl .nil),?_⟩|refine ⟨.inr rfl,_,.t rfl (.t rfl (.t rfl .nil)),?_⟩|refine ⟨.inr rfl,_,.nil,?_⟩|refine ⟨.inl rfl,_,.t rfl .nil,?_⟩|refine ⟨.inl rfl,_,.nil,?_⟩|refine ⟨.inr rfl,_,.cn rfl (by exact zN) .nil,?_⟩|refine ⟨.inr rfl,_,.cn rfl (by exact zN) (.t rfl .nil),?_⟩)
    all_goals rfl
def nextA (s : List Nat) (a : Nat) : AV := if a + 4 ≤ s.length ∧ a + 4 + deB (sgm s a (a + 4)) ≤ s.length then .tup [.str (sgm s (a + 4) (a + 4 + deB (sgm s a (a + 4)))), .int .i64 (.ofNat (a + 4 + deB (sgm s a (a + 4)))), .int .i64 (.ofNat 0)] else .tup [.str [], .int .i64 (.ofNat 0), .int .i64 (.ofNat 2)]
theorem i64_lo {u : Nat} (h : u < 4294967296) : i64 u = .ofNat u := by unfold i64; rw [if_pos (by omega)]; rfl
theorem next82 {s : List Nat} {a : Nat} (hs : ∀ x, x ∈ s → x < 256) (hl : s.length ≤ 1000000) (ha : a ≤ 1000000) : PT Try.prog false 82 [.str s, .int .i64 (.ofNat a)] (nextA s a) := by
  have k := get81 (a := a) (w := 4) hs hl ha (by omega)
  unfold nextA
  by_cases h : a + 4 ≤ s.length
  · have hlt := segd_lt (w := 4) (a := a) (b := a + 4) hs h (by omega) (by omega)
    have e4 : 256 ^ 4 = 4294967296 := by decide
    rw [e4] at hlt
    rw [if_pos h, i64_lo hlt] at k
    generalize deB (sgm s a (a + 4)) = n at k hlt
    have q1 := sstr_from (s := s) (k := .i64) (m := a + 4) h
    have q2 : (s.drop (a + 4)).length = s.length - (a + 4) := List.length_drop
    refine PT.of (CT.enter mixed comp82 (Nat.le_of_ble_eq_true rfl) ?_)
    by_cases h2 : a + 4 + n ≤ s.length
    · rw [if_pos ⟨h, h2⟩]
      have q3 := sstr_to (s := s.drop (a + 4)) (k := .i64) (n := n) (by omega)
      rw [show (s.drop (a + 4)).take n = sgm s (a + 4) (a + 4 + n) by unfold sgm; congr 1; omega] at q3
      repeat' (first|refine zz ?_|(refine zw ?_;refine And.intro ?_ ?_<;>intro hc)|(refine zv ?_;intro cv hv)|(refine za ?_;intro _)|refine zc ?_|(refine zd ?_;refine And.intro ?_ ?_<;>(intro e;(try simp only [Bool.not_eq_true',Bool.not_eq_false'] at e);subst e;try contradiction)))
      all_goals (first|refine ⟨.inr rfl,_,.t rfl .nil,?_⟩|refine ⟨.inr rfl,_,.t rfl (.t rfl .nil),?_⟩|refine ⟨.inr rfl,_,.t rfl (.t rfl (.t rfl .nil)),?_⟩|refine ⟨.inr rfl,_,.nil,?_⟩|refine ⟨.inl rfl,_,.t rfl .nil,?_⟩|refine ⟨.inl rfl,_,.nil,?_⟩|refine ⟨.inr rfl,_,.cn rfl (by exact zN) .nil,?_⟩|refine ⟨.inr rfl,_,.cn rfl (by exact zN) (.t rfl .nil),?_⟩)
      all_goals rfl
    · rw [if_neg (by omega)]
      repeat' (first|refine zz ?_|(refine zw ?_;refine And.intro ?_ ?_<;>intro hc)|(refine zv ?_;intro cv hv)|(refine za ?_;intro _)|refine zc ?_|(refine zd ?_;refine And.intro ?_ ?_<;>(intro e;(try simp only [Bool.not_eq_true',Bool.not_eq_false'] at e);subst e;try contradiction)))
      all_goals (first|refine ⟨.inr rfl,_,.t rfl .nil,?_⟩|refine ⟨.inr rfl,_,.t rfl (.t rfl .nil),?_⟩|refine ⟨.inr rfl,_,.t rfl (.t rfl (.t rfl .nil)),?_⟩|refine ⟨.inr rfl,_,.nil,?_⟩|refine ⟨.inl rfl,_,.t rfl .nil,?_⟩|refine ⟨.inl rfl,_,.nil,?_⟩|refine ⟨.inr rfl,_,.cn rfl (by exact zN) .nil,?_⟩|refine ⟨.inr rfl,_,.cn rfl (by exact zN) (.t rfl .nil),?_⟩)
      all_goals rfl
  · rw [if_neg h] at k
    rw [if_neg (by omega)]
    refine PT.of (CT.enter mixed comp82 (Nat.le_of_ble_eq_true rfl) ?_)
    repeat' (first|refine zz ?_|(refine zw ?_;refine And.intro ?_ ?_<;>intro hc)|(refine zv ?_;intro cv hv)|(refine za ?_;intro _)|refine zc ?_|(refine zd ?_;refine And.intro ?_ ?_<;>(intro e;(try simp only [Bool.not_eq_true',Bool.not_eq_false'] at e);subst e;try contradiction)))
    (first|refine ⟨.inr rfl,_,.t rfl .nil,?_⟩|refine ⟨.inr rfl,_,.t rfl (.t rfl .nil),?_⟩|refine ⟨.inr rfl,_,.t rfl (.t rfl (.t rfl .nil)),?_⟩|refine ⟨.inr rfl,_,.nil,?_⟩|refine ⟨.inl rfl,_,.t rfl .nil,?_⟩|refine ⟨.inl rfl,_,.nil,?_⟩|refine ⟨.inr rfl,_,.cn rfl (by exact zN) .nil,?_⟩|refine ⟨.inr rfl,_,.cn rfl (by exact zN) (.t rfl .nil),?_⟩)
    rfl
theorem sub2 {n a : Nat} (h : a ≤ n) (hn : n ≤ 1000000) : abin .sub (.int .i64 (.ofNat n)) (.int .i64 (.ofNat a)) = some (.int .i64 (.ofNat (n - a))) := sub_nat h (by omega)
end Go.Proofs.Ytlflpjjmkigepaa
