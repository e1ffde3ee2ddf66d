/- The document goes over a value's bytes. -/
import Derived.Test.YtlflpjjmkigepaaPlnF
import Derived.Test.YtlflpjjmkigepaaPlnE
set_option autoImplicit false
set_option maxRecDepth 900000
set_option maxHeartbeats 4000000
set_option linter.unusedVariables false
set_option linter.unusedSimpArgs false
set_option maxRecDepth 100000
namespace Go.Proofs.Ytlflpjjmkigepaa
open Go Go.Abs
attribute [local irreducible] Cmp Rg Dw Cd Lp Ev Rdk CT Upd InK
section
variable {σ : Type} {B : Bld σ} {s : List Nat}
end
section
variable {s : List Nat}
end
end Go.Proofs.Ytlflpjjmkigepaa

namespace Go.Proofs.Ytlflpjjmkigepaa
open Go Go.Abs
attribute [local irreducible] Cmp Rg Dw Cd Lp Ev Rdk CT Upd InK
def decU (s : List Nat) : DR Unit := dec openB s 200 () 0 200
def rightB (s : List Nat) : Bool := match decU s with
  | some (_, _, a, _, _) => decide (a = s.length)
  | none => false
def needsN (s : List Nat) : Nat := match decU s with
  | some (_, _, a, _, m) => if a = s.length then m else 0
  | none => 0
section
variable {s : List Nat}
theorem open41 : CT Try.prog false 41 [.str s] [] fun w K' => ∃ rd, w = rdP rd ∧ K' = [rdC rd s 0 (.ofNat 200) 0 (.fn 60 [] []) (.fn 61 [] [])] := by
  refine CT.enterS mixed comp41 (Nat.le_of_ble_eq_true rfl) ?_
  repeat' (first|refine zz ?_|(refine zw ?_;refine And.intro ?_ ?_<;>intro hc)|(refine zv ?_;intro cv hv)|(refine za ?_;intro _)|refine zc ?_|(refine zd ?_;refine And.intro ?_ ?_<;>(intro e;(try simp only [Bool.not_eq_true',Bool.not_eq_false'] at e);subst e;try contradiction)))
  (first|refine ⟨.inr rfl,_,.t rfl .nil,?_⟩|refine ⟨.inr rfl,_,.t rfl (.t rfl .nil),?_⟩|refine ⟨.inr rfl,_,.t rfl (.t rfl (.t rfl .nil)),?_⟩|refine ⟨.inr rfl,_,.nil,?_⟩|refine ⟨.inl rfl,_,.t rfl .nil,?_⟩|refine ⟨.inl rfl,_,.nil,?_⟩|refine ⟨.inr rfl,_,.cn rfl (by exact zN) .nil,?_⟩|refine ⟨.inr rfl,_,.cn rfl (by exact zN) (.t rfl .nil),?_⟩)
  exact ⟨_, _, (.cons (.here) (.nil)), _, rfl, rfl⟩
def openR (x : Unit) (c : Chk) : Prop := c = []
theorem openC : Clo openB openR 60 61 [] [] := by
  refine ⟨?_, ?_⟩
  · rintro x c rfl
    refine CT.enterS mixed comp60 (Nat.le_of_ble_eq_true rfl) ?_
    repeat' (first|refine zz ?_|(refine zw ?_;refine And.intro ?_ ?_<;>intro hc)|(refine zv ?_;intro cv hv)|(refine za ?_;intro _)|refine zc ?_|(refine zd ?_;refine And.intro ?_ ?_<;>(intro e;(try simp only [Bool.not_eq_true',Bool.not_eq_false'] at e);subst e;try contradiction)))
    (first|refine ⟨.inr rfl,_,.t rfl .nil,?_⟩|refine ⟨.inr rfl,_,.t rfl (.t rfl .nil),?_⟩|refine ⟨.inr rfl,_,.t rfl (.t rfl (.t rfl .nil)),?_⟩|refine ⟨.inr rfl,_,.nil,?_⟩|refine ⟨.inl rfl,_,.t rfl .nil,?_⟩|refine ⟨.inl rfl,_,.nil,?_⟩|refine ⟨.inr rfl,_,.cn rfl (by exact zN) .nil,?_⟩|refine ⟨.inr rfl,_,.cn rfl (by exact zN) (.t rfl .nil),?_⟩)
    exact ⟨_, _, (.cons (.there (.here)) (.nil)), rfl, _, rfl, rfl⟩
  · rintro x c t k v rfl _ _
    refine CT.enterS mixed comp61 (Nat.le_of_ble_eq_true rfl) ?_
    repeat' (first|refine zz ?_|(refine zw ?_;refine And.intro ?_ ?_<;>intro hc)|(refine zv ?_;intro cv hv)|(refine za ?_;intro _)|refine zc ?_|(refine zd ?_;refine And.intro ?_ ?_<;>(intro e;(try simp only [Bool.not_eq_true',Bool.not_eq_false'] at e);subst e;try contradiction)))
    (first|refine ⟨.inr rfl,_,.t rfl .nil,?_⟩|refine ⟨.inr rfl,_,.t rfl (.t rfl .nil),?_⟩|refine ⟨.inr rfl,_,.t rfl (.t rfl (.t rfl .nil)),?_⟩|refine ⟨.inr rfl,_,.nil,?_⟩|refine ⟨.inl rfl,_,.t rfl .nil,?_⟩|refine ⟨.inl rfl,_,.nil,?_⟩|refine ⟨.inr rfl,_,.cn rfl (by exact zN) .nil,?_⟩|refine ⟨.inr rfl,_,.cn rfl (by exact zN) (.t rfl .nil),?_⟩)
    exact ⟨_, _, (.cons (.there (.there (.there (.here)))) (.nil)), rfl, _, rfl, rfl⟩
section
variable {σ : Type} {B : Bld σ} {R : σ → Chk → Prop} {gt gp : FuncId} {ct cp : List AV} {rd : Nat}
def V42 (d : DR σ) (R : σ → Chk → Prop) (rd : Nat) (s : List Nat) (tf pf : AV) (w : AV) (K' : Mem) : Prop :=
  (∃ v x' l' m c', d = some (v, x', s.length, l', m) ∧ w = .tup [valA v, .bool true] ∧ R x' c' ∧ K' = [rdC rd s s.length (.ofNat l') m tf pf, c']) ∨ ((∀ v x' l' m, d ≠ some (v, x', s.length, l', m)) ∧ ∃ v rc c2, w = .tup [valA v, .bool false] ∧ K' = [rc, c2])
theorem whole42 (hC : Clo B R gt gp ct cp) (hs : ∀ x, x ∈ s → x < 256) (hl : s.length ≤ 900000) {x : σ} {c : Chk} (hR : R x c) :
    CT Try.prog false 42 [rdP rd] [rdC rd s 0 (.ofNat 200) 0 (.fn gt [] ct) (.fn gp [] cp), c] (V42 (dec B s 200 x 0 200) R rd s (.fn gt [] ct) (.fn gp [] cp)) := by
  have k := value62 (rd := rd) (nd := 0) hC hs hl 200 (x := x) (a := 0) (l := 200) (Nat.le_refl _) (Nat.zero_le _) hR (by omega)
  refine CT.enterS mixed comp42 (Nat.le_of_ble_eq_true rfl) ?_
  repeat' (first|refine zz ?_|(refine zw ?_;refine And.intro ?_ ?_<;>intro hc)|(refine zv ?_;intro cv hv)|(refine za ?_;intro _)|refine zc ?_|(refine zd ?_;refine And.intro ?_ ?_<;>(intro e;(try simp only [Bool.not_eq_true',Bool.not_eq_false'] at e);subst e;try contradiction)))
  refine Rg.callM rfl k (.cons (.there (.here)) (.cons (.there (.here)) (.nil))) ?_
  rintro _ _ (⟨v, x1, a1, l1, m1, c1, hv, rfl, hR1, rfl⟩ | ⟨hv, v, a2, l2, nd2, c2, rfl, rfl⟩)
  · obtain ⟨g1, g2, g3, g4⟩ := dec_le hv
    by_cases ha : a1 = s.length
    · subst ha
      repeat' (first|refine zz ?_|(refine zw ?_;refine And.intro ?_ ?_<;>intro hc)|(refine zv ?_;intro cv hv)|(refine za ?_;intro _)|refine zc ?_|(refine zd ?_;refine And.intro ?_ ?_<;>(intro e;(try simp only [Bool.not_eq_true',Bool.not_eq_false'] at e);subst e;try contradiction)))
      refine Dw.e (Ef.storeW rfl rfl (.there (.there (.there Upd.here))) rfl (Nat.le_of_ble_eq_true rfl) rfl) ?_
      rintro _ _ ⟨rfl, rfl⟩
      refine ⟨by repeat (first | exact trivial | refine rdsB rfl ?_ | (refine rdsR ?_ ?_; (focus (first | assumption | (refine Rdk.b1 (cs := ?_) ?_ ?_; rotate_left; (repeat (first | exact InK.here | refine InK.there ?_)); exact rfl) | (refine Rdk.bw ?_ ?_; (repeat (first | exact InK.here | refine InK.there ?_)); first | assumption | exact rfl) | (refine Rdk.bn ?_ ?_; (repeat (first | exact InK.here | refine InK.there ?_)); exact rfl) | (refine Rdk.in ?_; first | assumption | exact rfl) | exact Rdk.i1)))), ?_⟩
      repeat' (first|refine zz ?_|(refine zw ?_;refine And.intro ?_ ?_<;>intro hc)|(refine zv ?_;intro cv hv)|(refine za ?_;intro _)|refine zc ?_|(refine zd ?_;refine And.intro ?_ ?_<;>(intro e;(try simp only [Bool.not_eq_true',Bool.not_eq_false'] at e);subst e;try contradiction)))
      (first|refine ⟨.inr rfl,_,.t rfl .nil,?_⟩|refine ⟨.inr rfl,_,.t rfl (.t rfl .nil),?_⟩|refine ⟨.inr rfl,_,.t rfl (.t rfl (.t rfl .nil)),?_⟩|refine ⟨.inr rfl,_,.nil,?_⟩|refine ⟨.inl rfl,_,.t rfl .nil,?_⟩|refine ⟨.inl rfl,_,.nil,?_⟩|refine ⟨.inr rfl,_,.cn rfl (by exact zN) .nil,?_⟩|refine ⟨.inr rfl,_,.cn rfl (by exact zN) (.t rfl .nil),?_⟩)
      exact ⟨_, _, (.cons (.there (.here)) (.cons (.there (.here)) (.nil))), .inl ⟨v, x1, l1, m1, c1, hv, rfl, hR1, by rw [Nat.zero_add]⟩⟩
    · repeat' (first|refine zz ?_|(refine zw ?_;refine And.intro ?_ ?_<;>intro hc)|(refine zv ?_;intro cv hv)|(refine za ?_;intro _)|refine zc ?_|(refine zd ?_;refine And.intro ?_ ?_<;>(intro e;(try simp only [Bool.not_eq_true',Bool.not_eq_false'] at e);subst e;try contradiction)))
      refine Dw.e (Ef.storeW rfl rfl (.there (.there (.there Upd.here))) rfl (Nat.le_of_ble_eq_true rfl) rfl) ?_
      rintro _ _ ⟨rfl, rfl⟩
      refine ⟨by repeat (first | exact trivial | refine rdsB rfl ?_ | (refine rdsR ?_ ?_; (focus (first | assumption | (refine Rdk.b1 (cs := ?_) ?_ ?_; rotate_left; (repeat (first | exact InK.here | refine InK.there ?_)); exact rfl) | (refine Rdk.bw ?_ ?_; (repeat (first | exact InK.here | refine InK.there ?_)); first | assumption | exact rfl) | (refine Rdk.bn ?_ ?_; (repeat (first | exact InK.here | refine InK.there ?_)); exact rfl) | (refine Rdk.in ?_; first | assumption | exact rfl) | exact Rdk.i1)))), ?_⟩
      repeat' (first|refine zz ?_|(refine zw ?_;refine And.intro ?_ ?_<;>intro hc)|(refine zv ?_;intro cv hv)|(refine za ?_;intro _)|refine zc ?_|(refine zd ?_;refine And.intro ?_ ?_<;>(intro e;(try simp only [Bool.not_eq_true',Bool.not_eq_false'] at e);subst e;try contradiction)))
      (first|refine ⟨.inr rfl,_,.t rfl .nil,?_⟩|refine ⟨.inr rfl,_,.t rfl (.t rfl .nil),?_⟩|refine ⟨.inr rfl,_,.t rfl (.t rfl (.t rfl .nil)),?_⟩|refine ⟨.inr rfl,_,.nil,?_⟩|refine ⟨.inl rfl,_,.t rfl .nil,?_⟩|refine ⟨.inl rfl,_,.nil,?_⟩|refine ⟨.inr rfl,_,.cn rfl (by exact zN) .nil,?_⟩|refine ⟨.inr rfl,_,.cn rfl (by exact zN) (.t rfl .nil),?_⟩)
      exact ⟨_, _, (.cons (.there (.here)) (.cons (.there (.here)) (.nil))), .inr ⟨fun v x l m e => (by rw [e] at hv; cases hv; exact ha rfl), v, _, _, rfl, rfl⟩⟩
  · repeat' (first|refine zz ?_|(refine zw ?_;refine And.intro ?_ ?_<;>intro hc)|(refine zv ?_;intro cv hv)|(refine za ?_;intro _)|refine zc ?_|(refine zd ?_;refine And.intro ?_ ?_<;>(intro e;(try simp only [Bool.not_eq_true',Bool.not_eq_false'] at e);subst e;try contradiction)))
    refine Dw.e (Ef.storeW rfl rfl (.there (.there (.there Upd.here))) rfl (Nat.le_of_ble_eq_true rfl) rfl) ?_
    rintro _ _ ⟨rfl, rfl⟩
    refine ⟨by repeat (first | exact trivial | refine rdsB rfl ?_ | (refine rdsR ?_ ?_; (focus (first | assumption | (refine Rdk.b1 (cs := ?_) ?_ ?_; rotate_left; (repeat (first | exact InK.here | refine InK.there ?_)); exact rfl) | (refine Rdk.bw ?_ ?_; (repeat (first | exact InK.here | refine InK.there ?_)); first | assumption | exact rfl) | (refine Rdk.bn ?_ ?_; (repeat (first | exact InK.here | refine InK.there ?_)); exact rfl) | (refine Rdk.in ?_; first | assumption | exact rfl) | exact Rdk.i1)))), ?_⟩
    repeat' (first|refine zz ?_|(refine zw ?_;refine And.intro ?_ ?_<;>intro hc)|(refine zv ?_;intro cv hv)|(refine za ?_;intro _)|refine zc ?_|(refine zd ?_;refine And.intro ?_ ?_<;>(intro e;(try simp only [Bool.not_eq_true',Bool.not_eq_false'] at e);subst e;try contradiction)))
    (first|refine ⟨.inr rfl,_,.t rfl .nil,?_⟩|refine ⟨.inr rfl,_,.t rfl (.t rfl .nil),?_⟩|refine ⟨.inr rfl,_,.t rfl (.t rfl (.t rfl .nil)),?_⟩|refine ⟨.inr rfl,_,.nil,?_⟩|refine ⟨.inl rfl,_,.t rfl .nil,?_⟩|refine ⟨.inl rfl,_,.nil,?_⟩|refine ⟨.inr rfl,_,.cn rfl (by exact zN) .nil,?_⟩|refine ⟨.inr rfl,_,.cn rfl (by exact zN) (.t rfl .nil),?_⟩)
    exact ⟨_, _, (.cons (.there (.here)) (.cons (.there (.here)) (.nil))), .inr ⟨fun v x l m e => (by rw [e] at hv; cases hv), v, _, _, rfl, rfl⟩⟩
end
theorem decU_full (hd : ∃ v x l m, dec openB s 200 () 0 200 = some (v, x, s.length, l, m)) : rightB s = true ∧ ∃ v x l m, dec openB s 200 () 0 200 = some (v, x, s.length, l, m) ∧ needsN s = m := by
  obtain ⟨v, x, l, m, hd⟩ := hd
  refine ⟨?_, v, x, l, m, hd, ?_⟩
  · unfold rightB decU; rw [hd]; simp
  · unfold needsN decU; rw [hd]; simp
theorem decU_no (hd : ∀ v x l m, dec openB s 200 () 0 200 ≠ some (v, x, s.length, l, m)) : rightB s = false ∧ needsN s = 0 := by
  unfold rightB needsN decU
  cases h : dec openB s 200 () 0 200 with
  | none => exact ⟨rfl, rfl⟩
  | some p =>
    obtain ⟨v, x, a, l, m⟩ := p
    have ha : a ≠ s.length := by
      rintro rfl
      exact hd _ _ _ _ h
    exact ⟨by simp [ha], by simp [ha]⟩
theorem right14 (hs : ∀ x, x ∈ s → x < 256) (hl : s.length ≤ 900000) : PT Try.prog false 14 [.str s] (.bool (rightB s)) := by
  refine PT.of (CT.enter mixed comp14 (Nat.le_of_ble_eq_true rfl) ?_)
  refine Cd.perm (K2 := [[]]) (.refl _) ?_
  repeat' (first|refine zz ?_|(refine zw ?_;refine And.intro ?_ ?_<;>intro hc)|(refine zv ?_;intro cv hv)|(refine za ?_;intro _)|refine zc ?_|(refine zd ?_;refine And.intro ?_ ?_<;>(intro e;(try simp only [Bool.not_eq_true',Bool.not_eq_false'] at e);subst e;try contradiction)))
  refine Rg.callM (m := []) rfl open41 .nil ?_
  rintro _ _ ⟨rd, rfl, rfl⟩
  have k := whole42 (rd := rd) openC hs hl (x := ()) (c := []) rfl
  refine Rg.callM rfl k (.cons (.here) (.cons (.here) (.nil))) ?_
  rintro _ _ (⟨v, x, l, m, c, hd, rfl, _, rfl⟩ | ⟨hd, v, rc, c2, rfl, rfl⟩)
  · rw [(decU_full ⟨v, x, l, m, hd⟩).1]
    repeat' (first|refine zz ?_|(refine zw ?_;refine And.intro ?_ ?_<;>intro hc)|(refine zv ?_;intro cv hv)|(refine za ?_;intro _)|refine zc ?_|(refine zd ?_;refine And.intro ?_ ?_<;>(intro e;(try simp only [Bool.not_eq_true',Bool.not_eq_false'] at e);subst e;try contradiction)))
    (first|refine ⟨.inr rfl,_,.t rfl .nil,?_⟩|refine ⟨.inr rfl,_,.t rfl (.t rfl .nil),?_⟩|refine ⟨.inr rfl,_,.t rfl (.t rfl (.t rfl .nil)),?_⟩|refine ⟨.inr rfl,_,.nil,?_⟩|refine ⟨.inl rfl,_,.t rfl .nil,?_⟩|refine ⟨.inl rfl,_,.nil,?_⟩|refine ⟨.inr rfl,_,.cn rfl (by exact zN) .nil,?_⟩|refine ⟨.inr rfl,_,.cn rfl (by exact zN) (.t rfl .nil),?_⟩)
    rfl
  · rw [(decU_no hd).1]
    repeat' (first|refine zz ?_|(refine zw ?_;refine And.intro ?_ ?_<;>intro hc)|(refine zv ?_;intro cv hv)|(refine za ?_;intro _)|refine zc ?_|(refine zd ?_;refine And.intro ?_ ?_<;>(intro e;(try simp only [Bool.not_eq_true',Bool.not_eq_false'] at e);subst e;try contradiction)))
    (first|refine ⟨.inr rfl,_,.t rfl .nil,?_⟩|refine ⟨.inr rfl,_,.t rfl (.t rfl .nil),?_⟩|refine ⟨.inr rfl,_,.t rfl (.t rfl (.t rfl .nil)),?_⟩|refine ⟨.inr rfl,_,.nil,?_⟩|refine ⟨.inl rfl,_,.t rfl .nil,?_⟩|refine ⟨.inl rfl,_,.nil,?_⟩|refine ⟨.inr rfl,_,.cn rfl (by exact zN) .nil,?_⟩|refine ⟨.inr rfl,_,.cn rfl (by exact zN) (.t rfl .nil),?_⟩)
    rfl
theorem needs16 (hs : ∀ x, x ∈ s → x < 256) (hl : s.length ≤ 900000) : PT Try.prog false 16 [.str s] (.int .i64 (.ofNat (needsN s))) := by
  refine PT.of (CT.enter mixed comp16 (Nat.le_of_ble_eq_true rfl) ?_)
  refine Cd.perm (K2 := [[]]) (.refl _) ?_
  repeat' (first|refine zz ?_|(refine zw ?_;refine And.intro ?_ ?_<;>intro hc)|(refine zv ?_;intro cv hv)|(refine za ?_;intro _)|refine zc ?_|(refine zd ?_;refine And.intro ?_ ?_<;>(intro e;(try simp only [Bool.not_eq_true',Bool.not_eq_false'] at e);subst e;try contradiction)))
  refine Rg.callM (m := []) rfl open41 .nil ?_
  rintro _ _ ⟨rd, rfl, rfl⟩
  repeat' (first|refine zz ?_|(refine zw ?_;refine And.intro ?_ ?_<;>intro hc)|(refine zv ?_;intro cv hv)|(refine za ?_;intro _)|refine zc ?_|(refine zd ?_;refine And.intro ?_ ?_<;>(intro e;(try simp only [Bool.not_eq_true',Bool.not_eq_false'] at e);subst e;try contradiction)))
  have k := whole42 (rd := rd) openC hs hl (x := ()) (c := []) rfl
  refine Rg.callM rfl k (.cons (.here) (.cons (.here) (.nil))) ?_
  rintro _ _ (⟨v, x, l, m, c, hd, rfl, _, rfl⟩ | ⟨hd, v, rc, c2, rfl, rfl⟩)
  · have h2 : needsN s = m := by
      unfold needsN decU; rw [hd]; simp
    rw [h2]
    repeat' (first|refine zz ?_|(refine zw ?_;refine And.intro ?_ ?_<;>intro hc)|(refine zv ?_;intro cv hv)|(refine za ?_;intro _)|refine zc ?_|(refine zd ?_;refine And.intro ?_ ?_<;>(intro e;(try simp only [Bool.not_eq_true',Bool.not_eq_false'] at e);subst e;try contradiction)))
    (first|refine ⟨.inr rfl,_,.t rfl .nil,?_⟩|refine ⟨.inr rfl,_,.t rfl (.t rfl .nil),?_⟩|refine ⟨.inr rfl,_,.t rfl (.t rfl (.t rfl .nil)),?_⟩|refine ⟨.inr rfl,_,.nil,?_⟩|refine ⟨.inl rfl,_,.t rfl .nil,?_⟩|refine ⟨.inl rfl,_,.nil,?_⟩|refine ⟨.inr rfl,_,.cn rfl (by exact zN) .nil,?_⟩|refine ⟨.inr rfl,_,.cn rfl (by exact zN) (.t rfl .nil),?_⟩)
    rfl
  · rw [(decU_no hd).2]
    repeat' (first|refine zz ?_|(refine zw ?_;refine And.intro ?_ ?_<;>intro hc)|(refine zv ?_;intro cv hv)|(refine za ?_;intro _)|refine zc ?_|(refine zd ?_;refine And.intro ?_ ?_<;>(intro e;(try simp only [Bool.not_eq_true',Bool.not_eq_false'] at e);subst e;try contradiction)))
    (first|refine ⟨.inr rfl,_,.t rfl .nil,?_⟩|refine ⟨.inr rfl,_,.t rfl (.t rfl .nil),?_⟩|refine ⟨.inr rfl,_,.t rfl (.t rfl (.t rfl .nil)),?_⟩|refine ⟨.inr rfl,_,.nil,?_⟩|refine ⟨.inl rfl,_,.t rfl .nil,?_⟩|refine ⟨.inl rfl,_,.nil,?_⟩|refine ⟨.inr rfl,_,.cn rfl (by exact zN) .nil,?_⟩|refine ⟨.inr rfl,_,.cn rfl (by exact zN) (.t rfl .nil),?_⟩)
    rfl
end
end Go.Proofs.Ytlflpjjmkigepaa

namespace Go.Proofs.Ytlflpjjmkigepaa
open Go Go.Abs
attribute [local irreducible] Cmp Rg Dw Cd Lp Ev Rdk CT Upd InK
theorem known11r : PT Try.prog false 11 [] (.bool true) := PT.run plain0 (by kernel_rfl) rfl rfl
end Go.Proofs.Ytlflpjjmkigepaa

namespace Go.Proofs.Ytlflpjjmkigepaa
open Go Go.Abs
section
variable {s : List Nat} {f : Nat} {gU : Unit → Nat → Nat → DR Unit} {gH : MH → Nat → Nat → DR MH}
end
end Go.Proofs.Ytlflpjjmkigepaa

namespace Go.Proofs.Ytlflpjjmkigepaa
open Go Go.Abs
attribute [local irreducible] Cmp Rg Dw Cd Lp Ev Rdk CT Upd InK
section
variable {r : Nat} {fs : List OS} {s : List Nat}
end
end Go.Proofs.Ytlflpjjmkigepaa
