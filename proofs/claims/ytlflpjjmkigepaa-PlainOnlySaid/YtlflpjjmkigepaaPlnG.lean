/- The document goes over a value's bytes. -/
import Derived.Test.YtlflpjjmkigepaaPlnF
import Derived.Test.YtlflpjjmkigepaaPlnE
set_option autoImplicit false
set_option maxRecDepth 900000
set_option maxHeartbeats 4000000
set_option linter.unusedVariables false
set_option linter.unusedSimpArgs false
set_option maxRecDepth 100000
namespace Go.Proofs.Ytlflpjjmkigepaa
open Go Go.Abs
attribute [local irreducible] Cmp Rg Dw Cd Lp Ev Rdk CT Upd InK
section
variable {σ : Type} {B : Bld σ} {s : List Nat}
end
section
variable {s : List Nat}
end
end Go.Proofs.Ytlflpjjmkigepaa

namespace Go.Proofs.Ytlflpjjmkigepaa
open Go Go.Abs
attribute [local irreducible] Cmp Rg Dw Cd Lp Ev Rdk CT Upd InK
def decU (s : List Nat) : DR Unit := dec openB s 200 () 0 200
def rightB (s : List Nat) : Bool := match decU s with
  | some (_, _, a, _, _) => decide (a = s.length)
  | none => false
def needsN (s : List Nat) : Nat := match decU s with
  | some (_, _, a, _, m) => if a = s.length then m else 0
  | none => 0
section
variable {s : List Nat}
theorem open41 : CT Try.prog false 41 [.str s] [] fun w K' => ∃ rd, w = rdP rd ∧ K' = [rdC rd s 0 (.ofNat 200) 0 (.fn 60 [] []) (.fn 61 [] [])] := by
  refine CT.enterS mixed comp41 (Nat.le_of_ble_eq_true rfl) ?_
  repeat' (first|refine zz ?_|(refine zw ?_;refine And.intro ?_ ?_<;>intro hc)|(refine zv ?_;intro cv hv)|(refine za ?_;intro _)|refine zc ?_|(refine zd ?_;refine And.intro ?_ ?_<;>(intro e;(try simp only [Bool.not_eq_true',Bool.not_eq_false'] at e);subst e;try contradiction)))
  (first|refine ⟨.inr rfl,_,.t rfl .nil,?_⟩|refine ⟨.inr rfl,_,.t rfl (.t rfl .nil),?_⟩|refine ⟨.inr rfl,_,.t rfl (.t rfl (.t rfl .nil)),?_⟩|refine ⟨.inr rfl,_,.nil,?_⟩|refine ⟨.inl rfl,_,.t rfl .nil,?_⟩|refine ⟨.inl rfl,_,.nil,?_⟩|refine ⟨.inr rfl,_,.cn rfl (by exact zN) .nil,?_⟩|refine ⟨.inr rfl,_,.cn rfl (by exact zN) (.t rfl .nil),?_⟩)
  exact ⟨_, _, (.cons (.here) (.nil)), _, rfl, rfl⟩
def openR (x : Unit) (c : Chk) : Prop := c = []
theorem openC : Clo openB openR 60 61 [] [] := by
  refine ⟨?_, ?_⟩
  · rintro x c rfl
    refine CT.enterS mixed comp60 (Nat.le_of_ble_eq_true rfl) ?_
    repeat' (first|refine zz ?_|(refine zw ?_;refine And.intro ?_ ?_<;>intro hc)|(refine zv ?_;intro cv hv)|(refine za ?_;intro _)|refine zc ?_|(refine zd ?_;refine And.intro ?_ ?_<;>(intro e;(try simp only [Bool.not_eq_true',Bool.not_eq_false'] at e);subst e;try contradiction)))
    (first|refine ⟨.inr rfl,_,.t rfl .nil,?_⟩|refine ⟨.inr rfl,_,.t rfl (.t rfl .nil),?_⟩|refine ⟨.inr rfl,_,.t rfl (.t rfl (.t rfl .nil)),?_⟩|refine ⟨.inr rfl,_,.nil,?_⟩|refine ⟨.inl rfl,_,.t rfl .nil,?_⟩|refine ⟨.inl rfl,_,.nil,?_⟩|refine ⟨.inr rfl,_,.cn rfl (by exact zN) .nil,?_⟩|refine ⟨.inr rfl,_,.cn rfl (by exact zN) (.t rfl .nil),?_⟩)
    exact ⟨_, _, (.cons (.there (.here)) (.nil)), rfl, _, rfl, rfl⟩
  · rintro x c t k v rfl _ _
    refine CT.enterS mixed comp61 (Nat.le_of_ble_eq_true rfl) ?_
    repeat' (first|refine zz ?_|(refine zw ?_;refine And.intro ?_ ?_<;>intro hc)|(refine zv ?_;intro cv hv)|(refine za ?_;intro _)|refine zc ?_|(refine zd ?_;refine And.intro ?_ ?_<;>(intro e;(try simp only [Bool.not_eq_true',Bool.not_eq_false'] at e);subst e;try contradiction)))
    (first|refine ⟨.inr rfl,_,.t rfl .nil,?_⟩|refine ⟨.inr rfl,_,.t rfl (.t rfl .nil),?_⟩|refine ⟨.inr rfl,_,.t rfl (.t rfl (.t rfl .nil)),?_⟩|refine ⟨.inr rfl,_,.nil,?_⟩|refine ⟨.inl rfl,_,.t rfl .nil,?_⟩|refine ⟨.inl rfl,_,.nil,?_⟩|refine ⟨.inr rfl,_,.cn rfl (by exact zN) .nil,?_⟩|refine ⟨.inr rfl,_,.cn rfl (by exact zN) (.t rfl .nil),?_⟩)
    exact ⟨_, _, (.cons (.there (.there (.there (.here)))) (.nil)), rfl, _, rfl, rfl⟩
section
variable {σ : Type} {B : Bld σ} {R : σ → Chk → Prop} {gt gp : FuncId} {ct cp : List AV} {rd : Nat}
def V42 (d : DR σ) (R : σ → Chk → Prop) (rd : Nat) (s : List Nat) (tf pf : AV) (w : AV) (K' : Mem) : Prop :=
  (∃ v x' l' m c', d = some (v, x', s.length, l', m) ∧ w = .tup [valA v, .bool true] ∧ R x' c' ∧ K' = [rdC rd s s.length (.ofNat l') m tf pf, c']) ∨ ((∀ v x' l' m, d ≠ some (v, x', s.length, l', m)) ∧ ∃ v rc c2, w = .tup [valA v, .bool false] ∧ K' = [rc, c2])
theorem whole42 (hC : Clo B R gt gp ct cp) (hs : ∀ x, x ∈ s → x < 256) (hl : s.length ≤ 900000) {x : σ} {c : Chk} (hR : R x c) :
    CT Try.prog false 42 [rdP rd] [rdC rd s 0 (.ofNat 200) 0 (.fn gt [] ct) (.fn gp [] cp), c] (V42 (dec B s 200 x 0 200) R rd s (.fn gt [] ct) (.fn gp [] cp)) := by
  have k := value62 (rd := rd) (nd := 0) hC hs hl 200 (x := x) (a := 0) (l := 200) (Nat.le_refl _) (Nat.zero_le _) hR (by omega)
  refine CT.enterS mixed comp42 (Nat.le_of_ble_eq_true rfl) ?_
  repeat' (first|refine zz ?_|(refine zw ?_;refine And.intro ?_ ?_<;>intro hc)|(refine zv ?_;intro cv hv)|(refine za ?_;intro _)|refine zc ?_|(refine zd ?_;refine And.intro ?_ ?_<;>(intro e;(try simp only [Bool.not_eq_true',Bool.not_eq_false'] at e);subst e;try contradiction)))
  refine Rg.callM rfl k (.cons (.there (.here)) (.cons (.there (.here)) (.nil))) ?_
  rintro _ _ (⟨v, x1, a1, l1, m1, c1, hv, rfl, hR1, rfl⟩ | ⟨hv, v, a2, l2, nd2, c2, rfl, rfl⟩)
  · obtain ⟨g1, g2, g3, g4⟩ := dec_le hv
    by_cases ha : a1 = s.length
    · subst ha
      repeat' (first|refine zz ?_|(refine zw ?_;refine And.intro ?_ ?_<;>intro hc)|(refine zv ?_;intro cv hv)|(refine za ?_;intro _)|refine zc ?_|(refine zd ?_;refine And.intro ?_ ?_<;>(intro e;(try simp only [Bool.not_eq_true',Bool.not_eq_false'] at e);subst e;try contradiction)))
      refine Dw.e (Ef.storeW rfl rfl (.there (.there (.there Upd.here))) rfl (Nat.le_of_ble_eq_true rfl) rfl) ?_
      rintro _ _ ⟨rfl, rfl⟩
      refine ⟨by repeat (first | exact trivial | refine rdsB rfl ?_ | (refine rdsR ?_ ?_; (focus (first | assumption | (refine Rdk.b1 (cs := ?_) ?_ ?_; rotate_left; (repeat (first | exact InK.here | refine InK.there ?_)); exact rfl) | (refine Rdk.bw ?_ ?_; (repeat (first | exact InK.here | refine InK.there ?_)); first | assumption | exact rfl) | (refine Rdk.bn ?_ ?_; (repeat (first | exact InK.here | refine InK.there ?_)); exact rfl) | (refine Rdk.in ?_; first | assumption | exact rfl) | exact Rdk.i1)))), ?_⟩
      repeat' (first|refine zz ?_|(refine zw ?_;refine And.intro ?_ ?_<;>intro hc)|(refine zv ?_;intro cv hv)|(refine za ?_;intro _)|refine zc ?_|(refine zd ?_;refine And.intro ?_ ?_<;>(intro e;(try simp only [Bool.not_eq_true',Bool.not_eq_false'] at e);subst e;try contradiction)))
      (first|refine ⟨.inr rfl,_,.t rfl .nil,?_⟩|refine ⟨.inr rfl,_,.t rfl (.t rfl .nil),?_⟩|refine ⟨.inr rfl,_,.t rfl (.t rfl (.t rfl .nil)),?_⟩|refine ⟨.inr rfl,_,.nil,?_⟩|refine ⟨.inl rfl,_,.t rfl .nil,?_⟩|refine ⟨.inl rfl,_,.nil,?_⟩|refine ⟨.inr rfl,_,.cn rfl (by exact zN) .nil,?_⟩|refine ⟨.inr rfl,_,.cn rfl (by exact zN) (.t rfl .nil),?_⟩)
      exact ⟨_, _, (.cons (.there (.here)) (.cons (.there (.here)) (.nil))), .inl ⟨v, x1, l1, m1, c1, hv, rfl, hR1, by rw [Nat.zero_add]⟩⟩
    · repeat' (first|refine zz ?_|(refine zw ?_;refine And.intro ?_ ?_<;>intro hc)|(refine zv ?_;intro cv hv)|(refine za ?_;intro _)|refine zc ?_|(refine zd ?_;refine And.intro ?_ ?_<;>(intro e;(try simp only [Bool.not_eq_true',Bool.not_eq_false'] at e);subst e;try contradiction)))
      refine Dw.e (Ef.storeW rfl rfl (.there (.there (.there Upd.here))) rfl (Nat.le_of_ble_eq_true rfl) rfl) ?_
      rintro _ _ ⟨rfl, rfl⟩
      refine ⟨by repeat (first | exact trivial | refine rdsB rfl ?_ | (refine rdsR ?_ ?_; (focus (first | assumption | (refine Rdk.b1 (cs := ?_) ?_ ?_; rotate_left; (repeat (first | exact InK.here | refine InK.there ?_)); exact rfl) | (refine Rdk.bw ?_ ?_; (repeat (first | exact InK.here | refine InK.there ?_)); first | assumption | exact rfl) | (refine Rdk.bn ?_ ?_; (repeat (first | exact InK.here | refine InK.there ?_)); exact rfl) | (refine Rdk.in ?_; first | assumption | exact rfl) | exact Rdk.i1)))), ?_⟩
      repeat' (first|refine zz ?_|(refine zw ?_;refine And.intro ?_ ?_<;>intro hc)|(refine zv ?_;intro cv hv)|(refine za ?_;intro _)|refine zc ?_|(refine zd ?_;refine And.intro ?_ ?_<;>(intro e;(try simp only [Bool.not_eq_true',Bool.not_eq_false'] at e);subst e;try contradiction)))
      (first|refine ⟨.inr rfl,_,.t rfl .nil,?_⟩|refine ⟨.inr rfl,_,.t rfl (.t rfl .nil),?_⟩|refine ⟨.inr rfl,_,.t rfl (.t rfl (.t rfl .nil)),?_⟩|refine ⟨.inr rfl,_,.nil,?_⟩|refine ⟨.inl rfl,_,.t rfl .nil,?_⟩|refine ⟨.inl rfl,_,.nil,?_⟩|refine ⟨.inr rfl,_,.cn rfl (by exact zN) .nil,?_⟩|refine ⟨.inr rfl,_,.cn rfl (by exact zN) (.t rfl .nil),?_⟩)
      exact ⟨_, _, (.cons (.there (.here)) (.cons (.there (.here)) (.nil))), .inr ⟨fun v x l m e => (by rw [e] at hv; cases hv; exact ha rfl), v, _, _, rfl, rfl⟩⟩
  · repeat' (first|refine zz ?_|(refine zw ?_;refine And.intro ?_ ?_<;>intro hc)|(refine zv ?_;intro cv hv)|(refine za ?_;intro _)|refine zc ?_|(refine zd ?_;refine And.intro ?_ ?_<;>(intro e;(try simp only [Bool.not_eq_true',Bool.not_eq_false'] at e);subst e;try contradiction)))
    refine Dw.e (Ef.storeW rfl rfl (.there (.there (.there Upd.here))) rfl (Nat.le_of_ble_eq_true rfl) rfl) ?_
    rintro _ _ ⟨rfl, rfl⟩
    refine ⟨by repeat (first | exact trivial | refine rdsB rfl ?_ | (refine rdsR ?_ ?_; (focus (first | assumption | (refine Rdk.b1 (cs := ?_) ?_ ?_; rotate_left; (repeat (first | exact InK.here | refine InK.there ?_)); exact rfl) | (refine Rdk.bw ?_ ?_; (repeat (first | exact InK.here | refine InK.there ?_)); first | assumption | exact rfl) | (refine Rdk.bn ?_ ?_; (repeat (first | exact InK.here | refine InK.there ?_)); exact rfl) | (refine Rdk.in ?_; first | assumption | exact rfl) | exact Rdk.i1)))), ?_⟩
    repeat' (first|refine zz ?_|(refine zw ?_;refine And.intro ?_ ?_<;>intro hc)|(refine zv ?_;intro cv hv)|(refine za ?_;intro _)|refine zc ?_|(refine zd ?_;refine And.intro ?_ ?_<;>(intro e;(try simp only [Bool.not_eq_true',Bool.not_eq_false'] at e);subst e;try contradiction)))
    (first|refine ⟨.inr rfl,_,.t rfl .nil,?_⟩|refine ⟨.inr rfl,_,.t rfl (.t rfl .nil),?_⟩|refine ⟨.inr rfl,_,.t rfl (.t rfl (.t rfl .nil)),?_⟩|refine ⟨.inr rfl,_,.nil,?_⟩|refine ⟨.inl rfl,_,.t rfl .nil,?_⟩|refine ⟨.inl rfl,_,.nil,?_⟩|refine ⟨.inr rfl,_,.cn rfl (by exact zN) .nil,?_⟩|refine ⟨.inr rfl,_,.cn rfl (by exact zN) (.t rfl .nil),?_⟩)
    exact ⟨_, _, (.cons (.there (.here)) (.cons (.there (.here)) (.nil))), .inr ⟨fun v x l m e => (by rw [e] at hv; cases hv), v, _, _, rfl, rfl⟩⟩
end
theorem decU_full (hd : ∃ v x l m, dec openB s 200 () 0 200 = some (v, x, s.length, l, m)) : rightB s = true ∧ ∃ v x l m, dec openB s 200 () 0 200 = some (v, x, s.length, l, m) ∧ needsN s = m := by
  obtain ⟨v, x, l, m, hd⟩ := hd
  refine ⟨?_, v, x, l, m, hd, ?_⟩
  · unfold rightB decU; rw [hd]; simp
  · unfold needsN decU; rw [hd]; simp
theorem decU_no (hd : ∀ v x l m, dec openB s 200 () 0 200 ≠ some (v, x, s.length, l, m)) : rightB s = false ∧ needsN s = 0 := by
  unfold rightB needsN decU
  cases h : dec openB s 200 () 0 200 with
  | none => exact ⟨rfl, rfl⟩
  | some p =>
    obtain ⟨v, x, a, l, m⟩ := p
    have ha : a ≠ s.length := by
      rintro rfl
      exact hd _ _ _ _ h
    exact ⟨by simp [ha], by simp [ha]⟩
theorem right14 (hs : ∀ x, x ∈ s → x < 256) (hl : s.length ≤ 900000) : PT Try.prog false 14 [.str s] (.bool (rightB s)) := by
  refine PT.of (CT.enter mixed comp14 (Nat.le_of_ble_eq_true rfl) ?_)
  refine Cd.perm (K2 := [[]]) (.refl _) ?_
  repeat' (first|refine zz ?_|(refine zw ?_;refine And.intro ?_ ?_<;>intro hc)|(refine zv ?_;intro cv hv)|(refine za ?_;intro _)|refine zc ?_|(refine zd ?_;refine And.intro ?_ ?_<;>(intro e;(try simp only [Bool.not_eq_true',Bool.not_eq_false'] at e);subst e;try contradiction)))
  refine Rg.callM (m := []) rfl open41 .nil ?_
  rintro _ _ ⟨rd, rfl, rfl⟩
  have k := whole42 (rd := rd) openC hs hl (x := ()) (c := []) rfl
  refine Rg.callM rfl k (.cons (.here) (.cons (.here) (.nil))) ?_
  rintro _ _ (⟨v, x, l, m, c, hd, rfl, _, rfl⟩ | ⟨hd, v, rc, c2, rfl, rfl⟩)
  · rw [(decU_full ⟨v, x, l, m, hd⟩).1]
    repeat' (first|refine zz ?_|(refine zw ?_;refine And.intro ?_ ?_<;>intro hc)|(refine zv ?_;intro cv hv)|(refine za ?_;intro _)|refine zc ?_|(refine zd ?_;refine And.intro ?_ ?_<;>(intro e;(try simp only [Bool.not_eq_true',Bool.not_eq_false'] at e);subst e;try contradiction)))
    (first|refine ⟨.inr rfl,_,.t rfl .nil,?_⟩|refine ⟨.inr rfl,_,.t rfl (.t rfl .nil),?_⟩|refine ⟨.inr rfl,_,.t rfl (.t rfl (.t rfl .nil)),?_⟩|refine ⟨.inr rfl,_,.nil,?_⟩|refine ⟨.inl rfl,_,.t rfl .nil,?_⟩|refine ⟨.inl rfl,_,.nil,?_⟩|refine ⟨.inr rfl,_,.cn rfl (by exact zN) .nil,?_⟩|refine ⟨.inr rfl,_,.cn rfl (by exact zN) (.t rfl .nil),?_⟩)
    rfl
  · rw [(decU_no hd).1]
    repeat' (first|refine zz ?_|(refine zw ?_;refine And.intro ?_ ?_<;>intro hc)|(refine zv ?_;intro cv hv)|(refine za ?_;intro _)|refine zc ?_|(refine zd ?_;refine And.intro ?_ ?_<;>(intro e;(try simp only [Bool.not_eq_true',Bool.not_eq_false'] at e);subst e;try contradiction)))
    (first|refine ⟨.inr rfl,_,.t rfl .nil,?_⟩|refine ⟨.inr rfl,_,.t rfl (.t rfl .nil),?_⟩|refine ⟨.inr rfl,_,.t rfl (.t rfl (.t rfl .nil)),?_⟩|refine ⟨.inr rfl,_,.nil,?_⟩|refine ⟨.inl rfl,_,.t rfl .nil,?_⟩|refine ⟨.inl rfl,_,.nil,?_⟩|refine ⟨.inr rfl,_,.cn rfl (by exact zN) .nil,?_⟩|refine ⟨.inr rfl,_,.cn rfl (by exact zN) (.t rfl .nil),?_⟩)
    rfl
theorem needs16 (hs : ∀ x, x ∈ s → x < 256) (hl : s.length ≤ 900000) : PT Try.prog false 16 [.str s] (.int .i64 (.ofNat (needsN s))) := by
  refine PT.of (CT.enter mixed comp16 (Nat.le_of_ble_eq_true rfl) ?_)
  refine Cd.perm (K2 := [[]]) (.refl _) ?_
  repeat' (first|refine zz ?_|(refine zw ?_;refine And.intro ?_ ?_<;>intro hc)|(refine zv ?_;intro cv hv)|(refine za ?_;intro _)|refine zc ?_|(refine zd ?_;refine And.intro ?_ ?_<;>(intro e;(try simp only [Bool.not_eq_true',Bool.not_eq_false'] at e);subst e;try contradiction)))
  refine Rg.callM (m := []) rfl open41 .nil ?_
  rintro _ _ ⟨rd, rfl, rfl⟩
  repeat' (first|refine zz ?_|(refine zw ?_;refine And.intro ?_ ?_<;>intro hc)|(refine zv ?_;intro cv hv)|(refine za ?_;intro _)|refine zc ?_|(refine zd ?_;refine And.intro ?_ ?_<;>(intro e;(try simp only [Bool.not_eq_true',Bool.not_eq_false'] at e);subst e;try contradiction)))
  have k := whole42 (rd := rd) openC hs hl (x := ()) (c := []) rfl
  refine Rg.callM rfl k (.cons (.here) (.cons (.here) (.nil))) ?_
  rintro _ _ (⟨v, x, l, m, c, hd, rfl, _, rfl⟩ | ⟨hd, v, rc, c2, rfl, rfl⟩)
  · have h2 : needsN s = m := by
      unfold needsN decU; rw [hd]; simp
    rw [h2]
    repeat' (first|refine zz ?_|(refine zw ?_;refine And.intro ?_ ?_<;>intro hc)|(refine zv ?_;intro cv hv)|(refine za ?_;intro _)|refine zc ?_|(refine zd ?_;refine And.intro ?_ ?_<;>(intro e;(try simp only [Bool.not_eq_true',Bool.not_eq_false'] at e);subst e;try contradiction)))
    (first|refine ⟨.inr rfl,_,.t rfl .nil,?_⟩|refine ⟨.inr rfl,_,.t rfl (.t rfl .nil),?_⟩|refine ⟨.inr rfl,_,.t rfl (.t rfl (.t rfl .nil)),?_⟩|refine ⟨.inr rfl,_,.nil,?_⟩|refine ⟨.inl rfl,_,.t rfl .nil,?_⟩|refine ⟨.inl rfl,_,.nil,?_⟩|refine ⟨.inr rfl,_,.cn rfl (by exact zN) .nil,?_⟩|refine ⟨.inr rfl,_,.cn rfl (by exact zN) (.t rfl .nil),?_⟩)
    rfl
  · rw [(decU_no hd).2]
    repeat' (first|refine zz ?_|(refine zw ?_;refine And.intro ?_ ?_<;>intro hc)|(refine zv ?_;intro cv hv)|(refine za ?_;intro _)|refine zc ?_|(refine zd ?_;refine And.intro ?_ ?_<;>(intro e;(try simp only [Bool.not_eq_true',Bool.not_eq_false'] at e);subst e;try contradiction)))
    (first|refine ⟨.inr rfl,_,.t rfl .nil,?_⟩|refine ⟨.inr rfl,_,.t rfl (.t rfl .nil),?_⟩|refine ⟨.inr rfl,_,.t rfl (.t rfl (.t rfl .nil)),?_⟩|refine ⟨.inr rfl,_,.nil,?_⟩|refine ⟨.inl rfl,_,.t rfl .nil,?_⟩|refine ⟨.inl rfl,_,.nil,?_⟩|refine ⟨.inr rfl,_,.cn rfl (by exact zN) .nil,?_⟩|refine ⟨.inr rfl,_,.cn rfl (by exact zN) (.t rfl .nil),?_⟩)
    rfl
end
end Go.Proofs.Ytlflpjjmkigepaa

namespace Go.Proofs.Ytlflpjjmkigepaa
open Go Go.Abs
attribute [local irreducible] Cmp Rg Dw Cd Lp Ev Rdk CT Upd InK
theorem known11r : PT Try.prog false 11 [] (.bool true) := PT.run plain0 (by kernel_rfl) rfl rfl
end Go.Proofs.Ytlflpjjmkigepaa

namespace Go.Proofs.Ytlflpjjmkigepaa
open Go Go.Abs
/-- What makes tables in a heap. -/
def heapB : Bld MH := ⟨fun H => ((mTable H).1, (mTable H).2.1), fun H t k v => (mPut H t k v).1⟩
/-- The same tables from a number on, up to another one. -/
def Agr (a b : Nat) (H H2 : MH) : Prop := ∀ j, a ≤ j → j < b → H2.tabs[j]? = H.tabs[j]?
structure LdV (s : List Nat) (f : Nat) (H H2 : MH) (v : Val) (a l a2 l2 m : Nat) : Prop where
  wok : WOk H2
  room : H2.room = H.room
  used : H2.used = H.used + m
  tl : H.tabs.length ≤ H2.tabs.length
  old : ∀ j, j < H.tabs.length → H2.tabs[j]? = H.tabs[j]?
  vok : VOk v
  enc : ∀ H3, Agr H.tabs.length H2.tabs.length H2 H3 → enc H3 f v l = some (sgm s a a2, l2, m)
theorem setL_app {k v : Val} {L : List KV} (hv : v.k ≠ 0) (h : ∀ e, e ∈ L → aheadB e.1 k = true) : setL k v L = L ++ [(k, v)] := by
  rw [setL, if_neg hv]
  rw [List.filter_eq_self.2 (fun e he => h e he)]
  congr 2
  rw [List.filter_eq_nil_iff]
  intro e he
  rw [ahead_asym (h e he)]
  decide
theorem mPut_app {H : MH} {i : Nat} {k v : Val} {L : List KV} (hi : i < H.tabs.length) (hL : tabL H i = L) (hk : keyB k = true) (hv : v.k ≠ 0) (h : ∀ e, e ∈ L → aheadB e.1 k = true) (hu : H.used < H.room) (hlu : L.length ≤ H.used) :
    mPut H ⟨3, (i : Int), []⟩ k v = ({ H with used := H.used + 1, tabs := H.tabs.set i (L ++ [(k, v)]) }, 0) := by
  have ht : tabI H ⟨3, (i : Int), []⟩ = some i := by
    unfold tabI
    rw [if_pos ⟨rfl, by simp; omega⟩]; simp
  unfold mPut
  rw [ht]
  simp only [hk, if_true, hL]
  rw [if_neg (fun e => by omega), setL_app hv h]
  simp only [List.length_append, List.length_singleton]
  congr 2
  omega
theorem seg_cons2 {s : List Nat} {a b x : Nat} (h : s[a]? = some x) (hb : a < b) : sgm s a b = x :: sgm s (a + 1) b := by
  rw [← seg_app (s := s) (a := a) (b := a + 1) (c := b) (by omega) (by omega), seg_one h]
  rfl
theorem ScOk.kind2 {v : Val} (h : ScOk v) : v.k = 0 ∨ v.k = 1 ∨ v.k = 2 := by
  rcases h with rfl | ⟨h, _⟩ | ⟨h, _⟩
  · exact .inl rfl
  · exact .inr (.inl h)
  · exact .inr (.inr h)
section
variable {s : List Nat} {f : Nat} {gU : Unit → Nat → Nat → DR Unit} {gH : MH → Nat → Nat → DR MH}
theorem decL_load (hs : ∀ x, x ∈ s → x < 256)
    (hg : ∀ H a l vU a2 l2 m, gU () a l = some (vU, (), a2, l2, m) → WOk H → H.used + m ≤ H.room → H.used + m ≤ 1000 → ∃ v H2, gH H a l = some (v, H2, a2, l2, m) ∧ v.k = vU.k ∧ LdV s f H H2 v a l a2 l2 m)
    (hle : ∀ a l v x1 a1 l1 m, gU () a l = some (v, x1, a1, l1, m) → a < a1 ∧ a1 ≤ s.length ∧ l1 < l ∧ m + 1 ≤ 2 * (l - l1)) {tU : Val} {i : Nat} :
    ∀ {n : Nat} {last : Val} {H : MH} {a l a2 l2 m : Nat} {L0 : List KV}, decL openB s gU tU n last () a l = some ((), a2, l2, m) → a ≤ s.length → WOk H → H.used + n + m ≤ H.room → H.used + n + m ≤ 1000 → i < H.tabs.length → tabL H i = L0 → (∀ e, e ∈ L0 → e.1 = last ∨ aheadB e.1 last = true) →
      ∃ H2 L1, decL heapB s gH ⟨3, (i : Int), []⟩ n last H a l = some (H2, a2, l2, m) ∧ WOk H2 ∧ H2.room = H.room ∧ H2.used = H.used + n + m ∧ H.tabs.length ≤ H2.tabs.length ∧ (∀ j, j < H.tabs.length → j ≠ i → H2.tabs[j]? = H.tabs[j]?) ∧ a ≤ a2 ∧
        tabL H2 i = L0 ++ L1 ∧ L1.length = n ∧ ∀ H3, Agr H.tabs.length H2.tabs.length H2 H3 → encL (enc H3 f) L1 l = some (sgm s a a2, l2, m)
  | 0, last, H, a, l, a2, l2, m, L0, hd, ha, hW, hu1, hu2, hi, hL, hlast => by
    simp only [decL, Option.some.injEq, Prod.mk.injEq] at hd
    obtain ⟨_, rfl, rfl, rfl⟩ := hd
    refine ⟨H, [], rfl, hW, rfl, rfl, Nat.le_refl _, fun _ _ _ => rfl, Nat.le_refl _, by rw [hL, List.append_nil], rfl, fun H3 _ => ?_⟩
    simp [encL, sgm]
  | n + 1, last, H, a, l, a2, l2, m, L0, hd, ha, hW, hu1, hu2, hi, hL, hlast => by
    simp only [decL] at hd
    split at hd
    · cases hd
    · rename_i kv to hk
      split at hd
      · rename_i hah
        split at hd
        · cases hd
        · rename_i vU x1 a1 l1 m1 hgU
          split at hd
          · cases hd
          · rename_i hvU
            split at hd
            · cases hd
            · rename_i x3 a3 l3 m3 hrest
              simp only [Option.some.injEq, Prod.mk.injEq] at hd
              obtain ⟨_, rfl, rfl, rfl⟩ := hd
              obtain ⟨hkS, hkb⟩ := rdK_S hk
              obtain ⟨hsc, hto1, hto2, hkOk⟩ := rdS_sc hs hkS
              obtain ⟨z1, z2, z3, z4⟩ := hle _ _ _ _ _ _ _ hgU
              obtain ⟨v, H1, hgH, hvk, P⟩ := hg H to l vU a1 l1 m1 hgU hW (by omega) (by omega)
              have hv0 : v.k ≠ 0 := by rw [hvk]; exact hvU
              have hold : tabL H1 i = L0 := by rw [tabL, P.old i hi, ← tabL, hL]
              have hi1 : i < H1.tabs.length := Nat.lt_of_lt_of_le hi P.tl
              have hall : ∀ e, e ∈ L0 → aheadB e.1 kv = true := fun e he => by
                rcases hlast e he with h | h
                · rw [h]; exact hah
                · exact ahead_trans h hah
              have hlu : L0.length ≤ H1.used := by
                have := P.wok.ok.tabs _ (tabL_mem hi1)
                rwa [hold] at this
              have hput := mPut_app hi1 hold hkb hv0 hall (by rw [P.used, P.room]; omega) hlu
              have hW2 : WOk (mPut H1 ⟨3, (i : Int), []⟩ kv v).1 := P.wok.put hkOk P.vok (by rw [hput]; show H1.used + 1 ≤ 1000; rw [P.used]; omega)
              rw [hput] at hW2
              have hrest2 : decL openB s gU tU n kv () a1 l1 = some ((), a3, l3, m3) := hrest
              obtain ⟨H2, L1, r1, r2, r3, r4, r5, r6, r7, r8, r9, r10⟩ := decL_load hs hg hle (n := n) (last := kv) (H := { H1 with used := H1.used + 1, tabs := H1.tabs.set i (L0 ++ [(kv, v)]) }) (L0 := L0 ++ [(kv, v)]) hrest2 z2 hW2
                (by show H1.used + 1 + n + m3 ≤ H1.room; rw [P.used, P.room]; omega) (by show H1.used + 1 + n + m3 ≤ 1000; rw [P.used]; omega) (by simpa using hi1) (by simp [tabL, List.getElem?_set_self hi1])
                (fun e he => by
                  rcases List.mem_append.1 he with he | he
                  · exact .inr (hall e he)
                  · rw [List.mem_singleton] at he; rw [he]; exact .inl rfl)
              simp only [List.length_set] at r5 r6 r10
              have hold2 : ∀ j, j < H1.tabs.length → j ≠ i → H2.tabs[j]? = H1.tabs[j]? := fun j hj hji => by
                rw [r6 j hj hji, List.getElem?_set_ne (Ne.symm hji)]
              refine ⟨H2, (kv, v) :: L1, ?_, r2, by rw [r3]; exact P.room, by rw [r4]; show H1.used + 1 + n + m3 = _; rw [P.used]; omega, Nat.le_trans P.tl r5, fun j hj hji => ?_, by omega, by rw [r8, List.append_assoc]; rfl, by simp [r9], fun H3 hA => ?_⟩
              · simp only [decL, hk, hah, if_true, hgH]
                rw [if_neg hv0, show heapB.pt H1 ⟨3, (i : Int), []⟩ kv v = (mPut H1 ⟨3, (i : Int), []⟩ kv v).1 from rfl, hput]
                simp only [r1]
              · rw [hold2 j (Nat.lt_of_lt_of_le hj P.tl) hji, P.old j hj]
              · have e1 := P.enc H3 (fun j h1 h2 => by rw [hA j h1 (by omega), hold2 j h2 (by omega)])
                have e2 := r10 H3 (fun j h1 h2 => hA j (Nat.le_trans P.tl h1) h2)
                simp only [encL, e1, e2, hsc]
                rw [seg_app (by omega) (by omega), seg_app (by omega) (by omega)]
      · cases hd
end
theorem dec_load {s : List Nat} (hs : ∀ x, x ∈ s → x < 256) : ∀ {f : Nat} {H : MH} {a l : Nat} {vU : Val} {a2 l2 m : Nat}, dec openB s f () a l = some (vU, (), a2, l2, m) → WOk H → H.used + m ≤ H.room → H.used + m ≤ 1000 →
    ∃ v H2, dec heapB s f H a l = some (v, H2, a2, l2, m) ∧ v.k = vU.k ∧ LdV s f H H2 v a l a2 l2 m
  | 0, H, a, l, vU, a2, l2, m, hd, _, _, _ => by cases hd
  | f + 1, H, a, 0, vU, a2, l2, m, hd, _, _, _ => by cases hd
  | f + 1, H, a, l + 1, vU, a2, l2, m, hd, hW, hu1, hu2 => by
    simp only [dec] at hd
    split at hd
    · cases hd
    · rename_i c hc
      split at hd
      · rename_i h3
        subst h3
        split at hd
        · rename_i h3l
          split at hd
          · cases hd
          · rename_i x2 a3 l3 m3 h2
            simp only [Option.some.injEq, Prod.mk.injEq] at hd
            obtain ⟨rfl, _, rfl, rfl, rfl⟩ := hd
            have hn := seg_len (s := s) (a := a + 1) (b := a + 3) h3l
            have hleB := leB_deB (seg_lt (a := a + 1) (b := a + 3) hs)
            rw [hn, show a + 3 - (a + 1) = 2 by omega] at hleB
            generalize hng : deB (sgm s (a + 1) (a + 3)) = n at *
            have hT : mTable H = ({ H with used := H.used + 1, tabs := H.tabs ++ [[]] }, ⟨3, H.tabs.length, []⟩, 0) := by
              unfold mTable; rw [if_pos (by omega)]
            have hW1 := hW.table
            rw [hT] at hW1
            obtain ⟨H2, L1, r1, r2, r3, r4, r5, r6, r7, r8, r9, r10⟩ := decL_load (f := f) (gH := dec heapB s f) hs (fun H a l vU a2 l2 m h1 h2 h3 h4 => dec_load hs h1 h2 h3 h4) (fun a l v x1 a1 l1 m h => dec_le h) (n := n) (last := v0) (i := H.tabs.length) (L0 := []) (H := { H with used := H.used + 1, tabs := H.tabs ++ [[]] }) h2 h3l hW1
              (by show H.used + 1 + n + m3 ≤ H.room; omega) (by show H.used + 1 + n + m3 ≤ 1000; omega) (by simp) (by simp [tabL]) (fun e he => by cases he)
            simp only [List.length_append, List.length_singleton] at r5 r6 r10
            rw [List.nil_append] at r8
            refine ⟨⟨3, H.tabs.length, []⟩, H2, ?_, rfl, ⟨r2, r3, by rw [r4]; show H.used + 1 + n + m3 = _; omega, by omega, fun j hj => ?_, .inr ⟨.inl rfl, rfl⟩, fun H3 hA => ?_⟩⟩
            · simp only [dec, hc, if_true, if_pos h3l, hng, show heapB.tb H = ((mTable H).1, (mTable H).2.1) from rfl, hT, r1]
            · rw [r6 j (by omega) (by omega), List.getElem?_append_left hj]
            · have e1 := r10 H3 (fun j h1 h2 => hA j (by omega) h2)
              have hlt : H.tabs.length < H2.tabs.length := by omega
              have e2 := hA H.tabs.length (Nat.le_refl _) hlt
              have hlt3 : H.tabs.length < H3.tabs.length := by
                rw [List.getElem?_eq_getElem hlt] at e2
                exact (List.getElem?_eq_some_iff.1 e2).1
              have e3 : tabL H3 H.tabs.length = L1 := by rw [tabL, e2, ← tabL, r8]
              have ht : tabI H3 ⟨3, (H.tabs.length : Int), []⟩ = some H.tabs.length := by
                unfold tabI
                rw [if_pos ⟨rfl, by simp; omega⟩]; simp
              simp only [enc, if_true, ht, e3, e1, r9, hleB]
              rw [seg_app (by omega) (by omega), ← seg_cons2 hc (by omega)]
        · cases hd
      · rename_i h3
        split at hd
        · cases hd
        · rename_i v to hr
          simp only [Option.some.injEq, Prod.mk.injEq] at hd
          obtain ⟨rfl, _, rfl, rfl, rfl⟩ := hd
          obtain ⟨hsc, h1, h2, hok⟩ := rdS_sc hs hr
          refine ⟨v, H, ?_, rfl, ⟨hW, rfl, rfl, Nat.le_refl _, fun _ _ => rfl, .inl hok, fun H3 _ => ?_⟩⟩
          · simp only [dec, hc, if_neg h3, hr]
          · have := hok.kind2
            simp only [enc]
            rw [if_neg (by omega), if_pos this, hsc]
/-- What Load does. -/
def ldA (H : MH) (s : List Nat) (right : Bool) (needs : Nat) : MH × Val × Nat :=
  if right = false then (H, v0, 11) else if H.room - H.used < needs then (H, v0, 8) else match dec heapB s 200 H 0 200 with
    | some (v, H2, _, _, _) => (H2, v, 0)
    | none => (H, v0, 0)
end Go.Proofs.Ytlflpjjmkigepaa

namespace Go.Proofs.Ytlflpjjmkigepaa
open Go Go.Abs
attribute [local irreducible] Cmp Rg Dw Cd Lp Ev Rdk CT Upd InK
section
variable {r : Nat} {fs : List OS} {s : List Nat}
theorem load_ok {H : MH} (hs : ∀ x, x ∈ s → x < 256) (hW : WOk H) (h1 : rightB s = true) (h2 : ¬ H.room - H.used < needsN s) (h3 : H.room ≤ 1000) : ∃ v H2 l2, dec heapB s 200 H 0 200 = some (v, H2, s.length, l2, needsN s) ∧ LdV s 200 H H2 v 0 200 s.length l2 (needsN s) := by
  unfold rightB decU at h1
  have hn : ∀ v l m, dec openB s 200 () 0 200 = some (v, (), s.length, l, m) → needsN s = m := fun v l m h => by
    unfold needsN decU; rw [h]; simp
  have hle := hW.ok.le
  cases hd : dec openB s 200 () 0 200 with
  | none => rw [hd] at h1; cases h1
  | some p =>
    obtain ⟨v, x, a, l, m⟩ := p
    rw [hd] at h1
    simp only [decide_eq_true_eq] at h1
    subst h1
    have e := hn v l m hd
    rw [e] at h2 ⊢
    obtain ⟨v2, H2, g1, g2, g3⟩ := dec_load hs hd hW (by omega) (by omega)
    exact ⟨v2, H2, l, g1, g3⟩
end
end Go.Proofs.Ytlflpjjmkigepaa
