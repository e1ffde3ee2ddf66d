/- The program's Load. -/
import Derived.Test.YtlflpjjmkigepaaPlnG
import Derived.Test.YtlflpjjmkigepaaPlnE
set_option autoImplicit false
set_option maxRecDepth 900000
set_option maxHeartbeats 4000000
set_option linter.unusedVariables false
set_option linter.unusedSimpArgs false
set_option maxRecDepth 100000
namespace Go.Proofs.Ytlflpjjmkigepaa
open Go Go.Abs
attribute [local irreducible] Cmp Rg Dw Cd Lp Ev Rdk CT Upd InK
abbrev bh (i b : Nat) : Chk := [(i, .cells [hP b] 0 0 false)]
def loadR (ih b : Nat) (fs : List OS) (H : MH) (c : Chk) : Prop := H.ok ∧ ∃ c1, HC b H fs c1 ∧ c = (ih, .cells [hP b] 0 0 false) :: c1
section
variable {b ih : Nat} {fs : List OS} {s : List Nat}
theorem table45 {H : MH} {c : Chk} (hX : HC b H fs c) (hok : H.ok) : CT Try.prog false 45 [.ptr ih 0 0 1] [bh ih b, c] fun w K' => w = valA (mTable H).2.1 ∧ ∃ c', HC b (mTable H).1 fs c' ∧ K' = [bh ih b, c'] := by
  have k := tableH hX hok
  refine CT.enterS mixed comp45 (Nat.le_of_ble_eq_true rfl) ?_
  repeat' (first|(refine Rg.callM rfl k (.cons (.there (.there (.here))) (.nil)) ?_; rintro _ _ ⟨rfl, c', hX', rfl⟩)|refine zz ?_|(refine zw ?_;refine And.intro ?_ ?_<;>intro hc)|(refine zv ?_;intro cv hv)|(refine za ?_;intro _)|refine zc ?_|(refine zd ?_;refine And.intro ?_ ?_<;>(intro e;(try simp only [Bool.not_eq_true',Bool.not_eq_false'] at e);subst e;try contradiction)))
  (first|refine ⟨.inr rfl,_,.t rfl .nil,?_⟩|refine ⟨.inr rfl,_,.t rfl (.t rfl .nil),?_⟩|refine ⟨.inr rfl,_,.t rfl (.t rfl (.t rfl .nil)),?_⟩|refine ⟨.inr rfl,_,.nil,?_⟩|refine ⟨.inl rfl,_,.t rfl .nil,?_⟩|refine ⟨.inl rfl,_,.nil,?_⟩|refine ⟨.inr rfl,_,.cn rfl (by exact zN) .nil,?_⟩|refine ⟨.inr rfl,_,.cn rfl (by exact zN) (.t rfl .nil),?_⟩)
  exact ⟨_, _, (.cons (.there (.there (.there (.here)))) (.cons (.there (.here)) (.nil))), rfl, c', hX', rfl⟩
theorem put46 {H : MH} {c : Chk} (hX : HC b H fs c) (hok : H.ok) {t k v : Val} (hk : ScOk k) : CT Try.prog false 46 [valA t, valA k, valA v, .ptr ih 0 0 1] [bh ih b, c] fun w K' => w = .tup [] ∧ ∃ c', HC b (mPut H t k v).1 fs c' ∧ K' = [bh ih b, c'] := by
  have kp := putH hX hok (t := t) (k := k) (v := v) (fun hb => hk.can hb)
  refine CT.enterS mixed comp46 (Nat.le_of_ble_eq_true rfl) ?_
  repeat' (first|(refine Rg.callM rfl kp (.cons (.there (.there (.there (.there (.here))))) (.nil)) ?_; rintro _ _ ⟨rfl, c', hX', rfl⟩)|refine zz ?_|(refine zw ?_;refine And.intro ?_ ?_<;>intro hc)|(refine zv ?_;intro cv hv)|(refine za ?_;intro _)|refine zc ?_|(refine zd ?_;refine And.intro ?_ ?_<;>(intro e;(try simp only [Bool.not_eq_true',Bool.not_eq_false'] at e);subst e;try contradiction)))
  (first|refine ⟨.inr rfl,_,.t rfl .nil,?_⟩|refine ⟨.inr rfl,_,.t rfl (.t rfl .nil),?_⟩|refine ⟨.inr rfl,_,.t rfl (.t rfl (.t rfl .nil)),?_⟩|refine ⟨.inr rfl,_,.nil,?_⟩|refine ⟨.inl rfl,_,.t rfl .nil,?_⟩|refine ⟨.inl rfl,_,.nil,?_⟩|refine ⟨.inr rfl,_,.cn rfl (by exact zN) .nil,?_⟩|refine ⟨.inr rfl,_,.cn rfl (by exact zN) (.t rfl .nil),?_⟩)
  exact ⟨_, _, (.cons (.there (.there (.there (.there (.here))))) (.cons (.here) (.nil))), rfl, c', hX', rfl⟩
theorem loadC : Clo heapB (loadR ih b fs) 45 46 [.ptr ih 0 0 1] [.ptr ih 0 0 1] := by
  refine ⟨?_, ?_⟩
  · rintro H c ⟨hok, c1, hX, rfl⟩
    refine CT.perm (K2 := [bh ih b, c1]) (by simp) (CT.re (table45 hX hok) ?_)
    rintro w K' ⟨rfl, c', hX', rfl⟩
    exact ⟨[(ih, .cells [hP b] 0 0 false) :: c'], by simp, rfl, _, ⟨hok.table, c', hX', rfl⟩, rfl⟩
  · rintro H c t k v ⟨hok, c1, hX, rfl⟩ hk hkb
    refine CT.perm (K2 := [bh ih b, c1]) (by simp) (CT.re (put46 hX hok hk) ?_)
    rintro w K' ⟨rfl, c', hX', rfl⟩
    exact ⟨[(ih, .cells [hP b] 0 0 false) :: c'], by simp, rfl, _, ⟨hok.put (fun hb => hk.can hb) (fun _ => hk.len), c', hX', rfl⟩, rfl⟩
theorem whole42H {H : MH} {c : Chk} {rd : Nat} (hX : HC b H fs c) (hok : H.ok) (hs : ∀ x, x ∈ s → x < 256) (hl : s.length ≤ 900000) {v : Val} {H2 : MH} {l2 m : Nat} (hd : dec heapB s 200 H 0 200 = some (v, H2, s.length, l2, m)) :
    CT Try.prog false 42 [rdP rd] [rdC rd s 0 (.ofNat 200) 0 (.fn 45 [] [.ptr ih 0 0 1]) (.fn 46 [] [.ptr ih 0 0 1]), bh ih b, c] fun w K' => w = .tup [valA v, .bool true] ∧ ∃ rc c', HC b H2 fs c' ∧ K' = [rc, bh ih b, c'] := by
  refine CT.perm (K2 := [rdC rd s 0 (.ofNat 200) 0 (.fn 45 [] [.ptr ih 0 0 1]) (.fn 46 [] [.ptr ih 0 0 1]), (ih, .cells [hP b] 0 0 false) :: c]) (by simp) (CT.re (whole42 (rd := rd) loadC hs hl (x := H) ⟨hok, c, hX, rfl⟩) ?_)
  rintro w K' (⟨v', x', l', m', c', hd', rfl, ⟨hok', c1, hX', rfl⟩, rfl⟩ | ⟨hno, _⟩)
  · rw [hd] at hd'
    cases hd'
    exact ⟨[rdC rd s s.length (.ofNat l2) m (.fn 45 [] [.ptr ih 0 0 1]) (.fn 46 [] [.ptr ih 0 0 1]), bh ih b, c1], by simp, rfl, _, c1, hX', rfl⟩
  · exact absurd hd (hno _ _ _ _)
theorem load21 {H : MH} {c : Chk} (hX : HC b H fs c) (hW : WOk H) (hs : ∀ x, x ∈ s → x < 256) (hl : s.length ≤ 900000) (hu : H.room ≤ 1000) : CT Try.prog false 21 [hP b, .str s] [c] fun w K' => w = .tup [valA (ldA H s (rightB s) (needsN s)).2.1, .int .i64 (.ofNat (ldA H s (rightB s) (needsN s)).2.2)] ∧ ∃ c', HC b (ldA H s (rightB s) (needsN s)).1 fs c' ∧ K' = [c'] := by
  have k14 := right14 hs hl
  have k16 := needs16 hs hl
  have hle := hW.ok.le
  have kl := lenH hX (t := v0)
  have e1 : mLen H v0 = (0, 1) := rfl
  rw [e1] at kl
  have kr := roomH hX
  have ku := usedH hX
  have e0 : abin .sub (.int .i64 (.ofNat H.room)) (.int .i64 (.ofNat H.used)) = some (.int .i64 (.ofNat (H.room - H.used))) := sub_nat hle (by omega)
  refine CT.enterS mixed comp21 (Nat.le_of_ble_eq_true rfl) ?_
  unfold ldA
  cases hr : rightB s with
  | false =>
    rw [hr] at k14
    repeat' (first|(refine Rg.callM rfl kl (.cons (.there (.there (.here))) (.nil)) ?_; rintro _ _ ⟨rfl, rfl⟩)|refine zz ?_|(refine zw ?_;refine And.intro ?_ ?_<;>intro hc)|(refine zv ?_;intro cv hv)|(refine za ?_;intro _)|refine zc ?_|(refine zd ?_;refine And.intro ?_ ?_<;>(intro e;(try simp only [Bool.not_eq_true',Bool.not_eq_false'] at e);subst e;try contradiction)))
    (first|refine ⟨.inr rfl,_,.t rfl .nil,?_⟩|refine ⟨.inr rfl,_,.t rfl (.t rfl .nil),?_⟩|refine ⟨.inr rfl,_,.t rfl (.t rfl (.t rfl .nil)),?_⟩|refine ⟨.inr rfl,_,.nil,?_⟩|refine ⟨.inl rfl,_,.t rfl .nil,?_⟩|refine ⟨.inl rfl,_,.nil,?_⟩|refine ⟨.inr rfl,_,.cn rfl (by exact zN) .nil,?_⟩|refine ⟨.inr rfl,_,.cn rfl (by exact zN) (.t rfl .nil),?_⟩)
    exact ⟨_, _, (.cons (.here) (.nil)), rfl, c, hX, rfl⟩
  | true =>
    rw [hr] at k14
    rw [if_neg (by decide)]
    by_cases hroom : H.room - H.used < needsN s
    · rw [if_pos hroom]
      repeat' (first|(refine Rg.callM rfl kl (.cons (.there (.there (.here))) (.nil)) ?_; rintro _ _ ⟨rfl, rfl⟩)|(refine Dw.callM rfl kr (.cons (.here) (.nil)) ?_; rintro _ _ ⟨rfl, rfl⟩; refine ⟨by repeat (first | exact trivial | refine rdsB rfl ?_ | (refine rdsR ?_ ?_; (focus (first | assumption | (refine Rdk.b1 (cs := ?_) ?_ ?_; rotate_left; (repeat (first | exact InK.here | refine InK.there ?_)); exact rfl) | (refine Rdk.bw ?_ ?_; (repeat (first | exact InK.here | refine InK.there ?_)); first | assumption | exact rfl) | (refine Rdk.bn ?_ ?_; (repeat (first | exact InK.here | refine InK.there ?_)); exact rfl) | (refine Rdk.in ?_; first | assumption | exact rfl) | exact Rdk.i1)))), ?_⟩)|(refine Dw.callM rfl ku (.cons (.here) (.nil)) ?_; rintro _ _ ⟨rfl, rfl⟩; refine ⟨by repeat (first | exact trivial | refine rdsB rfl ?_ | (refine rdsR ?_ ?_; (focus (first | assumption | (refine Rdk.b1 (cs := ?_) ?_ ?_; rotate_left; (repeat (first | exact InK.here | refine InK.there ?_)); exact rfl) | (refine Rdk.bw ?_ ?_; (repeat (first | exact InK.here | refine InK.there ?_)); first | assumption | exact rfl) | (refine Rdk.bn ?_ ?_; (repeat (first | exact InK.here | refine InK.there ?_)); exact rfl) | (refine Rdk.in ?_; first | assumption | exact rfl) | exact Rdk.i1)))), ?_⟩)|refine zz ?_|(refine zw ?_;refine And.intro ?_ ?_<;>intro hc)|(refine zv ?_;intro cv hv)|(refine za ?_;intro _)|refine zc ?_|(refine zd ?_;refine And.intro ?_ ?_<;>(intro e;(try simp only [Bool.not_eq_true',Bool.not_eq_false'] at e);subst e;try contradiction)))
      all_goals (first|refine ⟨.inr rfl,_,.t rfl .nil,?_⟩|refine ⟨.inr rfl,_,.t rfl (.t rfl .nil),?_⟩|refine ⟨.inr rfl,_,.t rfl (.t rfl (.t rfl .nil)),?_⟩|refine ⟨.inr rfl,_,.nil,?_⟩|refine ⟨.inl rfl,_,.t rfl .nil,?_⟩|refine ⟨.inl rfl,_,.nil,?_⟩|refine ⟨.inr rfl,_,.cn rfl (by exact zN) .nil,?_⟩|refine ⟨.inr rfl,_,.cn rfl (by exact zN) (.t rfl .nil),?_⟩)
      all_goals (exact ⟨_, _, (.cons (.here) (.nil)), rfl, c, hX, rfl⟩)
    · rw [if_neg hroom]
      obtain ⟨v, H2, l2, hd, hP⟩ := load_ok hs hW hr hroom hu
      rw [hd]
      repeat' (first|(refine Rg.callM rfl kl (.cons (.there (.there (.here))) (.nil)) ?_; rintro _ _ ⟨rfl, rfl⟩)|(refine Dw.callM rfl kr (.cons (.here) (.nil)) ?_; rintro _ _ ⟨rfl, rfl⟩; refine ⟨by repeat (first | exact trivial | refine rdsB rfl ?_ | (refine rdsR ?_ ?_; (focus (first | assumption | (refine Rdk.b1 (cs := ?_) ?_ ?_; rotate_left; (repeat (first | exact InK.here | refine InK.there ?_)); exact rfl) | (refine Rdk.bw ?_ ?_; (repeat (first | exact InK.here | refine InK.there ?_)); first | assumption | exact rfl) | (refine Rdk.bn ?_ ?_; (repeat (first | exact InK.here | refine InK.there ?_)); exact rfl) | (refine Rdk.in ?_; first | assumption | exact rfl) | exact Rdk.i1)))), ?_⟩)|(refine Dw.callM rfl ku (.cons (.here) (.nil)) ?_; rintro _ _ ⟨rfl, rfl⟩; refine ⟨by repeat (first | exact trivial | refine rdsB rfl ?_ | (refine rdsR ?_ ?_; (focus (first | assumption | (refine Rdk.b1 (cs := ?_) ?_ ?_; rotate_left; (repeat (first | exact InK.here | refine InK.there ?_)); exact rfl) | (refine Rdk.bw ?_ ?_; (repeat (first | exact InK.here | refine InK.there ?_)); first | assumption | exact rfl) | (refine Rdk.bn ?_ ?_; (repeat (first | exact InK.here | refine InK.there ?_)); exact rfl) | (refine Rdk.in ?_; first | assumption | exact rfl) | exact Rdk.i1)))), ?_⟩)|(refine Rg.callM (m := []) rfl open41 .nil ?_; rintro _ _ ⟨rd, rfl, rfl⟩)|refine zz ?_|(refine zw ?_;refine And.intro ?_ ?_<;>intro hc)|(refine zv ?_;intro cv hv)|(refine za ?_;intro _)|refine zc ?_|(refine zd ?_;refine And.intro ?_ ?_<;>(intro e;(try simp only [Bool.not_eq_true',Bool.not_eq_false'] at e);subst e;try contradiction)))
      refine Rg.callM rfl (whole42H hX hW.ok hs hl hd) (.cons (.here) (.cons (.there (.there (.here))) (.cons (.here) (.nil)))) ?_
      rintro _ _ ⟨rfl, rc, c', hX', rfl⟩
      repeat' (first|refine zz ?_|(refine zw ?_;refine And.intro ?_ ?_<;>intro hc)|(refine zv ?_;intro cv hv)|(refine za ?_;intro _)|refine zc ?_|(refine zd ?_;refine And.intro ?_ ?_<;>(intro e;(try simp only [Bool.not_eq_true',Bool.not_eq_false'] at e);subst e;try contradiction)))
      (first|refine ⟨.inr rfl,_,.t rfl .nil,?_⟩|refine ⟨.inr rfl,_,.t rfl (.t rfl .nil),?_⟩|refine ⟨.inr rfl,_,.t rfl (.t rfl (.t rfl .nil)),?_⟩|refine ⟨.inr rfl,_,.nil,?_⟩|refine ⟨.inl rfl,_,.t rfl .nil,?_⟩|refine ⟨.inl rfl,_,.nil,?_⟩|refine ⟨.inr rfl,_,.cn rfl (by exact zN) .nil,?_⟩|refine ⟨.inr rfl,_,.cn rfl (by exact zN) (.t rfl .nil),?_⟩)
      exact ⟨_, _, (.cons (.there (.there (.there (.here)))) (.nil)), rfl, c', hX', rfl⟩
end
end Go.Proofs.Ytlflpjjmkigepaa

namespace Go.Proofs.Ytlflpjjmkigepaa
open Go Go.Abs
attribute [local irreducible] Cmp Rg Dw Cd Lp Ev Rdk CT Upd InK
theorem there48N : PT Try.prog false 48 [.nilptr] (.bool false) := PT.run plain0 (by kernel_rfl) rfl rfl
theorem table49N : PT Try.prog false 49 [.nilptr, valA v0] (.tup [.nilmap, .int .i64 (.ofNat 12)]) := by
  have k := there48N
  refine PT.of (CT.enter mixed comp49 (Nat.le_of_ble_eq_true rfl) ?_)
  repeat' (first|refine zz ?_|(refine zw ?_;refine And.intro ?_ ?_<;>intro hc)|(refine zv ?_;intro cv hv)|(refine za ?_;intro _)|refine zc ?_|(refine zd ?_;refine And.intro ?_ ?_<;>(intro e;(try simp only [Bool.not_eq_true',Bool.not_eq_false'] at e);subst e;try contradiction)))
  (first|refine ⟨.inr rfl,_,.t rfl .nil,?_⟩|refine ⟨.inr rfl,_,.t rfl (.t rfl .nil),?_⟩|refine ⟨.inr rfl,_,.t rfl (.t rfl (.t rfl .nil)),?_⟩|refine ⟨.inr rfl,_,.nil,?_⟩|refine ⟨.inl rfl,_,.t rfl .nil,?_⟩|refine ⟨.inl rfl,_,.nil,?_⟩|refine ⟨.inr rfl,_,.cn rfl (by exact zN) .nil,?_⟩|refine ⟨.inr rfl,_,.cn rfl (by exact zN) (.t rfl .nil),?_⟩)
  rfl
theorem len39N : PT Try.prog false 39 [.nilptr, valA v0] (.tup [.int .i64 (.ofNat 0), .int .i64 (.ofNat 12)]) := by
  have k := table49N
  refine PT.of (CT.enter mixed comp39 (Nat.le_of_ble_eq_true rfl) ?_)
  repeat' (first|(refine Rg.r rfl rfl Rdk.mlen0 ?_)|refine zz ?_|(refine zw ?_;refine And.intro ?_ ?_<;>intro hc)|(refine zv ?_;intro cv hv)|(refine za ?_;intro _)|refine zc ?_|(refine zd ?_;refine And.intro ?_ ?_<;>(intro e;(try simp only [Bool.not_eq_true',Bool.not_eq_false'] at e);subst e;try contradiction)))
  (first|refine ⟨.inr rfl,_,.t rfl .nil,?_⟩|refine ⟨.inr rfl,_,.t rfl (.t rfl .nil),?_⟩|refine ⟨.inr rfl,_,.t rfl (.t rfl (.t rfl .nil)),?_⟩|refine ⟨.inr rfl,_,.nil,?_⟩|refine ⟨.inl rfl,_,.t rfl .nil,?_⟩|refine ⟨.inl rfl,_,.nil,?_⟩|refine ⟨.inr rfl,_,.cn rfl (by exact zN) .nil,?_⟩|refine ⟨.inr rfl,_,.cn rfl (by exact zN) (.t rfl .nil),?_⟩)
  rfl
theorem load21N {s : List Nat} : PT Try.prog false 21 [.nilptr, .str s] (.tup [valA v0, .int .i64 (.ofNat 12)]) := by
  have k := len39N
  refine PT.of (CT.enter mixed comp21 (Nat.le_of_ble_eq_true rfl) ?_)
  repeat' (first|refine zz ?_|(refine zw ?_;refine And.intro ?_ ?_<;>intro hc)|(refine zv ?_;intro cv hv)|(refine za ?_;intro _)|refine zc ?_|(refine zd ?_;refine And.intro ?_ ?_<;>(intro e;(try simp only [Bool.not_eq_true',Bool.not_eq_false'] at e);subst e;try contradiction)))
  (first|refine ⟨.inr rfl,_,.t rfl .nil,?_⟩|refine ⟨.inr rfl,_,.t rfl (.t rfl .nil),?_⟩|refine ⟨.inr rfl,_,.t rfl (.t rfl (.t rfl .nil)),?_⟩|refine ⟨.inr rfl,_,.nil,?_⟩|refine ⟨.inl rfl,_,.t rfl .nil,?_⟩|refine ⟨.inl rfl,_,.nil,?_⟩|refine ⟨.inr rfl,_,.cn rfl (by exact zN) .nil,?_⟩|refine ⟨.inr rfl,_,.cn rfl (by exact zN) (.t rfl .nil),?_⟩)
  rfl
theorem needs_le {s : List Nat} : needsN s ≤ 400 := by
  unfold needsN decU
  cases h : dec openB s 200 () 0 200 with
  | none => simp
  | some p =>
    obtain ⟨v, x, a, l, m⟩ := p
    obtain ⟨_, _, _, h4⟩ := dec_le h
    show (if a = s.length then m else 0) ≤ 400
    split <;> omega
/-- What comes of right bytes in a heap with just the room. -/
theorem only_law {s : List Nat} (hs : ∀ x, x ∈ s → x < 256) (hr : rightB s = true) : ∃ v H2, ldA (mNew (needsN s)) s (rightB s) (needsN s) = (H2, v, 0) ∧ WOk H2 ∧ VOk v ∧ H2.used = needsN s ∧ ∃ l m, enc H2 200 v 200 = some (s, l, m) := by
  have hn := needs_le (s := s)
  have hW := WOk.new (room := needsN s) (by omega)
  have hroom : ¬ (mNew (needsN s)).room - (mNew (needsN s)).used < needsN s := by show ¬ needsN s - 0 < needsN s; omega
  obtain ⟨v, H2, l2, hd, hP⟩ := load_ok hs hW hr hroom (by show needsN s ≤ 1000; omega)
  refine ⟨v, H2, ?_, hP.wok, hP.vok, ?_, l2, needsN s, ?_⟩
  · unfold ldA
    rw [hr, if_neg (by decide), if_neg hroom, hd]
  · have := hP.used
    rw [this]
    show 0 + needsN s = needsN s
    omega
  · have := hP.enc H2 (fun _ _ _ => rfl)
    rwa [show sgm s 0 s.length = s by simp [sgm]] at this
theorem only7 {s : List Nat} (hs : ∀ x, x ∈ s → x < 256) : CT Try.prog true 7 [.str s] [] fun w _ => w = .bool true := by
  have k11 := known11r.up (nd := true)
  have kN := (load21N (s := s)).up (nd := true)
  have hn := needs_le (s := s)
  refine CT.enter mixed comp7 (Nat.le_of_ble_eq_true rfl) ?_
  by_cases hl : s.length ≤ 20000
  · have k14 := (right14 hs (by omega)).up (nd := true)
    have k16 := (needs16 hs (by omega)).up (nd := true)
    have k19 := (new19 (room := needsN s) (by omega)).up (nd := true)
    cases hr : rightB s with
    | false =>
      have h0 : needsN s = 0 := by
        unfold needsN
        unfold rightB at hr
        cases hd : decU s with
        | none => rfl
        | some p =>
          rw [hd] at hr
          simp only [decide_eq_false_iff_not] at hr
          simp only [if_neg hr]
      rw [hr] at k14
      rw [h0] at k16 k19
      repeat' (first|refine zz ?_|(refine zw ?_;refine And.intro ?_ ?_<;>intro hc)|(refine zv ?_;intro cv hv)|(refine za ?_;intro _)|refine zc ?_|(refine zd ?_;refine And.intro ?_ ?_<;>(intro e;(try simp only [Bool.not_eq_true',Bool.not_eq_false'] at e);subst e;try contradiction)))
      refine Rg.callM (m := []) rfl k19 .nil ?_
      rintro _ _ ⟨b, c, rfl, hX, rfl⟩
      have kl := (load21 hX (WOk.new (by omega)) hs (by omega) (by show 0 ≤ 1000; omega)).up (nd := true)
      have e : ldA (mNew 0) s (rightB s) (needsN s) = (mNew 0, v0, 11) := by
        unfold ldA; rw [hr, if_pos rfl]
      rw [e] at kl
      repeat' (first|(refine Rg.callM rfl kl (.cons (.here) (.nil)) ?_; rintro _ _ ⟨rfl, c2, hX2, rfl⟩)|refine zz ?_|(refine zw ?_;refine And.intro ?_ ?_<;>intro hc)|(refine zv ?_;intro cv hv)|(refine za ?_;intro _)|refine zc ?_|(refine zd ?_;refine And.intro ?_ ?_<;>(intro e;(try simp only [Bool.not_eq_true',Bool.not_eq_false'] at e);subst e;try contradiction)))
      change HC b (mNew 0) [] c2 at hX2
      have ku := (usedH hX2).up (nd := true)
      rw [show (mNew 0).used = 0 from rfl] at ku
      repeat' (first|(refine Rg.callM rfl ku (.cons (.there (.here)) (.nil)) ?_; rintro _ _ ⟨rfl, rfl⟩)|refine zz ?_|(refine zw ?_;refine And.intro ?_ ?_<;>intro hc)|(refine zv ?_;intro cv hv)|(refine za ?_;intro _)|refine zc ?_|(refine zd ?_;refine And.intro ?_ ?_<;>(intro e;(try simp only [Bool.not_eq_true',Bool.not_eq_false'] at e);subst e;try contradiction)))
      (first|refine ⟨.inr rfl,_,.t rfl .nil,?_⟩|refine ⟨.inr rfl,_,.t rfl (.t rfl .nil),?_⟩|refine ⟨.inr rfl,_,.t rfl (.t rfl (.t rfl .nil)),?_⟩|refine ⟨.inr rfl,_,.nil,?_⟩|refine ⟨.inl rfl,_,.t rfl .nil,?_⟩|refine ⟨.inl rfl,_,.nil,?_⟩|refine ⟨.inr rfl,_,.cn rfl (by exact zN) .nil,?_⟩|refine ⟨.inr rfl,_,.cn rfl (by exact zN) (.t rfl .nil),?_⟩)
      subst_vars
      rfl
    | true =>
      obtain ⟨v, H2, hld, hW2, hvV, hu2, l, m, he⟩ := only_law hs hr
      rw [hr] at k14
      repeat' (first|refine zz ?_|(refine zw ?_;refine And.intro ?_ ?_<;>intro hc)|(refine zv ?_;intro cv hv)|(refine za ?_;intro _)|refine zc ?_|(refine zd ?_;refine And.intro ?_ ?_<;>(intro e;(try simp only [Bool.not_eq_true',Bool.not_eq_false'] at e);subst e;try contradiction)))
      refine Rg.callM (m := []) rfl k19 .nil ?_
      rintro _ _ ⟨b, c, rfl, hX, rfl⟩
      have kl := (load21 hX (WOk.new (by omega)) hs (by omega) (by show needsN s ≤ 1000; omega)).up (nd := true)
      rw [hld] at kl
      repeat' (first|(refine Rg.callM rfl kl (.cons (.here) (.nil)) ?_; rintro _ _ ⟨rfl, c2, hX2, rfl⟩)|refine zz ?_|(refine zw ?_;refine And.intro ?_ ?_<;>intro hc)|(refine zv ?_;intro cv hv)|(refine za ?_;intro _)|refine zc ?_|(refine zd ?_;refine And.intro ?_ ?_<;>(intro e;(try simp only [Bool.not_eq_true',Bool.not_eq_false'] at e);subst e;try contradiction)))
      have ks := save12 hX2 hW2 hvV
      rw [he] at ks
      simp only [svE] at ks
      have ku := (usedH hX2).up (nd := true)
      rw [hu2] at ku
      by_cases hn0 : needsN s = 0
      · rw [hn0] at ku ⊢
        repeat' (first|(refine Rg.callM rfl ks (.cons (.there (.here)) (.nil)) ?_; rintro _ _ ⟨rfl, rfl⟩)|(refine Rg.callM rfl ku (.cons (.here) (.nil)) ?_; rintro _ _ ⟨rfl, rfl⟩)|refine zz ?_|(refine zw ?_;refine And.intro ?_ ?_<;>intro hc)|(refine zv ?_;intro cv hv)|(refine za ?_;intro _)|refine zc ?_|(refine zd ?_;refine And.intro ?_ ?_<;>(intro e;(try simp only [Bool.not_eq_true',Bool.not_eq_false'] at e);subst e;try contradiction)))
        · exact absurd rfl hc
        (first|refine ⟨.inr rfl,_,.t rfl .nil,?_⟩|refine ⟨.inr rfl,_,.t rfl (.t rfl .nil),?_⟩|refine ⟨.inr rfl,_,.t rfl (.t rfl (.t rfl .nil)),?_⟩|refine ⟨.inr rfl,_,.nil,?_⟩|refine ⟨.inl rfl,_,.t rfl .nil,?_⟩|refine ⟨.inl rfl,_,.nil,?_⟩|refine ⟨.inr rfl,_,.cn rfl (by exact zN) .nil,?_⟩|refine ⟨.inr rfl,_,.cn rfl (by exact zN) (.t rfl .nil),?_⟩)
        subst_vars
        rfl
      · have k19b := (new19 (room := needsN s - 1) (by omega)).up (nd := true)
        have e1 := sub2 (n := needsN s) (a := 1) (by omega) (by omega)
        repeat' (first|(refine Rg.callM rfl ks (.cons (.there (.here)) (.nil)) ?_; rintro _ _ ⟨rfl, rfl⟩)|(refine Rg.callM rfl ku (.cons (.here) (.nil)) ?_; rintro _ _ ⟨rfl, rfl⟩)|refine zz ?_|(refine zw ?_;refine And.intro ?_ ?_<;>intro hc)|(refine zv ?_;intro cv hv)|(refine za ?_;intro _)|refine zc ?_|(refine zd ?_;refine And.intro ?_ ?_<;>(intro e;(try simp only [Bool.not_eq_true',Bool.not_eq_false'] at e);subst e;try contradiction)))
        · exact absurd rfl hc
        refine Rg.callM (m := []) rfl k19b .nil ?_
        rintro _ _ ⟨b3, c3, rfl, hX3, rfl⟩
        have kl3 := (load21 hX3 (WOk.new (by omega)) hs (by omega) (by show needsN s - 1 ≤ 1000; omega)).up (nd := true)
        have e : ldA (mNew (needsN s - 1)) s (rightB s) (needsN s) = (mNew (needsN s - 1), v0, 8) := by
          unfold ldA; rw [hr, if_neg (by decide), if_pos (by show needsN s - 1 - 0 < needsN s; omega)]
        rw [e] at kl3
        repeat' (first|(refine Rg.callM rfl kl3 (.cons (.here) (.nil)) ?_; rintro _ _ ⟨rfl, c4, hX4, rfl⟩)|refine zz ?_|(refine zw ?_;refine And.intro ?_ ?_<;>intro hc)|(refine zv ?_;intro cv hv)|(refine za ?_;intro _)|refine zc ?_|(refine zd ?_;refine And.intro ?_ ?_<;>(intro e;(try simp only [Bool.not_eq_true',Bool.not_eq_false'] at e);subst e;try contradiction)))
        change HC b3 (mNew (needsN s - 1)) [] c4 at hX4
        have ku4 := (usedH hX4).up (nd := true)
        rw [show (mNew (needsN s - 1)).used = 0 from rfl] at ku4
        repeat' (first|(refine Rg.callM rfl ku4 (.cons (.there (.here)) (.nil)) ?_; rintro _ _ ⟨rfl, rfl⟩)|refine zz ?_|(refine zw ?_;refine And.intro ?_ ?_<;>intro hc)|(refine zv ?_;intro cv hv)|(refine za ?_;intro _)|refine zc ?_|(refine zd ?_;refine And.intro ?_ ?_<;>(intro e;(try simp only [Bool.not_eq_true',Bool.not_eq_false'] at e);subst e;try contradiction)))
        (first|refine ⟨.inr rfl,_,.t rfl .nil,?_⟩|refine ⟨.inr rfl,_,.t rfl (.t rfl .nil),?_⟩|refine ⟨.inr rfl,_,.t rfl (.t rfl (.t rfl .nil)),?_⟩|refine ⟨.inr rfl,_,.nil,?_⟩|refine ⟨.inl rfl,_,.t rfl .nil,?_⟩|refine ⟨.inl rfl,_,.nil,?_⟩|refine ⟨.inr rfl,_,.cn rfl (by exact zN) .nil,?_⟩|refine ⟨.inr rfl,_,.cn rfl (by exact zN) (.t rfl .nil),?_⟩)
        subst_vars
        rfl
  · repeat' (first|refine zz ?_|(refine zw ?_;refine And.intro ?_ ?_<;>intro hc)|(refine zv ?_;intro cv hv)|(refine za ?_;intro _)|refine zc ?_|(refine zd ?_;refine And.intro ?_ ?_<;>(intro e;(try simp only [Bool.not_eq_true',Bool.not_eq_false'] at e);subst e;try contradiction)))
    (first|refine ⟨.inr rfl,_,.t rfl .nil,?_⟩|refine ⟨.inr rfl,_,.t rfl (.t rfl .nil),?_⟩|refine ⟨.inr rfl,_,.t rfl (.t rfl (.t rfl .nil)),?_⟩|refine ⟨.inr rfl,_,.nil,?_⟩|refine ⟨.inl rfl,_,.t rfl .nil,?_⟩|refine ⟨.inl rfl,_,.nil,?_⟩|refine ⟨.inr rfl,_,.cn rfl (by exact zN) .nil,?_⟩|refine ⟨.inr rfl,_,.cn rfl (by exact zN) (.t rfl .nil),?_⟩)
    subst hv
    rfl
end Go.Proofs.Ytlflpjjmkigepaa
