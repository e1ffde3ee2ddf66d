/- HeapPlays: the whole law. -/
import Derived.Test.YtggpnokhhpnnaaaHepS
set_option autoImplicit false
set_option maxRecDepth 100000
set_option maxHeartbeats 4000000
set_option linter.unusedVariables false
set_option linter.unusedSimpArgs false
namespace Go.Proofs.Ytggpnokhhpnnaaa
open Go Go.Abs
attribute [local irreducible] Cmp Rg Dw Cd Lp Ev Rdk CT Upd InK
structure OkP (o : OpS) : Prop where
  asl : ASl 1 o.cv (o.cells.map rowI)
theorem OkP.len {o : OpS} (h : OkP o) : apure .e (.len false (.c o.cv)) = some (.int .i64 (.ofNat o.cells.length)) := by
  have := h.asl.len
  rwa [List.length_map] at this
theorem small_key {o : OpS} (h : smallB o = true) : o.cells.length ≤ 100000 ∧ (keyB o.k = true → Can o.k) ∧ (keyB o.k = true → o.k.s.length ≤ 1024) := by
  simp only [smallB, Bool.and_eq_true, decide_eq_true_eq, Bool.or_eq_true, Bool.not_eq_true'] at h
  obtain ⟨⟨⟨⟨_, _⟩, _⟩, h4⟩, h5⟩ := h
  have h6 : keyB o.k = true → isB o.k = true := fun hk => by
    rcases h5 with h5 | h5
    · rw [h5] at hk; cases hk
    · exact h5
  refine ⟨by omega, fun hk => ?_, fun hk => ?_⟩
  · have hb := h6 hk
    simp only [keyB, Bool.or_eq_true, decide_eq_true_eq] at hk
    simp only [isB] at hb
    rcases hk with hk | hk
    · rw [if_neg (by omega), if_neg (by omega)] at hb
      simp only [Bool.and_eq_true, decide_eq_true_eq] at hb
      exact .inl ⟨hk, hb.2⟩
    · rw [if_neg (by omega), if_pos hk] at hb
      simp only [Bool.and_eq_true, decide_eq_true_eq] at hb
      exact .inr ⟨hk, hb.1⟩
  · have hb := h6 hk
    simp only [keyB, Bool.or_eq_true, decide_eq_true_eq] at hk
    simp only [isB] at hb
    rcases hk with hk | hk
    · rw [if_neg (by omega), if_neg (by omega)] at hb
      simp only [Bool.and_eq_true, decide_eq_true_eq] at hb
      rw [hb.2]
      exact Nat.zero_le _
    · rw [if_neg (by omega), if_pos hk] at hb
      simp only [Bool.and_eq_true, decide_eq_true_eq] at hb
      exact hb.2
theorem RC.in {r : Nat} {H : MH} {gs : List OS} {d : Chk} (h : RC r H gs d) : ∃ vt vf vc, (r, AObj.cells [vt, vf, vc, .int .i64 (.ofNat H.used), .int .i64 (.ofNat H.room)] 0 0 false) ∈ d := by
  obtain ⟨X, _, rfl⟩ := h
  exact ⟨X.T.v 1, X.F.v 3, X.C.v 3, by simp⟩
section
variable {lv : AV} {ls : List OpS} {n : Int} {r : Nat}
theorem plays6_loop {Q : AX → SL → Mem → Prop} (hL : ASl 14 lv (ls.map opS)) (hO : ∀ o, o ∈ ls → OkP o) (hll : ls.length ≤ 9223372036854775807) (hend : ∀ l' K, Q (.ext 0) l' K) :
    ∀ (f i b : Nat) (H : MH) (fs gs : List OS) (c d : Chk), 60 < i + f → i ≤ 60 → HC b H fs c → RC r H gs d → Bd H i → Lp Try.prog true b6_0 f [(1, lv), (5, hP b), (7, rP r), (9, .int .i64 (.ofNat i))] [c, fsC fs, d, fsC gs] Q := by
  have hln := hL.len
  rw [List.length_map] at hln
  intro f
  induction f with
  | zero => intro i b H fs gs c d h1 h2; omega
  | succ f ih =>
    intro i b H fs gs c d h1 h2 hX hY hB
    refine Lp.round ?_
    by_cases hi : i < ls.length ∧ i < 60
    · obtain ⟨hi1, hi2⟩ := hi
      obtain ⟨o, ho⟩ : ∃ o, ls[i]? = some o := ⟨_, List.getElem?_eq_getElem hi1⟩
      have hOk := hO o (List.mem_of_getElem? ho)
      have q1 := hL.iadr (i := i) (r := opS o) (k := .i64) (by rw [List.getElem?_map, ho]; rfl)
      have k10 := (small10 (o := o) hOk.len).up (nd := true)
      cases hs : smallB o with
      | false =>
        rw [hs] at k10
        repeat' (first|refine zz ?_|(refine zw ?_;refine And.intro ?_ ?_<;>intro hc)|(refine zv ?_;intro cv hv)|(refine za ?_;intro _)|refine zc ?_|(refine zd ?_;refine And.intro ?_ ?_<;>(intro e;(try simp only [Bool.not_eq_true',Bool.not_eq_false'] at e);subst e;try contradiction)))
        refine Lp.weak ?hw (ih (i + 1) b H fs gs c d (by omega) (by omega) hX hY ⟨hB.ok, by have := hB.used; omega, by have := hB.cells; omega, hB.fns⟩)
        case hw => exact ⟨rfl, rfl, rfl, rfl, trivial⟩
      | true =>
        rw [hs] at k10
        obtain ⟨s1, s2, s3⟩ := small_key hs
        repeat' (first|(refine Rg.callM rfl (does29 hX hY hB (by omega) hOk.asl s1 s2 s3) (.cons (.here) (.cons (.here) (.cons (.here) (.cons (.here) (.nil))))) ?_; rintro _ _ ⟨b', c', fs', d', gs', rfl, hX', hY', rfl⟩; obtain ⟨vt, vf, vc, hm⟩ := RC.in hY'; have hin : ∀ K : Mem, InK (d' :: K) r _ := fun K => .mem hm; have p1 : ∀ (K : Mem) y, InK K r _ → Rdk K .load1 (.ptr r 0 (0 + 3) 1) y (.int .i64 (.ofNat (mDoes H o).used)) := fun K y h => Rdk.b1 (cs := [vt, vf, vc, .int .i64 (.ofNat (mDoes H o).used), .int .i64 (.ofNat (mDoes H o).room)]) h rfl; have p2 : ∀ (K : Mem) y, InK K r _ → Rdk K .load1 (.ptr r 0 (0 + 4) 1) y (.int .i64 (.ofNat (mDoes H o).room)) := fun K y h => Rdk.b1 (cs := [vt, vf, vc, .int .i64 (.ofNat (mDoes H o).used), .int .i64 (.ofNat (mDoes H o).room)]) h rfl)|(refine Dw.r rfl rfl (p1 _ _ (by repeat (first | exact hin _ | refine InK.there ?_))) (by repeat (first | exact trivial | refine And.intro (Or.inl rfl) ?_ | refine And.intro (Or.inr (p1 _ _ (by repeat (first | exact hin _ | refine InK.there ?_)))) ?_)) ?_)|(refine Dw.r rfl rfl (p2 _ _ (by repeat (first | exact hin _ | refine InK.there ?_))) (by repeat (first | exact trivial | refine And.intro (Or.inl rfl) ?_ | refine And.intro (Or.inr (p2 _ _ (by repeat (first | exact hin _ | refine InK.there ?_)))) ?_)) ?_)|(refine Dw.callM rfl (usedH hX') (.cons (.here) (.nil)) ?_; rintro _ _ ⟨rfl, rfl⟩; refine ⟨(by repeat (first | exact trivial | refine rdsB rfl ?_ | refine rdsR (p1 _ _ (by repeat (first | exact hin _ | refine InK.there ?_))) ?_ | refine rdsR (p2 _ _ (by repeat (first | exact hin _ | refine InK.there ?_))) ?_)), ?_⟩)|(refine Dw.callM rfl (roomH hX') (.cons (.here) (.nil)) ?_; rintro _ _ ⟨rfl, rfl⟩; refine ⟨(by repeat (first | exact trivial | refine rdsB rfl ?_ | refine rdsR (p1 _ _ (by repeat (first | exact hin _ | refine InK.there ?_))) ?_ | refine rdsR (p2 _ _ (by repeat (first | exact hin _ | refine InK.there ?_))) ?_)), ?_⟩)|refine zz ?_|(refine zw ?_;refine And.intro ?_ ?_<;>intro hc)|(refine zv ?_;intro cv hv)|(refine za ?_;intro _)|refine zc ?_|(refine zd ?_;refine And.intro ?_ ?_<;>(intro e;(try simp only [Bool.not_eq_true',Bool.not_eq_false'] at e);subst e;try contradiction)))
        refine Lp.weak ?hw2 (ih (i + 1) b' (mDoes H o) fs' gs' c' d' (by omega) (by omega) hX' hY' (hB.does s1 s2 s3))
        case hw2 => exact ⟨rfl, rfl, rfl, rfl, trivial⟩
    · repeat' (first|refine zz ?_|(refine zw ?_;refine And.intro ?_ ?_<;>intro hc)|(refine zv ?_;intro cv hv)|(refine za ?_;intro _)|refine zc ?_|(refine zd ?_;refine And.intro ?_ ?_<;>(intro e;(try simp only [Bool.not_eq_true',Bool.not_eq_false'] at e);subst e;try contradiction)))
      all_goals first | exact hend _ _ | (exfalso; omega)
end
end Go.Proofs.Ytggpnokhhpnnaaa

namespace Go.Proofs.Ytggpnokhhpnnaaa
open Go Go.Abs
attribute [local irreducible] Cmp Rg Dw Cd Lp Ev Rdk CT Upd InK
theorem knownQ : PT Try.prog false 15 [] (.bool true) := PT.run plain0 (by kernel_rfl) rfl rfl
theorem plays6 {lv : AV} {ls : List OpS} {n : Int} (hL : ASl 14 lv (ls.map opS)) (hO : ∀ o, o ∈ ls → OkP o) (hll : ls.length ≤ 9223372036854775807) : CT Try.prog true 6 [.int .i64 n, lv] [] fun w _ => w = .bool true := by
  have k15 : PT Try.prog true 15 [] _ := knownQ.up
  have hln := hL.len
  rw [List.length_map] at hln
  refine CT.enter mixed comp6 (Nat.le_of_ble_eq_true rfl) ?_
  by_cases hn : n < 0 ∨ 1000000 < n
  · have k9 : CT Try.prog true 9 [.int .i64 n] [] fun v K' => v = .tup [.nilptr, .int .i64 (.ofNat 1)] := (newH (n := n)).up.mono (by
      rintro v K' (⟨_, h⟩ | ⟨room, b, c, h1, h2, _⟩)
      · exact h
      · exfalso
        subst h1
        have : (Int.ofNat room) = (room : Int) := rfl
        omega)
    have k28 : CT Try.prog true 28 [.int .i64 n] [] fun v K' => ∃ b, v = .tup [rP b, .int .i64 (.ofNat 1)] := (newR (n := n)).up.mono (by
      rintro v K' (⟨_, h⟩ | ⟨room, b, c, h1, h2, _⟩)
      · exact h
      · exfalso
        subst h1
        have : (Int.ofNat room) = (room : Int) := rfl
        omega)
    repeat' (first|(refine Rg.callM rfl k9 .nil ?_; rintro _ K1 rfl)|(refine Rg.callM rfl k28 .nil ?_; rintro _ K2 ⟨b2, rfl⟩)|refine zz ?_|(refine zw ?_;refine And.intro ?_ ?_<;>intro hc)|(refine zv ?_;intro cv hv)|(refine za ?_;intro _)|refine zc ?_|(refine zd ?_;refine And.intro ?_ ?_<;>(intro e;(try simp only [Bool.not_eq_true',Bool.not_eq_false'] at e);subst e;try contradiction)))
    refine Cd.loop (k := 1) (Lp.round ?_)
    repeat' (first|refine zz ?_|(refine zw ?_;refine And.intro ?_ ?_<;>intro hc)|(refine zv ?_;intro cv hv)|(refine za ?_;intro _)|refine zc ?_|(refine zd ?_;refine And.intro ?_ ?_<;>(intro e;(try simp only [Bool.not_eq_true',Bool.not_eq_false'] at e);subst e;try contradiction)))
    all_goals (first|refine ⟨.inr rfl,_,.t rfl .nil,?_⟩|refine ⟨.inr rfl,_,.t rfl (.t rfl .nil),?_⟩|refine ⟨.inr rfl,_,.t rfl (.t rfl (.t rfl .nil)),?_⟩|refine ⟨.inr rfl,_,.nil,?_⟩|refine ⟨.inl rfl,_,.t rfl .nil,?_⟩|refine ⟨.inl rfl,_,.nil,?_⟩|refine ⟨.inr rfl,_,.cn rfl (by exact zN) .nil,?_⟩|refine ⟨.inr rfl,_,.cn rfl (by exact zN) (.t rfl .nil),?_⟩)
    all_goals (subst hv; rfl)
  · have k9 : CT Try.prog true 9 [.int .i64 n] [] fun v K' => ∃ room b c, n = Int.ofNat room ∧ room ≤ 1000000 ∧ v = .tup [hP b, .int .i64 (.ofNat 0)] ∧ HC b (mNew room) [] c ∧ K' = [c] := (newH (n := n)).up.mono (by
      rintro v K' (⟨h, _⟩ | h)
      · exact absurd h hn
      · exact h)
    have k28 : CT Try.prog true 28 [.int .i64 n] [] fun v K' => ∃ room b c, n = Int.ofNat room ∧ room ≤ 1000000 ∧ v = .tup [rP b, .int .i64 (.ofNat 0)] ∧ RC b (mNew room) [] c ∧ K' = [c] := (newR (n := n)).up.mono (by
      rintro v K' (⟨h, _⟩ | h)
      · exact absurd h hn
      · exact h)
    repeat' (first|(refine Rg.callM rfl k9 .nil ?_; rintro _ K1 ⟨room, b, c, hr1, hr2, rfl, hX, rfl⟩)|(refine Rg.callM rfl k28 .nil ?_; rintro _ K2 ⟨room2, r, d, hr3, hr4, rfl, hY, rfl⟩)|refine zz ?_|(refine zw ?_;refine And.intro ?_ ?_<;>intro hc)|(refine zv ?_;intro cv hv)|(refine za ?_;intro _)|refine zc ?_|(refine zd ?_;refine And.intro ?_ ?_<;>(intro e;(try simp only [Bool.not_eq_true',Bool.not_eq_false'] at e);subst e;try contradiction)))
    obtain rfl : room2 = room := by rw [hr1] at hr3; exact (Int.ofNat.inj hr3).symm
    refine Cd.weak (l2 := [(1, _), (5, _), (7, _), (9, _)]) ⟨rfl, rfl, rfl, rfl, trivial⟩ ?_
    refine Cd.perm (K2 := [c, fsC [], d, fsC []]) (by simpa [fsC] using (List.perm_append_comm (l₁ := d) (l₂ := c))) ?_
    have hB : Bd (mNew room2) 0 := ⟨MH.ok.new hr2, Nat.le_refl _, Nat.le_refl _, fun q hq => by cases hq⟩
    refine Cd.loop (k := 61) (plays6_loop hL hO hll ?_ 61 0 b (mNew room2) [] [] c d (by omega) (by omega) hX hY hB)
    intro l' K
    show Cd _ _ _ _ _ _
    repeat' (first|refine zz ?_|(refine zw ?_;refine And.intro ?_ ?_<;>intro hc)|(refine zv ?_;intro cv hv)|(refine za ?_;intro _)|refine zc ?_|(refine zd ?_;refine And.intro ?_ ?_<;>(intro e;(try simp only [Bool.not_eq_true',Bool.not_eq_false'] at e);subst e;try contradiction)))
    (first|refine ⟨.inr rfl,_,.t rfl .nil,?_⟩|refine ⟨.inr rfl,_,.t rfl (.t rfl .nil),?_⟩|refine ⟨.inr rfl,_,.t rfl (.t rfl (.t rfl .nil)),?_⟩|refine ⟨.inr rfl,_,.nil,?_⟩|refine ⟨.inl rfl,_,.t rfl .nil,?_⟩|refine ⟨.inl rfl,_,.nil,?_⟩|refine ⟨.inr rfl,_,.cn rfl (by exact zN) .nil,?_⟩|refine ⟨.inr rfl,_,.cn rfl (by exact zN) (.t rfl .nil),?_⟩)
    subst hv
    rfl
end Go.Proofs.Ytggpnokhhpnnaaa
