/- Calls of a world that is not there. -/
import Derived.Test.YtiiajdfjnamfcaaGreatPlnCode
set_option autoImplicit false
set_option maxRecDepth 100000
set_option maxHeartbeats 2000000
set_option linter.unusedVariables false
set_option linter.unusedSimpArgs false
namespace Go.Proofs.YtiiajdfjnamfcaaGreat
open Go Go.Abs
attribute [local irreducible] Cmp Rg Dw Cd Lp Ev Rdk CT Upd InK
section
variable {b : Nat} {i j : Int} {s t u : List Nat}
theorem there39 : PT Try.prog false 39 [.nilptr] (.bool false) := by
 refine PT.of (CT.enter mixed comp39 (Nat.le_of_ble_eq_true rfl) ?_)
 repeat' (first|intro _|refine yS ?_|(apply YB.mk<;>intro hc)|(apply YA.mk;intro cv hv)|(refine yT ?_ ?_<;>(intro e;(try simp only [nbT,nbF] at e);subst e;try contradiction)))
 refine yX ?_
 rfl
theorem copy22 : PT Try.prog false 22 [.nilptr] .nilptr := by
 have k := there39
 refine PT.of (CT.enter mixed comp22 (Nat.le_of_ble_eq_true rfl) ?_)
 repeat' (first|intro _|refine yS ?_|(apply YB.mk<;>intro hc)|(apply YA.mk;intro cv hv)|(refine yT ?_ ?_<;>(intro e;(try simp only [nbT,nbF] at e);subst e;try contradiction)))
 refine yX ?_
 rfl
theorem new5 : PT Try.prog false 5 [.nilptr, .agg [.int .i64 (.ofNat 1), .int .i64 (.ofNat 1), .int .i64 (.ofNat 1)]] (.tup [.nilptr, .int .i64 (.ofNat 16)]) := by
 have k := copy22
 refine PT.of (CT.enter mixed comp5 (Nat.le_of_ble_eq_true rfl) ?_)
 repeat' (first|intro _|refine yS ?_|(apply YB.mk<;>intro hc)|(apply YA.mk;intro cv hv)|(refine yT ?_ ?_<;>(intro e;(try simp only [nbT,nbF] at e);subst e;try contradiction)))
 refine yX ?_
 rfl
theorem there24 : PT Try.prog false 24 [.nilptr] (.bool false) := by
 refine PT.of (CT.enter mixed comp24 (Nat.le_of_ble_eq_true rfl) ?_)
 repeat' (first|intro _|refine yS ?_|(apply YB.mk<;>intro hc)|(apply YA.mk;intro cv hv)|(refine yT ?_ ?_<;>(intro e;(try simp only [nbT,nbF] at e);subst e;try contradiction)))
 refine yX ?_
 rfl
abbrev wZ (b : Nat) : Chk := [(b, .cells [.int .i64 (.ofNat 0), .int .i64 (.ofNat 0), .nilptr, .nilptr, .nilmap, .nilslc] 0 0 false)]
abbrev wP (b : Nat) : AV := .ptr b 0 0 6
theorem there24z : CT Try.prog false 24 [wP b] [wZ b] fun w K' => w = .bool false ∧ K' = [wZ b] := by
 refine CT.enterS mixed comp24 (Nat.le_of_ble_eq_true rfl) ?_
 repeat' (first|intro _|refine yS ?_|(apply YB.mk<;>intro hc)|(apply YA.mk;intro cv hv)|(refine yT ?_ ?_<;>(intro e;(try simp only [nbT,nbF] at e);subst e;try contradiction)))
 refine yX ?_
 exact ⟨_, _, (.cons (.here) (.nil)), rfl, rfl⟩
theorem at29 : PT Try.prog false 29 [.nilptr, .int .i64 i] .nilptr := by
 have k := there24
 refine PT.of (CT.enter mixed comp29 (Nat.le_of_ble_eq_true rfl) ?_)
 repeat' (first|intro _|refine yS ?_|(apply YB.mk<;>intro hc)|(apply YA.mk;intro cv hv)|(refine yT ?_ ?_<;>(intro e;(try simp only [nbT,nbF] at e);subst e;try contradiction)))
 refine yX ?_
 rfl
theorem at29z : CT Try.prog false 29 [wP b, .int .i64 i] [wZ b] fun w K' => w = .nilptr ∧ K' = [wZ b] := by
 have k := there24z (b := b)
 refine CT.enterS mixed comp29 (Nat.le_of_ble_eq_true rfl) ?_
 repeat' (first|(refine Rg.callM rfl k (.cons (.here) (.nil)) ?_; rintro _ _ ⟨rfl, rfl⟩)|intro _|refine yS ?_|(apply YB.mk<;>intro hc)|(apply YA.mk;intro cv hv)|(refine yT ?_ ?_<;>(intro e;(try simp only [nbT,nbF] at e);subst e;try contradiction)))
 refine yX ?_
 exact ⟨_, _, (.cons (.here) (.nil)), rfl, rfl⟩
theorem start6 : PT Try.prog false 6 [.nilptr, .str s, .str t] (.tup [.int .i64 (.ofNat 0), .int .i64 (.ofNat 16)]) := by
 have k := there24
 refine PT.of (CT.enter mixed comp6 (Nat.le_of_ble_eq_true rfl) ?_)
 repeat' (first|intro _|refine yS ?_|(apply YB.mk<;>intro hc)|(apply YA.mk;intro cv hv)|(refine yT ?_ ?_<;>(intro e;(try simp only [nbT,nbF] at e);subst e;try contradiction)))
 refine yX ?_
 rfl
theorem run7 : CT Try.prog false 7 [wP b, .int .i64 i, .int .i64 j] [wZ b] fun w K' => w = .tup [.nilslc, .int .i64 (.ofNat 0), .int .i64 (.ofNat 16)] ∧ K' = [wZ b] := by
 have k := there24z (b := b)
 have k2 := at29z (b := b) (i := i)
 refine CT.enterS mixed comp7 (Nat.le_of_ble_eq_true rfl) ?_
 repeat' (first|(refine Rg.callM rfl k (.cons (.here) (.nil)) ?_; rintro _ _ ⟨rfl, rfl⟩)|(refine Rg.callM rfl k2 (.cons (.here) (.nil)) ?_; rintro _ _ ⟨rfl, rfl⟩)|intro _|refine yS ?_|(apply YB.mk<;>intro hc)|(apply YA.mk;intro cv hv)|(refine yT ?_ ?_<;>(intro e;(try simp only [nbT,nbF] at e);subst e;try contradiction)))
 refine yX ?_
 exact ⟨_, _, (.cons (.here) (.nil)), rfl, rfl⟩
theorem status8 : PT Try.prog false 8 [.nilptr, .int .i64 i] (.tup [.int .i64 (.ofNat 0), .int .i64 (.ofNat 0), .str []]) := by
 have k := at29 (i := i)
 refine PT.of (CT.enter mixed comp8 (Nat.le_of_ble_eq_true rfl) ?_)
 repeat' (first|intro _|refine yS ?_|(apply YB.mk<;>intro hc)|(apply YA.mk;intro cv hv)|(refine yT ?_ ?_<;>(intro e;(try simp only [nbT,nbF] at e);subst e;try contradiction)))
 refine yX ?_
 rfl
theorem call9 : PT Try.prog false 9 [.nilptr, .str s, .str t, .str u, .int .i64 i, .int .i64 j] (.tup [.str [], .int .i64 (.ofNat 0), .int .i64 (.ofNat 16)]) := by
 have k := there24
 refine PT.of (CT.enter mixed comp9 (Nat.le_of_ble_eq_true rfl) ?_)
 repeat' (first|intro _|refine yS ?_|(apply YB.mk<;>intro hc)|(apply YA.mk;intro cv hv)|(refine yT ?_ ?_<;>(intro e;(try simp only [nbT,nbF] at e);subst e;try contradiction)))
 refine yX ?_
 rfl
theorem count10 : CT Try.prog false 10 [.int .i64 i, .int .i64 (.ofNat 2)] [] fun w K' => K' = [] ∧ ∃ z : Int, w = .int .i64 z := by
 have h2 : ∀ x : Int, ∃ z, abin .rem (.int .i64 x) (.int .i64 (.ofNat 2)) = some (.int .i64 z) := fun x => ⟨_, rfl⟩
 obtain ⟨z1, h1⟩ : ∃ z, abin .add (.int .i64 i) (.int .i64 (.ofNat 1)) = some (.int .i64 z) := ⟨_, rfl⟩
 obtain ⟨z2, h3⟩ := h2 i
 obtain ⟨z4, h4⟩ := h2 (awrap .i64 (0 - z1))
 refine CT.enterS mixed comp10 (Nat.le_of_ble_eq_true rfl) ?_
 repeat' (first|intro _|refine yS ?_|(apply YB.mk<;>intro hc)|(apply YA.mk;intro cv hv)|(refine yT ?_ ?_<;>(intro e;(try simp only [nbT,nbF] at e);subst e;try contradiction)))
 all_goals refine yX ?_
 all_goals exact ⟨_, _, .nil, rfl, _, rfl⟩
theorem kill11 : PT Try.prog false 11 [.nilptr, .int .i64 i] (.int .i64 (.ofNat 16)) := by
 have k := at29 (i := i)
 have k2 := there24
 refine PT.of (CT.enter mixed comp11 (Nat.le_of_ble_eq_true rfl) ?_)
 repeat' (first|intro _|refine yS ?_|(apply YB.mk<;>intro hc)|(apply YA.mk;intro cv hv)|(refine yT ?_ ?_<;>(intro e;(try simp only [nbT,nbF] at e);subst e;try contradiction)))
 refine yX ?_
 rfl
theorem ready12 : PT Try.prog false 12 [.nilptr] .nilslc := by
 have k := at29 (i := .ofNat 0)
 refine PT.of (CT.enter mixed comp12 (Nat.le_of_ble_eq_true rfl) ?_)
 repeat' (first|intro _|refine yS ?_|(apply YB.mk<;>intro hc)|(apply YA.mk;intro cv hv)|(refine yT ?_ ?_<;>(intro e;(try simp only [nbT,nbF] at e);subst e;try contradiction)))
 refine Cd.loop (k := 1) (Lp.round ?_)
 repeat' (first|intro _|refine yS ?_|(apply YB.mk<;>intro hc)|(apply YA.mk;intro cv hv)|(refine yT ?_ ?_<;>(intro e;(try simp only [nbT,nbF] at e);subst e;try contradiction)))
 refine yX ?_
 rfl
theorem count13 : PT Try.prog false 13 [.nilptr] (.int .i64 (.ofNat 0)) := by
 have k := there24
 refine PT.of (CT.enter mixed comp13 (Nat.le_of_ble_eq_true rfl) ?_)
 repeat' (first|intro _|refine yS ?_|(apply YB.mk<;>intro hc)|(apply YA.mk;intro cv hv)|(refine yT ?_ ?_<;>(intro e;(try simp only [nbT,nbF] at e);subst e;try contradiction)))
 refine yX ?_
 rfl
theorem heap17 : PT Try.prog false 17 [.nilptr] .nilptr := by
 have k := there24
 refine PT.of (CT.enter mixed comp17 (Nat.le_of_ble_eq_true rfl) ?_)
 repeat' (first|intro _|refine yS ?_|(apply YB.mk<;>intro hc)|(apply YA.mk;intro cv hv)|(refine yT ?_ ?_<;>(intro e;(try simp only [nbT,nbF] at e);subst e;try contradiction)))
 refine yX ?_
 rfl
theorem heap17z : CT Try.prog false 17 [wP b] [wZ b] fun w K' => w = .nilptr ∧ K' = [wZ b] := by
 have k := there24z (b := b)
 refine CT.enterS mixed comp17 (Nat.le_of_ble_eq_true rfl) ?_
 repeat' (first|(refine Rg.callM rfl k (.cons (.here) (.nil)) ?_; rintro _ _ ⟨rfl, rfl⟩)|intro _|refine yS ?_|(apply YB.mk<;>intro hc)|(apply YA.mk;intro cv hv)|(refine yT ?_ ?_<;>(intro e;(try simp only [nbT,nbF] at e);subst e;try contradiction)))
 refine yX ?_
 exact ⟨_, _, (.cons (.here) (.nil)), rfl, rfl⟩
theorem there61 : PT Try.prog false 61 [.nilptr] (.bool false) := by
 refine PT.of (CT.enter mixed comp61 (Nat.le_of_ble_eq_true rfl) ?_)
 repeat' (first|intro _|refine yS ?_|(apply YB.mk<;>intro hc)|(apply YA.mk;intro cv hv)|(refine yT ?_ ?_<;>(intro e;(try simp only [nbT,nbF] at e);subst e;try contradiction)))
 refine yX ?_
 rfl
theorem used34 : PT Try.prog false 34 [.nilptr] (.int .i64 (.ofNat 0)) := by
 have k := there61
 refine PT.of (CT.enter mixed comp34 (Nat.le_of_ble_eq_true rfl) ?_)
 repeat' (first|intro _|refine yS ?_|(apply YB.mk<;>intro hc)|(apply YA.mk;intro cv hv)|(refine yT ?_ ?_<;>(intro e;(try simp only [nbT,nbF] at e);subst e;try contradiction)))
 refine yX ?_
 rfl
theorem used14z : CT Try.prog false 14 [wP b] [wZ b] fun w K' => w = .int .i64 (.ofNat 0) ∧ K' = [wZ b] := by
 have k := heap17z (b := b)
 have k2 := used34
 refine CT.enterS mixed comp14 (Nat.le_of_ble_eq_true rfl) ?_
 repeat' (first|(refine Rg.callM rfl k (.cons (.here) (.nil)) ?_; rintro _ _ ⟨rfl, rfl⟩)|intro _|refine yS ?_|(apply YB.mk<;>intro hc)|(apply YA.mk;intro cv hv)|(refine yT ?_ ?_<;>(intro e;(try simp only [nbT,nbF] at e);subst e;try contradiction)))
 refine yX ?_
 exact ⟨_, _, (.cons (.here) (.nil)), rfl, rfl⟩
theorem units15 : PT Try.prog false 15 [.nilptr, .int .i64 i] .nilslc := by
 have k := at29 (i := i)
 refine PT.of (CT.enter mixed comp15 (Nat.le_of_ble_eq_true rfl) ?_)
 repeat' (first|intro _|refine yS ?_|(apply YB.mk<;>intro hc)|(apply YA.mk;intro cv hv)|(refine yT ?_ ?_<;>(intro e;(try simp only [nbT,nbF] at e);subst e;try contradiction)))
 refine yX ?_
 rfl
theorem roots16z : CT Try.prog false 16 [wP b, .int .i64 i] [wZ b] fun w K' => w = .nilslc ∧ K' = [wZ b] := by
 have k := at29z (b := b) (i := i)
 refine CT.enterS mixed comp16 (Nat.le_of_ble_eq_true rfl) ?_
 repeat' (first|(refine Rg.callM rfl k (.cons (.here) (.nil)) ?_; rintro _ _ ⟨rfl, rfl⟩)|intro _|refine yS ?_|(apply YB.mk<;>intro hc)|(apply YA.mk;intro cv hv)|(refine yT ?_ ?_<;>(intro e;(try simp only [nbT,nbF] at e);subst e;try contradiction)))
 refine yX ?_
 exact ⟨_, _, (.cons (.here) (.nil)), rfl, rfl⟩
theorem nil3 (known : PT Try.prog false 4 [] (.bool true)) (hs : s.length ≤ 9223372036854775807) : CT Try.prog false 3 [.int .i64 i, .int .i64 j, .str s] [] fun v _ => v = .bool true := by
 have k5 := new5
 have k6 := start6 (s := s) (t := s)
 have k8 := status8 (i := i)
 have k9 : ∀ {z : Int}, _ := fun {z} => call9 (s := s) (t := s) (u := s) (i := z) (j := j)
 have k11 := kill11 (i := i)
 have k12 := ready12
 have k13 := count13
 have k15 := units15 (i := i)
 have k17 := heap17
 refine CT.enter mixed comp3 (Nat.le_of_ble_eq_true rfl) ?_
 by_cases hl : 100 < s.length
 ·repeat' (first|intro _|refine yS ?_|(apply YB.mk<;>intro hc)|(apply YA.mk;intro cv hv)|(refine yT ?_ ?_<;>(intro e;(try simp only [nbT,nbF] at e);subst e;try contradiction)))
  refine yX ?_
  subst hv
  rfl
 ·repeat' (first|(refine Rg.callM rfl (run7 (i := i) (j := j)) (.cons (.here) (.nil)) ?_; rintro _ _ ⟨rfl, rfl⟩)|(refine Rg.callM (m := []) rfl (count10 (i := i)) .nil ?_; rintro _ _ ⟨rfl, z, rfl⟩)|refine zs (k9 (z := z)) ?_|(refine Rg.callM rfl used14z (.cons (.here) (.nil)) ?_; rintro _ _ ⟨rfl, rfl⟩)|(refine Rg.callM rfl (roots16z (i := i)) (.cons (.here) (.nil)) ?_; rintro _ _ ⟨rfl, rfl⟩)|intro _|refine yS ?_|(apply YB.mk<;>intro hc)|(apply YA.mk;intro cv hv)|(refine yT ?_ ?_<;>(intro e;(try simp only [nbT,nbF] at e);subst e;try contradiction)))
  refine yX ?_
  subst hv
  rfl
end
end Go.Proofs.YtiiajdfjnamfcaaGreat
