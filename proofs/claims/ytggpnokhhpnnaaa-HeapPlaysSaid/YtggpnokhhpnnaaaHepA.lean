/- A heap in memory. Contracts: whether it is there, a place is taken, a heap is made; numbers as values, whether a value is right. -/
import Derived.Test.YtggpnokhhpnnaaaAbsW
import Derived.Test.YtggpnokhhpnnaaaHepCode
set_option autoImplicit false
set_option maxRecDepth 100000
set_option maxHeartbeats 4000000
set_option linter.unusedVariables false
set_option linter.unusedSimpArgs false
namespace Go.Proofs.Ytggpnokhhpnnaaa
open Go Go.Abs
attribute [local irreducible] Cmp Rg Dw Cd Lp Ev Rdk CT Upd InK
abbrev hB (b room used : Nat) (vt vf vc : AV) : Chk := [(b, .cells [.bool true, .int .i64 (.ofNat room), .int .i64 (.ofNat used), vt, vf, vc] 0 0 false)]
abbrev hP (b : Nat) : AV := .ptr b 0 0 6
section
variable {b room used : Nat} {vt vf vc : AV}
theorem there32 : CT Try.prog false 32 [hP b] [hB b room used vt vf vc] fun v K' => v = .bool true ∧ K' = [hB b room used vt vf vc] := by
  refine CT.enter mixed comp32 (Nat.le_of_ble_eq_true rfl) ?_
  repeat' (first|refine zz ?_|(refine zv ?_;intro cv hv)|(refine za ?_;intro _)|refine zc ?_|(refine zd ?_;refine And.intro ?_ ?_<;>(intro e;(try simp only [Bool.not_eq_true',Bool.not_eq_false'] at e);subst e;try contradiction)))
  (first|refine ⟨.inr rfl,_,.t rfl .nil,?_⟩|refine ⟨.inr rfl,_,.t rfl (.t rfl .nil),?_⟩|refine ⟨.inr rfl,_,.t rfl (.t rfl (.t rfl .nil)),?_⟩|refine ⟨.inr rfl,_,.nil,?_⟩|refine ⟨.inl rfl,_,.t rfl .nil,?_⟩|refine ⟨.inl rfl,_,.nil,?_⟩|refine ⟨.inr rfl,_,.cn rfl (by exact zN) .nil,?_⟩|refine ⟨.inr rfl,_,.cn rfl (by exact zN) (.t rfl .nil),?_⟩)
  exact ⟨rfl, rfl⟩
theorem take33 (hu : used ≤ room) (hr : room ≤ 1000000) : CT Try.prog false 33 [hP b] [hB b room used vt vf vc] fun v K' => (used = room ∧ v = .int .i64 (.ofNat 8) ∧ K' = [hB b room used vt vf vc]) ∨ (used < room ∧ v = .int .i64 (.ofNat 0) ∧ K' = [hB b room (used + 1) vt vf vc]) := by
  refine CT.enter mixed comp33 (Nat.le_of_ble_eq_true rfl) ?_
  by_cases h : used = room
  · repeat' (first|(refine Rg.callM rfl there32 (.cons .here .nil) ?_; rintro _ _ ⟨rfl, rfl⟩)|refine zz ?_|(refine zv ?_;intro cv hv)|(refine za ?_;intro _)|refine zc ?_|(refine zd ?_;refine And.intro ?_ ?_<;>(intro e;(try simp only [Bool.not_eq_true',Bool.not_eq_false'] at e);subst e;try contradiction)))
    (first|refine ⟨.inr rfl,_,.t rfl .nil,?_⟩|refine ⟨.inr rfl,_,.t rfl (.t rfl .nil),?_⟩|refine ⟨.inr rfl,_,.t rfl (.t rfl (.t rfl .nil)),?_⟩|refine ⟨.inr rfl,_,.nil,?_⟩|refine ⟨.inl rfl,_,.t rfl .nil,?_⟩|refine ⟨.inl rfl,_,.nil,?_⟩|refine ⟨.inr rfl,_,.cn rfl (by exact zN) .nil,?_⟩|refine ⟨.inr rfl,_,.cn rfl (by exact zN) (.t rfl .nil),?_⟩)
    exact .inl ⟨h, rfl, rfl⟩
  · repeat' (first|(refine Rg.callM rfl there32 (.cons .here .nil) ?_; rintro _ _ ⟨rfl, rfl⟩)|refine zz ?_|(refine zv ?_;intro cv hv)|(refine za ?_;intro _)|refine zc ?_|(refine zd ?_;refine And.intro ?_ ?_<;>(intro e;(try simp only [Bool.not_eq_true',Bool.not_eq_false'] at e);subst e;try contradiction)))
    (first|refine ⟨.inr rfl,_,.t rfl .nil,?_⟩|refine ⟨.inr rfl,_,.t rfl (.t rfl .nil),?_⟩|refine ⟨.inr rfl,_,.t rfl (.t rfl (.t rfl .nil)),?_⟩|refine ⟨.inr rfl,_,.nil,?_⟩|refine ⟨.inl rfl,_,.t rfl .nil,?_⟩|refine ⟨.inl rfl,_,.nil,?_⟩|refine ⟨.inr rfl,_,.cn rfl (by exact zN) .nil,?_⟩|refine ⟨.inr rfl,_,.cn rfl (by exact zN) (.t rfl .nil),?_⟩)
    exact .inr ⟨by omega, rfl, rfl⟩
end
theorem int23 {n : Int} : PT Try.prog false 23 [.int .i64 n] (valA ⟨1, n, []⟩) := by
  refine PT.of (CT.enter mixed comp23 (Nat.le_of_ble_eq_true rfl) ?_)
  repeat' (first|refine zz ?_|(refine zv ?_;intro cv hv)|(refine za ?_;intro _)|refine zc ?_|(refine zd ?_;refine And.intro ?_ ?_<;>(intro e;(try simp only [Bool.not_eq_true',Bool.not_eq_false'] at e);subst e;try contradiction)))
  (first|refine ⟨.inr rfl,_,.t rfl .nil,?_⟩|refine ⟨.inr rfl,_,.t rfl (.t rfl .nil),?_⟩|refine ⟨.inr rfl,_,.t rfl (.t rfl (.t rfl .nil)),?_⟩|refine ⟨.inr rfl,_,.nil,?_⟩|refine ⟨.inl rfl,_,.t rfl .nil,?_⟩|refine ⟨.inl rfl,_,.nil,?_⟩|refine ⟨.inr rfl,_,.cn rfl (by exact zN) .nil,?_⟩|refine ⟨.inr rfl,_,.cn rfl (by exact zN) (.t rfl .nil),?_⟩)
  rfl
theorem new9 {n : Int} : CT Try.prog false 9 [.int .i64 n] [] fun v K' => ((n < 0 ∨ 1000000 < n) ∧ v = .tup [.nilptr, .int .i64 (.ofNat 1)]) ∨ ∃ room b, n = Int.ofNat room ∧ room ≤ 1000000 ∧ v = .tup [hP b, .int .i64 (.ofNat 0)] ∧ K' = [hB b room 0 .nilslc .nilslc .nilslc] := by
  refine CT.enter mixed comp9 (Nat.le_of_ble_eq_true rfl) ?_
  by_cases h : n < 0
  · repeat' (first|refine zz ?_|(refine zv ?_;intro cv hv)|(refine za ?_;intro _)|refine zc ?_|(refine zd ?_;refine And.intro ?_ ?_<;>(intro e;(try simp only [Bool.not_eq_true',Bool.not_eq_false'] at e);subst e;try contradiction)))
    (first|refine ⟨.inr rfl,_,.t rfl .nil,?_⟩|refine ⟨.inr rfl,_,.t rfl (.t rfl .nil),?_⟩|refine ⟨.inr rfl,_,.t rfl (.t rfl (.t rfl .nil)),?_⟩|refine ⟨.inr rfl,_,.nil,?_⟩|refine ⟨.inl rfl,_,.t rfl .nil,?_⟩|refine ⟨.inl rfl,_,.nil,?_⟩|refine ⟨.inr rfl,_,.cn rfl (by exact zN) .nil,?_⟩|refine ⟨.inr rfl,_,.cn rfl (by exact zN) (.t rfl .nil),?_⟩)
    exact .inl ⟨.inl h, rfl⟩
  by_cases h2 : 1000000 < n
  · repeat' (first|refine zz ?_|(refine zv ?_;intro cv hv)|(refine za ?_;intro _)|refine zc ?_|(refine zd ?_;refine And.intro ?_ ?_<;>(intro e;(try simp only [Bool.not_eq_true',Bool.not_eq_false'] at e);subst e;try contradiction)))
    (first|refine ⟨.inr rfl,_,.t rfl .nil,?_⟩|refine ⟨.inr rfl,_,.t rfl (.t rfl .nil),?_⟩|refine ⟨.inr rfl,_,.t rfl (.t rfl (.t rfl .nil)),?_⟩|refine ⟨.inr rfl,_,.nil,?_⟩|refine ⟨.inl rfl,_,.t rfl .nil,?_⟩|refine ⟨.inl rfl,_,.nil,?_⟩|refine ⟨.inr rfl,_,.cn rfl (by exact zN) .nil,?_⟩|refine ⟨.inr rfl,_,.cn rfl (by exact zN) (.t rfl .nil),?_⟩)
    exact .inl ⟨.inr h2, rfl⟩
  obtain ⟨room, rfl⟩ : ∃ r : Nat, n = Int.ofNat r := ⟨n.toNat, by simp; omega⟩
  have h3 : room ≤ 1000000 := by simp at h2; omega
  repeat' (first|refine zz ?_|(refine zv ?_;intro cv hv)|(refine za ?_;intro _)|refine zc ?_|(refine zd ?_;refine And.intro ?_ ?_<;>(intro e;(try simp only [Bool.not_eq_true',Bool.not_eq_false'] at e);subst e;try contradiction)))
  (first|refine ⟨.inr rfl,_,.t rfl .nil,?_⟩|refine ⟨.inr rfl,_,.t rfl (.t rfl .nil),?_⟩|refine ⟨.inr rfl,_,.t rfl (.t rfl (.t rfl .nil)),?_⟩|refine ⟨.inr rfl,_,.nil,?_⟩|refine ⟨.inl rfl,_,.t rfl .nil,?_⟩|refine ⟨.inl rfl,_,.nil,?_⟩|refine ⟨.inr rfl,_,.cn rfl (by exact zN) .nil,?_⟩|refine ⟨.inr rfl,_,.cn rfl (by exact zN) (.t rfl .nil),?_⟩)
  exact .inr ⟨room, _, rfl, h3, rfl, rfl⟩
/-- A value that is right. -/
def isB (v : Val) : Bool := if v.k = 0 then decide (v.n = 0) && decide (v.s = []) else if v.k = 2 then decide (v.n = 0) && decide (v.s.length ≤ 1024) else decide (0 ≤ v.k) && decide (v.k ≤ 5) && decide (v.s = [])
theorem is21 {v : Val} : PT Try.prog false 21 [valA v] (.bool (isB v)) := by
  refine PT.of (CT.enter mixed comp21 (Nat.le_of_ble_eq_true rfl) ?_)
  repeat' (first|refine zz ?_|(refine zv ?_;intro cv hv)|(refine za ?_;intro _)|refine zc ?_|(refine zd ?_;refine And.intro ?_ ?_<;>(intro e;(try simp only [Bool.not_eq_true',Bool.not_eq_false'] at e);subst e;try contradiction)))
  all_goals (first|refine ⟨.inr rfl,_,.t rfl .nil,?_⟩|refine ⟨.inr rfl,_,.t rfl (.t rfl .nil),?_⟩|refine ⟨.inr rfl,_,.t rfl (.t rfl (.t rfl .nil)),?_⟩|refine ⟨.inr rfl,_,.nil,?_⟩|refine ⟨.inl rfl,_,.t rfl .nil,?_⟩|refine ⟨.inl rfl,_,.nil,?_⟩|refine ⟨.inr rfl,_,.cn rfl (by exact zN) .nil,?_⟩|refine ⟨.inr rfl,_,.cn rfl (by exact zN) (.t rfl .nil),?_⟩)
  all_goals (refine congrArg AV.bool ?_; rw [Bool.eq_iff_iff]; simp only [isB]; simp_all)
end Go.Proofs.Ytggpnokhhpnnaaa

namespace Go.Proofs.Ytggpnokhhpnnaaa
open Go Go.Abs
attribute [local irreducible] Cmp Rg Dw Cd Lp Ev Rdk CT Upd InK
section
variable {b room used : Nat} {vt vf : AV} {C : OS}
theorem has42 {n : Int} (hC : C.ok 3) : CT Try.prog false 42 [hP b, .int .i64 n] [hB b room used vt vf (C.v 3)] fun v K' => v = .bool (decide (0 ≤ n) && decide (n < (C.rows.length : Int))) ∧ K' = [hB b room used vt vf (C.v 3)] := by
  refine CT.enter mixed comp42 (Nat.le_of_ble_eq_true rfl) ?_
  have hl := hC.len
  by_cases h : 0 ≤ n
  · by_cases h2 : n < (C.rows.length : Int)
    · repeat' (first|(refine Rg.callM rfl there32 (.cons .here .nil) ?_; rintro _ _ ⟨rfl, rfl⟩)|refine zz ?_|(refine zv ?_;intro cv hv)|(refine za ?_;intro _)|refine zc ?_|(refine zd ?_;refine And.intro ?_ ?_<;>(intro e;(try simp only [Bool.not_eq_true',Bool.not_eq_false'] at e);subst e;try contradiction)))
      (first|refine ⟨.inr rfl,_,.t rfl .nil,?_⟩|refine ⟨.inr rfl,_,.t rfl (.t rfl .nil),?_⟩|refine ⟨.inr rfl,_,.t rfl (.t rfl (.t rfl .nil)),?_⟩|refine ⟨.inr rfl,_,.nil,?_⟩|refine ⟨.inl rfl,_,.t rfl .nil,?_⟩|refine ⟨.inl rfl,_,.nil,?_⟩|refine ⟨.inr rfl,_,.cn rfl (by exact zN) .nil,?_⟩|refine ⟨.inr rfl,_,.cn rfl (by exact zN) (.t rfl .nil),?_⟩)
      exact ⟨by rw [decide_eq_true h, decide_eq_true h2]; rfl, rfl⟩
    · repeat' (first|(refine Rg.callM rfl there32 (.cons .here .nil) ?_; rintro _ _ ⟨rfl, rfl⟩)|refine zz ?_|(refine zv ?_;intro cv hv)|(refine za ?_;intro _)|refine zc ?_|(refine zd ?_;refine And.intro ?_ ?_<;>(intro e;(try simp only [Bool.not_eq_true',Bool.not_eq_false'] at e);subst e;try contradiction)))
      (first|refine ⟨.inr rfl,_,.t rfl .nil,?_⟩|refine ⟨.inr rfl,_,.t rfl (.t rfl .nil),?_⟩|refine ⟨.inr rfl,_,.t rfl (.t rfl (.t rfl .nil)),?_⟩|refine ⟨.inr rfl,_,.nil,?_⟩|refine ⟨.inl rfl,_,.t rfl .nil,?_⟩|refine ⟨.inl rfl,_,.nil,?_⟩|refine ⟨.inr rfl,_,.cn rfl (by exact zN) .nil,?_⟩|refine ⟨.inr rfl,_,.cn rfl (by exact zN) (.t rfl .nil),?_⟩)
      exact ⟨by rw [decide_eq_true h, decide_eq_false h2]; rfl, rfl⟩
  · repeat' (first|(refine Rg.callM rfl there32 (.cons .here .nil) ?_; rintro _ _ ⟨rfl, rfl⟩)|refine zz ?_|(refine zv ?_;intro cv hv)|(refine za ?_;intro _)|refine zc ?_|(refine zd ?_;refine And.intro ?_ ?_<;>(intro e;(try simp only [Bool.not_eq_true',Bool.not_eq_false'] at e);subst e;try contradiction)))
    (first|refine ⟨.inr rfl,_,.t rfl .nil,?_⟩|refine ⟨.inr rfl,_,.t rfl (.t rfl .nil),?_⟩|refine ⟨.inr rfl,_,.t rfl (.t rfl (.t rfl .nil)),?_⟩|refine ⟨.inr rfl,_,.nil,?_⟩|refine ⟨.inl rfl,_,.t rfl .nil,?_⟩|refine ⟨.inl rfl,_,.nil,?_⟩|refine ⟨.inr rfl,_,.cn rfl (by exact zN) .nil,?_⟩|refine ⟨.inr rfl,_,.cn rfl (by exact zN) (.t rfl .nil),?_⟩)
    exact ⟨by rw [decide_eq_false h]; rfl, rfl⟩
theorem cell22 {v : Val} (hC : C.ok 3) (hl : C.rows.length < 100000) : CT Try.prog false 22 [hP b, valA v] [hB b room used vt vf (C.v 3), C.c] fun w K' => w = .int .i64 (.ofNat C.rows.length) ∧ ∃ C' : OS, C'.ok 3 ∧ C'.rows = C.rows ++ [valR v] ∧ K' = [hB b room used vt vf (C'.v 3), C'.c] := by
  refine CT.enterS mixed comp22 (Nat.le_of_ble_eq_true rfl) ?_
  repeat' (first|(refine Rg.callM rfl there32 (.cons (.there .here) .nil) ?_; rintro _ _ ⟨rfl, rfl⟩)|refine zz ?_|(refine zv ?_;intro cv hv)|(refine za ?_;intro _)|refine zc ?_|(refine zd ?_;refine And.intro ?_ ?_<;>(intro e;(try simp only [Bool.not_eq_true',Bool.not_eq_false'] at e);subst e;try contradiction)))
  refine Dw.e (Ef.appO (rs := [valR v]) (n := 1) rfl rfl hC (by intro r hr; simp at hr; subst hr; rfl) (.there (.there (.there .here))) rfl (by decide) (Rw.slc (InK.there InK.here) (Nat.le_refl _) (Nat.le_refl _) rfl) (by simp only [lim]; omega)) ?_
  rintro _ _ ⟨C', hC', hr, rfl, rfl⟩
  refine ⟨by repeat (first | exact trivial | refine rdsB rfl ?_ | (refine rdsR ?_ ?_; (focus (first | assumption | (refine Rdk.b1 (cs := ?_) ?_ ?_; rotate_left; (repeat (first | exact InK.here | refine InK.there ?_)); exact rfl) | (refine Rdk.bw ?_ ?_; (repeat (first | exact InK.here | refine InK.there ?_)); first | assumption | exact rfl) | (refine Rdk.bn ?_ ?_; (repeat (first | exact InK.here | refine InK.there ?_)); exact rfl) | (refine Rdk.in ?_; first | assumption | exact rfl) | exact Rdk.i1)))), ?_⟩
  have hl2 := hC'.len
  rw [hr, List.length_append, List.length_singleton] at hl2
  repeat' (first|refine zz ?_|(refine zv ?_;intro cv hv)|(refine za ?_;intro _)|refine zc ?_|(refine zd ?_;refine And.intro ?_ ?_<;>(intro e;(try simp only [Bool.not_eq_true',Bool.not_eq_false'] at e);subst e;try contradiction)))
  refine Dw.e (Ef.store1 rfl rfl (C'.one 3) (.there (.there .here)) (Nat.le_of_ble_eq_true rfl)) ?_
  rintro _ _ ⟨rfl, rfl⟩
  refine ⟨by repeat (first | exact trivial | refine rdsB rfl ?_ | (refine rdsR ?_ ?_; (focus (first | assumption | (refine Rdk.b1 (cs := ?_) ?_ ?_; rotate_left; (repeat (first | exact InK.here | refine InK.there ?_)); exact rfl) | (refine Rdk.bw ?_ ?_; (repeat (first | exact InK.here | refine InK.there ?_)); first | assumption | exact rfl) | (refine Rdk.bn ?_ ?_; (repeat (first | exact InK.here | refine InK.there ?_)); exact rfl) | (refine Rdk.in ?_; first | assumption | exact rfl) | exact Rdk.i1)))), ?_⟩
  repeat' (first|refine zz ?_|(refine zv ?_;intro cv hv)|(refine za ?_;intro _)|refine zc ?_|(refine zd ?_;refine And.intro ?_ ?_<;>(intro e;(try simp only [Bool.not_eq_true',Bool.not_eq_false'] at e);subst e;try contradiction)))
  (first|refine ⟨.inr rfl,_,.t rfl .nil,?_⟩|refine ⟨.inr rfl,_,.t rfl (.t rfl .nil),?_⟩|refine ⟨.inr rfl,_,.t rfl (.t rfl (.t rfl .nil)),?_⟩|refine ⟨.inr rfl,_,.nil,?_⟩|refine ⟨.inl rfl,_,.t rfl .nil,?_⟩|refine ⟨.inl rfl,_,.nil,?_⟩|refine ⟨.inr rfl,_,.cn rfl (by exact zN) .nil,?_⟩|refine ⟨.inr rfl,_,.cn rfl (by exact zN) (.t rfl .nil),?_⟩)
  exact ⟨_, _, .cons (.there (.there .here)) (.cons .here .nil), by simp [packL], C', hC', hr, rfl⟩
theorem set26 {n : Int} {v : Val} (hC : C.ok 3) (hl : C.rows.length < 100000) : CT Try.prog false 26 [hP b, .int .i64 n, valA v] [hB b room used vt vf (C.v 3), C.c] fun w K' => w = .bool (decide (0 ≤ n) && decide (n < (C.rows.length : Int))) ∧ ∃ C' : OS, C'.ok 3 ∧ C'.rows = (if 0 ≤ n then C.rows.set n.toNat (valR v) else C.rows) ∧ K' = [hB b room used vt vf (C'.v 3), C'.c] := by
  refine CT.enterS mixed comp26 (Nat.le_of_ble_eq_true rfl) ?_
  have k42 := has42 (b := b) (room := room) (used := used) (vt := vt) (vf := vf) (n := n) hC
  by_cases h : 0 ≤ n ∧ n < (C.rows.length : Int)
  · obtain ⟨m, rfl⟩ : ∃ m : Nat, n = Int.ofNat m := ⟨n.toNat, by simp; omega⟩
    have hm : m < C.rows.length := by have := h.2; simp at this; omega
    obtain ⟨r, hr⟩ : ∃ r, C.rows[m]? = some r := ⟨_, List.getElem?_eq_getElem hm⟩
    obtain ⟨id, g, e⟩ := hC.at hr
    rw [decide_eq_true h.1, decide_eq_true h.2] at k42 ⊢
    have hrow := hC.row
    generalize C.rows = rows at *
    subst e
    have q1 := iadr_slc (sz := 3) (b := id) (g := g) (off := 0) (len := rows.length) (cap := rows.length) (i := m) (k := .i64) hm
    repeat' (first|(refine Rg.callM rfl k42 (.cons (.there .here) .nil) ?_; rintro _ _ ⟨rfl, rfl⟩)|refine zz ?_|(refine zv ?_;intro cv hv)|(refine za ?_;intro _)|refine zc ?_|(refine zd ?_;refine And.intro ?_ ?_<;>(intro e;(try simp only [Bool.not_eq_true',Bool.not_eq_false'] at e);subst e;try contradiction)))
    refine Dw.e (Ef.storeR (r0 := r) (i := m) rfl rfl hrow hr rfl (.there (.there .here))) ?_
    rintro _ _ ⟨rfl, rfl⟩
    refine ⟨by repeat (first | exact trivial | refine rdsB rfl ?_ | (refine rdsR ?_ ?_; (focus (first | assumption | (refine Rdk.b1 (cs := ?_) ?_ ?_; rotate_left; (repeat (first | exact InK.here | refine InK.there ?_)); exact rfl) | (refine Rdk.bw ?_ ?_; (repeat (first | exact InK.here | refine InK.there ?_)); first | assumption | exact rfl) | (refine Rdk.bn ?_ ?_; (repeat (first | exact InK.here | refine InK.there ?_)); exact rfl) | (refine Rdk.in ?_; first | assumption | exact rfl) | exact Rdk.i1)))), ?_⟩
    repeat' (first|refine zz ?_|(refine zv ?_;intro cv hv)|(refine za ?_;intro _)|refine zc ?_|(refine zd ?_;refine And.intro ?_ ?_<;>(intro e;(try simp only [Bool.not_eq_true',Bool.not_eq_false'] at e);subst e;try contradiction)))
    (first|refine ⟨.inr rfl,_,.t rfl .nil,?_⟩|refine ⟨.inr rfl,_,.t rfl (.t rfl .nil),?_⟩|refine ⟨.inr rfl,_,.t rfl (.t rfl (.t rfl .nil)),?_⟩|refine ⟨.inr rfl,_,.nil,?_⟩|refine ⟨.inl rfl,_,.t rfl .nil,?_⟩|refine ⟨.inl rfl,_,.nil,?_⟩|refine ⟨.inr rfl,_,.cn rfl (by exact zN) .nil,?_⟩|refine ⟨.inr rfl,_,.cn rfl (by exact zN) (.t rfl .nil),?_⟩)
    refine ⟨_, _, .cons .here (.cons (.there .here) .nil), rfl, ⟨some (id, g), rows.set m (valR v)⟩, ⟨fun h => (nomatch h), ?_⟩, ?_, ?_⟩
    · intro r hr
      rcases List.mem_or_eq_of_mem_set hr with h | rfl
      · exact hrow r h
      · rfl
    · rw [if_pos h.1]; rfl
    · simp only [OS.v, OS.c, List.length_set]
      rfl
  · have hf : (decide (0 ≤ n) && decide (n < (C.rows.length : Int))) = false := by simp; omega
    rw [hf] at k42 ⊢
    repeat' (first|(refine Rg.callM rfl k42 (.cons (.there .here) .nil) ?_; rintro _ _ ⟨rfl, rfl⟩)|refine zz ?_|(refine zv ?_;intro cv hv)|(refine za ?_;intro _)|refine zc ?_|(refine zd ?_;refine And.intro ?_ ?_<;>(intro e;(try simp only [Bool.not_eq_true',Bool.not_eq_false'] at e);subst e;try contradiction)))
    (first|refine ⟨.inr rfl,_,.t rfl .nil,?_⟩|refine ⟨.inr rfl,_,.t rfl (.t rfl .nil),?_⟩|refine ⟨.inr rfl,_,.t rfl (.t rfl (.t rfl .nil)),?_⟩|refine ⟨.inr rfl,_,.nil,?_⟩|refine ⟨.inl rfl,_,.t rfl .nil,?_⟩|refine ⟨.inl rfl,_,.nil,?_⟩|refine ⟨.inr rfl,_,.cn rfl (by exact zN) .nil,?_⟩|refine ⟨.inr rfl,_,.cn rfl (by exact zN) (.t rfl .nil),?_⟩)
    refine ⟨_, _, .cons .here (.cons (.there .here) .nil), rfl, C, hC, ?_, rfl⟩
    split
    · rw [List.set_eq_of_length_le (by omega)]
    · rfl
theorem read27 {n : Int} (hC : C.ok 3) : CT Try.prog false 27 [hP b, .int .i64 n] [hB b room used vt vf (C.v 3), C.c] fun w K' => K' = [hB b room used vt vf (C.v 3), C.c] ∧ ((¬ (0 ≤ n ∧ n < (C.rows.length : Int)) ∧ w = .tup [valA ⟨0, 0, []⟩, .bool false]) ∨ ∃ m r, n = Int.ofNat m ∧ C.rows[m]? = some r ∧ w = .tup [.agg r, .bool true]) := by
  refine CT.enterS mixed comp27 (Nat.le_of_ble_eq_true rfl) ?_
  have k42 := has42 (b := b) (room := room) (used := used) (vt := vt) (vf := vf) (n := n) hC
  by_cases h : 0 ≤ n ∧ n < (C.rows.length : Int)
  · obtain ⟨m, rfl⟩ : ∃ m : Nat, n = Int.ofNat m := ⟨n.toNat, by simp; omega⟩
    have hm : m < C.rows.length := by have := h.2; simp at this; omega
    obtain ⟨r, hr⟩ : ∃ r, C.rows[m]? = some r := ⟨_, List.getElem?_eq_getElem hm⟩
    obtain ⟨id, g, e⟩ := hC.at hr
    rw [decide_eq_true h.1, decide_eq_true h.2] at k42
    have hrow := hC.row
    generalize C.rows = rows at *
    subst e
    have q1 := iadr_slc (sz := 3) (b := id) (g := g) (off := 0) (len := rows.length) (cap := rows.length) (i := m) (k := .i64) hm
    have hrl : r.length = 3 := hrow r (List.mem_of_getElem? hr)
    repeat' (first|(refine Rg.callM rfl k42 (.cons (.there .here) .nil) ?_; rintro _ _ ⟨rfl, rfl⟩)|(refine Rg.r rfl rfl (Rdk.row (i := m) (rows := rows) (InK.there (InK.there InK.here)) hrow hr) ?_)|refine zz ?_|(refine zv ?_;intro cv hv)|(refine za ?_;intro _)|refine zc ?_|(refine zd ?_;refine And.intro ?_ ?_<;>(intro e;(try simp only [Bool.not_eq_true',Bool.not_eq_false'] at e);subst e;try contradiction)))
    refine ⟨.inr rfl, _, .cn rfl (Rdk.bw (InK.there InK.here) hrl) (.t rfl .nil), ?_⟩
    exact ⟨_, _, .cons .here (.cons (.there .here) .nil), rfl, .inr ⟨m, r, rfl, hr, rfl⟩⟩
  · have hf : (decide (0 ≤ n) && decide (n < (C.rows.length : Int))) = false := by simp; omega
    rw [hf] at k42
    repeat' (first|(refine Rg.callM rfl k42 (.cons (.there .here) .nil) ?_; rintro _ _ ⟨rfl, rfl⟩)|refine zz ?_|(refine zv ?_;intro cv hv)|(refine za ?_;intro _)|refine zc ?_|(refine zd ?_;refine And.intro ?_ ?_<;>(intro e;(try simp only [Bool.not_eq_true',Bool.not_eq_false'] at e);subst e;try contradiction)))
    (first|refine ⟨.inr rfl,_,.t rfl .nil,?_⟩|refine ⟨.inr rfl,_,.t rfl (.t rfl .nil),?_⟩|refine ⟨.inr rfl,_,.t rfl (.t rfl (.t rfl .nil)),?_⟩|refine ⟨.inr rfl,_,.nil,?_⟩|refine ⟨.inl rfl,_,.t rfl .nil,?_⟩|refine ⟨.inl rfl,_,.nil,?_⟩|refine ⟨.inr rfl,_,.cn rfl (by exact zN) .nil,?_⟩|refine ⟨.inr rfl,_,.cn rfl (by exact zN) (.t rfl .nil),?_⟩)
    exact ⟨_, _, .cons .here (.cons (.there .here) .nil), rfl, .inl ⟨h, rfl⟩⟩
end
end Go.Proofs.Ytggpnokhhpnnaaa

namespace Go.Proofs.Ytggpnokhhpnnaaa
open Go Go.Abs
attribute [local irreducible] Cmp Rg Dw Cd Lp Ev Rdk CT Upd InK
section
variable {b room used : Nat} {vt vf vc : AV} {F : OS}
theorem take33F (h : used = room) (hr : room ≤ 1000000) : CT Try.prog false 33 [hP b] [hB b room used vt vf vc] fun v K' => v = .int .i64 (.ofNat 8) ∧ K' = [hB b room used vt vf vc] :=
  (take33 (Nat.le_of_eq h) hr).mono fun v K' hh => by
    rcases hh with ⟨_, h1, h2⟩ | ⟨h0, _⟩
    · exact ⟨h1, h2⟩
    · omega
theorem take33T (h : used < room) (hr : room ≤ 1000000) : CT Try.prog false 33 [hP b] [hB b room used vt vf vc] fun v K' => v = .int .i64 (.ofNat 0) ∧ K' = [hB b room (used + 1) vt vf vc] :=
  (take33 (Nat.le_of_lt h) hr).mono fun v K' hh => by
    rcases hh with ⟨h0, _⟩ | ⟨_, h1, h2⟩
    · omega
    · exact ⟨h1, h2⟩
theorem fn13F {u p : Int} {cv : AV} (h : used = room) (hr : room ≤ 1000000) (hcv : OneC cv) : CT Try.prog false 13 [hP b, .agg [.int .i64 u, .int .i64 p, cv]] [hB b room used vt vf vc] fun w K' => w = .tup [valA ⟨0, 0, []⟩, .int .i64 (.ofNat 8)] ∧ K' = [hB b room used vt vf vc] := by
  refine CT.enterS mixed comp13 (Nat.le_of_ble_eq_true rfl) ?_
  repeat' (first|(refine Rg.callM rfl (take33F h hr) (.cons (.there (.there .here)) .nil) ?_; rintro _ _ ⟨rfl, rfl⟩)|refine zz ?_|(refine zv ?_;intro cv hv)|(refine za ?_;intro _)|refine zc ?_|(refine zd ?_;refine And.intro ?_ ?_<;>(intro e;(try simp only [Bool.not_eq_true',Bool.not_eq_false'] at e);subst e;try contradiction)))
  (first|refine ⟨.inr rfl,_,.t rfl .nil,?_⟩|refine ⟨.inr rfl,_,.t rfl (.t rfl .nil),?_⟩|refine ⟨.inr rfl,_,.t rfl (.t rfl (.t rfl .nil)),?_⟩|refine ⟨.inr rfl,_,.nil,?_⟩|refine ⟨.inl rfl,_,.t rfl .nil,?_⟩|refine ⟨.inl rfl,_,.nil,?_⟩|refine ⟨.inr rfl,_,.cn rfl (by exact zN) .nil,?_⟩|refine ⟨.inr rfl,_,.cn rfl (by exact zN) (.t rfl .nil),?_⟩)
  exact ⟨_, _, .cons .here .nil, rfl, rfl⟩
/-- What is not a closure's value. -/
theorem closure24F {v : Val} (hF : F.ok 3) (h : ¬ (v.k = 4 ∧ 0 ≤ v.n ∧ v.n < (F.rows.length : Int))) : CT Try.prog false 24 [hP b, valA v] [hB b room used vt (F.v 3) vc] fun w K' => w = .tup [.agg [.int .i64 (.ofNat 0), .int .i64 (.ofNat 0), .nilslc], .bool false] ∧ K' = [hB b room used vt (F.v 3) vc] := by
  refine CT.enterS mixed comp24 (Nat.le_of_ble_eq_true rfl) ?_
  have hl := hF.len
  obtain ⟨k, n, s⟩ := v
  simp only at h
  by_cases h4 : k = 4
  · by_cases h0 : n < 0
    · repeat' (first|(refine Dw.callM rfl there32 (.cons (.there (.there .here)) .nil) ?_; rintro _ _ ⟨rfl, rfl⟩; refine ⟨trivial, ?_⟩)|refine zz ?_|(refine zv ?_;intro cv hv)|(refine za ?_;intro _)|refine zc ?_|(refine zd ?_;refine And.intro ?_ ?_<;>(intro e;(try simp only [Bool.not_eq_true',Bool.not_eq_false'] at e);subst e;try contradiction)))
      (first|refine ⟨.inr rfl,_,.t rfl .nil,?_⟩|refine ⟨.inr rfl,_,.t rfl (.t rfl .nil),?_⟩|refine ⟨.inr rfl,_,.t rfl (.t rfl (.t rfl .nil)),?_⟩|refine ⟨.inr rfl,_,.nil,?_⟩|refine ⟨.inl rfl,_,.t rfl .nil,?_⟩|refine ⟨.inl rfl,_,.nil,?_⟩|refine ⟨.inr rfl,_,.cn rfl (by exact zN) .nil,?_⟩|refine ⟨.inr rfl,_,.cn rfl (by exact zN) (.t rfl .nil),?_⟩)
      exact ⟨_, _, .cons .here .nil, rfl, rfl⟩
    · repeat' (first|(refine Dw.callM rfl there32 (.cons (.there (.there .here)) .nil) ?_; rintro _ _ ⟨rfl, rfl⟩; refine ⟨trivial, ?_⟩)|refine zz ?_|(refine zv ?_;intro cv hv)|(refine za ?_;intro _)|refine zc ?_|(refine zd ?_;refine And.intro ?_ ?_<;>(intro e;(try simp only [Bool.not_eq_true',Bool.not_eq_false'] at e);subst e;try contradiction)))
      (first|refine ⟨.inr rfl,_,.t rfl .nil,?_⟩|refine ⟨.inr rfl,_,.t rfl (.t rfl .nil),?_⟩|refine ⟨.inr rfl,_,.t rfl (.t rfl (.t rfl .nil)),?_⟩|refine ⟨.inr rfl,_,.nil,?_⟩|refine ⟨.inl rfl,_,.t rfl .nil,?_⟩|refine ⟨.inl rfl,_,.nil,?_⟩|refine ⟨.inr rfl,_,.cn rfl (by exact zN) .nil,?_⟩|refine ⟨.inr rfl,_,.cn rfl (by exact zN) (.t rfl .nil),?_⟩)
      exact ⟨_, _, .cons .here .nil, rfl, rfl⟩
  · repeat' (first|(refine Dw.callM rfl there32 (.cons (.there (.there .here)) .nil) ?_; rintro _ _ ⟨rfl, rfl⟩; refine ⟨trivial, ?_⟩)|refine zz ?_|(refine zv ?_;intro cv hv)|(refine za ?_;intro _)|refine zc ?_|(refine zd ?_;refine And.intro ?_ ?_<;>(intro e;(try simp only [Bool.not_eq_true',Bool.not_eq_false'] at e);subst e;try contradiction)))
    (first|refine ⟨.inr rfl,_,.t rfl .nil,?_⟩|refine ⟨.inr rfl,_,.t rfl (.t rfl .nil),?_⟩|refine ⟨.inr rfl,_,.t rfl (.t rfl (.t rfl .nil)),?_⟩|refine ⟨.inr rfl,_,.nil,?_⟩|refine ⟨.inl rfl,_,.t rfl .nil,?_⟩|refine ⟨.inl rfl,_,.nil,?_⟩|refine ⟨.inr rfl,_,.cn rfl (by exact zN) .nil,?_⟩|refine ⟨.inr rfl,_,.cn rfl (by exact zN) (.t rfl .nil),?_⟩)
    exact ⟨_, _, .cons .here .nil, rfl, rfl⟩
/-- A closure is told: its cells are a copy. -/
theorem closure24T {i : Nat} {s : List Nat} {u p : Int} {c : OS} {FC : Chk} (hF : F.ok 3) (hi : F.rows[i]? = some [.int .i64 u, .int .i64 p, c.v 1]) (hc : c.ok 1) (hcl : c.rows.length ≤ 100000) (hin : ∀ id o, (id, o) ∈ c.c → (id, o) ∈ FC) :
    CT Try.prog false 24 [hP b, valA ⟨4, (i : Int), s⟩] [hB b room used vt (F.v 3) vc, F.c, FC] fun w K' => ∃ c' : OS, c'.ok 1 ∧ c'.rows = c.rows ∧ w = .tup [.agg [.int .i64 u, .int .i64 p, c'.v 1], .bool true] ∧ K' = [hB b room used vt (F.v 3) vc, F.c, FC, c'.c] := by
  refine CT.enterS mixed comp24 (Nat.le_of_ble_eq_true rfl) ?_
  obtain ⟨id, g, e⟩ := hF.at hi
  have hl := hF.len
  have hrow := hF.row
  have hil := (List.getElem?_eq_some_iff.1 hi).1
  generalize F.rows = rows at *
  subst e
  have q1 := iadr_slc (sz := 3) (b := id) (g := g) (off := 0) (len := rows.length) (cap := rows.length) (i := i) (k := .i64) hil
  repeat' (first|(refine Dw.callM rfl there32 (.cons (.there (.there .here)) .nil) ?_; rintro _ _ ⟨rfl, rfl⟩; refine ⟨trivial, ?_⟩)|refine zz ?_|(refine zv ?_;intro cv hv)|(refine za ?_;intro _)|refine zc ?_|(refine zd ?_;refine And.intro ?_ ?_<;>(intro e;(try simp only [Bool.not_eq_true',Bool.not_eq_false'] at e);subst e;try contradiction)))
  refine Dw.r rfl rfl (Rdk.row (i := i) (rows := rows) (by repeat (first | exact InK.here | refine InK.there ?_)) hrow hi) ?_ ?_
  · repeat (first | exact trivial | refine And.intro (Or.inl rfl) ?_ | (refine And.intro (Or.inr ?_) ?_; (focus (first | exact Rdk.i1 | assumption | (refine Rdk.in ?_; first | assumption | exact rfl) | (refine Rdk.b1 (cs := ?_) ?_ ?_; rotate_left; (repeat (first | exact InK.here | refine InK.there ?_)); exact rfl) | (refine Rdk.bw ?_ ?_; (repeat (first | exact InK.here | refine InK.there ?_)); first | assumption | exact rfl) | (refine Rdk.bw (cs := ?_) ?_ ?_; rotate_left; (repeat (first | exact InK.here | refine InK.there ?_)); first | assumption | exact rfl) | (refine Rdk.bn ?_ ?_; (repeat (first | exact InK.here | refine InK.there ?_)); exact rfl) | (refine Rdk.bn (cs := ?_) ?_ ?_; rotate_left; (repeat (first | exact InK.here | refine InK.there ?_)); exact rfl)))))
  repeat' (first|refine zz ?_|(refine zv ?_;intro cv hv)|(refine za ?_;intro _)|refine zc ?_|(refine zd ?_;refine And.intro ?_ ?_<;>(intro e;(try simp only [Bool.not_eq_true',Bool.not_eq_false'] at e);subst e;try contradiction)))
  refine Dw.e (Ef.storeW rfl rfl Upd.here rfl (Nat.le_of_ble_eq_true rfl) rfl) ?_
  rintro _ _ ⟨rfl, rfl⟩
  refine ⟨by repeat (first | exact trivial | refine rdsB rfl ?_ | (refine rdsR ?_ ?_; (focus (first | assumption | (refine Rdk.b1 (cs := ?_) ?_ ?_; rotate_left; (repeat (first | exact InK.here | refine InK.there ?_)); exact rfl) | (refine Rdk.bw ?_ ?_; (repeat (first | exact InK.here | refine InK.there ?_)); first | assumption | exact rfl) | (refine Rdk.bn ?_ ?_; (repeat (first | exact InK.here | refine InK.there ?_)); exact rfl) | (refine Rdk.in ?_; first | assumption | exact rfl) | exact Rdk.i1)))), ?_⟩
  repeat' (first|refine zz ?_|(refine zv ?_;intro cv hv)|(refine za ?_;intro _)|refine zc ?_|(refine zd ?_;refine And.intro ?_ ?_<;>(intro e;(try simp only [Bool.not_eq_true',Bool.not_eq_false'] at e);subst e;try contradiction)))
  refine Rg.e (Ef.appI (rs := c.rows) (n := c.rows.length) rfl rfl hc.row rfl (Rw.os hc fun id o h => .there (.there (.there (.there (.there (.mem (hin id o h))))))) (by simp only [lim]; omega)) ?_
  rintro _ _ ⟨c', hc', hcr, rfl, rfl⟩
  repeat' (first|refine zz ?_|(refine zv ?_;intro cv hv)|(refine za ?_;intro _)|refine zc ?_|(refine zd ?_;refine And.intro ?_ ?_<;>(intro e;(try simp only [Bool.not_eq_true',Bool.not_eq_false'] at e);subst e;try contradiction)))
  refine Rg.e (Ef.store1 rfl rfl (c'.one 1) (.there Upd.here) (Nat.le_of_ble_eq_true rfl)) ?_
  rintro _ _ ⟨rfl, rfl⟩
  repeat' (first|refine zz ?_|(refine zv ?_;intro cv hv)|(refine za ?_;intro _)|refine zc ?_|(refine zd ?_;refine And.intro ?_ ?_<;>(intro e;(try simp only [Bool.not_eq_true',Bool.not_eq_false'] at e);subst e;try contradiction)))
  (first|refine ⟨.inr rfl,_,.t rfl .nil,?_⟩|refine ⟨.inr rfl,_,.t rfl (.t rfl .nil),?_⟩|refine ⟨.inr rfl,_,.t rfl (.t rfl (.t rfl .nil)),?_⟩|refine ⟨.inr rfl,_,.nil,?_⟩|refine ⟨.inl rfl,_,.t rfl .nil,?_⟩|refine ⟨.inl rfl,_,.nil,?_⟩|refine ⟨.inr rfl,_,.cn rfl (by exact zN) .nil,?_⟩|refine ⟨.inr rfl,_,.cn rfl (by exact zN) (.t rfl .nil),?_⟩)
  exact ⟨_, _, .cons (.there (.there .here)) (.cons (.there (.there (.there (.there .here)))) (.cons (.there (.there (.there (.there .here)))) (.cons .here .nil))), c', hc', hcr, rfl, rfl⟩
end
def rowI (a : Int) : List AV := [.int .i64 a]
theorem ints25_loop {x y : AV} {a b : List Int} (hx : ASl 1 x (a.map rowI)) (hy : ASl 1 y (b.map rowI)) (hab : a.length = b.length) (hl : a.length ≤ 9223372036854775807) {Q : AX → SL → Mem → Prop} (hret : ∀ l' K, a ≠ b → lkS l' 4 = some (.bool false) → Q .ret l' K) (hend : ∀ l' K, a = b → Q (.ext 0) l' K) :
    ∀ (k i : Nat), a.length < i + k → i ≤ a.length → a.take i = b.take i → Lp Try.prog false b25_0 k [(0, x), (1, y), (5, .int .i64 (.ofNat i))] [] Q := by
  have l1 := hx.len
  rw [List.length_map] at l1
  intro k
  induction k with
  | zero => intro i h1 h2; omega
  | succ k ih =>
    intro i h1 h2 ht
    refine Lp.round ?_
    by_cases hi : i < a.length
    · obtain ⟨p, hp⟩ : ∃ p, a[i]? = some p := ⟨_, List.getElem?_eq_getElem hi⟩
      obtain ⟨q, hq⟩ : ∃ q, b[i]? = some q := ⟨_, List.getElem?_eq_getElem (by omega)⟩
      have q1 := hx.iadr (i := i) (r := rowI p) (k := .i64) (by rw [List.getElem?_map, hp]; rfl)
      have q2 := hy.iadr (i := i) (r := rowI q) (k := .i64) (by rw [List.getElem?_map, hq]; rfl)
      by_cases e : p = q
      · repeat' (first|refine zz ?_|(refine zv ?_;intro cv hv)|(refine za ?_;intro _)|refine zc ?_|(refine zd ?_;refine And.intro ?_ ?_<;>(intro e;(try simp only [Bool.not_eq_true',Bool.not_eq_false'] at e);subst e;try contradiction)))
        refine Lp.drop (m := []) .nil (Lp.weak ?hw (ih (i + 1) (by omega) (by omega) ?_))
        case hw => exact ⟨rfl, rfl, rfl, trivial⟩
        rw [List.take_add_one, List.take_add_one, ht, hp, hq, e]
      · repeat' (first|refine zz ?_|(refine zv ?_;intro cv hv)|(refine za ?_;intro _)|refine zc ?_|(refine zd ?_;refine And.intro ?_ ?_<;>(intro e;(try simp only [Bool.not_eq_true',Bool.not_eq_false'] at e);subst e;try contradiction)))
        exact hret _ _ (fun h => e (by subst h; rw [hp] at hq; exact Option.some.inj hq)) rfl
    · repeat' (first|refine zz ?_|(refine zv ?_;intro cv hv)|(refine za ?_;intro _)|refine zc ?_|(refine zd ?_;refine And.intro ?_ ?_<;>(intro e;(try simp only [Bool.not_eq_true',Bool.not_eq_false'] at e);subst e;try contradiction)))
      refine hend _ _ ?_
      rw [List.take_of_length_le (by omega), List.take_of_length_le (by omega)] at ht
      exact ht
theorem ints25 {x y : AV} {a b : List Int} (hx : ASl 1 x (a.map rowI)) (hy : ASl 1 y (b.map rowI)) (hl : a.length ≤ 9223372036854775807) : PT Try.prog false 25 [x, y] (.bool (decide (a = b))) := by
  refine PT.of (CT.enter mixed comp25 (Nat.le_of_ble_eq_true rfl) ?_)
  have l1 := hx.len
  have l2 := hy.len
  rw [List.length_map] at l1 l2
  by_cases h : a.length = b.length
  · repeat' (first|refine zz ?_|(refine zv ?_;intro cv hv)|(refine za ?_;intro _)|refine zc ?_|(refine zd ?_;refine And.intro ?_ ?_<;>(intro e;(try simp only [Bool.not_eq_true',Bool.not_eq_false'] at e);subst e;try contradiction)))
    refine Cd.weak (l2 := [(0, _), (1, _), (5, _)]) ⟨rfl, rfl, rfl, trivial⟩ ?_
    refine Cd.loop (k := a.length + 1) (ints25_loop hx hy h hl ?_ ?_ (a.length + 1) 0 (by omega) (by omega) rfl)
    · intro l' K hne e
      refine ⟨.inr rfl, _, .t e .nil, ?_⟩
      rw [decide_eq_false hne]; rfl
    · intro l' K e
      show Cd _ _ _ _ _ _
      refine Cd.weak (l2 := []) trivial ?_
      repeat' (first|refine zz ?_|(refine zv ?_;intro cv hv)|(refine za ?_;intro _)|refine zc ?_|(refine zd ?_;refine And.intro ?_ ?_<;>(intro e;(try simp only [Bool.not_eq_true',Bool.not_eq_false'] at e);subst e;try contradiction)))
      (first|refine ⟨.inr rfl,_,.t rfl .nil,?_⟩|refine ⟨.inr rfl,_,.t rfl (.t rfl .nil),?_⟩|refine ⟨.inr rfl,_,.t rfl (.t rfl (.t rfl .nil)),?_⟩|refine ⟨.inr rfl,_,.nil,?_⟩|refine ⟨.inl rfl,_,.t rfl .nil,?_⟩|refine ⟨.inl rfl,_,.nil,?_⟩|refine ⟨.inr rfl,_,.cn rfl (by exact zN) .nil,?_⟩|refine ⟨.inr rfl,_,.cn rfl (by exact zN) (.t rfl .nil),?_⟩)
      rw [decide_eq_true e]; rfl
  · repeat' (first|refine zz ?_|(refine zv ?_;intro cv hv)|(refine za ?_;intro _)|refine zc ?_|(refine zd ?_;refine And.intro ?_ ?_<;>(intro e;(try simp only [Bool.not_eq_true',Bool.not_eq_false'] at e);subst e;try contradiction)))
    (first|refine ⟨.inr rfl,_,.t rfl .nil,?_⟩|refine ⟨.inr rfl,_,.t rfl (.t rfl .nil),?_⟩|refine ⟨.inr rfl,_,.t rfl (.t rfl (.t rfl .nil)),?_⟩|refine ⟨.inr rfl,_,.nil,?_⟩|refine ⟨.inl rfl,_,.t rfl .nil,?_⟩|refine ⟨.inl rfl,_,.nil,?_⟩|refine ⟨.inr rfl,_,.cn rfl (by exact zN) .nil,?_⟩|refine ⟨.inr rfl,_,.cn rfl (by exact zN) (.t rfl .nil),?_⟩)
    rw [decide_eq_false (fun e => h (by rw [e]))]; rfl
end Go.Proofs.Ytggpnokhhpnnaaa
