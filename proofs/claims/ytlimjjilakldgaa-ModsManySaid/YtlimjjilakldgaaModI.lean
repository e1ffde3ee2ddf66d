/- Contracts: a unit is added. -/
import Derived.Test.YtlimjjilakldgaaModH
set_option autoImplicit false
set_option maxRecDepth 100000
set_option maxHeartbeats 4000000
set_option linter.unusedVariables false
set_option linter.unusedSimpArgs false
namespace Go.Proofs.Ytlimjjilakldgaa
open Go Go.Abs
attribute [local irreducible] Cmp Rg Dw Cd Lp Ev Rdk CT Upd InK
section
variable {b mt mu next ck ck2 p g c h : Nat} {nv : AV} {tes : List (EntG (List Nat))} {ues : List (EntG Nat)} {s nm fn : List Nat} {ver : Int} {gr gc : Bool} {x : Val}
end
end Go.Proofs.Ytlimjjilakldgaa

namespace Go.Proofs.Ytlimjjilakldgaa
open Go Go.Abs
attribute [local irreducible] Cmp Rg Dw Cd Lp Ev Rdk CT Upd InK
section
variable {b mt mu next ck ck2 p g c h : Nat} {nv : AV} {tes : List (EntG (List Nat))} {ues : List (EntG Nat)} {nm fn : List Nat} {ver : Int} {gr gc : Bool} {x : Val}
abbrev aM (b : Nat) (nv : AV) (mt mu next ck : Nat) (tes : List (EntG (List Nat))) (ck2 : Nat) (ues : List (EntG Nat)) (p g c h : Nat) (fn : List Nat) (gr gc : Bool) : Mem := [mB b nv mt mu next, tC mt ck tes, uC mu ck2 ues, pK p g c h fn gr, cK c h gc]
theorem add11B (h1 : Txt nm) (h2 : Txt fn) (hb : sB nm ver fn = false) : CT Try.prog false 11 [mP b, .agg (sR nm ver (sV p g))] (aM b nv mt mu next ck tes ck2 ues p g c h fn gr gc) fun w K' => w = .tup [.int .i64 (.ofNat 0), .int .i64 (.ofNat 4)] ∧ K' = aM b nv mt mu next ck tes ck2 ues p g c h fn gr gc := by
  have k25 := check25s (ver := ver) (p := p) (g := g) (c := c) (h := h) (gr := gr) (gc := gc) h1 h2
  rw [if_neg (by rw [hb]; decide)] at k25
  refine CT.enterS mixed comp11 (Nat.le_of_ble_eq_true rfl) ?_
  repeat' (first|(refine Rg.callM rfl there24 (.cons (.there .here) .nil) ?_; rintro _ _ ⟨rfl, rfl⟩)|(refine Rg.callM rfl k25 (.cons (.there (.there (.there (.there .here)))) (.cons (.there (.there (.there (.there .here)))) .nil)) ?_; rintro _ _ ⟨rfl, rfl⟩)|refine zz ?_|(refine zv ?_;intro cv hv)|(refine za ?_;intro _)|refine zc ?_|(refine zd ?_;refine And.intro ?_ ?_<;>(intro e;(try simp only [Bool.not_eq_true',Bool.not_eq_false'] at e);subst e;try contradiction)))
  (first|refine ⟨.inr rfl,_,.t rfl .nil,?_⟩|refine ⟨.inr rfl,_,.t rfl (.t rfl .nil),?_⟩|refine ⟨.inr rfl,_,.t rfl (.t rfl (.t rfl .nil)),?_⟩|refine ⟨.inr rfl,_,.nil,?_⟩|refine ⟨.inl rfl,_,.t rfl .nil,?_⟩|refine ⟨.inl rfl,_,.nil,?_⟩|refine ⟨.inr rfl,_,.cn rfl (by exact zN) .nil,?_⟩|refine ⟨.inr rfl,_,.cn rfl (by exact zN) (.t rfl .nil),?_⟩)
  exact ⟨_, _, .cons (.there (.there .here)) (.cons (.there (.there (.there .here))) (.cons (.there (.there (.there .here))) (.cons .here (.cons .here .nil)))), rfl, rfl⟩
theorem add11E {e : Nat} (h1 : Txt nm) (h2 : Txt fn) (hb : sB nm ver fn = true) (he : e ≠ 0) (km : CT Try.prog false 19 [mP b, .str nm, .int .i64 ver] [mB b nv mt mu next, tC mt ck tes, uC mu ck2 ues] fun w K' => w = .int .i64 (.ofNat e) ∧ K' = [mB b nv mt mu next, tC mt ck tes, uC mu ck2 ues]) :
    CT Try.prog false 11 [mP b, .agg (sR nm ver (sV p g))] (aM b nv mt mu next ck tes ck2 ues p g c h fn gr gc) fun w K' => w = .tup [.int .i64 (.ofNat 0), .int .i64 (.ofNat e)] ∧ K' = aM b nv mt mu next ck tes ck2 ues p g c h fn gr gc := by
  have k25 := check25s (ver := ver) (p := p) (g := g) (c := c) (h := h) (gr := gr) (gc := gc) h1 h2
  rw [if_pos hb] at k25
  refine CT.enterS mixed comp11 (Nat.le_of_ble_eq_true rfl) ?_
  repeat' (first|(refine Rg.callM rfl there24 (.cons (.there .here) .nil) ?_; rintro _ _ ⟨rfl, rfl⟩)|(refine Rg.callM rfl k25 (.cons (.there (.there (.there (.there .here)))) (.cons (.there (.there (.there (.there .here)))) .nil)) ?_; rintro _ _ ⟨rfl, rfl⟩)|(refine Rg.callM rfl km (.cons (.there (.there .here)) (.cons (.there (.there (.there .here))) (.cons (.there (.there (.there .here))) .nil))) ?_; rintro _ _ ⟨rfl, rfl⟩)|refine zz ?_|(refine zv ?_;intro cv hv)|(refine za ?_;intro _)|refine zc ?_|(refine zd ?_;refine And.intro ?_ ?_<;>(intro e;(try simp only [Bool.not_eq_true',Bool.not_eq_false'] at e);subst e;try contradiction)))
  (first|refine ⟨.inr rfl,_,.t rfl .nil,?_⟩|refine ⟨.inr rfl,_,.t rfl (.t rfl .nil),?_⟩|refine ⟨.inr rfl,_,.t rfl (.t rfl (.t rfl .nil)),?_⟩|refine ⟨.inr rfl,_,.nil,?_⟩|refine ⟨.inl rfl,_,.t rfl .nil,?_⟩|refine ⟨.inl rfl,_,.nil,?_⟩|refine ⟨.inr rfl,_,.cn rfl (by exact zN) .nil,?_⟩|refine ⟨.inr rfl,_,.cn rfl (by exact zN) (.t rfl .nil),?_⟩)
  exact ⟨_, _, .cons .here (.cons .here (.cons .here (.cons .here (.cons .here .nil)))), rfl, rfl⟩
end
end Go.Proofs.Ytlimjjilakldgaa
