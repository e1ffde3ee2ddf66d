/- A unit with one function: it is made. -/
import Derived.Test.YtlimjjilakldgaaAbsY
import Derived.Test.YtlimjjilakldgaaModE
import Derived.Test.YtlimjjilakldgaaModC
import Derived.Test.YtlimjjilakldgaaModG
set_option autoImplicit false
set_option maxRecDepth 100000
set_option maxHeartbeats 4000000
set_option linter.unusedVariables false
set_option linter.unusedSimpArgs false
namespace Go.Proofs.Ytlimjjilakldgaa
open Go Go.Abs
attribute [local irreducible] Cmp Rg Dw Cd Lp Ev Rdk CT Upd InK
abbrev codeS : List Ins := [⟨1, 0, 0, 0⟩, ⟨37, 0, 0, 0⟩]
abbrev codeC : List AV := (codeS.map insR).flatten
abbrev pRow (fn : List Nat) (cv : AV) : List AV := [.str fn, .int .i64 (.ofNat 0), .int .i64 (.ofNat 1), cv, .nilslc, .nilslc]
abbrev sR (nm : List Nat) (ver : Int) (v : AV) : List AV := [.str nm, .int .i64 ver, .nilslc, .int .i64 (.ofNat 1), v]
abbrev sV (p g : Nat) : AV := .slc p g 0 1 1 6
abbrev pK (p g c h : Nat) (fn : List Nat) (gr : Bool) : Chk := [(p, .cells (pRow fn (.slc c h 0 2 2 4)) g g gr)]
abbrev cK (c h : Nat) (gr : Bool) : Chk := [(c, .cells codeC h h gr)]
def sP (fn : List Nat) : Proto := ⟨fn, 0, 1, .isl codeC 2 4, codeS, .nilslc, [], .nilslc, []⟩
def sU (nm : List Nat) (ver : Int) (fn : List Nat) : Unt := ⟨nm, ver, .nilslc, [], 1, .isl (protoR (sP fn)) 1 6, [sP fn]⟩
section
variable {nm fn : List Nat} {ver : Int} {p g c h : Nat} {gr gc : Bool}
theorem simple10s : CT Try.prog false 10 [.str nm, .int .i64 ver, .str fn] [] fun w K' => ∃ p c, w = .agg (sR nm ver (sV p 0)) ∧ K' = [pK p 0 c 0 fn false, cK c 0 false] := by
  refine CT.enterS mixed comp10 (Nat.le_of_ble_eq_true rfl) ?_
  repeat' (first|refine zz ?_|(refine zv ?_;intro cv hv)|(refine za ?_;intro _)|refine zc ?_|(refine zd ?_;refine And.intro ?_ ?_<;>(intro e;(try simp only [Bool.not_eq_true',Bool.not_eq_false'] at e);subst e;try contradiction)))
  (first|refine ⟨.inr rfl,_,.t rfl .nil,?_⟩|refine ⟨.inr rfl,_,.t rfl (.t rfl .nil),?_⟩|refine ⟨.inr rfl,_,.t rfl (.t rfl (.t rfl .nil)),?_⟩|refine ⟨.inr rfl,_,.nil,?_⟩|refine ⟨.inl rfl,_,.t rfl .nil,?_⟩|refine ⟨.inl rfl,_,.nil,?_⟩|refine ⟨.inr rfl,_,.cn rfl (by exact zN) .nil,?_⟩|refine ⟨.inr rfl,_,.cn rfl (by exact zN) (.t rfl .nil),?_⟩)
  exact ⟨_, _, .cons .here (.cons .here .nil), _, _, rfl, rfl⟩
end
end Go.Proofs.Ytlimjjilakldgaa

namespace Go.Proofs.Ytlimjjilakldgaa
open Go Go.Abs
section
variable {nm fn : List Nat} {ver : Int} {p g c h : Nat} {gr gc : Bool}
theorem sP_ok (h : Txt fn) : OkP (sP fn) := by
  refine ⟨h, ⟨?_, .inr (.inr rfl)⟩, ⟨by simp [sP], .inl ⟨rfl, rfl⟩⟩, ⟨by simp [sP], .inl ⟨rfl, rfl⟩⟩, ?_, ?_, ?_⟩
  · intro r hr
    obtain ⟨x, _, rfl⟩ := List.mem_map.1 hr
    rfl
  · show 2 ≤ 9223372036854775807; omega
  · show 0 ≤ 9223372036854775807; omega
  · show 0 ≤ 9223372036854775807; omega
theorem sU_ok (h1 : Txt nm) (h2 : Txt fn) : OkU (sU nm ver fn) := by
  refine ⟨h1, ⟨by simp [sU], .inl ⟨rfl, rfl⟩⟩, ⟨?_, .inr (.inr rfl)⟩, ?_, ?_, ?_, ?_⟩
  · intro r hr
    obtain ⟨x, _, rfl⟩ := List.mem_map.1 hr
    rfl
  · show 0 ≤ 9223372036854775807; omega
  · show 1 ≤ 9223372036854775807; omega
  · intro x hx; cases hx
  · intro p hp
    simp only [sU, List.mem_singleton] at hp
    subst hp
    exact sP_ok h2
def sB (nm : List Nat) (ver : Int) (fn : List Nat) : Bool := isName nm && decide (1 ≤ ver ∧ ver ≤ 2147483647) && isName fn
theorem shaped_sP : shapedB (sP fn) = true := by
  have h : codeS.all rightI = true := by kernel_rfl
  simp only [shapedB, sP, h]
  rfl
theorem unit_sU : unitB (sU nm ver fn) = sB nm ver fn := by
  have h1 : protosB (sU nm ver fn).funs 0 (sU nm ver fn).protos = isName fn := by
    show (protoB (sP fn) (decide (((0 + 1 : Nat) : Int) ≤ 1)) && true) = _
    rw [protoB, shaped_sP]
    show ((isName fn && decide (0 = 0)) && true && true) = _
    simp
  simp only [unitB, h1]
  show (isName nm && decide (1 ≤ ver ∧ ver ≤ 2147483647) && decide ((0 : Int) ≤ 1 ∧ (1 : Int) ≤ min 32 ((1 : Nat) : Int)) && (decide (0 ≤ 16) && true) && (decide (1 ≤ 64) && isName fn)) = _
  simp [sB, show (1 : Int) ≤ min 32 1 by decide]
theorem check_sU : check (sU nm ver fn) = if sB nm ver fn = true then (0, 0, 0) else (4, 0, 0) := by
  rw [check, unit_sU]
  have h : protoBad (sU nm ver fn) (sP fn) = none := by
    show (if endsB ⟨37, 0, 0, 0⟩ = true then firstBad (sU nm ver fn) (sP fn) 0 codeS else some 1) = none
    rw [if_pos (by decide)]
    have m0 : mayB (sU nm ver fn) (sP fn) 0 ⟨1, 0, 0, 0⟩ = true := by kernel_rfl
    have m1 : mayB (sU nm ver fn) (sP fn) 1 ⟨37, 0, 0, 0⟩ = true := by kernel_rfl
    show (if mayB (sU nm ver fn) (sP fn) 0 ⟨1, 0, 0, 0⟩ = true then (if mayB (sU nm ver fn) (sP fn) 1 ⟨37, 0, 0, 0⟩ = true then none else some 1) else some 0) = none
    rw [if_pos m0, if_pos m1]
  split
  · show chk (sU nm ver fn) 0 [sP fn] = _
    simp only [chk, h]
  · rfl
theorem check25s (h1 : Txt nm) (h2 : Txt fn) : CT Try.prog false 25 [.agg (sR nm ver (sV p g))] [pK p g c h fn gr, cK c h gc] fun w K' => K' = [pK p g c h fn gr, cK c h gc] ∧ w = tup3 (if sB nm ver fn = true then (0, 0, 0) else (4, 0, 0)) := by
  rw [← check_sU]
  refine CT.frz 5 (check8 (sU_ok h1 h2)) rfl fun s hs => ?_
  simp only [Fz2]
  refine ⟨_, [], rfl, Frz.agg ?_, rfl⟩
  simp only [Fz2, unitR, sU]
  refine ⟨_, _, rfl, Frz.atom rfl, _, _, rfl, Frz.atom rfl, _, _, rfl, Frz.atom rfl, _, _, rfl, Frz.atom rfl, _, _, rfl, ?_, rfl⟩
  refine Frz.slc hs InK.here (Nat.le_refl _) (Nat.le_refl _) (seg_all rfl) ?_
  simp only [Fz2, protoR, sP]
  refine ⟨_, _, rfl, Frz.atom rfl, _, _, rfl, Frz.atom rfl, _, _, rfl, Frz.atom rfl, _, _, rfl, ?_, _, _, rfl, Frz.atom rfl, _, _, rfl, Frz.atom rfl, rfl⟩
  refine Frz.slc hs (InK.there InK.here) (Nat.le_refl _) (Nat.le_refl _) (seg_all rfl) (Fz2.same fun x hx => Frz.atom ?_)
  obtain ⟨r, hr, hx⟩ := List.mem_flatten.1 hx
  obtain ⟨y, _, rfl⟩ := List.mem_map.1 hr
  simp only [insR, List.mem_cons, List.not_mem_nil, or_false] at hx
  rcases hx with rfl | rfl | rfl | rfl <;> rfl
end
end Go.Proofs.Ytlimjjilakldgaa

namespace Go.Proofs.Ytlimjjilakldgaa
open Go Go.Abs
attribute [local irreducible] Cmp Rg Dw Cd Lp Ev Rdk CT Upd InK
section
variable {nm fn : List Nat} {ver : Int} {p g c h : Nat} {gr gc : Bool}
theorem own27s : CT Try.prog false 27 [.agg (sR nm ver (sV p g))] [pK p g c h fn gr, cK c h gc] fun w K' => ∃ p' g' c' h', w = .agg (sR nm ver (sV p' g')) ∧ K' = [pK p g c h fn gr, cK c h gc, pK p' g' c' h' fn true, cK c' h' true] := by
  refine CT.enterS mixed comp27 (Nat.le_of_ble_eq_true rfl) ?_
  repeat' (first|refine zz ?_|(refine zv ?_;intro cv hv)|(refine za ?_;intro _)|refine zc ?_|(refine zd ?_;refine And.intro ?_ ?_<;>(intro e;(try simp only [Bool.not_eq_true',Bool.not_eq_false'] at e);subst e;try contradiction)))
  refine Rg.e (Ef.app0 rfl rfl (cs := []) (fun s hs => ⟨rfl, rfl⟩) rfl) ?_
  rintro _ _ ⟨rfl, rfl⟩
  repeat' (first|refine zz ?_|(refine zv ?_;intro cv hv)|(refine za ?_;intro _)|refine zc ?_|(refine zd ?_;refine And.intro ?_ ?_<;>(intro e;(try simp only [Bool.not_eq_true',Bool.not_eq_false'] at e);subst e;try contradiction)))
  refine Rg.e (Ef.appI (rs := [pRow fn (.slc c h 0 2 2 4)]) (n := 1) rfl rfl (by intro r hr; simp at hr; subst hr; rfl) rfl (Rw.slc (.there (.there .here)) (Nat.le_refl _) (Nat.le_refl _) rfl) (by decide)) ?_
  rintro _ _ ⟨U, hU, hr, rfl, rfl⟩
  obtain ⟨p', g', e⟩ := hU.at (i := 0) (r := pRow fn (.slc c h 0 2 2 4)) (by rw [hr]; rfl)
  rw [hr] at e
  subst e
  repeat' (first|refine zz ?_|(refine zv ?_;intro cv hv)|(refine za ?_;intro _)|refine zc ?_|(refine zd ?_;refine And.intro ?_ ?_<;>(intro e;(try simp only [Bool.not_eq_true',Bool.not_eq_false'] at e);subst e;try contradiction)))
  rename_i b1 b2
  refine Cd.weak (l2 := [(1, .ptr b1 0 0 5), (2, .ptr b2 0 0 5), (3, sV p' g'), (13, .int .i64 (.ofNat 1)), (14, .int .i64 (.ofNat 0))]) ⟨rfl, rfl, rfl, rfl, rfl, trivial⟩ ?_
  refine Cd.drop (m := [[(p', .cells (pRow fn (.slc c h 0 2 2 4)) g' g' true)], [(b2, .cells [.str [], .int .i64 (.ofNat 0), .nilslc, .int .i64 (.ofNat 0), .nilslc] 0 0 false)], [(b1, .cells (sR nm ver (sV p g)) 0 0 false)], pK p g c h fn gr, cK c h gc]) (.cons .here (.cons .here (.cons .here (.cons .here (.cons .here .nil))))) ?_
  have q1 : apure .e (.iadr 6 (.c (sV p' g')) (.c (.int .i64 (.ofNat 0)))) = some (.ptr p' g' (0 + 0 * 6) 6) := iadr_slc (by decide)
  clear hU hr
  refine Cd.loop (k := 2) (Lp.round ?_)
  repeat' (first|refine zz ?_|(refine zv ?_;intro cv hv)|(refine za ?_;intro _)|refine zc ?_|(refine zd ?_;refine And.intro ?_ ?_<;>(intro e;(try simp only [Bool.not_eq_true',Bool.not_eq_false'] at e);subst e;try contradiction)))
  refine Rg.r rfl rfl (Rdk.ld1 InK.here (Nat.le_refl _) (Nat.le_refl _) (Nat.le_refl _) rfl) ?_
  refine Rg.e (Ef.appI (rs := codeS.map insR) (n := 2) rfl rfl (by intro r hr; obtain ⟨x, _, rfl⟩ := List.mem_map.1 hr; rfl) rfl (Rw.slc (.there (.there (.there (.there .here)))) (Nat.le_refl _) (Nat.le_refl _) rfl) (by decide)) ?_
  rintro _ _ ⟨C, hC, hr, rfl, rfl⟩
  obtain ⟨c', h', e⟩ := hC.at (i := 0) (r := insR ⟨1, 0, 0, 0⟩) (by rw [hr]; rfl)
  rw [hr] at e
  subst e
  repeat' (first|refine zz ?_|(refine zv ?_;intro cv hv)|(refine za ?_;intro _)|refine zc ?_|(refine zd ?_;refine And.intro ?_ ?_<;>(intro e;(try simp only [Bool.not_eq_true',Bool.not_eq_false'] at e);subst e;try contradiction)))
  refine Rg.e (Ef.store1 (v := .slc c' h' 0 2 2 4) rfl rfl ⟨rfl, rfl⟩ (.there Upd.here) (Nat.le_of_ble_eq_true rfl)) ?_
  rintro _ _ ⟨rfl, rfl⟩
  repeat' (first|refine zz ?_|(refine zv ?_;intro cv hv)|(refine za ?_;intro _)|refine zc ?_|(refine zd ?_;refine And.intro ?_ ?_<;>(intro e;(try simp only [Bool.not_eq_true',Bool.not_eq_false'] at e);subst e;try contradiction)))
  refine Rg.r rfl rfl (Rdk.ld1 (.there InK.here) (Nat.le_refl _) (Nat.le_refl _) (Nat.le_refl _) rfl) ?_
  refine Rg.e (Ef.app0 rfl rfl (cs := []) (fun s hs => ⟨rfl, rfl⟩) rfl) ?_
  rintro _ _ ⟨rfl, rfl⟩
  repeat' (first|refine zz ?_|(refine zv ?_;intro cv hv)|(refine za ?_;intro _)|refine zc ?_|(refine zd ?_;refine And.intro ?_ ?_<;>(intro e;(try simp only [Bool.not_eq_true',Bool.not_eq_false'] at e);subst e;try contradiction)))
  refine Rg.e (Ef.store1 (v := .nilslc) rfl rfl ⟨rfl, rfl⟩ (.there Upd.here) (Nat.le_of_ble_eq_true rfl)) ?_
  rintro _ _ ⟨rfl, rfl⟩
  repeat' (first|refine zz ?_|(refine zv ?_;intro cv hv)|(refine za ?_;intro _)|refine zc ?_|(refine zd ?_;refine And.intro ?_ ?_<;>(intro e;(try simp only [Bool.not_eq_true',Bool.not_eq_false'] at e);subst e;try contradiction)))
  refine Rg.r rfl rfl (Rdk.ld1 (.there InK.here) (Nat.le_refl _) (Nat.le_refl _) (Nat.le_refl _) rfl) ?_
  refine Rg.e (Ef.app0 rfl rfl (cs := []) (fun s hs => ⟨rfl, rfl⟩) rfl) ?_
  rintro _ _ ⟨rfl, rfl⟩
  repeat' (first|refine zz ?_|(refine zv ?_;intro cv hv)|(refine za ?_;intro _)|refine zc ?_|(refine zd ?_;refine And.intro ?_ ?_<;>(intro e;(try simp only [Bool.not_eq_true',Bool.not_eq_false'] at e);subst e;try contradiction)))
  refine Rg.e (Ef.store1 (v := .nilslc) rfl rfl ⟨rfl, rfl⟩ (.there Upd.here) (Nat.le_of_ble_eq_true rfl)) ?_
  rintro _ _ ⟨rfl, rfl⟩
  repeat' (first|refine zz ?_|(refine zv ?_;intro cv hv)|(refine za ?_;intro _)|refine zc ?_|(refine zd ?_;refine And.intro ?_ ?_<;>(intro e;(try simp only [Bool.not_eq_true',Bool.not_eq_false'] at e);subst e;try contradiction)))
  (first|refine ⟨.inr rfl,_,.t rfl .nil,?_⟩|refine ⟨.inr rfl,_,.t rfl (.t rfl .nil),?_⟩|refine ⟨.inr rfl,_,.t rfl (.t rfl (.t rfl .nil)),?_⟩|refine ⟨.inr rfl,_,.nil,?_⟩|refine ⟨.inl rfl,_,.t rfl .nil,?_⟩|refine ⟨.inl rfl,_,.nil,?_⟩|refine ⟨.inr rfl,_,.cn rfl (by exact zN) .nil,?_⟩|refine ⟨.inr rfl,_,.cn rfl (by exact zN) (.t rfl .nil),?_⟩)
  exact ⟨_, _, .cons (.there (.there (.there (.there .here)))) (.cons (.there (.there (.there (.there .here)))) (.cons (.there .here) (.cons .here .nil))), p', g', c', h', rfl, rfl⟩
end
end Go.Proofs.Ytlimjjilakldgaa

namespace Go.Proofs.Ytlimjjilakldgaa
open Go Go.Abs
attribute [local irreducible] Cmp Rg Dw Cd Lp Ev Rdk CT Upd InK
abbrev mP (b : Nat) : AV := .ptr b 0 0 4
abbrev mB (b : Nat) (nv : AV) (mt mu next : Nat) : Chk := [(b, .cells [nv, .map mt, .map mu, .int .i64 (.ofNat next)] 0 0 false)]
abbrev tC (mt ck : Nat) (tes : List (EntG (List Nat))) : Chk := [(mt, .map (entsG keS tes) ck)]
abbrev uC (mu ck : Nat) (ues : List (EntG Nat)) : Chk := [(mu, .map (entsG keN ues) ck)]
abbrev v0 : Val := ⟨0, 0, []⟩
abbrev u0 : AV := .agg [.str [], .int .i64 (.ofNat 0), .nilslc, .int .i64 (.ofNat 0), .nilslc]
theorem told31T {n : Int} (h : n ≠ -1) : PT Try.prog false 31 [.int .i64 n, .bool true] (.tup [.int .i64 n, .bool true]) := by
  refine PT.of (CT.enter mixed comp31 (Nat.le_of_ble_eq_true rfl) ?_)
  have e : abin .eql (.int .i64 n) (.int .i64 (.negSucc 0)) = some (.bool false) := Cmp.F Cmp.eql (by simpa using h)
  repeat' (first|refine zz ?_|(refine zv ?_;intro cv hv)|(refine za ?_;intro _)|refine zc ?_|(refine zd ?_;refine And.intro ?_ ?_<;>(intro e;(try simp only [Bool.not_eq_true',Bool.not_eq_false'] at e);subst e;try contradiction)))
  all_goals (first|refine ⟨.inr rfl,_,.t rfl .nil,?_⟩|refine ⟨.inr rfl,_,.t rfl (.t rfl .nil),?_⟩|refine ⟨.inr rfl,_,.t rfl (.t rfl (.t rfl .nil)),?_⟩|refine ⟨.inr rfl,_,.nil,?_⟩|refine ⟨.inl rfl,_,.t rfl .nil,?_⟩|refine ⟨.inl rfl,_,.nil,?_⟩|refine ⟨.inr rfl,_,.cn rfl (by exact zN) .nil,?_⟩|refine ⟨.inr rfl,_,.cn rfl (by exact zN) (.t rfl .nil),?_⟩)
  all_goals rfl
theorem told31F {n : Int} {t : Bool} (h : n = -1 ∨ t = false) : PT Try.prog false 31 [.int .i64 n, .bool t] (.tup [.int .i64 (.ofNat 0), .bool false]) := by
  refine PT.of (CT.enter mixed comp31 (Nat.le_of_ble_eq_true rfl) ?_)
  cases t with
  | false =>
    repeat' (first|refine zz ?_|(refine zv ?_;intro cv hv)|(refine za ?_;intro _)|refine zc ?_|(refine zd ?_;refine And.intro ?_ ?_<;>(intro e;(try simp only [Bool.not_eq_true',Bool.not_eq_false'] at e);subst e;try contradiction)))
    all_goals (first|refine ⟨.inr rfl,_,.t rfl .nil,?_⟩|refine ⟨.inr rfl,_,.t rfl (.t rfl .nil),?_⟩|refine ⟨.inr rfl,_,.t rfl (.t rfl (.t rfl .nil)),?_⟩|refine ⟨.inr rfl,_,.nil,?_⟩|refine ⟨.inl rfl,_,.t rfl .nil,?_⟩|refine ⟨.inl rfl,_,.nil,?_⟩|refine ⟨.inr rfl,_,.cn rfl (by exact zN) .nil,?_⟩|refine ⟨.inr rfl,_,.cn rfl (by exact zN) (.t rfl .nil),?_⟩)
    all_goals rfl
  | true =>
    have h' : n = -1 := by simpa using h
    subst h'
    repeat' (first|refine zz ?_|(refine zv ?_;intro cv hv)|(refine za ?_;intro _)|refine zc ?_|(refine zd ?_;refine And.intro ?_ ?_<;>(intro e;(try simp only [Bool.not_eq_true',Bool.not_eq_false'] at e);subst e;try contradiction)))
    all_goals (first|refine ⟨.inr rfl,_,.t rfl .nil,?_⟩|refine ⟨.inr rfl,_,.t rfl (.t rfl .nil),?_⟩|refine ⟨.inr rfl,_,.t rfl (.t rfl (.t rfl .nil)),?_⟩|refine ⟨.inr rfl,_,.nil,?_⟩|refine ⟨.inl rfl,_,.t rfl .nil,?_⟩|refine ⟨.inl rfl,_,.nil,?_⟩|refine ⟨.inr rfl,_,.cn rfl (by exact zN) .nil,?_⟩|refine ⟨.inr rfl,_,.cn rfl (by exact zN) (.t rfl .nil),?_⟩)
    all_goals rfl
section
variable {b mt mu next ck ck2 : Nat} {nv : AV} {tes : List (EntG (List Nat))} {ues : List (EntG Nat)} {s : List Nat} {x : Val}
theorem there24 : CT Try.prog false 24 [mP b] [mB b nv mt mu next] fun w K' => w = .bool true ∧ K' = [mB b nv mt mu next] := by
  refine CT.enterS mixed comp24 (Nat.le_of_ble_eq_true rfl) ?_
  repeat' (first|refine zz ?_|(refine zv ?_;intro cv hv)|(refine za ?_;intro _)|refine zc ?_|(refine zd ?_;refine And.intro ?_ ?_<;>(intro e;(try simp only [Bool.not_eq_true',Bool.not_eq_false'] at e);subst e;try contradiction)))
  (first|refine ⟨.inr rfl,_,.t rfl .nil,?_⟩|refine ⟨.inr rfl,_,.t rfl (.t rfl .nil),?_⟩|refine ⟨.inr rfl,_,.t rfl (.t rfl (.t rfl .nil)),?_⟩|refine ⟨.inr rfl,_,.nil,?_⟩|refine ⟨.inl rfl,_,.t rfl .nil,?_⟩|refine ⟨.inl rfl,_,.nil,?_⟩|refine ⟨.inr rfl,_,.cn rfl (by exact zN) .nil,?_⟩|refine ⟨.inr rfl,_,.cn rfl (by exact zN) (.t rfl .nil),?_⟩)
  exact ⟨_, _, .cons .here .nil, rfl, rfl⟩
theorem find23N (h : underG s tes = none) : CT Try.prog false 23 [mP b, .str s] [mB b nv mt mu next, tC mt ck tes] fun w K' => w = .tup [valA v0, .bool false] ∧ K' = [mB b nv mt mu next, tC mt ck tes] := by
  refine CT.enterS mixed comp23 (Nat.le_of_ble_eq_true rfl) ?_
  have lk := fun K h => Rdk.lookkG keS (K := K) (m := mt) (ck := ck) (es := tes) (k := s) (z := valA v0) h
  simp only [getG, h, Option.isSome_none] at lk
  repeat' (first|(refine Rg.callM rfl there24 (.cons (.there .here) .nil) ?_; rintro _ _ ⟨rfl, rfl⟩)|(refine Rg.r rfl rfl (lk _ (.there (.there .here))) ?_)|refine zz ?_|(refine zv ?_;intro cv hv)|(refine za ?_;intro _)|refine zc ?_|(refine zd ?_;refine And.intro ?_ ?_<;>(intro e;(try simp only [Bool.not_eq_true',Bool.not_eq_false'] at e);subst e;try contradiction)))
  refine Dw.e (Ef.storeW rfl rfl (.there (.there Upd.here)) rfl (Nat.le_of_ble_eq_true rfl) rfl) ?_
  rintro _ _ ⟨rfl, rfl⟩
  refine ⟨by repeat (first | exact trivial | refine rdsB rfl ?_ | (refine rdsR ?_ ?_; (focus (first | assumption | (refine Rdk.b1 (cs := ?_) ?_ ?_; rotate_left; (repeat (first | exact InK.here | refine InK.there ?_)); exact rfl) | (refine Rdk.bw ?_ ?_; (repeat (first | exact InK.here | refine InK.there ?_)); first | assumption | exact rfl) | (refine Rdk.bn ?_ ?_; (repeat (first | exact InK.here | refine InK.there ?_)); exact rfl) | (refine Rdk.in ?_; first | assumption | exact rfl) | exact Rdk.i1)))), ?_⟩
  repeat' (first|refine zz ?_|(refine zv ?_;intro cv hv)|(refine za ?_;intro _)|refine zc ?_|(refine zd ?_;refine And.intro ?_ ?_<;>(intro e;(try simp only [Bool.not_eq_true',Bool.not_eq_false'] at e);subst e;try contradiction)))
  (first|refine ⟨.inr rfl,_,.t rfl .nil,?_⟩|refine ⟨.inr rfl,_,.t rfl (.t rfl .nil),?_⟩|refine ⟨.inr rfl,_,.t rfl (.t rfl (.t rfl .nil)),?_⟩|refine ⟨.inr rfl,_,.nil,?_⟩|refine ⟨.inl rfl,_,.t rfl .nil,?_⟩|refine ⟨.inl rfl,_,.nil,?_⟩|refine ⟨.inr rfl,_,.cn rfl (by exact zN) .nil,?_⟩|refine ⟨.inr rfl,_,.cn rfl (by exact zN) (.t rfl .nil),?_⟩)
  exact ⟨_, _, .cons (.there .here) (.cons (.there (.there .here)) .nil), rfl, rfl⟩
theorem find23S {n : Nat} (h : underG s tes = some (valA x, n)) (hx : x ≠ ⟨-1, -1, []⟩) : CT Try.prog false 23 [mP b, .str s] [mB b nv mt mu next, tC mt ck tes] fun w K' => w = .tup [valA x, .bool true] ∧ K' = [mB b nv mt mu next, tC mt ck tes] := by
  refine CT.enterS mixed comp23 (Nat.le_of_ble_eq_true rfl) ?_
  have lk := fun K h => Rdk.lookkG keS (K := K) (m := mt) (ck := ck) (es := tes) (k := s) (z := valA v0) h
  simp only [getG, h, Option.isSome_some] at lk
  have e : aeq (.flat true [.i, .i, .s]) (valA x) (valA ⟨-1, -1, []⟩) = some false := by rw [show aeq (.flat true [.i, .i, .s]) (valA x) (valA ⟨-1, -1, []⟩) = some (decide (x = ⟨-1, -1, []⟩)) from flatVal _ _, decide_eq_false hx]
  repeat' (first|(refine Rg.callM rfl there24 (.cons (.there .here) .nil) ?_; rintro _ _ ⟨rfl, rfl⟩)|(refine Rg.r rfl rfl (lk _ (.there (.there .here))) ?_)|refine zz ?_|(refine zv ?_;intro cv hv)|(refine za ?_;intro _)|refine zc ?_|(refine zd ?_;refine And.intro ?_ ?_<;>(intro e;(try simp only [Bool.not_eq_true',Bool.not_eq_false'] at e);subst e;try contradiction)))
  refine Dw.e (Ef.storeW rfl rfl (.there (.there Upd.here)) rfl (Nat.le_of_ble_eq_true rfl) rfl) ?_
  rintro _ _ ⟨rfl, rfl⟩
  refine ⟨by repeat (first | exact trivial | refine rdsB rfl ?_ | (refine rdsR ?_ ?_; (focus (first | assumption | (refine Rdk.b1 (cs := ?_) ?_ ?_; rotate_left; (repeat (first | exact InK.here | refine InK.there ?_)); exact rfl) | (refine Rdk.bw ?_ ?_; (repeat (first | exact InK.here | refine InK.there ?_)); first | assumption | exact rfl) | (refine Rdk.bn ?_ ?_; (repeat (first | exact InK.here | refine InK.there ?_)); exact rfl) | (refine Rdk.in ?_; first | assumption | exact rfl) | exact Rdk.i1)))), ?_⟩
  repeat' (first|refine zz ?_|(refine zv ?_;intro cv hv)|(refine za ?_;intro _)|refine zc ?_|(refine zd ?_;refine And.intro ?_ ?_<;>(intro e;(try simp only [Bool.not_eq_true',Bool.not_eq_false'] at e);subst e;try contradiction)))
  (first|refine ⟨.inr rfl,_,.t rfl .nil,?_⟩|refine ⟨.inr rfl,_,.t rfl (.t rfl .nil),?_⟩|refine ⟨.inr rfl,_,.t rfl (.t rfl (.t rfl .nil)),?_⟩|refine ⟨.inr rfl,_,.nil,?_⟩|refine ⟨.inl rfl,_,.t rfl .nil,?_⟩|refine ⟨.inl rfl,_,.nil,?_⟩|refine ⟨.inr rfl,_,.cn rfl (by exact zN) .nil,?_⟩|refine ⟨.inr rfl,_,.cn rfl (by exact zN) (.t rfl .nil),?_⟩)
  exact ⟨_, _, .cons (.there .here) (.cons (.there (.there .here)) .nil), rfl, rfl⟩
theorem cur14S {n : Nat} (h : underG s tes = some (valA x, n)) (hx : x.k ≠ -1) : CT Try.prog false 14 [mP b, .str s] [mB b nv mt mu next, tC mt ck tes] fun w K' => w = .tup [.int .i64 x.k, .bool true] ∧ K' = [mB b nv mt mu next, tC mt ck tes] := by
  have k23 := find23S (b := b) (mu := mu) (next := next) (nv := nv) (mt := mt) (ck := ck) h (fun e => hx (by rw [e]))
  have k31 := told31T hx
  refine CT.enterS mixed comp14 (Nat.le_of_ble_eq_true rfl) ?_
  repeat' (first|(refine Rg.callM rfl k23 (.cons .here (.cons .here .nil)) ?_; rintro _ _ ⟨rfl, rfl⟩)|refine zz ?_|(refine zv ?_;intro cv hv)|(refine za ?_;intro _)|refine zc ?_|(refine zd ?_;refine And.intro ?_ ?_<;>(intro e;(try simp only [Bool.not_eq_true',Bool.not_eq_false'] at e);subst e;try contradiction)))
  (first|refine ⟨.inr rfl,_,.t rfl .nil,?_⟩|refine ⟨.inr rfl,_,.t rfl (.t rfl .nil),?_⟩|refine ⟨.inr rfl,_,.t rfl (.t rfl (.t rfl .nil)),?_⟩|refine ⟨.inr rfl,_,.nil,?_⟩|refine ⟨.inl rfl,_,.t rfl .nil,?_⟩|refine ⟨.inl rfl,_,.nil,?_⟩|refine ⟨.inr rfl,_,.cn rfl (by exact zN) .nil,?_⟩|refine ⟨.inr rfl,_,.cn rfl (by exact zN) (.t rfl .nil),?_⟩)
  exact ⟨_, _, .cons (.there .here) (.cons (.there .here) .nil), rfl, rfl⟩
theorem cur14N (h : underG s tes = none) : CT Try.prog false 14 [mP b, .str s] [mB b nv mt mu next, tC mt ck tes] fun w K' => w = .tup [.int .i64 (.ofNat 0), .bool false] ∧ K' = [mB b nv mt mu next, tC mt ck tes] := by
  have k23 := find23N (b := b) (mu := mu) (next := next) (nv := nv) (mt := mt) (ck := ck) h
  have k31 := told31F (n := Int.ofNat 0) (t := false) (.inr rfl)
  refine CT.enterS mixed comp14 (Nat.le_of_ble_eq_true rfl) ?_
  repeat' (first|(refine Rg.callM rfl k23 (.cons .here (.cons .here .nil)) ?_; rintro _ _ ⟨rfl, rfl⟩)|refine zz ?_|(refine zv ?_;intro cv hv)|(refine za ?_;intro _)|refine zc ?_|(refine zd ?_;refine And.intro ?_ ?_<;>(intro e;(try simp only [Bool.not_eq_true',Bool.not_eq_false'] at e);subst e;try contradiction)))
  (first|refine ⟨.inr rfl,_,.t rfl .nil,?_⟩|refine ⟨.inr rfl,_,.t rfl (.t rfl .nil),?_⟩|refine ⟨.inr rfl,_,.t rfl (.t rfl (.t rfl .nil)),?_⟩|refine ⟨.inr rfl,_,.nil,?_⟩|refine ⟨.inl rfl,_,.t rfl .nil,?_⟩|refine ⟨.inl rfl,_,.nil,?_⟩|refine ⟨.inr rfl,_,.cn rfl (by exact zN) .nil,?_⟩|refine ⟨.inr rfl,_,.cn rfl (by exact zN) (.t rfl .nil),?_⟩)
  exact ⟨_, _, .cons (.there .here) (.cons (.there .here) .nil), rfl, rfl⟩
/-- May a unit be added? There is no module of the name, and few modules. -/
theorem may19N {N : OS} {ver : Int} (hN : N.ok 1) (hl : N.rows.length < 16) (h : underG s tes = none) : CT Try.prog false 19 [mP b, .str s, .int .i64 ver] [mB b (N.v 1) mt mu next, tC mt ck tes] fun w K' => w = .int .i64 (.ofNat 0) ∧ K' = [mB b (N.v 1) mt mu next, tC mt ck tes] := by
  have k23 := find23N (b := b) (mu := mu) (next := next) (nv := N.v 1) (mt := mt) (ck := ck) h
  have hlen := hN.len
  refine CT.enterS mixed comp19 (Nat.le_of_ble_eq_true rfl) ?_
  repeat' (first|(refine Rg.callM rfl k23 (.cons .here (.cons .here .nil)) ?_; rintro _ _ ⟨rfl, rfl⟩)|(refine Rg.callM rfl there24 (.cons (.there .here) .nil) ?_; rintro _ _ ⟨rfl, rfl⟩)|refine zz ?_|(refine zv ?_;intro cv hv)|(refine za ?_;intro _)|refine zc ?_|(refine zd ?_;refine And.intro ?_ ?_<;>(intro e;(try simp only [Bool.not_eq_true',Bool.not_eq_false'] at e);subst e;try contradiction)))
  (first|refine ⟨.inr rfl,_,.t rfl .nil,?_⟩|refine ⟨.inr rfl,_,.t rfl (.t rfl .nil),?_⟩|refine ⟨.inr rfl,_,.t rfl (.t rfl (.t rfl .nil)),?_⟩|refine ⟨.inr rfl,_,.nil,?_⟩|refine ⟨.inl rfl,_,.t rfl .nil,?_⟩|refine ⟨.inl rfl,_,.nil,?_⟩|refine ⟨.inr rfl,_,.cn rfl (by exact zN) .nil,?_⟩|refine ⟨.inr rfl,_,.cn rfl (by exact zN) (.t rfl .nil),?_⟩)
  exact ⟨_, _, .cons .here (.cons (.there .here) .nil), rfl, rfl⟩
/-- There is one without an old unit: its version is held against the new one's. -/
theorem may19S {ver v1 : Int} {n m : Nat} {nm : List Nat} {pv : AV} {c : Nat} (h : underG s tes = some (valA x, n)) (hx : x.k = (c : Int)) (ho : x.n = -1) (hu : underG c ues = some (.agg (sR nm v1 pv), m)) :
    CT Try.prog false 19 [mP b, .str s, .int .i64 ver] [mB b nv mt mu next, tC mt ck tes, uC mu ck2 ues] fun w K' => w = .int .i64 (.ofNat (if v1 ≥ ver then 15 else 0)) ∧ K' = [mB b nv mt mu next, tC mt ck tes, uC mu ck2 ues] := by
  have k23 := find23S (b := b) (mu := mu) (next := next) (nv := nv) (mt := mt) (ck := ck) h (fun e => by rw [e] at hx; simp at hx)
  have lk := fun K h => Rdk.lookG keN (K := K) (m := mu) (ck := ck2) (es := ues) (k := c) (z := u0) h
  simp only [getG, hu] at lk
  obtain ⟨xk, xn, xs⟩ := x
  simp only at hx ho
  subst hx ho
  refine CT.enterS mixed comp19 (Nat.le_of_ble_eq_true rfl) ?_
  by_cases hv : v1 ≥ ver
  · rw [if_pos hv]
    repeat' (first|(refine Rg.callM rfl k23 (.cons .here (.cons .here .nil)) ?_; rintro _ _ ⟨rfl, rfl⟩)|(refine Rg.callM rfl there24 (.cons (.there .here) .nil) ?_; rintro _ _ ⟨rfl, rfl⟩)|refine zz ?_|(refine zv ?_;intro cv hv)|(refine za ?_;intro _)|refine zc ?_|(refine zd ?_;refine And.intro ?_ ?_<;>(intro e;(try simp only [Bool.not_eq_true',Bool.not_eq_false'] at e);subst e;try contradiction)))
    refine Dw.r rfl rfl (lk _ (.there (.there (.there .here)))) ?_ ?_
    · repeat (first | exact trivial | refine And.intro (Or.inl rfl) ?_ | (refine And.intro (Or.inr ?_) ?_; (focus (first | exact Rdk.i1 | assumption | (refine Rdk.in ?_; first | assumption | exact rfl) | (refine Rdk.b1 (cs := ?_) ?_ ?_; rotate_left; (repeat (first | exact InK.here | refine InK.there ?_)); exact rfl) | (refine Rdk.bw (cs := ?_) ?_ ?_; rotate_left; (repeat (first | exact InK.here | refine InK.there ?_)); first | assumption | exact rfl) | (refine Rdk.bn (cs := ?_) ?_ ?_; rotate_left; (repeat (first | exact InK.here | refine InK.there ?_)); exact rfl)))))
    repeat' (first|refine zz ?_|(refine zv ?_;intro cv hv)|(refine za ?_;intro _)|refine zc ?_|(refine zd ?_;refine And.intro ?_ ?_<;>(intro e;(try simp only [Bool.not_eq_true',Bool.not_eq_false'] at e);subst e;try contradiction)))
    (first|refine ⟨.inr rfl,_,.t rfl .nil,?_⟩|refine ⟨.inr rfl,_,.t rfl (.t rfl .nil),?_⟩|refine ⟨.inr rfl,_,.t rfl (.t rfl (.t rfl .nil)),?_⟩|refine ⟨.inr rfl,_,.nil,?_⟩|refine ⟨.inl rfl,_,.t rfl .nil,?_⟩|refine ⟨.inl rfl,_,.nil,?_⟩|refine ⟨.inr rfl,_,.cn rfl (by exact zN) .nil,?_⟩|refine ⟨.inr rfl,_,.cn rfl (by exact zN) (.t rfl .nil),?_⟩)
    exact ⟨_, _, .cons .here (.cons (.there .here) (.cons (.there .here) .nil)), rfl, rfl⟩
  · rw [if_neg hv]
    repeat' (first|(refine Rg.callM rfl k23 (.cons .here (.cons .here .nil)) ?_; rintro _ _ ⟨rfl, rfl⟩)|(refine Rg.callM rfl there24 (.cons (.there .here) .nil) ?_; rintro _ _ ⟨rfl, rfl⟩)|refine zz ?_|(refine zv ?_;intro cv hv)|(refine za ?_;intro _)|refine zc ?_|(refine zd ?_;refine And.intro ?_ ?_<;>(intro e;(try simp only [Bool.not_eq_true',Bool.not_eq_false'] at e);subst e;try contradiction)))
    refine Dw.r rfl rfl (lk _ (.there (.there (.there .here)))) ?_ ?_
    · repeat (first | exact trivial | refine And.intro (Or.inl rfl) ?_ | (refine And.intro (Or.inr ?_) ?_; (focus (first | exact Rdk.i1 | assumption | (refine Rdk.in ?_; first | assumption | exact rfl) | (refine Rdk.b1 (cs := ?_) ?_ ?_; rotate_left; (repeat (first | exact InK.here | refine InK.there ?_)); exact rfl) | (refine Rdk.bw (cs := ?_) ?_ ?_; rotate_left; (repeat (first | exact InK.here | refine InK.there ?_)); first | assumption | exact rfl) | (refine Rdk.bn (cs := ?_) ?_ ?_; rotate_left; (repeat (first | exact InK.here | refine InK.there ?_)); exact rfl)))))
    repeat' (first|refine zz ?_|(refine zv ?_;intro cv hv)|(refine za ?_;intro _)|refine zc ?_|(refine zd ?_;refine And.intro ?_ ?_<;>(intro e;(try simp only [Bool.not_eq_true',Bool.not_eq_false'] at e);subst e;try contradiction)))
    (first|refine ⟨.inr rfl,_,.t rfl .nil,?_⟩|refine ⟨.inr rfl,_,.t rfl (.t rfl .nil),?_⟩|refine ⟨.inr rfl,_,.t rfl (.t rfl (.t rfl .nil)),?_⟩|refine ⟨.inr rfl,_,.nil,?_⟩|refine ⟨.inl rfl,_,.t rfl .nil,?_⟩|refine ⟨.inl rfl,_,.nil,?_⟩|refine ⟨.inr rfl,_,.cn rfl (by exact zN) .nil,?_⟩|refine ⟨.inr rfl,_,.cn rfl (by exact zN) (.t rfl .nil),?_⟩)
    exact ⟨_, _, .cons .here (.cons (.there .here) (.cons (.there .here) .nil)), rfl, rfl⟩
end
end Go.Proofs.Ytlimjjilakldgaa
