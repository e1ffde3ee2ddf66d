/- Two heaps with four tables: laid. -/
import Derived.Test.YtlflpjjmkigepaaPlnF
set_option autoImplicit false
set_option maxRecDepth 100000
set_option maxHeartbeats 4000000
set_option linter.unusedVariables false
set_option linter.unusedSimpArgs false
namespace Go.Proofs.Ytlflpjjmkigepaa
open Go Go.Abs
attribute [local irreducible] Cmp Rg Dw Cd Lp Ev Rdk CT Upd InK
theorem rem_i {a m : Nat} (hm : 0 < m) : abin .rem (.int .i64 (.ofNat a)) (.int .i64 (.ofNat m)) = some (.int .i64 (.ofNat (a % m))) := by
  have e : abin .rem (.int .i64 (.ofNat a)) (.int .i64 (.ofNat m)) = (bif ieq (.ofNat m) 0 then none else some (.int .i64 ((Int.ofNat a).tmod (.ofNat m)))) := rfl
  have e2 : ieq (.ofNat m) 0 = false := by
    rw [ieq_dec]; simp; omega
  rw [e, e2, cond_false]
  rfl
theorem count18 {n : Int} {m : Nat} (hn : rng n) (hm : 0 < m) : PT Try.prog false 18 [.int .i64 n, .int .i64 (.ofNat m)] (.int .i64 (.ofNat (cnt n m))) := by
  unfold rng at hn
  refine PT.of (CT.enter mixed comp18 (Nat.le_of_ble_eq_true rfl) ?_)
  by_cases h : n < 0
  · obtain ⟨a, ha⟩ : ∃ a : Nat, -(n + 1) = .ofNat a := ⟨(-(n + 1)).toNat, by simp; omega⟩
    have p1 := add_int (x := n) (y := 1) (by omega) (by omega)
    have p2 : apure .e (.un .neg (.c (.int .i64 (n + 1)))) = some (.int .i64 (.ofNat a)) := by
      have e : apure .e (.un .neg (.c (.int .i64 (n + 1)))) = some (.int .i64 (awrap .i64 (0 - (n + 1)))) := rfl
      rw [e, Int.zero_sub, ha, awrap_eq]
      congr 2
      simp only [IntKind.wrap, IntKind.bits, IntKind.signed]
      simp at ha ⊢
      omega
    have p3 := rem_i (a := a) hm
    have e : cnt n m = a % m := by
      unfold cnt
      rw [if_pos h, ha]
      exact Int.toNat_natCast _
    rw [e]
    repeat' (first|(refine zz ?_ (by refine iP (v:=?_) ?_; rotate_left; refine Ev.un rfl ?_; exact p2))|refine zz ?_|(refine zw ?_;refine And.intro ?_ ?_<;>intro hc)|(refine zv ?_;intro cv hv)|(refine za ?_;intro _)|refine zc ?_|(refine zd ?_;refine And.intro ?_ ?_<;>(intro e;(try simp only [Bool.not_eq_true',Bool.not_eq_false'] at e);subst e;try contradiction)))
    (first|refine ⟨.inr rfl,_,.t rfl .nil,?_⟩|refine ⟨.inr rfl,_,.t rfl (.t rfl .nil),?_⟩|refine ⟨.inr rfl,_,.t rfl (.t rfl (.t rfl .nil)),?_⟩|refine ⟨.inr rfl,_,.nil,?_⟩|refine ⟨.inl rfl,_,.t rfl .nil,?_⟩|refine ⟨.inl rfl,_,.nil,?_⟩|refine ⟨.inr rfl,_,.cn rfl (by exact zN) .nil,?_⟩|refine ⟨.inr rfl,_,.cn rfl (by exact zN) (.t rfl .nil),?_⟩)
    rfl
  · obtain ⟨a, rfl⟩ : ∃ a : Nat, n = .ofNat a := ⟨n.toNat, by simp; omega⟩
    have p3 := rem_i (a := a) hm
    have e : cnt (.ofNat a) m = a % m := by
      unfold cnt
      rw [if_neg h]
      exact Int.toNat_natCast _
    rw [e]
    repeat' (first|refine zz ?_|(refine zw ?_;refine And.intro ?_ ?_<;>intro hc)|(refine zv ?_;intro cv hv)|(refine za ?_;intro _)|refine zc ?_|(refine zd ?_;refine And.intro ?_ ?_<;>(intro e;(try simp only [Bool.not_eq_true',Bool.not_eq_false'] at e);subst e;try contradiction)))
    (first|refine ⟨.inr rfl,_,.t rfl .nil,?_⟩|refine ⟨.inr rfl,_,.t rfl (.t rfl .nil),?_⟩|refine ⟨.inr rfl,_,.t rfl (.t rfl (.t rfl .nil)),?_⟩|refine ⟨.inr rfl,_,.nil,?_⟩|refine ⟨.inl rfl,_,.t rfl .nil,?_⟩|refine ⟨.inl rfl,_,.nil,?_⟩|refine ⟨.inr rfl,_,.cn rfl (by exact zN) .nil,?_⟩|refine ⟨.inr rfl,_,.cn rfl (by exact zN) (.t rfl .nil),?_⟩)
    rfl
section
variable {b r : Nat} {H : MH} {c d : Chk}
theorem VOk.sc {k : Val} (h : VOk k) (hk : keyB k = true) : ScOk k := by
  rcases h with h | ⟨h, _⟩
  · exact h
  · simp only [keyB, Bool.or_eq_true, decide_eq_true_eq] at hk
    omega
theorem new19 {room : Nat} (h : room ≤ 1000000) : CT Try.prog false 19 [.int .i64 (.ofNat room)] [] fun v K' => ∃ b c, v = .tup [hP b, .int .i64 (.ofNat 0)] ∧ HC b (mNew room) [] c ∧ K' = [c] := by
  refine CT.mono newH ?_
  rintro v K' (⟨h1, _⟩ | ⟨room2, b, c, hr, _, rfl, hX, rfl⟩)
  · exfalso; simp at h1; omega
  · have : room = room2 := by rw [Int.ofNat_eq_natCast, Int.ofNat_eq_natCast] at hr; omega
    subst this
    exact ⟨b, c, rfl, hX, rfl⟩
theorem new20 {room : Nat} (h : room ≤ 1000000) : CT Try.prog false 20 [.int .i64 (.ofNat room)] [] fun v K' => ∃ b c, v = .tup [rP b, .int .i64 (.ofNat 0)] ∧ RC b (mNew room) [] c ∧ K' = [c] := by
  refine CT.mono newR ?_
  rintro v K' (⟨h1, _⟩ | ⟨room2, b, c, hr, _, rfl, hX, rfl⟩)
  · exfalso; simp at h1; omega
  · have : room = room2 := by rw [Int.ofNat_eq_natCast, Int.ofNat_eq_natCast] at hr; omega
    subst this
    exact ⟨b, c, rfl, hX, rfl⟩
end
end Go.Proofs.Ytlflpjjmkigepaa

namespace Go.Proofs.Ytlflpjjmkigepaa
open Go Go.Abs
attribute [local irreducible] Cmp Rg Dw Cd Lp Ev Rdk CT Upd InK
theorem RC.inT {r : Nat} {H : MH} {gs : List OS} {d : Chk} (h : RC r H gs d) : ∃ T : OS, ∃ vf vc, (r, AObj.cells [T.v 1, vf, vc, .int .i64 (.ofNat H.used), .int .i64 (.ofNat H.room)] 0 0 false) ∈ d ∧ apure .e (.len false (.c (T.v 1))) = some (.int .i64 (.ofNat H.tabs.length)) := by
  obtain ⟨X, hX, rfl⟩ := h
  refine ⟨X.T, X.F.v 3, X.C.v 3, by simp, ?_⟩
  have := hX.T1.len
  rwa [hX.T2, List.length_map, hX.m1] at this
theorem aeq_val (v : Val) : aeq (.flat true [.i, .i, .s]) (.agg (valR v)) (.agg (valR v)) = some true := by
  rw [show (AV.agg (valR v)) = valA v from rfl]
  simp only [aeq, flatVal, decide_true]
theorem stopAtD {P : Program} {nd : Bool} {l : SL} {K : Mem} {c : List AOper} {b : ACode} {Q : AX → SL → Mem → Prop} (h : Mrk (Cd P nd (.seq (.draw c) b) l K Q)) : Cd P nd (.seq (.draw c) b) l K Q := h.go
section
variable {b r : Nat} {H : MH} {c d : Chk}
theorem m12 {b11 b13 : Nat} {v : Val} {code : Nat} {z1 z10 : AV} (hX : HC b H [] c) (hY : RC r H [] d) :
    Cd Try.prog true (.draw r5_12) [(1, z1), (6, hP b), (8, rP r), (10, z10), (11, .ptr b11 0 0 3), (12, .int .i64 (.ofNat code)), (13, .ptr b13 0 0 3), (14, .int .i64 (.ofNat code))] [b3 b13 v, d, b3 b11 v, c]
      fun e l K => e = .nrm ∧ Sub2 [(1, z1), (6, hP b), (8, rP r), (10, z10), (92, .bool false)] l ∧ ∃ R, Sel K [c, d] R := by
  obtain ⟨vt, vf, vc, hm⟩ := RC.in hY
  have hin : ∀ K : Mem, InK (d :: K) r (AObj.cells [vt, vf, vc, .int .i64 (.ofNat H.used), .int .i64 (.ofNat H.room)] 0 0 false) := fun K => .mem hm
  have p1 : ∀ (K : Mem) y, InK K r (AObj.cells [vt, vf, vc, .int .i64 (.ofNat H.used), .int .i64 (.ofNat H.room)] 0 0 false) → Rdk K .load1 (.ptr r 0 (0 + 3) 1) y (.int .i64 (.ofNat H.used)) := fun K y h => Rdk.b1 h rfl
  have ku := usedH hX
  have q := aeq_val v
  repeat' (first|refine zz ?_|(refine zw ?_;refine And.intro ?_ ?_<;>intro hc)|(refine zv ?_;intro cv hv)|(refine za ?_;intro _)|refine zc ?_|(refine zd ?_;refine And.intro ?_ ?_<;>(intro e;(try simp only [Bool.not_eq_true',Bool.not_eq_false'] at e);subst e;try contradiction)))
  refine Dw.callM rfl ku (.cons (.there (.there (.there (.here)))) (.nil)) ?_
  rintro _ _ ⟨rfl, rfl⟩
  refine ⟨by repeat (first | exact trivial | refine rdsB rfl ?_ | (refine rdsR ?_ ?_; (focus (first | assumption | (refine Rdk.b1 (cs := ?_) ?_ ?_; rotate_left; (repeat (first | exact InK.here | refine InK.there ?_)); exact rfl) | (refine Rdk.bw ?_ ?_; (repeat (first | exact InK.here | refine InK.there ?_)); first | assumption | exact rfl) | (refine Rdk.bn ?_ ?_; (repeat (first | exact InK.here | refine InK.there ?_)); exact rfl) | (refine Rdk.in ?_; first | assumption | exact rfl) | exact Rdk.i1)))), ?_⟩
  repeat' (first|(refine Dw.r rfl rfl (p1 _ _ (by repeat (first | exact hin _ | refine InK.there ?_))) (by repeat (first | exact trivial | refine And.intro (Or.inl rfl) ?_ | refine And.intro (Or.inr (p1 _ _ (by repeat (first | exact hin _ | refine InK.there ?_)))) ?_)) ?_)|refine zz ?_|(refine zw ?_;refine And.intro ?_ ?_<;>intro hc)|(refine zv ?_;intro cv hv)|(refine za ?_;intro _)|refine zc ?_|(refine zd ?_;refine And.intro ?_ ?_<;>(intro e;(try simp only [Bool.not_eq_true',Bool.not_eq_false'] at e);subst e;try contradiction)))
  exact ⟨rfl, ⟨rfl, rfl, rfl, rfl, rfl, trivial⟩, _, (.cons (.here) (.cons (.there (.here)) (.nil)))⟩
theorem gets5_loop {t : Val} {O : OS} {b16 : Nat} {z15 : AV} {Q : AX → SL → Mem → Prop} (hX : HC b H [] c) (hY : RC r H [] d) (hok : H.ok) (hO : O.ok 3) (hr : O.rows = (mKeys H t).map valR) (hkl : (mKeys H t).length ≤ 1000)
    (hend : ∀ l', Sub2 [(6, hP b), (8, rP r), (15, z15)] l' → Q (.ext 4) l' [c, d, O.c, b3 b16 t]) :
    ∀ (f i : Nat), (mKeys H t).length < i + f → i ≤ (mKeys H t).length → Lp Try.prog true b5_1 f [(6, hP b), (8, rP r), (15, z15), (16, .ptr b16 0 0 3), (17, O.v 3), (18, .int .i64 (.ofNat i))] [c, d, O.c, b3 b16 t] Q := by
  have hOl := hO.len
  rw [hr, List.length_map] at hOl
  intro f
  induction f with
  | zero => intro i h1; omega
  | succ f ih =>
    intro i h1 h2
    refine Lp.round ?_
    by_cases hi : i < (mKeys H t).length
    · have he : (mKeys H t)[i]? = some (mKeys H t)[i] := List.getElem?_eq_getElem hi
      generalize (mKeys H t)[i] = k at he
      have kg := getH hX (t := t) (k := k)
      have kr := getR hY hok (t := t) (k := k)
      have ra : ((mKeys H t).map valR)[i]? = some (valR k) := by rw [List.getElem?_map, he]; rfl
      obtain ⟨ia, ga, ea⟩ := hO.at (by rw [hr]; exact ra)
      rw [hr] at ea
      subst ea
      have q1 := iadr_slc (sz := 3) (b := ia) (g := ga) (off := 0) (len := ((mKeys H t).map valR).length) (cap := ((mKeys H t).map valR).length) (i := i) (k := .i64) (by rw [List.length_map]; exact hi)
      have hp : ∀ K, InK K ia (.cells ((mKeys H t).map valR).flatten ga ga true) → Rdk K (.loadn 3) (.ptr ia ga (0 + i * 3) 3) (.ptr ia ga (0 + i * 3) 3) (valA k) := fun K h => Rdk.row h (valRows _) ra
      have q := aeq_val (mGet H t k).1
      repeat' (first|(refine Dw.r rfl rfl (hp _ (by repeat (first | exact InK.here | refine InK.there ?_))) (by repeat (first | exact trivial | refine And.intro (Or.inl rfl) ?_ | (refine And.intro (Or.inr ?_) ?_; (focus (first | exact Rdk.i1 | assumption | (refine Rdk.in ?_; first | assumption | exact rfl) | (refine Rdk.b1 (cs := ?_) ?_ ?_; rotate_left; (repeat (first | exact InK.here | refine InK.there ?_)); exact rfl) | (refine Rdk.bw ?_ ?_; (repeat (first | exact InK.here | refine InK.there ?_)); first | assumption | exact rfl) | (refine Rdk.bw (cs := ?_) ?_ ?_; rotate_left; (repeat (first | exact InK.here | refine InK.there ?_)); first | assumption | exact rfl) | (refine Rdk.bn ?_ ?_; (repeat (first | exact InK.here | refine InK.there ?_)); exact rfl) | (refine Rdk.bn (cs := ?_) ?_ ?_; rotate_left; (repeat (first | exact InK.here | refine InK.there ?_)); exact rfl)))))) ?_)|(refine Dw.callM rfl kg (.cons (.here) (.nil)) ?_; rintro _ _ ⟨rfl, rfl⟩; refine ⟨by repeat (first | exact trivial | refine rdsB rfl ?_ | (refine rdsR ?_ ?_; (focus (first | assumption | (refine Rdk.b1 (cs := ?_) ?_ ?_; rotate_left; (repeat (first | exact InK.here | refine InK.there ?_)); exact rfl) | (refine Rdk.bw ?_ ?_; (repeat (first | exact InK.here | refine InK.there ?_)); first | assumption | exact rfl) | (refine Rdk.bn ?_ ?_; (repeat (first | exact InK.here | refine InK.there ?_)); exact rfl) | (refine Rdk.in ?_; first | assumption | exact rfl) | exact Rdk.i1)))), ?_⟩)|(refine Dw.a (Mk.box rfl rfl) fun b2 => ?_)|(refine Dw.e (Ef.storeW rfl rfl Upd.here rfl (Nat.le_of_ble_eq_true rfl) rfl) ?_; rintro _ _ ⟨rfl, rfl⟩; refine ⟨by repeat (first | exact trivial | refine rdsB rfl ?_ | (refine rdsR ?_ ?_; (focus (first | assumption | (refine Rdk.b1 (cs := ?_) ?_ ?_; rotate_left; (repeat (first | exact InK.here | refine InK.there ?_)); exact rfl) | (refine Rdk.bw ?_ ?_; (repeat (first | exact InK.here | refine InK.there ?_)); first | assumption | exact rfl) | (refine Rdk.bn ?_ ?_; (repeat (first | exact InK.here | refine InK.there ?_)); exact rfl) | (refine Rdk.in ?_; first | assumption | exact rfl) | exact Rdk.i1)))), ?_⟩)|refine zz ?_|(refine zw ?_;refine And.intro ?_ ?_<;>intro hc)|(refine zv ?_;intro cv hv)|(refine za ?_;intro _)|refine zc ?_|(refine zd ?_;refine And.intro ?_ ?_<;>(intro e;(try simp only [Bool.not_eq_true',Bool.not_eq_false'] at e);subst e;try contradiction)))
      refine Dw.callM rfl kr (.cons (.there (.there (.here))) (.nil)) ?_
      rintro _ _ ⟨rfl, rfl⟩
      refine ⟨by repeat (first | exact trivial | refine rdsB rfl ?_ | (refine rdsR ?_ ?_; (focus (first | assumption | (refine Rdk.b1 (cs := ?_) ?_ ?_; rotate_left; (repeat (first | exact InK.here | refine InK.there ?_)); exact rfl) | (refine Rdk.bw ?_ ?_; (repeat (first | exact InK.here | refine InK.there ?_)); first | assumption | exact rfl) | (refine Rdk.bn ?_ ?_; (repeat (first | exact InK.here | refine InK.there ?_)); exact rfl) | (refine Rdk.in ?_; first | assumption | exact rfl) | exact Rdk.i1)))), ?_⟩
      repeat' (first|(refine Dw.a (Mk.box rfl rfl) fun b2 => ?_)|(refine Dw.e (Ef.storeW rfl rfl Upd.here rfl (Nat.le_of_ble_eq_true rfl) rfl) ?_; rintro _ _ ⟨rfl, rfl⟩; refine ⟨by repeat (first | exact trivial | refine rdsB rfl ?_ | (refine rdsR ?_ ?_; (focus (first | assumption | (refine Rdk.b1 (cs := ?_) ?_ ?_; rotate_left; (repeat (first | exact InK.here | refine InK.there ?_)); exact rfl) | (refine Rdk.bw ?_ ?_; (repeat (first | exact InK.here | refine InK.there ?_)); first | assumption | exact rfl) | (refine Rdk.bn ?_ ?_; (repeat (first | exact InK.here | refine InK.there ?_)); exact rfl) | (refine Rdk.in ?_; first | assumption | exact rfl) | exact Rdk.i1)))), ?_⟩)|refine zz ?_|(refine zw ?_;refine And.intro ?_ ?_<;>intro hc)|(refine zv ?_;intro cv hv)|(refine za ?_;intro _)|refine zc ?_|(refine zd ?_;refine And.intro ?_ ?_<;>(intro e;(try simp only [Bool.not_eq_true',Bool.not_eq_false'] at e);subst e;try contradiction)))
      exact Lp.drop (.cons (.there (.there (.there (.here)))) (.cons (.there (.here)) (.cons (.there (.there (.here))) (.cons (.there (.there (.here))) (.nil))))) (Lp.weak (by exact ⟨rfl, rfl, rfl, rfl, rfl, rfl, trivial⟩) (ih (i + 1) (by omega) hi))
    · repeat' (first|refine zz ?_|(refine zw ?_;refine And.intro ?_ ?_<;>intro hc)|(refine zv ?_;intro cv hv)|(refine za ?_;intro _)|refine zc ?_|(refine zd ?_;refine And.intro ?_ ?_<;>(intro e;(try simp only [Bool.not_eq_true',Bool.not_eq_false'] at e);subst e;try contradiction)))
      exact hend _ ⟨rfl, rfl, rfl, trivial⟩
theorem keys_le (hok : H.ok) (hu : H.room ≤ 1000) (t : Val) : (mKeys H t).length ≤ 1000 := by
  unfold mKeys
  split
  · simp
  · rename_i i hi
    have := hok.tabs _ (tabL_mem (tabI_some hi).2)
    have := hok.le
    simp
    omega
theorem tabs5_loop {Q : AX → SL → Mem → Prop} (hX : HC b H [] c) (hY : RC r H [] d) (hok : H.ok) (hu : H.room ≤ 1000) (hend : ∀ l' K, Q (.ext 2) l' K) :
    ∀ (f i : Nat), H.tabs.length < i + f → i ≤ H.tabs.length → Lp Try.prog true b5_2 f [(6, hP b), (8, rP r), (15, .int .i64 (.ofNat i))] [c, d] Q := by
  obtain ⟨T, vf, vc, hm, hlen⟩ := RC.inT hY
  have hin : ∀ K : Mem, InK (d :: K) r (AObj.cells [T.v 1, vf, vc, .int .i64 (.ofNat H.used), .int .i64 (.ofNat H.room)] 0 0 false) := fun K => .mem hm
  have p1 : ∀ (K : Mem) y, InK K r (AObj.cells [T.v 1, vf, vc, .int .i64 (.ofNat H.used), .int .i64 (.ofNat H.room)] 0 0 false) → Rdk K .load1 (.ptr r 0 (0 + 0) 1) y (T.v 1) := fun K y h => Rdk.b1 h rfl
  have htl : H.tabs.length ≤ 1000 := by
    have h1 := hok.used
    have h2 := hok.le
    omega
  intro f
  induction f with
  | zero => intro i h1; omega
  | succ f ih =>
    intro i h1 h2
    refine Lp.round ?_
    by_cases hi : i < H.tabs.length
    · have hkl := keys_le hok hu ⟨3, (i : Int), []⟩
      have k1 := keysH hX (t := ⟨3, (i : Int), []⟩) (fun L hL => by have := hok.tabs L hL; have := hok.le; omega)
      have k2 := (keysR hY hok (t := ⟨3, (i : Int), []⟩)).up (nd := true)
      repeat' (first|(refine Rg.r rfl rfl (p1 _ _ (by repeat (first | exact hin _ | refine InK.there ?_))) ?_)|(refine Rg.callM rfl k1 (.cons (.there (.here)) (.nil)) ?_; rintro _ _ ⟨O, hO, hr, rfl, rfl⟩)|refine zz ?_|(refine zw ?_;refine And.intro ?_ ?_<;>intro hc)|(refine zv ?_;intro cv hv)|(refine za ?_;intro _)|refine zc ?_|(refine zd ?_;refine And.intro ?_ ?_<;>(intro e;(try simp only [Bool.not_eq_true',Bool.not_eq_false'] at e);subst e;try contradiction)))
      refine Rg.callM rfl k2 (.cons (.there (.there (.there (.here)))) (.nil)) ?_
      rintro _ _ ⟨O2, hO2, hr2, rfl, rfl⟩
      have k3 := (values47 (X := []) hO hr hO2 hr2 (by omega)).up (nd := true)
      rw [decide_eq_true rfl] at k3
      repeat' (first|(refine Rg.callM rfl k3 (.cons (.there (.there (.there (.here)))) (.cons (.there (.here)) (.nil))) ?_; rintro _ _ ⟨rfl, rfl⟩)|refine zz ?_|(refine zw ?_;refine And.intro ?_ ?_<;>intro hc)|(refine zv ?_;intro cv hv)|(refine za ?_;intro _)|refine zc ?_|(refine zd ?_;refine And.intro ?_ ?_<;>(intro e;(try simp only [Bool.not_eq_true',Bool.not_eq_false'] at e);subst e;try contradiction)))
      rename_i b16
      refine Cd.loop (k := (mKeys H ⟨3, (i : Int), []⟩).length + 1) (Lp.drop (.cons (.there (.there (.there (.here)))) (.cons (.there (.there (.here))) (.cons (.here) (.cons (.there (.here)) (.nil))))) (Lp.weak (l2 := [(6, hP b), (8, rP r), (15, .int .i64 (.ofNat i)), (16, .ptr b16 0 0 3), (17, O.v 3), (18, .int .i64 (.ofNat 0))]) ⟨rfl, rfl, rfl, rfl, rfl, rfl, trivial⟩ (gets5_loop (t := ⟨3, (i : Int), []⟩) hX hY hok hO hr hkl ?_ _ 0 (by omega) (by omega))))
      intro l' hsub
      show Cd _ _ _ _ _ _
      refine Cd.weak hsub ?_
      repeat' (first|refine zz ?_|(refine zw ?_;refine And.intro ?_ ?_<;>intro hc)|(refine zv ?_;intro cv hv)|(refine za ?_;intro _)|refine zc ?_|(refine zd ?_;refine And.intro ?_ ?_<;>(intro e;(try simp only [Bool.not_eq_true',Bool.not_eq_false'] at e);subst e;try contradiction)))
      exact Lp.drop (.cons (.here) (.cons (.here) (.nil))) (Lp.weak (by exact ⟨rfl, rfl, rfl, trivial⟩) (ih (i + 1) (by omega) hi))
    · repeat' (first|(refine Rg.r rfl rfl (p1 _ _ (by repeat (first | exact hin _ | refine InK.there ?_))) ?_)|refine zz ?_|(refine zw ?_;refine And.intro ?_ ?_<;>intro hc)|(refine zv ?_;intro cv hv)|(refine za ?_;intro _)|refine zc ?_|(refine zd ?_;refine And.intro ?_ ?_<;>(intro e;(try simp only [Bool.not_eq_true',Bool.not_eq_false'] at e);subst e;try contradiction)))
      exact hend _ _
def strR (s : List Nat) : List AV := [.str s]
theorem loads5_loop {lv : AV} {ls : List (List Nat)} {Q : AX → SL → Mem → Prop} (hL : ASl 1 lv (ls.map strR)) (hO : ∀ s, s ∈ ls → ∀ x, x ∈ s → x < 256) (hll : ls.length ≤ 9223372036854775807)
    (hend : ∀ l' H c d, Sub2 [(6, hP b), (8, rP r)] l' → HC b H [] c → RC r H [] d → H.ok → H.room ≤ 1000 → Q (.ext 0) l' [c, d]) (hret : ∀ l' K, lkS l' 4 = some (.bool true) → Q .ret l' K) :
    ∀ (f i : Nat) (H : MH) (c d : Chk), 6 < i + f → i ≤ 6 → HC b H [] c → RC r H [] d → WOk H → H.room ≤ 1000 → Lp Try.prog true b5_0 f [(1, lv), (6, hP b), (8, rP r), (10, .int .i64 (.ofNat i))] [c, d] Q := by
  have hln := hL.len
  rw [List.length_map] at hln
  have k11 := known11r.up (nd := true)
  intro f
  induction f with
  | zero => intro i H c d h1; omega
  | succ f ih =>
    intro i H c d h1 h2 hX hY hW hu
    refine Lp.round ?_
    by_cases hi : i < ls.length ∧ i < 6
    · obtain ⟨hi1, hi2⟩ := hi
      obtain ⟨s, ho⟩ : ∃ s, ls[i]? = some s := ⟨_, List.getElem?_eq_getElem hi1⟩
      have hs := hO s (List.mem_of_getElem? ho)
      have q1 := hL.iadr (i := i) (r := strR s) (k := .i64) (by rw [List.getElem?_map, ho]; rfl)
      by_cases hl : s.length ≤ 20000
      · have k21 := (load21 hX hW hs (by omega) hu).up (nd := true)
        have k22 := (load22 hY hW hs (by omega) hu).up (nd := true)
        have hW2 : WOk (ldA H s (rightB s) (needsN s)).1 ∧ (ldA H s (rightB s) (needsN s)).1.room ≤ 1000 := by
          unfold ldA
          split
          · exact ⟨hW, hu⟩
          · rename_i hr
            split
            · exact ⟨hW, hu⟩
            · rename_i hroom
              obtain ⟨v, H2, l2, hd, hP⟩ := load_ok hs hW (by simpa using hr) hroom hu
              rw [hd]
              exact ⟨hP.wok, by rw [hP.room]; exact hu⟩
        generalize ldA H s (rightB s) (needsN s) = A at k21 k22 hW2
        obtain ⟨H2, v, code⟩ := A
        repeat' (first|(refine Rg.callM rfl k21 (.cons (.here) (.nil)) ?_; rintro _ _ ⟨rfl, c', hX', rfl⟩)|(refine Rg.callM rfl k22 (.cons (.there (.there (.here))) (.nil)) ?_; rintro _ _ ⟨rfl, d', hY', rfl⟩)|(refine stopAtD (c := r5_12) ?_)|refine zz ?_|(refine zw ?_;refine And.intro ?_ ?_<;>intro hc)|(refine zv ?_;intro cv hv)|(refine za ?_;intro _)|refine zc ?_|(refine zd ?_;refine And.intro ?_ ?_<;>(intro e;(try simp only [Bool.not_eq_true',Bool.not_eq_false'] at e);subst e;try contradiction)))
        rename_i b11 b13
        refine ⟨?_⟩
        refine Cd.seq (Cd.weak (l2 := [(1, lv), (6, hP b), (8, rP r), (10, .int .i64 (.ofNat i)), (11, .ptr b11 0 0 3), (12, .int .i64 (.ofNat code)), (13, .ptr b13 0 0 3), (14, .int .i64 (.ofNat code))]) ⟨rfl, rfl, rfl, rfl, rfl, rfl, rfl, rfl, trivial⟩ (Cd.mono (m12 hX' hY') ?_))
        rintro _ l' _ ⟨rfl, hsub, R, hsel⟩
        show Cd _ _ _ _ _ _
        refine Cd.weak hsub (Cd.drop hsel ?_)
        repeat' (first|refine zz ?_|(refine zw ?_;refine And.intro ?_ ?_<;>intro hc)|(refine zv ?_;intro cv hv)|(refine za ?_;intro _)|refine zc ?_|(refine zd ?_;refine And.intro ?_ ?_<;>(intro e;(try simp only [Bool.not_eq_true',Bool.not_eq_false'] at e);subst e;try contradiction)))
        exact Lp.weak (by exact ⟨rfl, rfl, rfl, rfl, trivial⟩) (ih (i + 1) H2 c' d' (by omega) hi2 hX' hY' hW2.1 hW2.2)
      · repeat' (first|refine zz ?_|(refine zw ?_;refine And.intro ?_ ?_<;>intro hc)|(refine zv ?_;intro cv hv)|(refine za ?_;intro _)|refine zc ?_|(refine zd ?_;refine And.intro ?_ ?_<;>(intro e;(try simp only [Bool.not_eq_true',Bool.not_eq_false'] at e);subst e;try contradiction)))
        exact hret _ _ (by subst hv; rfl)
    · repeat' (first|refine zz ?_|(refine zw ?_;refine And.intro ?_ ?_<;>intro hc)|(refine zv ?_;intro cv hv)|(refine za ?_;intro _)|refine zc ?_|(refine zd ?_;refine And.intro ?_ ?_<;>(intro e;(try simp only [Bool.not_eq_true',Bool.not_eq_false'] at e);subst e;try contradiction)))
      all_goals first | exact hend _ _ _ _ ⟨rfl, rfl, trivial⟩ hX hY hW.ok hu | (exfalso; omega)
theorem loads5 {room : Int} {lv : AV} {ls : List (List Nat)} (hn : rng room) (hL : ASl 1 lv (ls.map strR)) (hO : ∀ s, s ∈ ls → ∀ x, x ∈ s → x < 256) (hll : ls.length ≤ 9223372036854775807) : CT Try.prog true 5 [.int .i64 room, lv] [] fun w _ => w = .bool true := by
  have k18 := (count18 (m := 600) hn (by decide)).up (nd := true)
  have hlt := cnt_lt (n := room) (m := 600) (by decide)
  have k19 := (new19 (room := cnt room 600) (by omega)).up (nd := true)
  have k20 := (new20 (room := cnt room 600) (by omega)).up (nd := true)
  have k11 := known11r.up (nd := true)
  refine CT.enter mixed comp5 (Nat.le_of_ble_eq_true rfl) ?_
  repeat' (first|refine zz ?_|(refine zw ?_;refine And.intro ?_ ?_<;>intro hc)|(refine zv ?_;intro cv hv)|(refine za ?_;intro _)|refine zc ?_|(refine zd ?_;refine And.intro ?_ ?_<;>(intro e;(try simp only [Bool.not_eq_true',Bool.not_eq_false'] at e);subst e;try contradiction)))
  refine Rg.callM (m := []) rfl k19 .nil ?_
  rintro _ _ ⟨b, c, rfl, hX, rfl⟩
  repeat' (first|refine zz ?_|(refine zw ?_;refine And.intro ?_ ?_<;>intro hc)|(refine zv ?_;intro cv hv)|(refine za ?_;intro _)|refine zc ?_|(refine zd ?_;refine And.intro ?_ ?_<;>(intro e;(try simp only [Bool.not_eq_true',Bool.not_eq_false'] at e);subst e;try contradiction)))
  refine Rg.callM (m := []) rfl k20 .nil ?_
  rintro _ _ ⟨r, d, rfl, hY, rfl⟩
  repeat' (first|refine zz ?_|(refine zw ?_;refine And.intro ?_ ?_<;>intro hc)|(refine zv ?_;intro cv hv)|(refine za ?_;intro _)|refine zc ?_|(refine zd ?_;refine And.intro ?_ ?_<;>(intro e;(try simp only [Bool.not_eq_true',Bool.not_eq_false'] at e);subst e;try contradiction)))
  refine Cd.loop (k := 7) (Lp.drop (.cons (.there (.here)) (.cons (.here) (.nil))) (Lp.weak (l2 := [(1, lv), (6, hP b), (8, rP r), (10, .int .i64 (.ofNat 0))]) ⟨rfl, rfl, rfl, rfl, trivial⟩ (loads5_loop hL hO hll ?_ ?_ 7 0 _ c d (by omega) (by omega) hX hY (WOk.new (by omega)) (by show cnt room 600 ≤ 1000; omega))))
  · intro l' H c d hsub hX hY hok hu
    show Cd _ _ _ _ _ _
    refine Cd.weak hsub ?_
    repeat' (first|refine zz ?_|(refine zw ?_;refine And.intro ?_ ?_<;>intro hc)|(refine zv ?_;intro cv hv)|(refine za ?_;intro _)|refine zc ?_|(refine zd ?_;refine And.intro ?_ ?_<;>(intro e;(try simp only [Bool.not_eq_true',Bool.not_eq_false'] at e);subst e;try contradiction)))
    refine Cd.loop (k := H.tabs.length + 1) (Lp.weak (l2 := [(6, hP b), (8, rP r), (15, .int .i64 (.ofNat 0))]) ⟨rfl, rfl, rfl, trivial⟩ (tabs5_loop hX hY hok hu ?_ _ 0 (by omega) (by omega)))
    intro l' K
    show Cd _ _ _ _ _ _
    refine Cd.drop (m := []) .nil ?_
    repeat' (first|refine zz ?_|(refine zw ?_;refine And.intro ?_ ?_<;>intro hc)|(refine zv ?_;intro cv hv)|(refine za ?_;intro _)|refine zc ?_|(refine zd ?_;refine And.intro ?_ ?_<;>(intro e;(try simp only [Bool.not_eq_true',Bool.not_eq_false'] at e);subst e;try contradiction)))
    (first|refine ⟨.inr rfl,_,.t rfl .nil,?_⟩|refine ⟨.inr rfl,_,.t rfl (.t rfl .nil),?_⟩|refine ⟨.inr rfl,_,.t rfl (.t rfl (.t rfl .nil)),?_⟩|refine ⟨.inr rfl,_,.nil,?_⟩|refine ⟨.inl rfl,_,.t rfl .nil,?_⟩|refine ⟨.inl rfl,_,.nil,?_⟩|refine ⟨.inr rfl,_,.cn rfl (by exact zN) .nil,?_⟩|refine ⟨.inr rfl,_,.cn rfl (by exact zN) (.t rfl .nil),?_⟩)
    subst hv
    rfl
  · intro l' K h4
    exact ⟨.inr rfl, _, .t h4 .nil, rfl⟩
end
end Go.Proofs.Ytlflpjjmkigepaa
