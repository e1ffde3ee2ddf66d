/- HeapPlays: keys and closures are told by both heaps; what is told is spoilt. -/
import Derived.Test.YtggpnokhhpnnaaaHepR
set_option autoImplicit false
set_option maxRecDepth 100000
set_option maxHeartbeats 4000000
set_option linter.unusedVariables false
set_option linter.unusedSimpArgs false
namespace Go.Proofs.Ytggpnokhhpnnaaa
open Go Go.Abs
attribute [local irreducible] Cmp Rg Dw Cd Lp Ev Rdk CT Upd InK
theorem setSeg_len {cs vs : List AV} {o : Nat} (h : o + vs.length ≤ cs.length) : (setSeg cs o vs).length = cs.length := by
  simp only [setSeg, List.length_append, List.length_take, List.length_drop]
  omega
section
variable {z0 z12 z13 z14 z15 z17 : AV}
theorem spoil29 {Q : AX → SL → Mem → Prop} {id g n : Nat} (hn : n ≤ 100000)
    (hend : ∀ (X : Chk) (l' : SL), Sub2 [(0, z0), (12, z12), (13, z13), (14, z14), (15, z15), (17, z17)] l' → Q (.ext 1) l' [X]) :
    ∀ (f i : Nat) (cs : List AV), n < i + f → i ≤ n → cs.length = n * 3 → Lp Try.prog true b29_0 f [(0, z0), (12, z12), (13, z13), (14, z14), (15, z15), (16, .slc id g 0 n n 3), (17, z17), (18, .int .i64 (.ofNat i))] [[(id, .cells cs g g true)]] Q := by
  intro f
  induction f with
  | zero => intro i cs h1 h2; omega
  | succ f ih =>
    intro i cs h1 h2 hl
    refine Lp.round ?_
    by_cases hi : i < n
    · have q1 := iadr_slc (sz := 3) (b := id) (g := g) (off := 0) (len := n) (cap := n) (i := i) (k := .i64) hi
      have hoff : 0 + i * 3 + 0 + 1 ≤ cs.length := by omega
      repeat' (first|refine zz ?_|(refine zw ?_;refine And.intro ?_ ?_<;>intro hc)|(refine zv ?_;intro cv hv)|(refine za ?_;intro _)|refine zc ?_|(refine zd ?_;refine And.intro ?_ ?_<;>(intro e;(try simp only [Bool.not_eq_true',Bool.not_eq_false'] at e);subst e;try contradiction)))
      refine Rg.e (Ef.store1 (g := g) (w := g) (gr := true) rfl rfl ⟨rfl, rfl⟩ Upd.here hoff) ?_
      rintro _ _ ⟨rfl, rfl⟩
      repeat' (first|refine zz ?_|(refine zw ?_;refine And.intro ?_ ?_<;>intro hc)|(refine zv ?_;intro cv hv)|(refine za ?_;intro _)|refine zc ?_|(refine zd ?_;refine And.intro ?_ ?_<;>(intro e;(try simp only [Bool.not_eq_true',Bool.not_eq_false'] at e);subst e;try contradiction)))
      refine Lp.weak ?hw (ih (i + 1) _ (by omega) (by omega) (by rw [setSeg_len hoff]; exact hl))
      case hw => exact ⟨rfl, rfl, rfl, rfl, rfl, rfl, rfl, rfl, trivial⟩
    · repeat' (first|refine zz ?_|(refine zw ?_;refine And.intro ?_ ?_<;>intro hc)|(refine zv ?_;intro cv hv)|(refine za ?_;intro _)|refine zc ?_|(refine zd ?_;refine And.intro ?_ ?_<;>(intro e;(try simp only [Bool.not_eq_true',Bool.not_eq_false'] at e);subst e;try contradiction)))
      exact hend _ _ ⟨rfl, rfl, rfl, rfl, rfl, rfl, trivial⟩
theorem spoilO {Q : AX → SL → Mem → Prop} {O : OS} (hO : O.ok 3) (hn : O.rows.length ≤ 100000)
    (hend : ∀ (X : Chk) (l' : SL), Sub2 [(0, z0), (12, z12), (13, z13), (14, z14), (15, z15), (17, z17)] l' → Q (.ext 1) l' [X]) :
    Lp Try.prog true b29_0 (O.rows.length + 1) [(0, z0), (12, z12), (13, z13), (14, z14), (15, z15), (16, O.v 3), (17, z17), (18, .int .i64 (.ofNat 0))] [O.c] Q := by
  obtain ⟨o, rows⟩ := O
  cases o with
  | none =>
    obtain rfl : rows = [] := hO.no rfl
    refine Lp.round ?_
    repeat' (first|refine zz ?_|(refine zw ?_;refine And.intro ?_ ?_<;>intro hc)|(refine zv ?_;intro cv hv)|(refine za ?_;intro _)|refine zc ?_|(refine zd ?_;refine And.intro ?_ ?_<;>(intro e;(try simp only [Bool.not_eq_true',Bool.not_eq_false'] at e);subst e;try contradiction)))
    exact hend _ _ ⟨rfl, rfl, rfl, rfl, rfl, rfl, trivial⟩
  | some p => exact spoil29 hn hend _ 0 _ (by omega) (by omega) (rows_len hO.row)
end
section
variable {b r i : Nat} {H : MH} {fs gs : List OS} {c d : Chk} {o : OpS}
theorem Bd.tabs (hB : Bd H i) (hi : i < 1000) : ∀ L, L ∈ H.tabs → L.length ≤ 1000 := by
  intro L hL
  obtain ⟨j, hj, e⟩ := List.getElem_of_mem hL
  have := len_le hj
  rw [tabL, List.getElem?_eq_getElem hj, e] at this
  have hu := hB.ok.used
  have := hB.used
  simp only [Option.getD_some] at *
  omega
theorem keys_le (hB : Bd H i) (hi : i < 1000) (t : Val) : (mKeys H t).length ≤ 1000 := by
  unfold mKeys
  split
  · simp
  · rename_i j hj
    rw [List.length_map]
    exact hB.tabs hi _ (tabL_mem (tabI_some hj).2)
theorem does3 (hX : HC b H fs c) (hY : RC r H gs d) (hB : Bd H i) (hi : i < 1000) (h1 : o.kind = 3) : CT Try.prog true 29 [hP b, rP r, .agg (opS o)] [c, fsC fs, d, fsC gs] (Both r H) := by
  have hkl := keys_le hB hi o.t
  refine CT.enterS mixed comp29 (Nat.le_of_ble_eq_true rfl) ?_
  repeat' (first|(refine Rg.r rfl rfl (rdT _ _ _ (by repeat (first | exact InK.here | refine InK.there ?_))) ?_)|(refine Rg.callM rfl (lenH (t := o.t) hX).up (.cons (.there (.here)) (.nil)) ?_; rintro _ _ ⟨rfl, rfl⟩)|(refine Rg.callM rfl (lenR (t := o.t) hY).up (.cons (.there (.there (.there (.here)))) (.nil)) ?_; rintro _ _ ⟨rfl, rfl⟩)|(refine Rg.callM rfl (keysH (t := o.t) hX (hB.tabs hi)) (.cons (.there (.here)) (.nil)) ?_; rintro _ _ ⟨O, hO, hOr, rfl, rfl⟩)|(refine Rg.callM rfl (keysR (t := o.t) hY hB.ok).up (.cons (.there (.there (.here))) (.nil)) ?_; rintro _ _ ⟨B, hBo, hBr, rfl, rfl⟩)|refine zz ?_|(refine zw ?_;refine And.intro ?_ ?_<;>intro hc)|(refine zv ?_;intro cv hv)|(refine za ?_;intro _)|refine zc ?_|(refine zd ?_;refine And.intro ?_ ?_<;>(intro e;(try simp only [Bool.not_eq_true',Bool.not_eq_false'] at e);subst e;try contradiction)))
  refine Rg.callM rfl (((values47 (X := []) hO hOr hBo hBr (by omega)).mono (R := fun w K' => w = .bool true ∧ K' = [O.c, B.c]) (by rintro w K ⟨rfl, rfl⟩; exact ⟨by simp, rfl⟩)).up) (.cons (.there (.there (.there (.here)))) (.cons (.there (.here)) (.nil))) ?_
  rintro _ _ ⟨rfl, rfl⟩
  repeat' (first|refine zz ?_|(refine zw ?_;refine And.intro ?_ ?_<;>intro hc)|(refine zv ?_;intro cv hv)|(refine za ?_;intro _)|refine zc ?_|(refine zd ?_;refine And.intro ?_ ?_<;>(intro e;(try simp only [Bool.not_eq_true',Bool.not_eq_false'] at e);subst e;try contradiction)))
  refine Cd.weak (l2 := [(0, _), (12, _), (13, _), (14, _), (15, _), (16, _), (17, _), (18, _)]) ⟨rfl, rfl, rfl, rfl, rfl, rfl, rfl, rfl, trivial⟩ ?_
  refine Cd.loop (k := O.rows.length + 1) (Lp.fr (.cons (.here) (.nil)) (spoilO hO (by rw [hOr, List.length_map]; omega) ?_))
  intro X l' hs
  show Cd _ _ _ _ _ _
  refine Cd.weak hs ?_
  repeat' (first|refine zz ?_|(refine zw ?_;refine And.intro ?_ ?_<;>intro hc)|(refine zv ?_;intro cv hv)|(refine za ?_;intro _)|refine zc ?_|(refine zd ?_;refine And.intro ?_ ?_<;>(intro e;(try simp only [Bool.not_eq_true',Bool.not_eq_false'] at e);subst e;try contradiction)))
  (first|refine ⟨.inr rfl,_,.t rfl .nil,?_⟩|refine ⟨.inr rfl,_,.t rfl (.t rfl .nil),?_⟩|refine ⟨.inr rfl,_,.t rfl (.t rfl (.t rfl .nil)),?_⟩|refine ⟨.inr rfl,_,.nil,?_⟩|refine ⟨.inl rfl,_,.t rfl .nil,?_⟩|refine ⟨.inl rfl,_,.nil,?_⟩|refine ⟨.inr rfl,_,.cn rfl (by exact zN) .nil,?_⟩|refine ⟨.inr rfl,_,.cn rfl (by exact zN) (.t rfl .nil),?_⟩)
  exact ⟨_, _, (.cons (.there (.there (.there (.here)))) (.cons (.there (.there (.there (.there (.here))))) (.cons (.there (.there (.here))) (.cons (.there (.there (.there (.here)))) (.nil))))), b, c, fs, d, gs, rfl, hX, hY, rfl⟩
end
end Go.Proofs.Ytggpnokhhpnnaaa

namespace Go.Proofs.Ytggpnokhhpnnaaa
open Go Go.Abs
attribute [local irreducible] Cmp Rg Dw Cd Lp Ev Rdk CT Upd InK
section
variable {A B : OS} {xs : List Int}
theorem rowIs (xs : List Int) : ∀ r, r ∈ xs.map rowI → r.length = 1 := by
  intro r hr
  obtain ⟨v, _, rfl⟩ := List.mem_map.1 hr
  rfl
theorem ints25_same {K : Mem} {Q : AX → SL → Mem → Prop} (hA : A.ok 1) (hAr : A.rows = xs.map rowI) (hB : B.ok 1) (hBr : B.rows = xs.map rowI) (hll : xs.length ≤ 1000000) (hiA : ∀ id o, (id, o) ∈ A.c → InK K id o) (hiB : ∀ id o, (id, o) ∈ B.c → InK K id o)
    (hend : ∀ l', Q (.ext 0) l' K) : ∀ (f i : Nat), xs.length < i + f → i ≤ xs.length → Lp Try.prog false b25_0 f [(0, A.v 1), (1, B.v 1), (5, .int .i64 (.ofNat i))] K Q := by
  have hAl := hA.len
  have hBl := hB.len
  rw [hAr, List.length_map] at hAl
  rw [hBr, List.length_map] at hBl
  intro f
  induction f with
  | zero => intro i h1 h2; omega
  | succ f ih =>
    intro i h1 h2
    refine Lp.round ?_
    by_cases hi : i < xs.length
    · have ra : (xs.map rowI)[i]? = some (rowI xs[i]) := by rw [List.getElem?_map, List.getElem?_eq_getElem hi]; rfl
      obtain ⟨ia, ga, ea⟩ := hA.at (by rw [hAr]; exact ra)
      obtain ⟨ib, gb, eb⟩ := hB.at (by rw [hBr]; exact ra)
      rw [hAr] at ea
      rw [hBr] at eb
      subst ea
      subst eb
      have q1 := iadr_slc (sz := 1) (b := ia) (g := ga) (off := 0) (len := (xs.map rowI).length) (cap := (xs.map rowI).length) (i := i) (k := .i64) (by rw [List.length_map]; exact hi)
      have q2 := iadr_slc (sz := 1) (b := ib) (g := gb) (off := 0) (len := (xs.map rowI).length) (cap := (xs.map rowI).length) (i := i) (k := .i64) (by rw [List.length_map]; exact hi)
      have p1 := Rdk.cel0 (K := K) (id := ia) (g := ga) (gr := true) (y := .ptr ia ga (0 + i * 1) 1) (lm := 0) (i := i) (v := .int .i64 xs[i]) (hiA _ _ (by simp [OS.c])) (rowIs xs) ra rfl
      have p2 := Rdk.cel0 (K := K) (id := ib) (g := gb) (gr := true) (y := .ptr ib gb (0 + i * 1) 1) (lm := 0) (i := i) (v := .int .i64 xs[i]) (hiB _ _ (by simp [OS.c])) (rowIs xs) ra rfl
      repeat' (first|(refine Dw.r rfl rfl p1 (by repeat (first | exact trivial | refine And.intro (Or.inl rfl) ?_ | (refine And.intro (Or.inr ?_) ?_; (focus (first | exact Rdk.i1 | assumption | (refine Rdk.in ?_; first | assumption | exact rfl) | (refine Rdk.b1 (cs := ?_) ?_ ?_; rotate_left; (repeat (first | exact InK.here | refine InK.there ?_)); exact rfl) | (refine Rdk.bw ?_ ?_; (repeat (first | exact InK.here | refine InK.there ?_)); first | assumption | exact rfl) | (refine Rdk.bw (cs := ?_) ?_ ?_; rotate_left; (repeat (first | exact InK.here | refine InK.there ?_)); first | assumption | exact rfl) | (refine Rdk.bn ?_ ?_; (repeat (first | exact InK.here | refine InK.there ?_)); exact rfl) | (refine Rdk.bn (cs := ?_) ?_ ?_; rotate_left; (repeat (first | exact InK.here | refine InK.there ?_)); exact rfl)))))) ?_)|(refine Dw.r rfl rfl p2 (by repeat (first | exact trivial | refine And.intro (Or.inl rfl) ?_ | (refine And.intro (Or.inr ?_) ?_; (focus (first | exact Rdk.i1 | assumption | (refine Rdk.in ?_; first | assumption | exact rfl) | (refine Rdk.b1 (cs := ?_) ?_ ?_; rotate_left; (repeat (first | exact InK.here | refine InK.there ?_)); exact rfl) | (refine Rdk.bw ?_ ?_; (repeat (first | exact InK.here | refine InK.there ?_)); first | assumption | exact rfl) | (refine Rdk.bw (cs := ?_) ?_ ?_; rotate_left; (repeat (first | exact InK.here | refine InK.there ?_)); first | assumption | exact rfl) | (refine Rdk.bn ?_ ?_; (repeat (first | exact InK.here | refine InK.there ?_)); exact rfl) | (refine Rdk.bn (cs := ?_) ?_ ?_; rotate_left; (repeat (first | exact InK.here | refine InK.there ?_)); exact rfl)))))) ?_)|refine zz ?_|(refine zw ?_;refine And.intro ?_ ?_<;>intro hc)|(refine zv ?_;intro cv hv)|(refine za ?_;intro _)|refine zc ?_|(refine zd ?_;refine And.intro ?_ ?_<;>(intro e;(try simp only [Bool.not_eq_true',Bool.not_eq_false'] at e);subst e;try contradiction)))
      refine Lp.weak ?hw (ih (i + 1) (by omega) hi)
      case hw => exact ⟨rfl, rfl, rfl, trivial⟩
    · repeat' (first|refine zz ?_|(refine zw ?_;refine And.intro ?_ ?_<;>intro hc)|(refine zv ?_;intro cv hv)|(refine za ?_;intro _)|refine zc ?_|(refine zd ?_;refine And.intro ?_ ?_<;>(intro e;(try simp only [Bool.not_eq_true',Bool.not_eq_false'] at e);subst e;try contradiction)))
      exact hend _
theorem ints25E {FB : Chk} (hA : A.ok 1) (hAr : A.rows = xs.map rowI) (hB : B.ok 1) (hBr : B.rows = xs.map rowI) (hll : xs.length ≤ 1000000) (hin : ∀ id o, (id, o) ∈ B.c → (id, o) ∈ FB) : CT Try.prog false 25 [A.v 1, B.v 1] [A.c, FB] fun w K' => w = .bool true ∧ K' = [A.c, FB] := by
  have hAl := hA.len
  have hBl := hB.len
  rw [hAr, List.length_map] at hAl
  rw [hBr, List.length_map] at hBl
  refine CT.enter mixed comp25 (Nat.le_of_ble_eq_true rfl) ?_
  repeat' (first|refine zz ?_|(refine zw ?_;refine And.intro ?_ ?_<;>intro hc)|(refine zv ?_;intro cv hv)|(refine za ?_;intro _)|refine zc ?_|(refine zd ?_;refine And.intro ?_ ?_<;>(intro e;(try simp only [Bool.not_eq_true',Bool.not_eq_false'] at e);subst e;try contradiction)))
  refine Cd.loop (k := xs.length + 1) (Lp.weak (l2 := [(0, A.v 1), (1, B.v 1), (5, .int .i64 (.ofNat 0))]) ⟨rfl, rfl, rfl, trivial⟩ (ints25_same hA hAr hB hBr hll (fun id o h => .mem h) (fun id o h => .there (.mem (hin id o h))) ?_ (xs.length + 1) 0 (by omega) (by omega)))
  intro l'
  show Cd _ _ _ _ _ _
  repeat' (first|refine zz ?_|(refine zw ?_;refine And.intro ?_ ?_<;>intro hc)|(refine zv ?_;intro cv hv)|(refine za ?_;intro _)|refine zc ?_|(refine zd ?_;refine And.intro ?_ ?_<;>(intro e;(try simp only [Bool.not_eq_true',Bool.not_eq_false'] at e);subst e;try contradiction)))
  (first|refine ⟨.inr rfl,_,.t rfl .nil,?_⟩|refine ⟨.inr rfl,_,.t rfl (.t rfl .nil),?_⟩|refine ⟨.inr rfl,_,.t rfl (.t rfl (.t rfl .nil)),?_⟩|refine ⟨.inr rfl,_,.nil,?_⟩|refine ⟨.inl rfl,_,.t rfl .nil,?_⟩|refine ⟨.inl rfl,_,.nil,?_⟩|refine ⟨.inr rfl,_,.cn rfl (by exact zN) .nil,?_⟩|refine ⟨.inr rfl,_,.cn rfl (by exact zN) (.t rfl .nil),?_⟩)
  exact ⟨rfl, rfl⟩
end
theorem aslN : ASl 1 .nilslc (([] : List Int).map rowI) := ⟨(fun _ h => by cases h), .inl ⟨rfl, rfl⟩⟩
theorem mem_fsC {fs : List OS} {o : OS} (h : o ∈ fs) : ∀ id x, (id, x) ∈ o.c → (id, x) ∈ fsC fs := fun id x hm => by
  rw [fsC, List.mem_flatten]
  exact ⟨_, List.mem_map.2 ⟨_, h, rfl⟩, hm⟩
section
variable {z0 z23 : AV} {b19 n : Nat} {u p : AV}
theorem spoil29c {Q : AX → SL → Mem → Prop} {id g n : Nat} (hn : n ≤ 100000) (hu : OneC u) (hp : OneC p)
    (hend : ∀ (X : Chk) (l' : SL), Sub2 [(0, z0), (23, z23)] l' → Q (.ext 3) l' [[(b19, .cells [u, p, .slc id g 0 n n 1] 0 0 false)], X]) :
    ∀ (f i : Nat) (cs : List AV), n < i + f → i ≤ n → cs.length = n → Lp Try.prog true b29_1 f [(0, z0), (19, .ptr b19 0 0 3), (23, z23), (24, .int .i64 (.ofNat i))] [[(b19, .cells [u, p, .slc id g 0 n n 1] 0 0 false)], [(id, .cells cs g g true)]] Q := by
  intro f
  induction f with
  | zero => intro i cs h1 h2; omega
  | succ f ih =>
    intro i cs h1 h2 hl
    refine Lp.round ?_
    by_cases hi : i < n
    · have q1 := iadr_slc (sz := 1) (b := id) (g := g) (off := 0) (len := n) (cap := n) (i := i) (k := .i64) hi
      have hoff : 0 + i * 1 + 1 ≤ cs.length := by omega
      repeat' (first|refine zz ?_|(refine zw ?_;refine And.intro ?_ ?_<;>intro hc)|(refine zv ?_;intro cv hv)|(refine za ?_;intro _)|refine zc ?_|(refine zd ?_;refine And.intro ?_ ?_<;>(intro e;(try simp only [Bool.not_eq_true',Bool.not_eq_false'] at e);subst e;try contradiction)))
      refine Rg.e (Ef.store1 (x := .t 188) (y := .c (.int .i64 (.negSucc 6))) (g := g) (w := g) (gr := true) rfl rfl ⟨rfl, rfl⟩ (.there Upd.here) hoff) ?_
      rintro _ _ ⟨rfl, rfl⟩
      repeat' (first|refine zz ?_|(refine zw ?_;refine And.intro ?_ ?_<;>intro hc)|(refine zv ?_;intro cv hv)|(refine za ?_;intro _)|refine zc ?_|(refine zd ?_;refine And.intro ?_ ?_<;>(intro e;(try simp only [Bool.not_eq_true',Bool.not_eq_false'] at e);subst e;try contradiction)))
      refine Lp.weak ?hw (ih (i + 1) _ (by omega) (by omega) (by rw [setSeg_len (vs := [AV.int .i64 (.negSucc 6)]) hoff]; exact hl))
      case hw => exact ⟨rfl, rfl, rfl, rfl, trivial⟩
    · repeat' (first|refine zz ?_|(refine zw ?_;refine And.intro ?_ ?_<;>intro hc)|(refine zv ?_;intro cv hv)|(refine za ?_;intro _)|refine zc ?_|(refine zd ?_;refine And.intro ?_ ?_<;>(intro e;(try simp only [Bool.not_eq_true',Bool.not_eq_false'] at e);subst e;try contradiction)))
      exact hend _ _ ⟨rfl, rfl, trivial⟩
theorem spoilC {Q : AX → SL → Mem → Prop} {O : OS} (hO : O.ok 1) (hn : O.rows.length ≤ 100000) (hu : OneC u) (hp : OneC p)
    (hend : ∀ (X Y : Chk) (l' : SL), Sub2 [(0, z0), (23, z23)] l' → Q (.ext 3) l' [Y, X]) :
    Lp Try.prog true b29_1 (O.rows.length + 1) [(0, z0), (19, .ptr b19 0 0 3), (23, z23), (24, .int .i64 (.ofNat 0))] [[(b19, .cells [u, p, O.v 1] 0 0 false)], O.c] Q := by
  obtain ⟨o, rows⟩ := O
  cases o with
  | none =>
    obtain rfl : rows = [] := hO.no rfl
    refine Lp.round ?_
    repeat' (first|refine zz ?_|(refine zw ?_;refine And.intro ?_ ?_<;>intro hc)|(refine zv ?_;intro cv hv)|(refine za ?_;intro _)|refine zc ?_|(refine zd ?_;refine And.intro ?_ ?_<;>(intro e;(try simp only [Bool.not_eq_true',Bool.not_eq_false'] at e);subst e;try contradiction)))
    exact hend _ _ _ ⟨rfl, rfl, trivial⟩
  | some q =>
    have := rows_len hO.row
    exact spoil29c hn hu hp (fun X l' h => hend _ _ _ h) _ 0 _ (by omega) (by omega) (by simpa using this)
end
section
variable {b r i : Nat} {H : MH} {fs gs : List OS} {c d : Chk} {o : OpS}
theorem does5N (hX : HC b H fs c) (hY : RC r H gs d) (hB : Bd H i) (h1 : o.kind = 5) (hm : mClo H o.t = none) : CT Try.prog true 29 [hP b, rP r, .agg (opS o)] [c, fsC fs, d, fsC gs] (Both r H) := by
  have k1 := cloH (v := o.t) hX hB.fns
  have k2 := cloR (v := o.t) hY
  simp only [hm] at k1 k2
  have e2 := aeqB false
  have k25 : PT Try.prog true 25 [.nilslc, .nilslc] _ := (ints25 (a := []) (b := []) (x := .nilslc) (y := .nilslc) aslN aslN (Nat.zero_le _)).up
  simp only [decide_true] at k25
  refine CT.enterS mixed comp29 (Nat.le_of_ble_eq_true rfl) ?_
  repeat' (first|(refine Rg.r rfl rfl (rdT _ _ _ (by repeat (first | exact InK.here | refine InK.there ?_))) ?_)|(refine Rg.callM rfl k1.up (.cons (.there (.here)) (.cons (.there (.here)) (.nil))) ?_; rintro _ _ ⟨rfl, rfl⟩)|(refine Rg.callM rfl k2.up (.cons (.there (.there (.there (.there (.here))))) (.nil)) ?_; rintro _ _ ⟨rfl, rfl⟩)|refine zz ?_|(refine zw ?_;refine And.intro ?_ ?_<;>intro hc)|(refine zv ?_;intro cv hv)|(refine za ?_;intro _)|refine zc ?_|(refine zd ?_;refine And.intro ?_ ?_<;>(intro e;(try simp only [Bool.not_eq_true',Bool.not_eq_false'] at e);subst e;try contradiction)))
  refine Cd.loop (k := 1) (Lp.round ?_)
  repeat' (first|refine zz ?_|(refine zw ?_;refine And.intro ?_ ?_<;>intro hc)|(refine zv ?_;intro cv hv)|(refine za ?_;intro _)|refine zc ?_|(refine zd ?_;refine And.intro ?_ ?_<;>(intro e;(try simp only [Bool.not_eq_true',Bool.not_eq_false'] at e);subst e;try contradiction)))
  (first|refine ⟨.inr rfl,_,.t rfl .nil,?_⟩|refine ⟨.inr rfl,_,.t rfl (.t rfl .nil),?_⟩|refine ⟨.inr rfl,_,.t rfl (.t rfl (.t rfl .nil)),?_⟩|refine ⟨.inr rfl,_,.nil,?_⟩|refine ⟨.inl rfl,_,.t rfl .nil,?_⟩|refine ⟨.inl rfl,_,.nil,?_⟩|refine ⟨.inr rfl,_,.cn rfl (by exact zN) .nil,?_⟩|refine ⟨.inr rfl,_,.cn rfl (by exact zN) (.t rfl .nil),?_⟩)
  exact ⟨_, _, (.cons (.there (.there (.there (.here)))) (.cons (.there (.there (.there (.here)))) (.cons (.there (.here)) (.cons (.there (.there (.there (.here)))) (.nil))))), b, c, fs, d, gs, rfl, hX, hY, rfl⟩
theorem does5S (hX : HC b H fs c) (hY : RC r H gs d) (hB : Bd H i) (h1 : o.kind = 5) {q : Cl} (hm : mClo H o.t = some q) (hq : q.cells.length ≤ 100000) : CT Try.prog true 29 [hP b, rP r, .agg (opS o)] [c, fsC fs, d, fsC gs] (Both r H) := by
  have k1 := cloH (v := o.t) hX hB.fns
  have k2 := cloR (v := o.t) hY
  simp only [hm] at k1 k2
  have e2 := aeqB true
  refine CT.enterS mixed comp29 (Nat.le_of_ble_eq_true rfl) ?_
  repeat' (first|(refine Rg.r rfl rfl (rdT _ _ _ (by repeat (first | exact InK.here | refine InK.there ?_))) ?_)|(refine Rg.callM rfl k1.up (.cons (.there (.here)) (.cons (.there (.here)) (.nil))) ?_; rintro _ _ ⟨A, hA, hAr, rfl, rfl⟩)|(refine Rg.callM rfl k2.up (.cons (.there (.there (.there (.there (.there (.here)))))) (.nil)) ?_; rintro _ _ ⟨rfl, B, hBm, hBo, hBr, rfl⟩)|refine zz ?_|(refine zw ?_;refine And.intro ?_ ?_<;>intro hc)|(refine zv ?_;intro cv hv)|(refine za ?_;intro _)|refine zc ?_|(refine zd ?_;refine And.intro ?_ ?_<;>(intro e;(try simp only [Bool.not_eq_true',Bool.not_eq_false'] at e);subst e;try contradiction)))
  refine Rg.callM rfl (ints25E hA hAr hBo hBr (by omega) (mem_fsC hBm)).up (.cons (.there (.there (.there (.there (.there (.here)))))) (.cons (.there (.there (.there (.there (.there (.there (.here))))))) (.nil))) ?_
  rintro _ _ ⟨rfl, rfl⟩
  repeat' (first|refine zz ?_|(refine zw ?_;refine And.intro ?_ ?_<;>intro hc)|(refine zv ?_;intro cv hv)|(refine za ?_;intro _)|refine zc ?_|(refine zd ?_;refine And.intro ?_ ?_<;>(intro e;(try simp only [Bool.not_eq_true',Bool.not_eq_false'] at e);subst e;try contradiction)))
  refine Cd.weak (l2 := [(0, _), (19, _), (23, _), (24, _)]) ⟨rfl, rfl, rfl, rfl, trivial⟩ ?_
  refine Cd.loop (k := A.rows.length + 1) (Lp.fr (.cons (.there (.there (.there (.there (.here))))) (.cons (.here) (.nil))) (spoilC hA (by rw [hAr, List.length_map]; exact hq) ⟨rfl, rfl⟩ ⟨rfl, rfl⟩ ?_))
  intro X Y l' hs
  show Cd _ _ _ _ _ _
  refine Cd.weak hs ?_
  repeat' (first|refine zz ?_|(refine zw ?_;refine And.intro ?_ ?_<;>intro hc)|(refine zv ?_;intro cv hv)|(refine za ?_;intro _)|refine zc ?_|(refine zd ?_;refine And.intro ?_ ?_<;>(intro e;(try simp only [Bool.not_eq_true',Bool.not_eq_false'] at e);subst e;try contradiction)))
  (first|refine ⟨.inr rfl,_,.t rfl .nil,?_⟩|refine ⟨.inr rfl,_,.t rfl (.t rfl .nil),?_⟩|refine ⟨.inr rfl,_,.t rfl (.t rfl (.t rfl .nil)),?_⟩|refine ⟨.inr rfl,_,.nil,?_⟩|refine ⟨.inl rfl,_,.t rfl .nil,?_⟩|refine ⟨.inl rfl,_,.nil,?_⟩|refine ⟨.inr rfl,_,.cn rfl (by exact zN) .nil,?_⟩|refine ⟨.inr rfl,_,.cn rfl (by exact zN) (.t rfl .nil),?_⟩)
  exact ⟨_, _, (.cons (.there (.there (.there (.there (.there (.here)))))) (.cons (.there (.there (.there (.there (.there (.here)))))) (.cons (.there (.there (.there (.there (.here))))) (.cons (.there (.there (.here))) (.nil))))), b, c, fs, d, gs, rfl, hX, hY, rfl⟩
/-- What is held behind one thing that is done. -/
def mDoes (H : MH) (o : OpS) : MH := if o.kind = 0 ∨ o.kind = 4 ∨ o.kind = 6 then mMake H o else if o.kind = 1 then (mPut H o.t o.k o.v).1 else if o.kind = 7 then mSet H o.n o.v else H
theorem does29 (hX : HC b H fs c) (hY : RC r H gs d) (hB : Bd H i) (hi : i < 900) (ho : ASl 1 o.cv (o.cells.map rowI)) (hol : o.cells.length ≤ 100000) (hk : keyB o.k = true → Can o.k) (hkl : keyB o.k = true → o.k.s.length ≤ 1024) :
    CT Try.prog true 29 [hP b, rP r, .agg (opS o)] [c, fsC fs, d, fsC gs] (Both r (mDoes H o)) := by
  have hc := hB.cells
  unfold mDoes
  by_cases h0 : o.kind = 0 ∨ o.kind = 4 ∨ o.kind = 6
  · rw [if_pos h0]
    exact doesM hX hY hB (by omega) ho hol h0
  rw [if_neg h0]
  by_cases h1 : o.kind = 1
  · rw [if_pos h1]
    exact does1 hX hY hB.ok hk hkl h1
  rw [if_neg h1]
  by_cases h7 : o.kind = 7
  · rw [if_pos h7]
    exact does7 hX hY (by omega) h7
  rw [if_neg h7]
  by_cases h2 : o.kind = 2
  · exact does2 hX hY hB.ok h2
  by_cases h3 : o.kind = 3
  · exact does3 hX hY hB (by omega) h3
  by_cases h8 : o.kind = 8
  · exact does8 hX hY h8
  by_cases h5 : o.kind = 5
  · cases hm : mClo H o.t with
    | none => exact does5N hX hY hB h5 hm
    | some q =>
      refine does5S hX hY hB h5 hm (hB.fns q ?_)
      unfold mClo at hm
      split at hm
      · exact List.mem_of_getElem? hm
      · cases hm
  · exact doesX hX hY hB.ok (by omega) (fun e => h0 (.inl e)) h1 h2 h3 (fun e => h0 (.inr (.inl e))) h5 (fun e => h0 (.inr (.inr e))) h7 h8
theorem Bd.does (hB : Bd H i) (hol : o.cells.length ≤ 100000) (hk : keyB o.k = true → Can o.k) (hkl : keyB o.k = true → o.k.s.length ≤ 1024) : Bd (mDoes H o) (i + 1) := by
  have hu := hB.used
  have hc := hB.cells
  unfold mDoes
  split
  · exact hB.make hol
  split
  · have hput := hB.ok.put (t := o.t) (v := o.v) hk hkl
    refine ⟨hput, ?_, by rw [mPut_cells]; omega, ?_⟩
    · unfold mPut
      split
      · exact Nat.le_succ_of_le hu
      · rename_i j hj
        have hj2 := (tabI_some hj).2
        split
        · rename_i hkb
          split
          · exact Nat.le_succ_of_le hu
          · have h1 := setL_len (v := o.v) (hB.ok.srt _ (tabL_mem hj2)) (hk hkb)
            have h2 := len_le hj2
            have h3 := hB.ok.used
            show H.used - (tabL H j).length + (setL o.k o.v (tabL H j)).length ≤ i + 1
            have h4 : (if o.v.k = 0 then 0 else 1) ≤ 1 := by split <;> omega
            omega
        · exact Nat.le_succ_of_le hu
    · have : (mPut H o.t o.k o.v).1.fns = H.fns := by
        unfold mPut
        split
        · rfl
        · split
          · split <;> rfl
          · rfl
      rw [this]
      exact hB.fns
  split
  · refine ⟨hB.ok.set, ?_, ?_, ?_⟩
    · unfold mSet; split <;> exact Nat.le_succ_of_le hu
    · unfold mSet; split
      · show (H.cells.set _ _).length ≤ _
        rw [List.length_set]; omega
      · exact Nat.le_succ_of_le hc
    · unfold mSet; split <;> exact hB.fns
  · exact ⟨hB.ok, by omega, by omega, hB.fns⟩
end
end Go.Proofs.Ytggpnokhhpnnaaa
