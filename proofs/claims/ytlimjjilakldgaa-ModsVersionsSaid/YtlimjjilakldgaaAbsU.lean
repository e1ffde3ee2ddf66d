/- Strings: steps over their signs, cuts. -/
import Derived.Test.YtlimjjilakldgaaAbsT
set_option autoImplicit false
set_option linter.unusedSimpArgs false
set_option linter.unusedVariables false
namespace Go.Abs
open Go

theorem dec_small {s : List Nat} {pos b : Nat} (h : s[pos]? = some b) (hb : b < 128) : dec s pos = (b, 1) := by
  unfold dec
  rw [h]
  simp only
  rw [show Nat.blt b 128 = true from Nat.ble_eq_true_of_le hb]
  rfl
theorem toBA_get {s : List Nat} {pos b : Nat} (h : s[pos]? = some b) (hb : b < 256) : ((toBA s).get! pos).toNat = b := by
  have : pos < s.length := (List.getElem?_eq_some_iff.1 h).1
  have h2 : s[pos] = b := (List.getElem?_eq_some_iff.1 h).2
  unfold toBA ByteArray.get!
  simp only
  rw [getElem!_def, List.getElem?_toArray, List.getElem?_map, h]
  simp
  omega
theorem dec_big {s : List Nat} {pos b : Nat} (h : s[pos]? = some b) (h1 : 128 ≤ b) (h2 : b < 256) : 128 ≤ (dec s pos).1 := by
  unfold dec
  rw [h]
  simp only
  rw [show Nat.blt b 128 = false by
    cases hb : Nat.blt b 128 with
    | false => rfl
    | true => have := Nat.le_of_ble_eq_true hb; omega]
  rw [cond_false]
  have hg := toBA_get h h2
  unfold Utf8.decode
  simp only [Nat.add_zero, hg]
  rw [if_neg (by omega)]
  split
  · split
    · assumption
    · exact (by decide : 128 ≤ Utf8.runeError)
  · split
    · split
      · rename_i hc
        rw [Bool.and_eq_true, decide_eq_true_eq] at hc
        show 128 ≤ _
        have := hc.1
        exact Nat.le_trans (by decide) this
      · exact (by decide : 128 ≤ Utf8.runeError)
    · split
      · split
        · rename_i hc
          rw [Bool.and_eq_true, decide_eq_true_eq] at hc
          show 128 ≤ _
          have := hc.1
          exact Nat.le_trans (by decide) this
        · exact (by decide : 128 ≤ Utf8.runeError)
      · exact (by decide : 128 ≤ Utf8.runeError)

section
variable {P : Program} {nd : Bool} {l : SL} {K : Mem}
theorem Ef.rngS {M : Mem} {x : AO} {s : List Nat} (hx : x.evL l = some (.str s)) : Ef P l M (.rng true x) fun v1 K2 => ∃ b, v1 = .it b ∧ K2 = [(b, .sit s 0)] :: M :=
  Ef.new (v := fun b => .it b) fun st _ => by simp only [aeff, ev_frL, hx]
theorem Ef.nextS {M K' : Mem} {x : AO} {id : Nat} {s : List Nat} {pos : Nat} (hx : x.evL l = some (.it id)) (hK : Upd M id (.sit s pos) (.sit s (pos + (dec s pos).2)) K') (hp : pos < s.length) : Ef P l M (.next true x) fun v1 K2 => v1 = .tup [.bool true, .int .i64 (.ofNat pos), .int .i32 (.ofNat (dec s pos).1)] ∧ K2 = K' :=
  Ef.put hK fun st hs => by
    simp only [aeff, ev_frL, hx, hs]
    rw [show Nat.blt pos s.length = true from Nat.ble_eq_true_of_le hp]
    rfl
theorem Ef.nextE {M : Mem} {x : AO} {id : Nat} {s : List Nat} {pos : Nat} (hx : x.evL l = some (.it id)) (hK : InK M id (.sit s pos)) (hp : ¬ pos < s.length) : Ef P l M (.next true x) fun v1 K2 => v1 = .tup [.bool false] ∧ K2 = M :=
  Ef.zero fun st hs => by
    simp only [aeff, ev_frL, hx, (hs.got _ _ hK).1]
    rw [show Nat.blt pos s.length = false by
      cases hb : Nat.blt pos s.length with
      | false => rfl
      | true => exact absurd (Nat.le_of_ble_eq_true hb) hp]
    rfl
theorem Rg.rngS {x : AO} {s : List Nat} {os : List AOper} {d : Option Nat} {pre : Nat} {Q : SL → Mem → Prop} (hx : x.evL l = some (.str s)) (k : ∀ b, Rg P nd os (putL l d (.it b)) ([(b, .sit s 0)] :: K) Q) : Rg P nd (⟨d, .e (.rng true x), none, pre⟩ :: os) l K Q :=
  Rg.e (Ef.rngS hx) fun v K2 ⟨b, e1, e2⟩ => by subst e1 e2; exact k b
theorem Rg.nextS {x : AO} {id : Nat} {s : List Nat} {pos : Nat} {K' : Mem} {os : List AOper} {d : Option Nat} {pre : Nat} {Q : SL → Mem → Prop} (hx : x.evL l = some (.it id)) (hK : Upd K id (.sit s pos) (.sit s (pos + (dec s pos).2)) K') (hp : pos < s.length)
    (k : Rg P nd os (putL l d (.tup [.bool true, .int .i64 (.ofNat pos), .int .i32 (.ofNat (dec s pos).1)])) K' Q) : Rg P nd (⟨d, .e (.next true x), none, pre⟩ :: os) l K Q :=
  Rg.e (Ef.nextS hx hK hp) fun v K2 ⟨e1, e2⟩ => by subst e1 e2; exact k
theorem Rg.nextE {x : AO} {id : Nat} {s : List Nat} {pos : Nat} {os : List AOper} {d : Option Nat} {pre : Nat} {Q : SL → Mem → Prop} (hx : x.evL l = some (.it id)) (hK : InK K id (.sit s pos)) (hp : ¬ pos < s.length)
    (k : Rg P nd os (putL l d (.tup [.bool false])) K Q) : Rg P nd (⟨d, .e (.next true x), none, pre⟩ :: os) l K Q :=
  Rg.e (Ef.nextE hx hK hp) fun v K2 ⟨e1, e2⟩ => by subst e1 e2; exact k
end
/-! Calls that were run. -/
theorem flat_relL {ι κ : IM} {w0 w1 : World} : ∀ {xs : List AV} {ys : List Value}, xs.all flatV = true → relL ι w0 xs ys → relL κ w1 xs ys
  | [], ys, _, h => by simp only [relL] at h ⊢; exact h
  | x :: xs, ys, ha, h => by
    simp only [List.all_cons, Bool.and_eq_true] at ha
    simp only [relL] at h ⊢
    obtain ⟨y, r, rfl, h1, h2⟩ := h
    exact ⟨y, r, rfl, flat_rel ha.1 h1, flat_relL ha.2 h2⟩
theorem PT.run {P : Program} {nd : Bool} {g : CallF} (hg : Sound P g) {f : FuncId} {args : List AV} {v : AV} (h : ans (g f args ⟨.e, 0⟩) = some v) (ha : args.all flatV = true) (hv : flatV v = true) : PT P nd f args v := by
  obtain ⟨s1, h⟩ := ans_some h
  intro s hs
  obtain ⟨k1, _, _⟩ := hg f args _ v s1 h
  have : MDet P f args s v s := by
    refine ⟨k1, Keeps.refl _ _, ?_⟩
    intro ι w0 X w args' hs hr
    refine (start_calls (hg.at f) h (W := w) (args' := args') (flat_relL ha hr)).mono ?_
    rintro e w' ⟨v', κ, rfl, r1, r2⟩
    exact ⟨v', ι, rfl, IM.le_refl _, flat_rel hv r1, SR_below hs r2⟩
  exact MX.of_det this ⟨[], hs, Frm.refl _ _ _, rfl, rfl⟩
/-! Cuts. -/
theorem sstr_to {s : List Nat} {k : IntKind} {n : Nat} (h : n ≤ s.length) : sstr s none (some (.int k (.ofNat n))) = some (.str (s.take n)) := by
  simp only [sstr, bnd, Nat.ble_eq_true_of_le h, cond_true, List.drop_zero, Nat.sub_zero]
theorem sstr_of {s : List Nat} {k j : IntKind} {m n : Nat} (h : n ≤ s.length) (hm : m ≤ n) : sstr s (some (.int k (.ofNat m))) (some (.int j (.ofNat n))) = some (.str ((s.drop m).take (n - m))) := by
  simp only [sstr, bnd, Nat.ble_eq_true_of_le h, Nat.ble_eq_true_of_le hm, cond_true]
theorem idxs_at {s : List Nat} {k : IntKind} {n b : Nat} (h : s[n]? = some b) : apure .e (.idxs (.c (.str s)) (.c (.int k (.ofNat n)))) = some (.int .u8 (.ofNat b)) := by
  simp only [apure, AO.ev, h]
theorem toInt_nat {j k : IntKind} {n : Nat} (h : n ≤ top k) : apure .e (.toInt k (.c (.int j (.ofNat n)))) = some (.int k (.ofNat n)) := by
  simp only [apure, AO.ev, awrap, Nat.ble_eq_true_of_le h, cond_true]
theorem add_str {s t : List Nat} (h : s.length + t.length ≤ lim) : abin .add (.str s) (.str t) = some (.str (s ++ t)) := by
  show (bif Nat.ble (s.length + t.length) lim then some (AV.str (s ++ t)) else none) = _
  rw [Nat.ble_eq_true_of_le h]; rfl
end Go.Abs

namespace Go.Abs
open Go
structure Mrk (p : Prop) : Prop where
  go : p
theorem stopAt {P : Program} {nd : Bool} {l : SL} {K : Mem} {c : List AOper} {b : ACode} {Q : AX → SL → Mem → Prop} (h : Mrk (Cd P nd (.seq (.reg c) b) l K Q)) : Cd P nd (.seq (.reg c) b) l K Q := h.go
end Go.Abs

namespace Go.Abs
open Go
section
variable {P : Program} {nd : Bool} {l : SL} {K : Mem}
theorem zC {o : BinOp} {a b : AV} {p : Prop} (h : Cmp o a b p := by first | exact Cmp.lssN | exact Cmp.eqlN | exact Cmp.neqN | exact Cmp.leqN | exact Cmp.gtrN | exact Cmp.geqN | exact Cmp.lssL | exact Cmp.eqlL | exact Cmp.neqL | exact Cmp.leqL | exact Cmp.gtrL | exact Cmp.geqL | exact Cmp.lss | exact Cmp.eql | exact Cmp.neq | exact Cmp.leq | exact Cmp.gtr | exact Cmp.geq | exact Cmp.eqS | exact Cmp.neS | exact Cmp.ltS) : Cmp o a b p := h
theorem zN {kk : RK} {a b v : AV} (h : Rdk K kk a b v := by first | exact Rdk.i1 | assumption | (refine Rdk.in ?_; first | assumption | exact rfl) | (refine Rdk.b1 (cs := ?_) ?_ ?_; rotate_left; (repeat (first | exact InK.here | refine InK.there ?_)); exact rfl) | (refine Rdk.bw (cs := ?_) ?_ ?_; rotate_left; (repeat (first | exact InK.here | refine InK.there ?_)); first | assumption | exact rfl) | (refine Rdk.bn (cs := ?_) ?_ ?_; rotate_left; (repeat (first | exact InK.here | refine InK.there ?_)); exact rfl)) : Rdk K kk a b v := h
theorem zE {p : POp} {v : AV} (h : Ev l p v := by first | (refine Ev.mov ?_; exact rfl) | exact Ev.const | (refine Ev.nilchk rfl ?_; exact rfl) | (refine Ev.len rfl ?_; first | assumption | exact rfl) | (refine Ev.fadr rfl ?_; first | assumption | exact rfl) | (refine Ev.iadr rfl rfl ?_; assumption) | exact Ev.pick rfl rfl rfl | (refine Ev.un rfl ?_; exact rfl) | (refine Ev.ext rfl ?_; exact rfl) | (refine Ev.build (cs := ?_) ?_; rotate_left; exact rfl) | (refine Ev.bin rfl rfl ?_; refine Eq.trans (b := some (AV.bool true)) ?_ ?_; exact rfl; exact rfl) | (refine Ev.bin rfl rfl ?_; refine Eq.trans (b := some (AV.bool false)) ?_ ?_; exact rfl; exact rfl) | (refine Ev.bin rfl rfl ?_; first | assumption | (refine add_nat ?_; omega) | (refine sub_nat ?_ ?_; omega; omega) | (refine sub_nat ?_ ?_ <;> exact Nat.le_of_ble_eq_true rfl) | (refine add_nat ?_; exact Nat.le_of_ble_eq_true rfl) | (refine add_str ?_; first | exact Nat.le_of_ble_eq_true rfl | (simp [lim] at *; omega)) | (refine add_int ?_ ?_; omega; omega)) | (refine Ev.idxs rfl rfl ?_; first | assumption | exact rfl) | (refine Ev.aadr rfl rfl ?_; first | assumption | exact rfl) | (refine Ev.field rfl ?_; exact rfl) | (refine Ev.eq (r := ?_) rfl rfl ?_ ?_; rotate_left; (first | assumption | exact rfl); exact rfl) | (refine Ev.mkifc rfl ?_; exact rfl) | (refine Ev.mkfn rfl rfl ?_; exact rfl) | (refine Ev.same rfl ?_; exact rfl) | (refine Ev.toInt rfl ?_; first | assumption | exact rfl) | (refine Ev.sstr rfl rfl rfl ?_; assumption) | (refine Ev.sslc rfl rfl rfl rfl ?_; assumption) | (refine Ev.mmax rfl ?_; first | assumption | exact rfl) | (refine Ev.mmin rfl ?_; first | assumption | exact rfl) | (refine Ev.bin rfl rfl ?_; refine Cmp.T (p := ?_) ?_ ?_; rotate_left; (focus (first | exact Cmp.lssN | exact Cmp.eqlN | exact Cmp.neqN | exact Cmp.leqN | exact Cmp.gtrN | exact Cmp.geqN | exact Cmp.lssL | exact Cmp.eqlL | exact Cmp.neqL | exact Cmp.leqL | exact Cmp.gtrL | exact Cmp.geqL | exact Cmp.lss | exact Cmp.eql | exact Cmp.neq | exact Cmp.leq | exact Cmp.gtr | exact Cmp.geq | exact Cmp.eqS | exact Cmp.neS | exact Cmp.ltS)); (focus (first | assumption | omega))) | (refine Ev.bin rfl rfl ?_; refine Cmp.F (p := ?_) ?_ ?_; rotate_left; (focus (first | exact Cmp.lssN | exact Cmp.eqlN | exact Cmp.neqN | exact Cmp.leqN | exact Cmp.gtrN | exact Cmp.geqN | exact Cmp.lssL | exact Cmp.eqlL | exact Cmp.neqL | exact Cmp.leqL | exact Cmp.gtrL | exact Cmp.geqL | exact Cmp.lss | exact Cmp.eql | exact Cmp.neq | exact Cmp.leq | exact Cmp.gtr | exact Cmp.geq | exact Cmp.eqS | exact Cmp.neS | exact Cmp.ltS)); (focus (first | assumption | omega))) | (refine Ev.bin rfl rfl ?_; refine Cmp.T (p := ?_) ?_ ?_; rotate_left; (focus (first | exact Cmp.lssN | exact Cmp.eqlN | exact Cmp.neqN | exact Cmp.leqN | exact Cmp.gtrN | exact Cmp.geqN | exact Cmp.lssL | exact Cmp.eqlL | exact Cmp.neqL | exact Cmp.leqL | exact Cmp.gtrL | exact Cmp.geqL | exact Cmp.lss | exact Cmp.eql | exact Cmp.neq | exact Cmp.leq | exact Cmp.gtr | exact Cmp.geq | exact Cmp.eqS | exact Cmp.neS | exact Cmp.ltS)); (focus (simp only [true_iff, false_iff, eq_self, Bool.false_eq_true, not_and, Classical.not_not] at *; first | assumption | omega))) | (refine Ev.bin rfl rfl ?_; refine Cmp.F (p := ?_) ?_ ?_; rotate_left; (focus (first | exact Cmp.lssN | exact Cmp.eqlN | exact Cmp.neqN | exact Cmp.leqN | exact Cmp.gtrN | exact Cmp.geqN | exact Cmp.lssL | exact Cmp.eqlL | exact Cmp.neqL | exact Cmp.leqL | exact Cmp.gtrL | exact Cmp.geqL | exact Cmp.lss | exact Cmp.eql | exact Cmp.neq | exact Cmp.leq | exact Cmp.gtr | exact Cmp.geq | exact Cmp.eqS | exact Cmp.neS | exact Cmp.ltS)); (focus (simp only [true_iff, false_iff, eq_self, Bool.false_eq_true, not_and, Classical.not_not] at *; first | assumption | omega)))) : Ev l p v := h
section
variable {os : List AOper} {d : Option Nat} {pre : Nat} {Q : SL → Mem → Prop}
theorem zA {a b : ACode} {R : AX → SL → Mem → Prop} (h : Cd P nd a l K fun x l K => thenW x (Cd P nd b l K R) (R x l K)) : Cd P nd (.seq a b) l K R := Cd.seq h
theorem zF {op : AOp} {t : Nat} {w : Bool} (k : Rg P nd (⟨d, op, none, pre⟩ :: os) l K Q) (ht : lkS l t = some (.bool w) := by exact rfl) : Rg P nd (⟨d, op, some (t, w), pre⟩ :: os) l K Q := Rg.guardY ht k
theorem zG {op : AOp} {t : Nat} {w : Bool} (k : Rg P nd os (putL l d (.tup [])) K Q) (ht : lkS l t = some (.bool !w) := by exact rfl) : Rg P nd (⟨d, op, some (t, w), pre⟩ :: os) l K Q := Rg.guardN ht k
theorem zH {op : AOp} {t : Nat} {w : Bool} (k : Rg P nd os (putL l d (.tup [])) K Q) (ht : lkS l t = some (.tup []) := by exact rfl) : Rg P nd (⟨d, op, some (t, w), pre⟩ :: os) l K Q := Rg.guardT ht k
theorem zL {x : AO} {a : AV} (k : ∀ b, Rg P nd os (putL l d (.ptr b 0 0 (cellsOf a).length)) ([(b, .cells (cellsOf a) 0 0 false)] :: K) Q) (hx : x.evL l = some a := by exact rfl) (hp : plainV a = true := by exact rfl) : Rg P nd (⟨d, .a (.box x), none, pre⟩ :: os) l K Q := Rg.box hx hp k
theorem zO {m : Nat} {x y : AO} {b lm : Nat} {cs r : List AV} {K' : Mem} (k : Rg P nd os (putL l d (.tup [])) K' Q) (hx : x.evL l = some (.ptr b 0 0 lm) := by exact rfl) (hy : y.evL l = some (.agg r) := by exact rfl)
    (hK : Upd K b (.cells cs 0 0 false) (.cells r 0 0 false) K' := by repeat (first | exact Upd.here | (refine Upd.there (K' := ?_) ?_; rotate_left))) (h2 : r.length = m := by first | assumption | exact rfl) (h3 : m ≤ lm := by exact Nat.le_of_ble_eq_true rfl) (h4 : cs.length = m := by exact rfl) :
    Rg P nd (⟨d, .e (.store m x y), none, pre⟩ :: os) l K Q := Rg.storeW hx hy hK h2 h3 h4 k
theorem zP {m : Nat} {x y : AO} {b off lm : Nat} {cs : List AV} {v : AV} {K' : Mem} (k : Rg P nd os (putL l d (.tup [])) K' Q) (hx : x.evL l = some (.ptr b 0 off lm) := by exact rfl) (hy : y.evL l = some v := by exact rfl)
    (hK : Upd K b (.cells cs 0 0 false) (.cells (setSeg cs off (cellsOf v)) 0 0 false) K' := by repeat (first | exact Upd.here | (refine Upd.there (K' := ?_) ?_; rotate_left))) (h1 : plainV v = true := by exact rfl) (h2 : (cellsOf v).length = m := by exact rfl) (h3 : m ≤ lm := by exact Nat.le_of_ble_eq_true rfl) (h4 : off + m ≤ cs.length := by exact Nat.le_of_ble_eq_true rfl) :
    Rg P nd (⟨d, .e (.store m x y), none, pre⟩ :: os) l K Q := Rg.storeB hx hy hK h1 h2 h3 h4 k
theorem zQ {f : FuncId} {xs : List AO} {vs : List AV} {g : Bool} (k : ∀ c : Bool, g = c → Rg P nd os (putL l d (.bool c)) K Q) (hx : evsL l xs = some vs := by exact rfl) (h : PT P nd f vs (.bool g) := by assumption) : Rg P nd (⟨d, .e (.call f xs), none, pre⟩ :: os) l K Q := Rg.callB hx h k
theorem zR {f : AO} {g : FuncId} {first cap : List AV} {xs : List AO} {vs : List AV} {w : Bool} (k : ∀ c : Bool, w = c → Rg P nd os (putL l d (.bool c)) K Q) (hf : f.evL l = some (.fn g first cap) := by exact rfl) (hx : evsL l xs = some vs := by exact rfl) (h : PT P nd g (first ++ vs ++ cap) (.bool w) := by assumption) : Rg P nd (⟨d, .e (.callv f xs), none, pre⟩ :: os) l K Q := Rg.callvB hf hx h k
theorem zS {f : FuncId} {xs : List AO} {vs : List AV} {v : AV} (k : Rg P nd os (putL l d v) K Q) (hx : evsL l xs = some vs := by exact rfl) (h : PT P nd f vs v := by assumption) : Rg P nd (⟨d, .e (.call f xs), none, pre⟩ :: os) l K Q := Rg.call hx h k
theorem zT {f : AO} {g : FuncId} {first cap : List AV} {xs : List AO} {vs : List AV} {v : AV} (k : Rg P nd os (putL l d v) K Q) (hf : f.evL l = some (.fn g first cap) := by exact rfl) (hx : evsL l xs = some vs := by exact rfl) (h : PT P nd g (first ++ vs ++ cap) v := by assumption) : Rg P nd (⟨d, .e (.callv f xs), none, pre⟩ :: os) l K Q := Rg.callv hf hx h k
end
section
variable {i : Nat} {Kp : Mem} {efs : List (Nat × Mem)} {rds : List Rd} {os : List AOper} {d : Option Nat} {pre : Nat} {Q : SL → Mem → Prop}
theorem zM {kk : RK} {a b v : AV} {pre : Nat} {efs : List (Nat × Mem)} (ho : efsOkK pre kk a b v efs := by repeat (first | exact trivial | refine And.intro (Or.inl rfl) ?_ | (refine And.intro (Or.inr ?_) ?_; (focus (first | exact Rdk.i1 | assumption | (refine Rdk.in ?_; first | assumption | exact rfl) | (refine Rdk.b1 (cs := ?_) ?_ ?_; rotate_left; (repeat (first | exact InK.here | refine InK.there ?_)); exact rfl) | (refine Rdk.bw (cs := ?_) ?_ ?_; rotate_left; (repeat (first | exact InK.here | refine InK.there ?_)); first | assumption | exact rfl) | (refine Rdk.bn (cs := ?_) ?_ ?_; rotate_left; (repeat (first | exact InK.here | refine InK.there ?_)); exact rfl)))))) : efsOkK pre kk a b v efs := ho
theorem zY {f : FuncId} {xs : List AO} {vs : List AV} {g : Bool} (k : ∀ c : Bool, g = c → Dw P (i + 1) os (putL l d (.bool c)) (Kp ++ K) [] ((i, K) :: efs) rds Q) (hx : evsL l xs = some vs := by exact rfl) (h : PT P false f vs (.bool g) := by assumption) (ho : rdsOkK pre (Kp ++ K) rds := by repeat (first | exact trivial | refine And.intro (Or.inl rfl) ?_ | (refine And.intro (Or.inr ?_) ?_; (focus (first | exact Rdk.i1 | assumption | (refine Rdk.in ?_; first | assumption | exact rfl) | (refine Rdk.b1 (cs := ?_) ?_ ?_; rotate_left; (repeat (first | exact InK.here | refine InK.there ?_)); exact rfl) | (refine Rdk.bw (cs := ?_) ?_ ?_; rotate_left; (repeat (first | exact InK.here | refine InK.there ?_)); first | assumption | exact rfl) | (refine Rdk.bn (cs := ?_) ?_ ?_; rotate_left; (repeat (first | exact InK.here | refine InK.there ?_)); exact rfl)))))) : Dw P i (⟨d, .e (.call f xs), none, pre⟩ :: os) l K Kp efs rds Q := Dw.callB hx h ho k
theorem zW {f : FuncId} {xs : List AO} {vs : List AV} {v : AV} (k : Dw P (i + 1) os (putL l d v) (Kp ++ K) [] ((i, K) :: efs) rds Q) (hx : evsL l xs = some vs := by exact rfl) (h : PT P false f vs v := by assumption) (ho : rdsOkK pre (Kp ++ K) rds := by repeat (first | exact trivial | refine And.intro (Or.inl rfl) ?_ | (refine And.intro (Or.inr ?_) ?_; (focus (first | exact Rdk.i1 | assumption | (refine Rdk.in ?_; first | assumption | exact rfl) | (refine Rdk.b1 (cs := ?_) ?_ ?_; rotate_left; (repeat (first | exact InK.here | refine InK.there ?_)); exact rfl) | (refine Rdk.bw (cs := ?_) ?_ ?_; rotate_left; (repeat (first | exact InK.here | refine InK.there ?_)); first | assumption | exact rfl) | (refine Rdk.bn (cs := ?_) ?_ ?_; rotate_left; (repeat (first | exact InK.here | refine InK.there ?_)); exact rfl)))))) : Dw P i (⟨d, .e (.call f xs), none, pre⟩ :: os) l K Kp efs rds Q := Dw.call hx h ho k
end
end
end Go.Abs
