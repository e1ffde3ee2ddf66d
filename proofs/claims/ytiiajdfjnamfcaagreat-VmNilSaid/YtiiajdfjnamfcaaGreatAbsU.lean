/- Strings: steps over their signs, cuts. -/
import Derived.Test.YtiiajdfjnamfcaaGreatAbsT
set_option autoImplicit false
set_option linter.unusedSimpArgs false
set_option linter.unusedVariables false
namespace Go.Abs
open Go
section
variable {P : Program} {nd : Bool} {l : SL} {K : Mem}
end
theorem flat_relL {ι κ : IM} {w0 w1 : World} : ∀ {xs : List AV} {ys : List Value}, xs.all flatV = true → relL ι w0 xs ys → relL κ w1 xs ys
 | [], ys, _, h => by simp only [relL] at h ⊢; exact h
 | x :: xs, ys, ha, h => by
  simp only [List.all_cons, Bool.and_eq_true] at ha
  simp only [relL] at h ⊢
  obtain ⟨y, r, rfl, h1, h2⟩ := h
  exact ⟨y, r, rfl, flat_rel ha.1 h1, flat_relL ha.2 h2⟩
theorem PT.run {P : Program} {nd : Bool} {g : CallF} (hg : Sound P g) {f : FuncId} {args : List AV} {v : AV} (h : ans (g f args ⟨.e, 0⟩) = some v) (ha : args.all flatV = true) (hv : flatV v = true) : PT P nd f args v := by
 obtain ⟨s1, h⟩ := ans_some h
 intro s hs
 obtain ⟨k1, _, _⟩ := hg f args _ v s1 h
 have : MDet P f args s v s := by
  refine ⟨k1, Keeps.refl _ _, ?_⟩
  intro ι w0 X w args' hs hr
  refine (start_calls (hg.at f) h (W := w) (args' := args') (flat_relL ha hr)).mono ?_
  rintro e w' ⟨v', κ, rfl, r1, r2⟩
  exact ⟨v', ι, rfl, IM.le_refl _, flat_rel hv r1, SR_below hs r2⟩
 exact MX.of_det this ⟨[], hs, Frm.refl _ _ _, rfl, rfl⟩
theorem add_str {s t : List Nat} (h : s.length + t.length ≤ lim) : abin .add (.str s) (.str t) = some (.str (s ++ t)) := by
 show (bif Nat.ble (s.length + t.length) lim then some (AV.str (s ++ t)) else none) = _
 rw [Nat.ble_eq_true_of_le h]; rfl
end Go.Abs
namespace Go.Abs
open Go
end Go.Abs
namespace Go.Abs
open Go
section
variable {P : Program} {nd : Bool} {l : SL} {K : Mem}
theorem zC {o : BinOp} {a b : AV} {p : Prop} (h : Cmp o a b p := by first | exact Cmp.lssN | exact Cmp.eqlN | exact Cmp.neqN | exact Cmp.leqN | exact Cmp.gtrN | exact Cmp.geqN | exact Cmp.lssL | exact Cmp.eqlL | exact Cmp.neqL | exact Cmp.leqL | exact Cmp.gtrL | exact Cmp.geqL | exact Cmp.lss | exact Cmp.eql | exact Cmp.neq | exact Cmp.leq | exact Cmp.gtr | exact Cmp.geq | exact Cmp.eqS | exact Cmp.neS | exact Cmp.ltS) : Cmp o a b p := h
theorem zN {kk : RK} {a b v : AV} (h : Rdk K kk a b v := by first | exact Rdk.i1 | assumption | (refine Rdk.in ?_; first | assumption | exact rfl) | (refine Rdk.b1 (cs := ?_) ?_ ?_; rotate_left; (repeat (first | exact InK.here | refine InK.there ?_)); exact rfl) | (refine Rdk.bw (cs := ?_) ?_ ?_; rotate_left; (repeat (first | exact InK.here | refine InK.there ?_)); first | assumption | exact rfl) | (refine Rdk.bn (cs := ?_) ?_ ?_; rotate_left; (repeat (first | exact InK.here | refine InK.there ?_)); exact rfl)) : Rdk K kk a b v := h
section
variable {os : List AOper} {d : Option Nat} {pre : Nat} {Q : SL → Mem → Prop}
end
section
variable {i : Nat} {Kp : Mem} {efs : List (Nat × Mem)} {rds : List Rd} {os : List AOper} {d : Option Nat} {pre : Nat} {Q : SL → Mem → Prop}
theorem zM {kk : RK} {a b v : AV} {pre : Nat} {efs : List (Nat × Mem)} (ho : efsOkK pre kk a b v efs := by repeat (first | exact trivial | refine And.intro (Or.inl rfl) ?_ | (refine And.intro (Or.inr ?_) ?_; (focus (first | exact Rdk.i1 | assumption | (refine Rdk.in ?_; first | assumption | exact rfl) | (refine Rdk.b1 (cs := ?_) ?_ ?_; rotate_left; (repeat (first | exact InK.here | refine InK.there ?_)); exact rfl) | (refine Rdk.bw (cs := ?_) ?_ ?_; rotate_left; (repeat (first | exact InK.here | refine InK.there ?_)); first | assumption | exact rfl) | (refine Rdk.bn (cs := ?_) ?_ ?_; rotate_left; (repeat (first | exact InK.here | refine InK.there ?_)); exact rfl)))))) : efsOkK pre kk a b v efs := ho
end
end
end Go.Abs
namespace Go.Abs
open Go
structure Wlk (H G : Prop) : Prop where
 go : H → G
abbrev oI (n : Nat) : AO := .c (.int .i64 (.ofNat n))
section
variable {P : Program} {nd : Bool} {l : SL} {K : Mem} {os : List AOper} {d : Option Nat} {pre : Nat} {Q : SL → Mem → Prop} {i : Nat} {Kp : Mem} {efs : List (Nat × Mem)} {rds : List Rd}
theorem iP {p : POp} {v : AV} (h : Ev l p v) : Wlk (Rg P nd os (putL l d v) K Q) (Rg P nd (⟨d, .p p, none, pre⟩ :: os) l K Q) := ⟨Rg.p h⟩
theorem iR {kk : RK} {x y : AO} {a b v : AV} (hx : x.evL l = some a) (hy : y.evL l = some b) (h : Rdk K kk a b v) : Wlk (Rg P nd os (putL l d v) K Q) (Rg P nd (⟨d, .r kk x y, none, pre⟩ :: os) l K Q) := ⟨Rg.r hx hy h⟩
theorem iC {o : BinOp} {x y : AO} {a b : AV} {p : Prop} (hx : x.evL l = some a) (hy : y.evL l = some b) (h : Cmp o a b p) : Wlk (∀ c : Bool, (c = true ↔ p) → Rg P nd os (putL l d (.bool c)) K Q) (Rg P nd (⟨d, .p (.bin o x y), none, pre⟩ :: os) l K Q) := ⟨Rg.cmp hx hy h⟩
theorem iO {m : Nat} {x y : AO} {b lm : Nat} {cs r : List AV} {K' : Mem} (hx : x.evL l = some (.ptr b 0 0 lm)) (hy : y.evL l = some (.agg r))
  (hK : Upd K b (.cells cs 0 0 false) (.cells r 0 0 false) K') (h2 : r.length = m) (h3 : m ≤ lm) (h4 : cs.length = m) : Wlk (Rg P nd os (putL l d (.tup [])) K' Q) (Rg P nd (⟨d, .e (.store m x y), none, pre⟩ :: os) l K Q) := ⟨Rg.storeW hx hy hK h2 h3 h4⟩
theorem iO2 {m : Nat} {x y : AO} {b off lm : Nat} {cs : List AV} {v : AV} {K' : Mem} (hx : x.evL l = some (.ptr b 0 off lm)) (hy : y.evL l = some v)
  (hK : Upd K b (.cells cs 0 0 false) (.cells (setSeg cs off (cellsOf v)) 0 0 false) K') (h1 : plainV v = true) (h2 : (cellsOf v).length = m) (h3 : m ≤ lm) (h4 : off + m ≤ cs.length) : Wlk (Rg P nd os (putL l d (.tup [])) K' Q) (Rg P nd (⟨d, .e (.store m x y), none, pre⟩ :: os) l K Q) := ⟨Rg.storeB hx hy hK h1 h2 h3 h4⟩
theorem iQ {f : FuncId} {xs : List AO} {vs : List AV} {g : Bool} (hx : evsL l xs = some vs) (h : PT P nd f vs (.bool g)) : Wlk (∀ c : Bool, g = c → Rg P nd os (putL l d (.bool c)) K Q) (Rg P nd (⟨d, .e (.call f xs), none, pre⟩ :: os) l K Q) := ⟨Rg.callB hx h⟩
theorem iT {f : AO} {g : FuncId} {first cap : List AV} {xs : List AO} {vs : List AV} {w : Bool} (hf : f.evL l = some (.fn g first cap)) (hx : evsL l xs = some vs) (h : PT P nd g (first ++ vs ++ cap) (.bool w)) : Wlk (∀ c : Bool, w = c → Rg P nd os (putL l d (.bool c)) K Q) (Rg P nd (⟨d, .e (.callv f xs), none, pre⟩ :: os) l K Q) := ⟨Rg.callvB hf hx h⟩
theorem iS {f : FuncId} {xs : List AO} {vs : List AV} {v : AV} (hx : evsL l xs = some vs) (h : PT P nd f vs v) : Wlk (Rg P nd os (putL l d v) K Q) (Rg P nd (⟨d, .e (.call f xs), none, pre⟩ :: os) l K Q) := ⟨Rg.call hx h⟩
theorem iV {f : AO} {g : FuncId} {first cap : List AV} {xs : List AO} {vs : List AV} {v : AV} (hf : f.evL l = some (.fn g first cap)) (hx : evsL l xs = some vs) (h : PT P nd g (first ++ vs ++ cap) v) : Wlk (Rg P nd os (putL l d v) K Q) (Rg P nd (⟨d, .e (.callv f xs), none, pre⟩ :: os) l K Q) := ⟨Rg.callv hf hx h⟩
theorem iD {p : POp} {v : AV} (h : Ev l p v) : Wlk (Dw P (i + 1) os (putL l d v) K Kp efs rds Q) (Dw P i (⟨d, .p p, none, pre⟩ :: os) l K Kp efs rds Q) := ⟨Dw.p h⟩
theorem iE {o : BinOp} {x y : AO} {a b : AV} {p : Prop} (hx : x.evL l = some a) (hy : y.evL l = some b) (h : Cmp o a b p) : Wlk (∀ c : Bool, (c = true ↔ p) → Dw P (i + 1) os (putL l d (.bool c)) K Kp efs rds Q) (Dw P i (⟨d, .p (.bin o x y), none, pre⟩ :: os) l K Kp efs rds Q) := ⟨Dw.cmp hx hy h⟩
theorem iF {kk : RK} {x y : AO} {a b v : AV} (hx : x.evL l = some a) (hy : y.evL l = some b) (h : Rdk K kk a b v) (ho : efsOkK pre kk a b v efs) : Wlk (Dw P (i + 1) os (putL l d v) K Kp efs (⟨i, kk, a, b, v⟩ :: rds) Q) (Dw P i (⟨d, .r kk x y, none, pre⟩ :: os) l K Kp efs rds Q) := ⟨Dw.r hx hy h ho⟩
theorem iY {f : FuncId} {xs : List AO} {vs : List AV} {g : Bool} (hx : evsL l xs = some vs) (h : PT P false f vs (.bool g)) (ho : rdsOkK pre (Kp ++ K) rds) : Wlk (∀ c : Bool, g = c → Dw P (i + 1) os (putL l d (.bool c)) (Kp ++ K) [] ((i, K) :: efs) rds Q) (Dw P i (⟨d, .e (.call f xs), none, pre⟩ :: os) l K Kp efs rds Q) := ⟨Dw.callB hx h ho⟩
theorem iW {f : FuncId} {xs : List AO} {vs : List AV} {v : AV} (hx : evsL l xs = some vs) (h : PT P false f vs v) (ho : rdsOkK pre (Kp ++ K) rds) : Wlk (Dw P (i + 1) os (putL l d v) (Kp ++ K) [] ((i, K) :: efs) rds Q) (Dw P i (⟨d, .e (.call f xs), none, pre⟩ :: os) l K Kp efs rds Q) := ⟨Dw.call hx h ho⟩
theorem iK {c : AO} {a b : ACode} {t : Bool} {Q : AX → SL → Mem → Prop} (hc : c.evL l = some (.bool t)) : Wlk ((t = true → Cd P nd a l K Q) ∧ (t = false → Cd P nd b l K Q)) (Cd P nd (.cond c a b) l K Q) := ⟨fun h => Cd.cond hc h.1 h.2⟩
theorem iKT {c : AO} {a b : ACode} {Q : AX → SL → Mem → Prop} (hc : c.evL l = some (.bool true)) : Wlk (Cd P nd a l K Q) (Cd P nd (.cond c a b) l K Q) := ⟨Cd.condT hc⟩
theorem iKF {c : AO} {a b : ACode} {Q : AX → SL → Mem → Prop} (hc : c.evL l = some (.bool false)) : Wlk (Cd P nd b l K Q) (Cd P nd (.cond c a b) l K Q) := ⟨Cd.condF hc⟩
theorem iG {op : AOp} {t : Nat} {w c : Bool} (ht : lkS l t = some (.bool c)) : Wlk ((c = true → Rg P nd (⟨d, op, some (t, w), pre⟩ :: os) l K Q) ∧ (c = false → Rg P nd (⟨d, op, some (t, w), pre⟩ :: os) l K Q)) (Rg P nd (⟨d, op, some (t, w), pre⟩ :: os) l K Q) := ⟨fun h => Rg.guardS ht h.1 h.2⟩
theorem iGY {op : AOp} {t : Nat} {w : Bool} (ht : lkS l t = some (.bool w)) : Wlk (Rg P nd (⟨d, op, none, pre⟩ :: os) l K Q) (Rg P nd (⟨d, op, some (t, w), pre⟩ :: os) l K Q) := ⟨Rg.guardY ht⟩
theorem iGN {op : AOp} {t : Nat} {w : Bool} (ht : lkS l t = some (.bool !w)) : Wlk (Rg P nd os (putL l d (.tup [])) K Q) (Rg P nd (⟨d, op, some (t, w), pre⟩ :: os) l K Q) := ⟨Rg.guardN ht⟩
theorem iGT {op : AOp} {t : Nat} {w : Bool} (ht : lkS l t = some (.tup [])) : Wlk (Rg P nd os (putL l d (.tup [])) K Q) (Rg P nd (⟨d, op, some (t, w), pre⟩ :: os) l K Q) := ⟨Rg.guardT ht⟩
theorem iH {op : AOp} {t : Nat} {w c : Bool} (ht : lkS l t = some (.bool c)) : Wlk ((c = true → Dw P i (⟨d, op, some (t, w), pre⟩ :: os) l K Kp efs rds Q) ∧ (c = false → Dw P i (⟨d, op, some (t, w), pre⟩ :: os) l K Kp efs rds Q)) (Dw P i (⟨d, op, some (t, w), pre⟩ :: os) l K Kp efs rds Q) := ⟨fun h => Dw.guardS ht h.1 h.2⟩
theorem iHY {op : AOp} {t : Nat} {w : Bool} (ht : lkS l t = some (.bool w)) : Wlk (Dw P i (⟨d, op, none, pre⟩ :: os) l K Kp efs rds Q) (Dw P i (⟨d, op, some (t, w), pre⟩ :: os) l K Kp efs rds Q) := ⟨Dw.guardY ht⟩
theorem iHN {op : AOp} {t : Nat} {w : Bool} (ht : lkS l t = some (.bool !w)) : Wlk (Dw P (i + 1) os (putL l d (.tup [])) K Kp efs rds Q) (Dw P i (⟨d, op, some (t, w), pre⟩ :: os) l K Kp efs rds Q) := ⟨Dw.guardN ht⟩
theorem iHT {op : AOp} {t : Nat} {w : Bool} (ht : lkS l t = some (.tup [])) : Wlk (Dw P (i + 1) os (putL l d (.tup [])) K Kp efs rds Q) (Dw P i (⟨d, op, some (t, w), pre⟩ :: os) l K Kp efs rds Q) := ⟨Dw.guardT ht⟩
theorem iL {len sz : Nat} {zs : List AV} {parts : List (Nat × Nat × AO)} {cs : List AV} (h : fillL l (rep zs len) parts = some cs) : Wlk (∀ b, Rg P nd os (putL l d (.slc b 0 0 len len sz)) ([(b, .cells cs 0 0 false)] :: K) Q) (Rg P nd (⟨d, .a (.lits len sz zs parts), none, pre⟩ :: os) l K Q) := ⟨Rg.a (Mk.lits h)⟩
theorem iDL {len sz : Nat} {zs : List AV} {parts : List (Nat × Nat × AO)} {cs : List AV} (h : fillL l (rep zs len) parts = some cs) : Wlk (∀ b, Dw P (i + 1) os (putL l d (.slc b 0 0 len len sz)) K ([(b, .cells cs 0 0 false)] :: Kp) efs rds Q) (Dw P i (⟨d, .a (.lits len sz zs parts), none, pre⟩ :: os) l K Kp efs rds Q) := ⟨Dw.a (Mk.lits h)⟩
structure Dec3 (p : Prop) (R : Bool → Prop) (H : Prop) : Prop where
 go : H → ∀ t : Bool, (t = true ↔ p) → R t
theorem Dec3.T {p : Prop} {R : Bool → Prop} (hp : p) : Dec3 p R (R true) := ⟨fun h t ht => by rw [ht.2 hp]; exact h⟩
theorem Dec3.F {p : Prop} {R : Bool → Prop} (hp : ¬ p) : Dec3 p R (R false) := ⟨fun h t ht => by cases t with | true => exact absurd (ht.1 rfl) hp | false => exact h⟩
theorem Dec3.S {p : Prop} {R : Bool → Prop} : Dec3 p R ((p → R true) ∧ (¬ p → R false)) := ⟨fun h t ht => by cases t with | true => exact h.1 (ht.1 rfl) | false => exact h.2 fun hp => Bool.noConfusion (ht.2 hp)⟩
theorem iX {o : BinOp} {x y : AO} {a b : AV} {p H : Prop} (hx : x.evL l = some a) (hy : y.evL l = some b) (h : Cmp o a b p) (hd : Dec3 p (fun c => Rg P nd os (putL l d (.bool c)) K Q) H) : Wlk H (Rg P nd (⟨d, .p (.bin o x y), none, pre⟩ :: os) l K Q) := ⟨fun k => Rg.cmp hx hy h fun c hc => hd.go k c hc⟩
theorem iXD {o : BinOp} {x y : AO} {a b : AV} {p H : Prop} (hx : x.evL l = some a) (hy : y.evL l = some b) (h : Cmp o a b p) (hd : Dec3 p (fun c => Dw P (i + 1) os (putL l d (.bool c)) K Kp efs rds Q) H) : Wlk H (Dw P i (⟨d, .p (.bin o x y), none, pre⟩ :: os) l K Kp efs rds Q) := ⟨fun k => Dw.cmp hx hy h fun c hc => hd.go k c hc⟩
theorem iPb {o : BinOp} {x y : AO} {a b v : AV} (hx : x.evL l = some a) (hy : y.evL l = some b) (h : abin o a b = some v) : Wlk (Rg P nd os (putL l d v) K Q) (Rg P nd (⟨d, .p (.bin o x y), none, pre⟩ :: os) l K Q) := ⟨Rg.p (Ev.bin hx hy h)⟩
theorem iDb {o : BinOp} {x y : AO} {a b v : AV} (hx : x.evL l = some a) (hy : y.evL l = some b) (h : abin o a b = some v) : Wlk (Dw P (i + 1) os (putL l d v) K Kp efs rds Q) (Dw P i (⟨d, .p (.bin o x y), none, pre⟩ :: os) l K Kp efs rds Q) := ⟨Dw.p (Ev.bin hx hy h)⟩
theorem iPk {c x y : AO} {b : Bool} {u v : AV} (hc : c.evL l = some (.bool b)) (hx : x.evL l = some u) (hy : y.evL l = some v) : Wlk (Rg P nd os (putL l d (bif b then u else v)) K Q) (Rg P nd (⟨d, .p (.pick c x y), none, pre⟩ :: os) l K Q) := ⟨Rg.p (Ev.pick hc hx hy)⟩
theorem iDk {c x y : AO} {b : Bool} {u v : AV} (hc : c.evL l = some (.bool b)) (hx : x.evL l = some u) (hy : y.evL l = some v) : Wlk (Dw P (i + 1) os (putL l d (bif b then u else v)) K Kp efs rds Q) (Dw P i (⟨d, .p (.pick c x y), none, pre⟩ :: os) l K Kp efs rds Q) := ⟨Dw.p (Ev.pick hc hx hy)⟩
theorem zEn {p : POp} {v : AV} (h : Ev l p v := by first | (refine Ev.mov ?_; exact rfl) | exact Ev.const | (refine Ev.nilchk rfl ?_; exact rfl) | (refine Ev.len rfl ?_; first | assumption | exact rfl) | (refine Ev.fadr rfl ?_; first | assumption | exact rfl) | (refine Ev.iadr rfl rfl ?_; assumption) | exact Ev.pick rfl rfl rfl | (refine Ev.un rfl ?_; exact rfl) | (refine Ev.ext rfl ?_; exact rfl) | (refine Ev.build (cs := ?_) ?_; rotate_left; exact rfl) | (refine Ev.idxs rfl rfl ?_; first | assumption | exact rfl) | (refine Ev.aadr rfl rfl ?_; first | assumption | exact rfl) | (refine Ev.field rfl ?_; exact rfl) | (refine Ev.eq (r := ?_) rfl rfl ?_ ?_; rotate_left; (first | assumption | exact rfl); exact rfl) | (refine Ev.mkifc rfl ?_; exact rfl) | (refine Ev.mkfn rfl rfl ?_; exact rfl) | (refine Ev.same rfl ?_; exact rfl) | (refine Ev.toInt rfl ?_; first | assumption | exact rfl) | (refine Ev.sstr rfl rfl rfl ?_; assumption) | (refine Ev.sslc rfl rfl rfl rfl ?_; assumption) | (refine Ev.mmax rfl ?_; first | assumption | exact rfl) | (refine Ev.mmin rfl ?_; first | assumption | exact rfl) | (refine Ev.tas rfl ?_; first | assumption | exact rfl)) : Ev l p v := h
theorem zB {o : BinOp} {a b v : AV} (h : abin o a b = some v := by first | assumption | (refine add_nat ?_; omega) | (refine sub_nat ?_ ?_; omega; omega) | (refine sub_nat ?_ ?_ <;> exact Nat.le_of_ble_eq_true rfl) | (refine add_nat ?_; exact Nat.le_of_ble_eq_true rfl) | (refine add_str ?_; first | exact Nat.le_of_ble_eq_true rfl | (simp [lim] at *; omega)) | (refine add_int ?_ ?_; omega; omega)) : abin o a b = some v := h
theorem zT3 {p : Prop} {R : Bool → Prop} {H : Prop} (h : Dec3 p R H := by first | (refine Dec3.T ?_; first | assumption | omega | (simp only [List.length_cons, List.length_nil]; first | done | omega)) | (refine Dec3.F ?_; first | assumption | omega | (simp only [List.length_cons, List.length_nil]; first | done | omega))) : Dec3 p R H := h
theorem zT4 {p : Prop} {R : Bool → Prop} {H : Prop} (h : Dec3 p R H := by first | (refine Dec3.T ?_; simp only [true_iff, false_iff, eq_self, Bool.false_eq_true, not_and, Classical.not_not] at *; first | assumption | omega) | (refine Dec3.F ?_; simp only [true_iff, false_iff, eq_self, Bool.false_eq_true, not_and, Classical.not_not] at *; first | assumption | omega)) : Dec3 p R H := h
theorem iB {x : AO} {a : AV} (hx : x.evL l = some a) (hp : plainV a = true) : Wlk (∀ b, Rg P nd os (putL l d (.ptr b 0 0 (cellsOf a).length)) ([(b, .cells (cellsOf a) 0 0 false)] :: K) Q) (Rg P nd (⟨d, .a (.box x), none, pre⟩ :: os) l K Q) := ⟨Rg.box hx hp⟩
theorem iDA {p : LOp} {o : AObj} {v : Nat → AV} (h : Mk l p o v) : Wlk (∀ b, Dw P (i + 1) os (putL l d (v b)) K ([(b, o)] :: Kp) efs rds Q) (Dw P i (⟨d, .a p, none, pre⟩ :: os) l K Kp efs rds Q) := ⟨Dw.a h⟩
theorem zs {f : FuncId} {xs : List AO} {vs : List AV} {v : AV} (h : PT P nd f vs v) (k : Rg P nd os (putL l d v) K Q) (hx : evsL l xs = some vs := by exact rfl) : Rg P nd (⟨d, .e (.call f xs), none, pre⟩ :: os) l K Q := Rg.call hx h k
end
end Go.Abs
