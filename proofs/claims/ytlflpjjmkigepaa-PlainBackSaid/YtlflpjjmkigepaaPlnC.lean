/- The document's heap: which key stands ahead; keys; a value is put. -/
import Derived.Test.YtlflpjjmkigepaaPlnB
set_option autoImplicit false
set_option maxRecDepth 100000
set_option maxHeartbeats 4000000
set_option linter.unusedVariables false
set_option linter.unusedSimpArgs false
namespace Go.Proofs.Ytlflpjjmkigepaa
open Go Go.Abs
attribute [local irreducible] Cmp Rg Dw Cd Lp Ev Rdk CT Upd InK
theorem can_k {a : Val} (h : Can a) : a.k = 1 ∨ a.k = 2 := by
  rcases h with h | h
  · exact .inl h.1
  · exact .inr h.1
theorem ahead58 {a c : Val} (ha : Can a) (hc : Can c) (h1 : a.s.length ≤ 1024) (h2 : c.s.length ≤ 1024) : PT Try.prog false 55 [valA a, valA c] (.bool (aheadB a c)) := by
  have k19 := two19 (a := a) (b := c) (can_k ha) (by omega) (by omega)
  have ka := can_k ha
  have kc := can_k hc
  refine PT.of (CT.enter mixed comp55 (Nat.le_of_ble_eq_true rfl) ?_)
  by_cases h : a.k = c.k
  · rw [if_pos h] at k19
    cases hb : aheadB a c with
    | true =>
      rw [hb] at k19
      repeat' (first|refine zz ?_|(refine zw ?_;refine And.intro ?_ ?_<;>intro hc)|(refine zv ?_;intro cv hv)|(refine za ?_;intro _)|refine zc ?_|(refine zd ?_;refine And.intro ?_ ?_<;>(intro e;(try simp only [Bool.not_eq_true',Bool.not_eq_false'] at e);subst e;try contradiction)))
      (first|refine ⟨.inr rfl,_,.t rfl .nil,?_⟩|refine ⟨.inr rfl,_,.t rfl (.t rfl .nil),?_⟩|refine ⟨.inr rfl,_,.t rfl (.t rfl (.t rfl .nil)),?_⟩|refine ⟨.inr rfl,_,.nil,?_⟩|refine ⟨.inl rfl,_,.t rfl .nil,?_⟩|refine ⟨.inl rfl,_,.nil,?_⟩|refine ⟨.inr rfl,_,.cn rfl (by exact zN) .nil,?_⟩|refine ⟨.inr rfl,_,.cn rfl (by exact zN) (.t rfl .nil),?_⟩)
      rfl
    | false =>
      rw [hb] at k19
      repeat' (first|refine zz ?_|(refine zw ?_;refine And.intro ?_ ?_<;>intro hc)|(refine zv ?_;intro cv hv)|(refine za ?_;intro _)|refine zc ?_|(refine zd ?_;refine And.intro ?_ ?_<;>(intro e;(try simp only [Bool.not_eq_true',Bool.not_eq_false'] at e);subst e;try contradiction)))
      (first|refine ⟨.inr rfl,_,.t rfl .nil,?_⟩|refine ⟨.inr rfl,_,.t rfl (.t rfl .nil),?_⟩|refine ⟨.inr rfl,_,.t rfl (.t rfl (.t rfl .nil)),?_⟩|refine ⟨.inr rfl,_,.nil,?_⟩|refine ⟨.inl rfl,_,.t rfl .nil,?_⟩|refine ⟨.inl rfl,_,.nil,?_⟩|refine ⟨.inr rfl,_,.cn rfl (by exact zN) .nil,?_⟩|refine ⟨.inr rfl,_,.cn rfl (by exact zN) (.t rfl .nil),?_⟩)
      rfl
  · have hb : aheadB a c = decide (a.k < c.k) := by rw [aheadB, if_pos h]
    rw [hb]
    rcases ka with ka | ka
    · rw [decide_eq_true (by omega)]
      repeat' (first|refine zz ?_|(refine zw ?_;refine And.intro ?_ ?_<;>intro hc)|(refine zv ?_;intro cv hv)|(refine za ?_;intro _)|refine zc ?_|(refine zd ?_;refine And.intro ?_ ?_<;>(intro e;(try simp only [Bool.not_eq_true',Bool.not_eq_false'] at e);subst e;try contradiction)))
      (first|refine ⟨.inr rfl,_,.t rfl .nil,?_⟩|refine ⟨.inr rfl,_,.t rfl (.t rfl .nil),?_⟩|refine ⟨.inr rfl,_,.t rfl (.t rfl (.t rfl .nil)),?_⟩|refine ⟨.inr rfl,_,.nil,?_⟩|refine ⟨.inl rfl,_,.t rfl .nil,?_⟩|refine ⟨.inl rfl,_,.nil,?_⟩|refine ⟨.inr rfl,_,.cn rfl (by exact zN) .nil,?_⟩|refine ⟨.inr rfl,_,.cn rfl (by exact zN) (.t rfl .nil),?_⟩)
      rfl
    · rw [decide_eq_false (by omega)]
      repeat' (first|refine zz ?_|(refine zw ?_;refine And.intro ?_ ?_<;>intro hc)|(refine zv ?_;intro cv hv)|(refine za ?_;intro _)|refine zc ?_|(refine zd ?_;refine And.intro ?_ ?_<;>(intro e;(try simp only [Bool.not_eq_true',Bool.not_eq_false'] at e);subst e;try contradiction)))
      (first|refine ⟨.inr rfl,_,.t rfl .nil,?_⟩|refine ⟨.inr rfl,_,.t rfl (.t rfl .nil),?_⟩|refine ⟨.inr rfl,_,.t rfl (.t rfl (.t rfl .nil)),?_⟩|refine ⟨.inr rfl,_,.nil,?_⟩|refine ⟨.inl rfl,_,.t rfl .nil,?_⟩|refine ⟨.inl rfl,_,.nil,?_⟩|refine ⟨.inr rfl,_,.cn rfl (by exact zN) .nil,?_⟩|refine ⟨.inr rfl,_,.cn rfl (by exact zN) (.t rfl .nil),?_⟩)
      rfl
section
variable {r n room i m : Nat} {s : List Nat} {vf vc : AV} {T l : OS} {L : List KV} {k v : Val}
theorem put44_met {b6 : Nat} {z y w : AV} {Q : AX → SL → Mem → Prop} (hl : l.ok 6) (hr : l.rows = L.map pairR) (hll : L.length ≤ 1000000)
    (hend : ∀ l', Sub2 [(0, z), (6, .ptr b6 0 0 3), (7, y), (9, tP m), (10, w), (11, .bool (hasL k L))] l' → Q (.ext 0) l' [bV b6 k, tO m (l.v 6), l.c]) :
    ∀ (f i : Nat), L.length < i + f → i ≤ L.length → Lp Try.prog false b34_0 f [(0, z), (6, .ptr b6 0 0 3), (7, y), (9, tP m), (10, w), (11, .bool (hasL k (L.take i))), (12, .int .i64 (.ofNat i))] [bV b6 k, tO m (l.v 6), l.c] Q := by
  have hln := hl.len
  rw [hr, List.length_map] at hln
  intro f
  induction f with
  | zero => intro i h1 h2; omega
  | succ f ih =>
    intro i h1 h2
    refine Lp.round ?_
    by_cases hi : i < L.length
    · obtain ⟨e, he⟩ : ∃ e, L[i]? = some e := ⟨_, List.getElem?_eq_getElem hi⟩
      have hrow := pairRows L
      have hri : (L.map pairR)[i]? = some (pairR e) := by rw [List.getElem?_map, he]; rfl
      obtain ⟨id, g, el⟩ := hl.at (i := i) (r := pairR e) (by rw [hr]; exact hri)
      rw [hr] at el
      subst el
      have q1 := iadr_slc (sz := 6) (b := id) (g := g) (off := 0) (len := (L.map pairR).length) (cap := (L.map pairR).length) (i := i) (k := .i64) (by rw [List.length_map]; exact hi)
      have hp := fun K h => Rdk.part (K := K) (id := id) (g := g) (gr := true) (y := .ptr id g (0 + i * 6 + 0) 3) (i := i) (o := 0) (n := 3) (cs := valR e.1) h hrow hri rfl
      have hh : hasL k (L.take (i + 1)) = (hasL k (L.take i) || decide (e.1 = k)) := by
        rw [List.take_add_one, he]
        simp [hasL]
      by_cases hk : e.1 = k
      · have q2 : aeq (.flat true [.i, .i, .s]) (.agg (valR e.1)) (valA k) = some true := by
          rw [show (AV.agg (valR e.1)) = valA e.1 from rfl]
          simp only [aeq, flatVal, hk, decide_true]
        rw [hk] at hh
        simp only [decide_true, Bool.or_true] at hh
        repeat' (first|(refine Dw.r rfl rfl (hp _ (by repeat (first | exact InK.here | refine InK.there ?_))) (by repeat (first | exact trivial | refine And.intro (Or.inl rfl) ?_ | (refine And.intro (Or.inr ?_) ?_; (focus (first | exact Rdk.i1 | assumption | (refine Rdk.in ?_; first | assumption | exact rfl) | (refine Rdk.b1 (cs := ?_) ?_ ?_; rotate_left; (repeat (first | exact InK.here | refine InK.there ?_)); exact rfl) | (refine Rdk.bw ?_ ?_; (repeat (first | exact InK.here | refine InK.there ?_)); first | assumption | exact rfl) | (refine Rdk.bw (cs := ?_) ?_ ?_; rotate_left; (repeat (first | exact InK.here | refine InK.there ?_)); first | assumption | exact rfl) | (refine Rdk.bn ?_ ?_; (repeat (first | exact InK.here | refine InK.there ?_)); exact rfl) | (refine Rdk.bn (cs := ?_) ?_ ?_; rotate_left; (repeat (first | exact InK.here | refine InK.there ?_)); exact rfl)))))) ?_)|refine zz ?_|(refine zw ?_;refine And.intro ?_ ?_<;>intro hc)|(refine zv ?_;intro cv hv)|(refine za ?_;intro _)|refine zc ?_|(refine zd ?_;refine And.intro ?_ ?_<;>(intro e;(try simp only [Bool.not_eq_true',Bool.not_eq_false'] at e);subst e;try contradiction)))
        refine Lp.weak ?hw (ih (i + 1) (by omega) hi)
        case hw => rw [hh]; exact ⟨rfl, rfl, rfl, rfl, rfl, rfl, rfl, trivial⟩
      · have q2 : aeq (.flat true [.i, .i, .s]) (.agg (valR e.1)) (valA k) = some false := by
          rw [show (AV.agg (valR e.1)) = valA e.1 from rfl]
          simp only [aeq, flatVal, hk, decide_false]
        simp only [hk, decide_false, Bool.or_false] at hh
        repeat' (first|(refine Dw.r rfl rfl (hp _ (by repeat (first | exact InK.here | refine InK.there ?_))) (by repeat (first | exact trivial | refine And.intro (Or.inl rfl) ?_ | (refine And.intro (Or.inr ?_) ?_; (focus (first | exact Rdk.i1 | assumption | (refine Rdk.in ?_; first | assumption | exact rfl) | (refine Rdk.b1 (cs := ?_) ?_ ?_; rotate_left; (repeat (first | exact InK.here | refine InK.there ?_)); exact rfl) | (refine Rdk.bw ?_ ?_; (repeat (first | exact InK.here | refine InK.there ?_)); first | assumption | exact rfl) | (refine Rdk.bw (cs := ?_) ?_ ?_; rotate_left; (repeat (first | exact InK.here | refine InK.there ?_)); first | assumption | exact rfl) | (refine Rdk.bn ?_ ?_; (repeat (first | exact InK.here | refine InK.there ?_)); exact rfl) | (refine Rdk.bn (cs := ?_) ?_ ?_; rotate_left; (repeat (first | exact InK.here | refine InK.there ?_)); exact rfl)))))) ?_)|refine zz ?_|(refine zw ?_;refine And.intro ?_ ?_<;>intro hc)|(refine zv ?_;intro cv hv)|(refine za ?_;intro _)|refine zc ?_|(refine zd ?_;refine And.intro ?_ ?_<;>(intro e;(try simp only [Bool.not_eq_true',Bool.not_eq_false'] at e);subst e;try contradiction)))
        refine Lp.weak ?hw2 (ih (i + 1) (by omega) hi)
        case hw2 => rw [hh]; exact ⟨rfl, rfl, rfl, rfl, rfl, rfl, rfl, trivial⟩
    · rw [List.take_of_length_le (by omega)]
      repeat' (first|refine zz ?_|(refine zw ?_;refine And.intro ?_ ?_<;>intro hc)|(refine zv ?_;intro cv hv)|(refine za ?_;intro _)|refine zc ?_|(refine zd ?_;refine And.intro ?_ ?_<;>(intro e;(try simp only [Bool.not_eq_true',Bool.not_eq_false'] at e);subst e;try contradiction)))
      exact hend _ ⟨rfl, rfl, rfl, rfl, rfl, rfl, trivial⟩
/-- What has come of the first pairs: whether the new one is laid, and the pairs so far. -/
def stepP (k v : Val) (e : KV) (p : Bool × List KV) : Bool × List KV :=
  if p.1 = false ∧ aheadB e.1 k = false then (true, (p.2 ++ [(k, v)]) ++ if e.1 = k then [] else [e]) else (p.1, p.2 ++ if e.1 = k then [] else [e])
def goP (k v : Val) : List KV → Bool × List KV → Bool × List KV
  | [], p => p
  | e :: r, p => goP k v r (stepP k v e p)
theorem step_t {k v : Val} {e : KV} {o : List KV} : stepP k v e (true, o) = (true, o ++ if e.1 = k then [] else [e]) := by rw [stepP, if_neg (by simp)]
theorem step_a {k v : Val} {e : KV} {o : List KV} (ha : aheadB e.1 k = true) : stepP k v e (false, o) = (false, o ++ [e]) := by rw [stepP, if_neg (by simp [ha]), if_neg (ahead_ne ha)]
theorem step_b {k v : Val} {e : KV} {o : List KV} (ha : aheadB e.1 k = false) : stepP k v e (false, o) = (true, (o ++ [(k, v)]) ++ if e.1 = k then [] else [e]) := by rw [stepP, if_pos ⟨rfl, ha⟩]
theorem goP_true {k v : Val} : ∀ (L : List KV) (o : List KV), goP k v L (true, o) = (true, o ++ L.filter fun e => !decide (e.1 = k))
  | [], o => by simp [goP]
  | e :: r, o => by
    rw [goP, step_t, goP_true r]
    by_cases h : e.1 = k
    · simp [List.filter_cons, h]
    · simp [List.filter_cons, h]
theorem Srt.behind {e : KV} {r : List KV} (h : Srt (e :: r)) {k : Val} (he : aheadB k e.1 = true ∨ e.1 = k) : (r.filter fun e => aheadB e.1 k) = [] ∧ (r.filter fun e => aheadB k e.1) = r ∧ (r.filter fun e => !decide (e.1 = k)) = r := by
  have hx : ∀ x, x ∈ r → aheadB k x.1 = true := fun x hx => by
    have := (List.pairwise_cons.1 h.ord).1 x hx
    rcases he with he | he
    · exact ahead_trans he this
    · rwa [he] at this
  refine ⟨?_, ?_, ?_⟩
  · rw [List.filter_eq_nil_iff]
    intro x hm
    rw [ahead_asym (hx x hm)]
    simp
  · rw [List.filter_eq_self]
    exact hx
  · rw [List.filter_eq_self]
    intro x hm
    have := (ahead_ne (hx x hm)).symm
    simp [this]
theorem goP_false {k v : Val} (hk : Can k) : ∀ {L : List KV} (o : List KV), Srt L → (if (goP k v L (false, o)).1 = true then (goP k v L (false, o)).2 else (goP k v L (false, o)).2 ++ [(k, v)]) = o ++ (L.filter (fun e => aheadB e.1 k) ++ (k, v) :: L.filter fun e => aheadB k e.1)
  | [], o, _ => by simp [goP]
  | e :: r, o, h => by
    rw [goP]
    cases ha : aheadB e.1 k with
    | true =>
      rw [step_a ha, goP_false hk (o ++ [e]) h.tail]
      simp [List.filter_cons, ha, ahead_asym ha]
    | false =>
      rw [step_b ha, goP_true, if_pos rfl]
      by_cases hek : e.1 = k
      · obtain ⟨f1, f2, f3⟩ := h.behind (.inr hek)
        rw [f3, if_pos hek]
        simp [List.filter_cons, hek, ahead_irr, f1, f2]
      · have hb := ahead_tri (h.can _ List.mem_cons_self) hk ha hek
        obtain ⟨f1, f2, f3⟩ := h.behind (.inl hb)
        rw [f3, if_neg hek]
        simp [List.filter_cons, ha, hb, f1, f2]
theorem goP_all {k v : Val} (hk : Can k) {L : List KV} (h : Srt L) : (if (goP k v L (decide (v.k = 0), [])).1 = true then (goP k v L (decide (v.k = 0), [])).2 else (goP k v L (decide (v.k = 0), [])).2 ++ [(k, v)]) = setL k v L := by
  unfold setL
  by_cases h0 : v.k = 0
  · simp [h0, goP_true]
  · simp only [h0, decide_false, if_false]
    rw [goP_false hk [] h]
    rfl
theorem goP_app {k v : Val} {e : KV} : ∀ {L : List KV} {p : Bool × List KV}, goP k v (L ++ [e]) p = stepP k v e (goP k v L p)
  | [], _ => rfl
  | x :: r, p => by
    rw [List.cons_append, goP, goP]
    exact goP_app
theorem goP_len {k v : Val} : ∀ (L : List KV) (p : Bool × List KV), (goP k v L p).2.length ≤ p.2.length + 2 * L.length
  | [], p => by simp [goP]
  | e :: r, p => by
    rw [goP]
    refine Nat.le_trans (goP_len r _) ?_
    simp only [List.length_cons, stepP]
    split <;> split <;> simp <;> omega
end
end Go.Proofs.Ytlflpjjmkigepaa

namespace Go.Proofs.Ytlflpjjmkigepaa
open Go Go.Abs
attribute [local irreducible] Cmp Rg Dw Cd Lp Ev Rdk CT Upd InK
section
variable {r n room i m b6 b7 : Nat} {s : List Nat} {vf vc : AV} {T l O : OS} {L out : List KV} {k v : Val} {ld : Bool} {e : KV} {z : AV}
abbrev s44 (z : AV) (b6 b7 m i : Nat) (O : OS) (ld : Bool) : SL := [(0, z), (6, .ptr b6 0 0 3), (7, .ptr b7 0 0 3), (9, tP m), (10, O.v 6), (13, .bool ld), (14, .int .i64 (.ofNat i))]
abbrev k44 (b6 b7 m : Nat) (k v : Val) (O l : OS) : Mem := [O.c, bV b6 k, bV b7 v, tO m (l.v 6), l.c]
theorem n44_19 (hO : O.ok 6) (hr : O.rows = out.map pairR) (hl : out.length ≤ 4000000) : Cd Try.prog false (.seq (.reg r34_19) (.reg r34_20)) (s44 z b6 b7 m i O ld) (k44 b6 b7 m k v O l)
    fun x l' K => x = .nrm ∧ ∃ O' : OS, O'.ok 6 ∧ O'.rows = (out ++ [(k, v)]).map pairR ∧ Sub2 (s44 z b6 b7 m i O' true) l' ∧ ∃ r, Sel K (k44 b6 b7 m k v O' l) r := by
  repeat' (first|refine zz ?_|(refine zw ?_;refine And.intro ?_ ?_<;>intro hc)|(refine zv ?_;intro cv hv)|(refine za ?_;intro _)|refine zc ?_|(refine zd ?_;refine And.intro ?_ ?_<;>(intro e;(try simp only [Bool.not_eq_true',Bool.not_eq_false'] at e);subst e;try contradiction)))
  refine Rg.e (Ef.appO (rs := [pairR (k, v)]) (n := 1) rfl rfl hO (by intro r hr; simp at hr; subst hr; rfl) (.there .here) rfl (by decide) (Rw.slc (InK.there InK.here) (Nat.le_refl _) (Nat.le_refl _) rfl) (by rw [hr, List.length_map]; simp only [lim]; omega)) ?_
  rintro _ _ ⟨O', hO', hr2, rfl, rfl⟩
  repeat' (first|refine zz ?_|(refine zw ?_;refine And.intro ?_ ?_<;>intro hc)|(refine zv ?_;intro cv hv)|(refine za ?_;intro _)|refine zc ?_|(refine zd ?_;refine And.intro ?_ ?_<;>(intro e;(try simp only [Bool.not_eq_true',Bool.not_eq_false'] at e);subst e;try contradiction)))
  exact ⟨rfl, O', hO', by rw [hr2, hr]; simp, ⟨rfl, rfl, rfl, rfl, rfl, rfl, rfl, trivial⟩, _, (.cons (.here) (.cons (.there (.here)) (.cons (.there (.here)) (.cons (.there (.here)) (.cons (.there (.here)) (.nil))))))⟩
theorem n44_25 (hO : O.ok 6) (hr : O.rows = out.map pairR) (hl : out.length ≤ 4000000) : Cd Try.prog false (.reg r34_25) [(0, z), (6, .ptr b6 0 0 3), (7, .ptr b7 0 0 3), (9, tP m), (10, O.v 6)] (k44 b6 b7 m k v O l)
    fun x l' K => x = .nrm ∧ ∃ O' : OS, O'.ok 6 ∧ O'.rows = (out ++ [(k, v)]).map pairR ∧ Sub2 [(0, z), (9, tP m), (10, O'.v 6)] l' ∧ ∃ r, Sel K (k44 b6 b7 m k v O' l) r := by
  repeat' (first|refine zz ?_|(refine zw ?_;refine And.intro ?_ ?_<;>intro hc)|(refine zv ?_;intro cv hv)|(refine za ?_;intro _)|refine zc ?_|(refine zd ?_;refine And.intro ?_ ?_<;>(intro e;(try simp only [Bool.not_eq_true',Bool.not_eq_false'] at e);subst e;try contradiction)))
  refine Rg.e (Ef.appO (rs := [pairR (k, v)]) (n := 1) rfl rfl hO (by intro r hr; simp at hr; subst hr; rfl) (.there .here) rfl (by decide) (Rw.slc (InK.there InK.here) (Nat.le_refl _) (Nat.le_refl _) rfl) (by rw [hr, List.length_map]; simp only [lim]; omega)) ?_
  rintro _ _ ⟨O', hO', hr2, rfl, rfl⟩
  repeat' (first|refine zz ?_|(refine zw ?_;refine And.intro ?_ ?_<;>intro hc)|(refine zv ?_;intro cv hv)|(refine za ?_;intro _)|refine zc ?_|(refine zd ?_;refine And.intro ?_ ?_<;>(intro e;(try simp only [Bool.not_eq_true',Bool.not_eq_false'] at e);subst e;try contradiction)))
  exact ⟨rfl, O', hO', by rw [hr2, hr]; simp, ⟨rfl, rfl, rfl, trivial⟩, _, (.cons (.here) (.cons (.there (.here)) (.cons (.there (.here)) (.cons (.there (.here)) (.cons (.there (.here)) (.nil))))))⟩
theorem n44_18 (hl : l.ok 6) (hr : l.rows = L.map pairR) (he : L[i]? = some e) (ke : Can e.1) (kk : Can k) (h1 : e.1.s.length ≤ 1024) (h2 : k.s.length ≤ 1024) : Cd Try.prog false (.draw r34_18) (s44 z b6 b7 m i O ld) (k44 b6 b7 m k v O l)
    fun x l' K => x = .nrm ∧ Sub2 ((86, .bool (!ld && !aheadB e.1 k)) :: s44 z b6 b7 m i O ld) l' ∧ ∃ r, Sel K (k44 b6 b7 m k v O l) r := by
  have hrow := pairRows L
  have hi := (List.getElem?_eq_some_iff.1 he).1
  have hri : (L.map pairR)[i]? = some (pairR e) := by rw [List.getElem?_map, he]; rfl
  obtain ⟨id, g, el⟩ := hl.at (i := i) (r := pairR e) (by rw [hr]; exact hri)
  rw [hr] at el
  subst el
  have q1 := iadr_slc (sz := 6) (b := id) (g := g) (off := 0) (len := (L.map pairR).length) (cap := (L.map pairR).length) (i := i) (k := .i64) (by rw [List.length_map]; exact hi)
  have hp := fun K h => Rdk.part (K := K) (id := id) (g := g) (gr := true) (y := .ptr id g (0 + i * 6 + 0) 3) (i := i) (o := 0) (n := 3) (cs := valR e.1) h hrow hri rfl
  have k58 := ahead58 ke kk h1 h2
  cases ld with
  | true =>
    repeat' (first|refine zz ?_|(refine zw ?_;refine And.intro ?_ ?_<;>intro hc)|(refine zv ?_;intro cv hv)|(refine za ?_;intro _)|refine zc ?_|(refine zd ?_;refine And.intro ?_ ?_<;>(intro e;(try simp only [Bool.not_eq_true',Bool.not_eq_false'] at e);subst e;try contradiction)))
    exact ⟨rfl, ⟨rfl, rfl, rfl, rfl, rfl, rfl, rfl, rfl, trivial⟩, _, Sel.all _⟩
  | false =>
    cases ha : aheadB e.1 k with
    | true =>
      rw [ha] at k58
      repeat' (first|(refine Dw.r rfl rfl (hp _ (by repeat (first | exact InK.here | refine InK.there ?_))) (by repeat (first | exact trivial | refine And.intro (Or.inl rfl) ?_ | (refine And.intro (Or.inr ?_) ?_; (focus (first | exact Rdk.i1 | assumption | (refine Rdk.in ?_; first | assumption | exact rfl) | (refine Rdk.b1 (cs := ?_) ?_ ?_; rotate_left; (repeat (first | exact InK.here | refine InK.there ?_)); exact rfl) | (refine Rdk.bw ?_ ?_; (repeat (first | exact InK.here | refine InK.there ?_)); first | assumption | exact rfl) | (refine Rdk.bw (cs := ?_) ?_ ?_; rotate_left; (repeat (first | exact InK.here | refine InK.there ?_)); first | assumption | exact rfl) | (refine Rdk.bn ?_ ?_; (repeat (first | exact InK.here | refine InK.there ?_)); exact rfl) | (refine Rdk.bn (cs := ?_) ?_ ?_; rotate_left; (repeat (first | exact InK.here | refine InK.there ?_)); exact rfl)))))) ?_)|(refine zsd k58 ?_ (by exact rfl) (by repeat (first | exact trivial | refine And.intro (Or.inl rfl) ?_ | (refine And.intro (Or.inr ?_) ?_; (focus (first | exact hp _ (by repeat (first | exact InK.here | refine InK.there ?_)) | first | exact Rdk.i1 | assumption | (refine Rdk.in ?_; first | assumption | exact rfl) | (refine Rdk.b1 (cs := ?_) ?_ ?_; rotate_left; (repeat (first | exact InK.here | refine InK.there ?_)); exact rfl) | (refine Rdk.bw ?_ ?_; (repeat (first | exact InK.here | refine InK.there ?_)); first | assumption | exact rfl) | (refine Rdk.bw (cs := ?_) ?_ ?_; rotate_left; (repeat (first | exact InK.here | refine InK.there ?_)); first | assumption | exact rfl) | (refine Rdk.bn ?_ ?_; (repeat (first | exact InK.here | refine InK.there ?_)); exact rfl) | (refine Rdk.bn (cs := ?_) ?_ ?_; rotate_left; (repeat (first | exact InK.here | refine InK.there ?_)); exact rfl)))))))|refine zz ?_|(refine zw ?_;refine And.intro ?_ ?_<;>intro hc)|(refine zv ?_;intro cv hv)|(refine za ?_;intro _)|refine zc ?_|(refine zd ?_;refine And.intro ?_ ?_<;>(intro e;(try simp only [Bool.not_eq_true',Bool.not_eq_false'] at e);subst e;try contradiction)))
      exact ⟨rfl, ⟨rfl, rfl, rfl, rfl, rfl, rfl, rfl, rfl, trivial⟩, _, Sel.all _⟩
    | false =>
      rw [ha] at k58
      repeat' (first|(refine Dw.r rfl rfl (hp _ (by repeat (first | exact InK.here | refine InK.there ?_))) (by repeat (first | exact trivial | refine And.intro (Or.inl rfl) ?_ | (refine And.intro (Or.inr ?_) ?_; (focus (first | exact Rdk.i1 | assumption | (refine Rdk.in ?_; first | assumption | exact rfl) | (refine Rdk.b1 (cs := ?_) ?_ ?_; rotate_left; (repeat (first | exact InK.here | refine InK.there ?_)); exact rfl) | (refine Rdk.bw ?_ ?_; (repeat (first | exact InK.here | refine InK.there ?_)); first | assumption | exact rfl) | (refine Rdk.bw (cs := ?_) ?_ ?_; rotate_left; (repeat (first | exact InK.here | refine InK.there ?_)); first | assumption | exact rfl) | (refine Rdk.bn ?_ ?_; (repeat (first | exact InK.here | refine InK.there ?_)); exact rfl) | (refine Rdk.bn (cs := ?_) ?_ ?_; rotate_left; (repeat (first | exact InK.here | refine InK.there ?_)); exact rfl)))))) ?_)|(refine zsd k58 ?_ (by exact rfl) (by repeat (first | exact trivial | refine And.intro (Or.inl rfl) ?_ | (refine And.intro (Or.inr ?_) ?_; (focus (first | exact hp _ (by repeat (first | exact InK.here | refine InK.there ?_)) | first | exact Rdk.i1 | assumption | (refine Rdk.in ?_; first | assumption | exact rfl) | (refine Rdk.b1 (cs := ?_) ?_ ?_; rotate_left; (repeat (first | exact InK.here | refine InK.there ?_)); exact rfl) | (refine Rdk.bw ?_ ?_; (repeat (first | exact InK.here | refine InK.there ?_)); first | assumption | exact rfl) | (refine Rdk.bw (cs := ?_) ?_ ?_; rotate_left; (repeat (first | exact InK.here | refine InK.there ?_)); first | assumption | exact rfl) | (refine Rdk.bn ?_ ?_; (repeat (first | exact InK.here | refine InK.there ?_)); exact rfl) | (refine Rdk.bn (cs := ?_) ?_ ?_; rotate_left; (repeat (first | exact InK.here | refine InK.there ?_)); exact rfl)))))))|refine zz ?_|(refine zw ?_;refine And.intro ?_ ?_<;>intro hc)|(refine zv ?_;intro cv hv)|(refine za ?_;intro _)|refine zc ?_|(refine zd ?_;refine And.intro ?_ ?_<;>(intro e;(try simp only [Bool.not_eq_true',Bool.not_eq_false'] at e);subst e;try contradiction)))
      exact ⟨rfl, ⟨rfl, rfl, rfl, rfl, rfl, rfl, rfl, rfl, trivial⟩, _, Sel.all _⟩
theorem n44_21 (hl : l.ok 6) (hr : l.rows = L.map pairR) (he : L[i]? = some e) (hO : O.ok 6) (hOr : O.rows = out.map pairR) (hol : out.length ≤ 4000000) : Cd Try.prog false (.seq (.draw r34_21) (.cond (.t 102) (.reg r34_22) .skip)) (s44 z b6 b7 m i O ld) (k44 b6 b7 m k v O l)
    fun x l' K => x = .nrm ∧ ∃ O' : OS, O'.ok 6 ∧ O'.rows = (out ++ if e.1 = k then [] else [e]).map pairR ∧ Sub2 (s44 z b6 b7 m i O' ld) l' ∧ ∃ r, Sel K (k44 b6 b7 m k v O' l) r := by
  have hrow := pairRows L
  have hi := (List.getElem?_eq_some_iff.1 he).1
  have hri : (L.map pairR)[i]? = some (pairR e) := by rw [List.getElem?_map, he]; rfl
  obtain ⟨id, g, el⟩ := hl.at (i := i) (r := pairR e) (by rw [hr]; exact hri)
  rw [hr] at el
  subst el
  have q1 := iadr_slc (sz := 6) (b := id) (g := g) (off := 0) (len := (L.map pairR).length) (cap := (L.map pairR).length) (i := i) (k := .i64) (by rw [List.length_map]; exact hi)
  have hp := fun K h => Rdk.part (K := K) (id := id) (g := g) (gr := true) (y := .ptr id g (0 + i * 6 + 0) 3) (i := i) (o := 0) (n := 3) (cs := valR e.1) h hrow hri rfl
  have hp6 := fun K h => Rdk.row (K := K) (id := id) (g := g) (gr := true) (y := .ptr id g (0 + i * 6) 6) (i := i) (r := pairR e) h hrow hri
  by_cases hk : e.1 = k
  · have q2 : aeq (.flat true [.i, .i, .s]) (.agg (valR e.1)) (valA k) = some true := by
      rw [show (AV.agg (valR e.1)) = valA e.1 from rfl]
      simp only [aeq, flatVal, hk, decide_true]
    rw [if_pos hk, List.append_nil]
    repeat' (first|(refine Dw.r rfl rfl (hp _ (by repeat (first | exact InK.here | refine InK.there ?_))) (by repeat (first | exact trivial | refine And.intro (Or.inl rfl) ?_ | (refine And.intro (Or.inr ?_) ?_; (focus (first | exact Rdk.i1 | assumption | (refine Rdk.in ?_; first | assumption | exact rfl) | (refine Rdk.b1 (cs := ?_) ?_ ?_; rotate_left; (repeat (first | exact InK.here | refine InK.there ?_)); exact rfl) | (refine Rdk.bw ?_ ?_; (repeat (first | exact InK.here | refine InK.there ?_)); first | assumption | exact rfl) | (refine Rdk.bw (cs := ?_) ?_ ?_; rotate_left; (repeat (first | exact InK.here | refine InK.there ?_)); first | assumption | exact rfl) | (refine Rdk.bn ?_ ?_; (repeat (first | exact InK.here | refine InK.there ?_)); exact rfl) | (refine Rdk.bn (cs := ?_) ?_ ?_; rotate_left; (repeat (first | exact InK.here | refine InK.there ?_)); exact rfl)))))) ?_)|refine zz ?_|(refine zw ?_;refine And.intro ?_ ?_<;>intro hc)|(refine zv ?_;intro cv hv)|(refine za ?_;intro _)|refine zc ?_|(refine zd ?_;refine And.intro ?_ ?_<;>(intro e;(try simp only [Bool.not_eq_true',Bool.not_eq_false'] at e);subst e;try contradiction)))
    exact ⟨rfl, O, hO, hOr, ⟨rfl, rfl, rfl, rfl, rfl, rfl, rfl, trivial⟩, _, Sel.all _⟩
  · have q2 : aeq (.flat true [.i, .i, .s]) (.agg (valR e.1)) (valA k) = some false := by
      rw [show (AV.agg (valR e.1)) = valA e.1 from rfl]
      simp only [aeq, flatVal, hk, decide_false]
    rw [if_neg hk]
    repeat' (first|(refine Dw.r rfl rfl (hp _ (by repeat (first | exact InK.here | refine InK.there ?_))) (by repeat (first | exact trivial | refine And.intro (Or.inl rfl) ?_ | (refine And.intro (Or.inr ?_) ?_; (focus (first | exact Rdk.i1 | assumption | (refine Rdk.in ?_; first | assumption | exact rfl) | (refine Rdk.b1 (cs := ?_) ?_ ?_; rotate_left; (repeat (first | exact InK.here | refine InK.there ?_)); exact rfl) | (refine Rdk.bw ?_ ?_; (repeat (first | exact InK.here | refine InK.there ?_)); first | assumption | exact rfl) | (refine Rdk.bw (cs := ?_) ?_ ?_; rotate_left; (repeat (first | exact InK.here | refine InK.there ?_)); first | assumption | exact rfl) | (refine Rdk.bn ?_ ?_; (repeat (first | exact InK.here | refine InK.there ?_)); exact rfl) | (refine Rdk.bn (cs := ?_) ?_ ?_; rotate_left; (repeat (first | exact InK.here | refine InK.there ?_)); exact rfl)))))) ?_)|(refine Rg.r rfl rfl (hp6 _ (by repeat (first | exact InK.here | refine InK.there ?_))) ?_)|refine zz ?_|(refine zw ?_;refine And.intro ?_ ?_<;>intro hc)|(refine zv ?_;intro cv hv)|(refine za ?_;intro _)|refine zc ?_|(refine zd ?_;refine And.intro ?_ ?_<;>(intro e;(try simp only [Bool.not_eq_true',Bool.not_eq_false'] at e);subst e;try contradiction)))
    refine Rg.e (Ef.appO (rs := [pairR e]) (n := 1) rfl rfl hO (by intro r hr; simp at hr; subst hr; rfl) (.there .here) rfl (by decide) (Rw.slc (InK.there InK.here) (Nat.le_refl _) (Nat.le_refl _) rfl) (by rw [hOr, List.length_map]; simp only [lim]; omega)) ?_
    rintro _ _ ⟨O', hO', hr2, rfl, rfl⟩
    repeat' (first|refine zz ?_|(refine zw ?_;refine And.intro ?_ ?_<;>intro hc)|(refine zv ?_;intro cv hv)|(refine za ?_;intro _)|refine zc ?_|(refine zd ?_;refine And.intro ?_ ?_<;>(intro e;(try simp only [Bool.not_eq_true',Bool.not_eq_false'] at e);subst e;try contradiction)))
    exact ⟨rfl, O', hO', by rw [hr2, hOr]; simp, ⟨rfl, rfl, rfl, rfl, rfl, rfl, rfl, trivial⟩, _, (.cons (.here) (.cons (.there (.here)) (.cons (.there (.here)) (.cons (.there (.here)) (.cons (.there (.here)) (.nil))))))⟩
theorem put44_lay {Q : AX → SL → Mem → Prop} (hl : l.ok 6) (hr : l.rows = L.map pairR) (hll : L.length ≤ 1000000) (hs : Srt L) (hkl : ∀ e, e ∈ L → e.1.s.length ≤ 1024) (kk : Can k) (h2 : k.s.length ≤ 1024)
    (hend : ∀ (O : OS) (ld : Bool) (out : List KV) (l' : SL), O.ok 6 → O.rows = out.map pairR → goP k v L (decide (v.k = 0), []) = (ld, out) → Sub2 (s44 z b6 b7 m L.length O ld) l' → Q (.ext 2) l' (k44 b6 b7 m k v O l)) :
    ∀ (f i : Nat) (O : OS) (ld : Bool) (out : List KV), L.length < i + f → i ≤ L.length → O.ok 6 → O.rows = out.map pairR → goP k v (L.take i) (decide (v.k = 0), []) = (ld, out) → Lp Try.prog false b34_1 f (s44 z b6 b7 m i O ld) (k44 b6 b7 m k v O l) Q := by
  have hln := hl.len
  rw [hr, List.length_map] at hln
  intro f
  induction f with
  | zero => intro i O ld out h1 h2; omega
  | succ f ih =>
    intro i O ld out h1 h3 hO hOr hg
    refine Lp.round ?_
    by_cases hi : i < L.length
    · obtain ⟨e, he⟩ : ∃ e, L[i]? = some e := ⟨_, List.getElem?_eq_getElem hi⟩
      have hem := List.mem_of_getElem? he
      have hgl := goP_len (k := k) (v := v) (L.take i) (decide (v.k = 0), [])
      rw [hg, List.length_take] at hgl
      have hgl' : out.length ≤ 2 * min i L.length := by simpa using hgl
      clear hgl
      have hstep : goP k v (L.take (i + 1)) (decide (v.k = 0), []) = stepP k v e (ld, out) := by
        rw [List.take_add_one, he, Option.toList_some, goP_app, hg]
      have hsL : ∀ x, x ∈ L → Can x.1 := hs.can
      refine Cd.weak (l2 := s44 z b6 b7 m i O ld) ⟨rfl, rfl, rfl, rfl, rfl, rfl, rfl, trivial⟩ ?_
      refine Cd.seq (Cd.seq (Cd.mono (P := Try.prog) (nd := false) (c := .reg r34_17) (Q := fun x l' K => x = .nrm ∧ Sub2 ((69, .bool true) :: s44 z b6 b7 m i O ld) l' ∧ K = k44 b6 b7 m k v O l) ?_ ?_))
      · repeat' (first|refine zz ?_|(refine zw ?_;refine And.intro ?_ ?_<;>intro hc)|(refine zv ?_;intro cv hv)|(refine za ?_;intro _)|refine zc ?_|(refine zd ?_;refine And.intro ?_ ?_<;>(intro e;(try simp only [Bool.not_eq_true',Bool.not_eq_false'] at e);subst e;try contradiction)))
        exact ⟨rfl, ⟨rfl, rfl, rfl, rfl, rfl, rfl, rfl, rfl, trivial⟩, rfl⟩
      rintro _ l1 _ ⟨rfl, hs1, rfl⟩
      show Cd _ _ _ _ _ _
      refine Cd.weak hs1 (Cd.condT rfl (Cd.skip ?_))
      show Cd _ _ _ _ _ _
      refine Cd.seq (Cd.blk (Cd.seq (Cd.seq (Cd.weak (l2 := s44 z b6 b7 m i O ld) ⟨rfl, rfl, rfl, rfl, rfl, rfl, rfl, trivial⟩ (Cd.mono (n44_18 hl hr he (hsL e hem) kk (hkl e hem) h2) ?_)))))
      rintro _ l2 _ ⟨rfl, hs2, r2, hsel⟩
      show Cd _ _ _ _ _ _
      refine Cd.weak hs2 (Cd.drop hsel ?_)
      cases hc : (!ld && !aheadB e.1 k) with
      | true =>
        obtain ⟨rfl, ha⟩ : ld = false ∧ aheadB e.1 k = false := by
          cases ld <;> simp_all
        rw [step_b ha] at hstep
        refine Cd.condT rfl (Cd.weak (l2 := s44 z b6 b7 m i O false) ⟨rfl, rfl, rfl, rfl, rfl, rfl, rfl, trivial⟩ (Cd.mono (n44_19 hO hOr (by omega)) ?_))
        rintro _ l3 _ ⟨rfl, O1, hO1, hr1, hs3, r3, hsel3⟩
        show Cd _ _ _ _ _ _
        refine Cd.weak hs3 (Cd.drop hsel3 (Cd.mono (n44_21 hl hr he hO1 hr1 (by simp; omega)) ?_))
        rintro _ l4 _ ⟨rfl, O2, hO2, hr2, hs4, r4, hsel4⟩
        show Cd _ _ _ _ _ _
        refine Cd.weak hs4 (Cd.drop hsel4 ?_)
        repeat' (first|refine zz ?_|(refine zw ?_;refine And.intro ?_ ?_<;>intro hc)|(refine zv ?_;intro cv hv)|(refine za ?_;intro _)|refine zc ?_|(refine zd ?_;refine And.intro ?_ ?_<;>(intro e;(try simp only [Bool.not_eq_true',Bool.not_eq_false'] at e);subst e;try contradiction)))
        refine Lp.weak ?hw1 (ih (i + 1) O2 true _ (by omega) hi hO2 hr2 hstep)
        case hw1 => exact ⟨rfl, rfl, rfl, rfl, rfl, rfl, rfl, trivial⟩
      | false =>
        have hst : stepP k v e (ld, out) = (ld, out ++ if e.1 = k then [] else [e]) := by
          cases ld with
          | true => exact step_t
          | false =>
            have ha : aheadB e.1 k = true := by simpa using hc
            rw [step_a ha, if_neg (ahead_ne ha)]
        rw [hst] at hstep
        refine Cd.condF rfl (Cd.skip ?_)
        show Cd _ _ _ _ _ _
        refine Cd.weak (l2 := s44 z b6 b7 m i O ld) ⟨rfl, rfl, rfl, rfl, rfl, rfl, rfl, trivial⟩ (Cd.mono (n44_21 hl hr he hO hOr (by omega)) ?_)
        rintro _ l4 _ ⟨rfl, O2, hO2, hr2, hs4, r4, hsel4⟩
        show Cd _ _ _ _ _ _
        refine Cd.weak hs4 (Cd.drop hsel4 ?_)
        repeat' (first|refine zz ?_|(refine zw ?_;refine And.intro ?_ ?_<;>intro hc)|(refine zv ?_;intro cv hv)|(refine za ?_;intro _)|refine zc ?_|(refine zd ?_;refine And.intro ?_ ?_<;>(intro e;(try simp only [Bool.not_eq_true',Bool.not_eq_false'] at e);subst e;try contradiction)))
        refine Lp.weak ?hw2 (ih (i + 1) O2 ld _ (by omega) hi hO2 hr2 hstep)
        case hw2 => exact ⟨rfl, rfl, rfl, rfl, rfl, rfl, rfl, trivial⟩
    · have hil : i = L.length := by omega
      subst hil
      rw [List.take_length] at hg
      repeat' (first|refine zz ?_|(refine zw ?_;refine And.intro ?_ ?_<;>intro hc)|(refine zv ?_;intro cv hv)|(refine za ?_;intro _)|refine zc ?_|(refine zd ?_;refine And.intro ?_ ?_<;>(intro e;(try simp only [Bool.not_eq_true',Bool.not_eq_false'] at e);subst e;try contradiction)))
      exact hend O ld out _ hO hOr hg ⟨rfl, rfl, rfl, rfl, rfl, rfl, rfl, trivial⟩
end
end Go.Proofs.Ytlflpjjmkigepaa

namespace Go.Proofs.Ytlflpjjmkigepaa
open Go Go.Abs
attribute [local irreducible] Cmp Rg Dw Cd Lp Ev Rdk CT Upd InK
section
variable {r n room i m b5 b6 b7 : Nat} {s : List Nat} {vf vc : AV} {T l O : OS} {L out : List KV} {k v : Val} {ld : Bool}
abbrev f44 (r n room m : Nat) (T l : OS) (vf vc : AV) : Mem := [rB r (T.v 1) vf vc n room, T.c, tO m (l.v 6), l.c]
theorem put44_fin (hl : l.ok 6) (hr : l.rows = L.map pairR) (hO : O.ok 6) (hOr : O.rows = out.map pairR) (hol : out.length ≤ 4000000) (hn : L.length ≤ n + out.length) (hnn : n ≤ 1000000) {X : Chk} :
    Cd Try.prog false (.seq (.draw r34_26) (.seq (.reg r34_27) (.seq (.reg r34_28) .ret))) [(0, rP r), (9, tP m), (10, O.v 6)] (k44 b6 b7 m k v O l ++ [rB r (T.v 1) vf vc n room, T.c, X])
      (DoneK [.t 8] fun w K' => ∃ m1 r1, Sel K' m1 r1 ∧ w = .int .i64 (.ofNat 0) ∧ m1 = f44 r (n + out.length - L.length) room m T O vf vc) := by
  have hln := hl.len
  rw [hr, List.length_map] at hln
  have hOn := hO.len
  rw [hOr, List.length_map] at hOn
  repeat' (first|refine zz ?_|(refine zw ?_;refine And.intro ?_ ?_<;>intro hc)|(refine zv ?_;intro cv hv)|(refine za ?_;intro _)|refine zc ?_|(refine zd ?_;refine And.intro ?_ ?_<;>(intro e;(try simp only [Bool.not_eq_true',Bool.not_eq_false'] at e);subst e;try contradiction)))
  refine Dw.e (Ef.store1 rfl rfl ⟨rfl, rfl⟩ (.there (.there (.there (.there (.there (Upd.here)))))) (Nat.le_of_ble_eq_true rfl)) ?_
  rintro _ _ ⟨rfl, rfl⟩
  refine ⟨by repeat (first | exact trivial | refine rdsB rfl ?_ | (refine rdsR ?_ ?_; (focus (first | assumption | (refine Rdk.b1 (cs := ?_) ?_ ?_; rotate_left; (repeat (first | exact InK.here | refine InK.there ?_)); exact rfl) | (refine Rdk.bw ?_ ?_; (repeat (first | exact InK.here | refine InK.there ?_)); first | assumption | exact rfl) | (refine Rdk.bn ?_ ?_; (repeat (first | exact InK.here | refine InK.there ?_)); exact rfl) | (refine Rdk.in ?_; first | assumption | exact rfl) | exact Rdk.i1)))), ?_⟩
  repeat' (first|refine zz ?_|(refine zw ?_;refine And.intro ?_ ?_<;>intro hc)|(refine zv ?_;intro cv hv)|(refine za ?_;intro _)|refine zc ?_|(refine zd ?_;refine And.intro ?_ ?_<;>(intro e;(try simp only [Bool.not_eq_true',Bool.not_eq_false'] at e);subst e;try contradiction)))
  refine Rg.e (Ef.store1 rfl rfl (O.one 6) (.there (.there (.there (Upd.here)))) (Nat.le_of_ble_eq_true rfl)) ?_
  rintro _ _ ⟨rfl, rfl⟩
  repeat' (first|refine zz ?_|(refine zw ?_;refine And.intro ?_ ?_<;>intro hc)|(refine zv ?_;intro cv hv)|(refine za ?_;intro _)|refine zc ?_|(refine zd ?_;refine And.intro ?_ ?_<;>(intro e;(try simp only [Bool.not_eq_true',Bool.not_eq_false'] at e);subst e;try contradiction)))
  (first|refine ⟨.inr rfl,_,.t rfl .nil,?_⟩|refine ⟨.inr rfl,_,.t rfl (.t rfl .nil),?_⟩|refine ⟨.inr rfl,_,.t rfl (.t rfl (.t rfl .nil)),?_⟩|refine ⟨.inr rfl,_,.nil,?_⟩|refine ⟨.inl rfl,_,.t rfl .nil,?_⟩|refine ⟨.inl rfl,_,.nil,?_⟩|refine ⟨.inr rfl,_,.cn rfl (by exact zN) .nil,?_⟩|refine ⟨.inr rfl,_,.cn rfl (by exact zN) (.t rfl .nil),?_⟩)
  exact ⟨_, _, (.cons (.there (.there (.there (.there (.there (.here)))))) (.cons (.there (.there (.there (.there (.there (.here)))))) (.cons (.there (.there (.there (.here)))) (.cons (.here) (.nil))))), rfl, rfl⟩
theorem put44_end (hl : l.ok 6) (hr : l.rows = L.map pairR) (hO : O.ok 6) (hOr : O.rows = out.map pairR) (hol : out.length ≤ 3000000) (hll : L.length ≤ n) (hnn : n ≤ 1000000) {X : Chk} :
    Cd Try.prog false (.seq (.seq (.reg r34_24) (.cond (.t 114) (.reg r34_25) .skip)) (.seq (.draw r34_26) (.seq (.reg r34_27) (.seq (.reg r34_28) .ret)))) [(0, rP r), (6, .ptr b6 0 0 3), (7, .ptr b7 0 0 3), (9, tP m), (10, O.v 6), (13, .bool ld)] (k44 b6 b7 m k v O l ++ [rB r (T.v 1) vf vc n room, T.c, X])
      (DoneK [.t 8] fun w K' => ∃ m1 r1, Sel K' m1 r1 ∧ ∃ O' : OS, O'.ok 6 ∧ O'.rows = (if ld = true then out else out ++ [(k, v)]).map pairR ∧ w = .int .i64 (.ofNat 0) ∧ m1 = f44 r (n + (if ld = true then out else out ++ [(k, v)]).length - L.length) room m T O' vf vc) := by
  refine Cd.seq (Cd.seq (Cd.mono (P := Try.prog) (nd := false) (c := .reg r34_24) (Q := fun x l' K => x = .nrm ∧ Sub2 ((114, .bool !ld) :: [(0, rP r), (6, .ptr b6 0 0 3), (7, .ptr b7 0 0 3), (9, tP m), (10, O.v 6)]) l' ∧ K = k44 b6 b7 m k v O l ++ [rB r (T.v 1) vf vc n room, T.c, X]) ?_ ?_))
  · repeat' (first|refine zz ?_|(refine zw ?_;refine And.intro ?_ ?_<;>intro hc)|(refine zv ?_;intro cv hv)|(refine za ?_;intro _)|refine zc ?_|(refine zd ?_;refine And.intro ?_ ?_<;>(intro e;(try simp only [Bool.not_eq_true',Bool.not_eq_false'] at e);subst e;try contradiction)))
    exact ⟨rfl, ⟨rfl, rfl, rfl, rfl, rfl, rfl, trivial⟩, rfl⟩
  rintro _ l1 _ ⟨rfl, hs1, rfl⟩
  show Cd _ _ _ _ _ _
  cases ld with
  | true =>
    refine Cd.weak hs1 (Cd.condF rfl (Cd.skip ?_))
    show Cd _ _ _ _ _ _
    refine Cd.weak (l2 := [(0, rP r), (9, tP m), (10, O.v 6)]) ⟨rfl, rfl, rfl, trivial⟩ (Cd.mono (put44_fin hl hr hO hOr (by omega) (by omega) hnn) ?_)
    rintro x l' K ⟨h1, vs, h2, m1, r1, h3, h4, h5⟩
    exact ⟨h1, vs, h2, m1, r1, h3, O, hO, hOr, h4, h5⟩
  | false =>
    refine Cd.weak hs1 (Cd.condT rfl (Cd.weak (l2 := [(0, rP r), (6, .ptr b6 0 0 3), (7, .ptr b7 0 0 3), (9, tP m), (10, O.v 6)]) ⟨rfl, rfl, rfl, rfl, rfl, trivial⟩ ?_))
    refine Cd.framed (Sel.left _ _) (n44_25 hO hOr (by omega)) ?_
    rintro _ l2 K2 ⟨rfl, O', hO', hr', hs2, r2, hsel⟩
    show Cd _ _ _ _ _ _
    refine Cd.weak hs2 (Cd.drop (Sel.app_left hsel) (Cd.mono (put44_fin hl hr hO' hr' (by simp; omega) (by simp; omega) hnn) ?_))
    rintro x l' K ⟨h1, vs, h2, m1, r1, h3, h4, h5⟩
    exact ⟨h1, vs, h2, m1, r1, h3, O', hO', hr', h4, h5⟩
abbrev p44 (r b6 b7 m : Nat) : SL := [(0, rP r), (6, .ptr b6 0 0 3), (7, .ptr b7 0 0 3), (9, tP m), (10, .nilslc)]
theorem n44_15 {K : Mem} (h7 : InK K b7 (.cells (valR v) 0 0 false)) : Cd Try.prog false (.reg r34_15) (p44 r b6 b7 m) K fun x l' K' => x = .nrm ∧ Sub2 ((13, .bool (decide (v.k = 0))) :: p44 r b6 b7 m) l' ∧ K' = K := by
  have r1 : Rdk K .load1 (.ptr b7 0 (0 + 0) 1) (.ptr b7 0 (0 + 0) 1) (.int .i64 v.k) := Rdk.b1 h7 rfl
  by_cases h0 : v.k = 0
  · rw [decide_eq_true h0]
    repeat' (first|refine zz ?_|(refine zw ?_;refine And.intro ?_ ?_<;>intro hc)|(refine zv ?_;intro cv hv)|(refine za ?_;intro _)|refine zc ?_|(refine zd ?_;refine And.intro ?_ ?_<;>(intro e;(try simp only [Bool.not_eq_true',Bool.not_eq_false'] at e);subst e;try contradiction)))
    exact ⟨rfl, ⟨rfl, rfl, rfl, rfl, rfl, rfl, trivial⟩, rfl⟩
  · rw [decide_eq_false h0]
    repeat' (first|refine zz ?_|(refine zw ?_;refine And.intro ?_ ?_<;>intro hc)|(refine zv ?_;intro cv hv)|(refine za ?_;intro _)|refine zc ?_|(refine zd ?_;refine And.intro ?_ ?_<;>(intro e;(try simp only [Bool.not_eq_true',Bool.not_eq_false'] at e);subst e;try contradiction)))
    exact ⟨rfl, ⟨rfl, rfl, rfl, rfl, rfl, rfl, trivial⟩, rfl⟩
theorem put44 (hT : T.ok 1) (hi : T.rows[i]? = some [tP m]) (hl : l.ok 6) (hr : l.rows = L.map pairR) (hll : L.length ≤ n) (hnn : n ≤ 1000000) (hk : keyB k = true) (hs : Srt L) (hkl : ∀ e, e ∈ L → e.1.s.length ≤ 1024) (kk : Can k) (h2 : k.s.length ≤ 1024) :
    CT Try.prog false 34 [rP r, valA ⟨3, (i : Int), s⟩, valA k, valA v] (f44 r n room m T l vf vc) fun w K' =>
      if v.k ≠ 0 ∧ hasL k L = false ∧ room ≤ n then w = .int .i64 (.ofNat 8) ∧ K' = f44 r n room m T l vf vc
      else ∃ l' : OS, l'.ok 6 ∧ l'.rows = (setL k v L).map pairR ∧ w = .int .i64 (.ofNat 0) ∧ K' = f44 r (n + (setL k v L).length - L.length) room m T l' vf vc := by
  have k57 := table57 (r := r) (n := n) (room := room) (vf := vf) (vc := vc) (s := s) hT hi
  have k16 := key16 (k := k)
  rw [hk] at k16
  refine CT.enterS mixed comp34 (Nat.le_of_ble_eq_true rfl) ?_
  repeat' (first|(refine Rg.callM rfl k57 (.cons (.there (.there (.there .here))) (.cons (.there (.there (.there .here))) .nil)) ?_; rintro _ _ ⟨rfl, rfl⟩)|refine zz ?_|(refine zw ?_;refine And.intro ?_ ?_<;>intro hc)|(refine zv ?_;intro cv hv)|(refine za ?_;intro _)|refine zc ?_|(refine zd ?_;refine And.intro ?_ ?_<;>(intro e;(try simp only [Bool.not_eq_true',Bool.not_eq_false'] at e);subst e;try contradiction)))
  rename_i b5 b6 b7
  refine Cd.loop (k := L.length + 1) (Lp.weak (l2 := [(0, rP r), (6, .ptr b6 0 0 3), (7, .ptr b7 0 0 3), (9, tP m), (10, .nilslc), (11, .bool (hasL k (L.take 0))), (12, .int .i64 (.ofNat 0))]) ⟨rfl, rfl, rfl, rfl, rfl, rfl, rfl, trivial⟩ ?_)
  refine Lp.fr (m := [bV b6 k, tO m (l.v 6), l.c]) (.cons (.there (.there (.there (.here)))) (.cons (.there (.there (.there (.there (.here))))) (.cons (.there (.there (.there (.there (.here))))) (.nil)))) (put44_met hl hr (by omega) ?_ (L.length + 1) 0 (by omega) (by omega))
  intro l1 hs1
  show Cd _ _ _ _ _ _
  refine Cd.weak hs1 ?_
  by_cases hA : v.k ≠ 0 ∧ hasL k L = false ∧ room ≤ n
  · simp only [if_pos hA]
    obtain ⟨a1, a2, a3⟩ := hA
    rw [a2]
    repeat' (first|refine zz ?_|(refine zw ?_;refine And.intro ?_ ?_<;>intro hc)|(refine zv ?_;intro cv hv)|(refine za ?_;intro _)|refine zc ?_|(refine zd ?_;refine And.intro ?_ ?_<;>(intro e;(try simp only [Bool.not_eq_true',Bool.not_eq_false'] at e);subst e;try contradiction)))
    (first|refine ⟨.inr rfl,_,.t rfl .nil,?_⟩|refine ⟨.inr rfl,_,.t rfl (.t rfl .nil),?_⟩|refine ⟨.inr rfl,_,.t rfl (.t rfl (.t rfl .nil)),?_⟩|refine ⟨.inr rfl,_,.nil,?_⟩|refine ⟨.inl rfl,_,.t rfl .nil,?_⟩|refine ⟨.inl rfl,_,.nil,?_⟩|refine ⟨.inr rfl,_,.cn rfl (by exact zN) .nil,?_⟩|refine ⟨.inr rfl,_,.cn rfl (by exact zN) (.t rfl .nil),?_⟩)
    exact ⟨_, _, (.cons (.there (.there (.there (.here)))) (.cons (.there (.there (.there (.here)))) (.cons (.there (.here)) (.cons (.there (.here)) (.nil))))), rfl, rfl⟩
  · simp only [if_neg hA]
    have hgo := goP_all (v := v) kk hs
    have hcont : ∀ l2, Sub2 [(0, rP r), (6, .ptr b6 0 0 3), (7, .ptr b7 0 0 3), (9, tP m), (10, .nilslc)] l2 → Cd Try.prog false (.seq (.reg r34_15) (.seq (.seq (.reg r34_16) (.blk 2 (.loop b34_1))) (.seq (.seq (.reg r34_24) (.cond (.t 114) (.reg r34_25) .skip)) (.seq (.draw r34_26) (.seq (.reg r34_27) (.seq (.reg r34_28) .ret)))))) l2 [bV b6 k, tO m (l.v 6), l.c, rB r (T.v 1) vf vc n room, T.c, bV b7 v, bV b5 ⟨3, (i : Int), s⟩]
        (DoneK [.t 8] fun w K' => ∃ m1 r1, Sel K' m1 r1 ∧ ∃ l' : OS, l'.ok 6 ∧ l'.rows = (setL k v L).map pairR ∧ w = .int .i64 (.ofNat 0) ∧ m1 = f44 r (n + (setL k v L).length - L.length) room m T l' vf vc) := by
      intro l2 hs2
      refine Cd.weak hs2 (Cd.seq (Cd.mono (n44_15 (v := v) (.there (.there (.there (.there (.there .here)))))) ?_))
      rintro _ l3 _ ⟨rfl, hs3, rfl⟩
      show Cd _ _ _ _ _ _
      refine Cd.weak hs3 ?_
      refine Cd.perm (K2 := k44 b6 b7 m k v ⟨none, []⟩ l ++ [rB r (T.v 1) vf vc n room, T.c, bV b5 ⟨3, (i : Int), s⟩]) (chunk_perm [bV b6 k, tO m (l.v 6), l.c, rB r (T.v 1) vf vc n room, T.c, bV b7 v, bV b5 ⟨3, (i : Int), s⟩, []] [0, 1, 2, 3, 4, 5, 6] [0, 5, 1, 2, 3, 4, 6] (by decide)) ?_
      repeat' (first|refine zz ?_|(refine zw ?_;refine And.intro ?_ ?_<;>intro hc)|(refine zv ?_;intro cv hv)|(refine za ?_;intro _)|refine zc ?_|(refine zd ?_;refine And.intro ?_ ?_<;>(intro e;(try simp only [Bool.not_eq_true',Bool.not_eq_false'] at e);subst e;try contradiction)))
      refine Cd.loop (k := L.length + 1) (Lp.weak (l2 := s44 (rP r) b6 b7 m 0 ⟨none, []⟩ (decide (v.k = 0))) ⟨rfl, rfl, rfl, rfl, rfl, rfl, rfl, trivial⟩ ?_)
      refine Lp.fr (Sel.left _ _) (put44_lay hl hr (by omega) hs hkl kk h2 ?_ (L.length + 1) 0 ⟨none, []⟩ (decide (v.k = 0)) [] (by omega) (by omega) OS.ok.nil rfl rfl)
      intro O ld out l4 hO hOr hg hs4
      show Cd _ _ _ _ _ _
      rw [hg] at hgo
      have hlo := goP_len (k := k) (v := v) L (decide (v.k = 0), [])
      rw [hg] at hlo
      have hlo' : out.length ≤ 2 * L.length := by simpa using hlo
      refine Cd.weak hs4 (Cd.weak (l2 := [(0, rP r), (6, .ptr b6 0 0 3), (7, .ptr b7 0 0 3), (9, tP m), (10, O.v 6), (13, .bool ld)]) ⟨rfl, rfl, rfl, rfl, rfl, rfl, trivial⟩ (Cd.mono (put44_end hl hr hO hOr (by omega) hll hnn) ?_))
      rintro x l' K ⟨h1, vs, h2, m1, r1, h3, O', hO', hr', h4, h5⟩
      rw [hgo] at hr' h5
      exact ⟨h1, vs, h2, m1, r1, h3, O', hO', hr', h4, h5⟩
    have h' : v.k = 0 ∨ hasL k L = true ∨ n < room := by
      by_cases h0 : v.k = 0
      · exact .inl h0
      · cases hh : hasL k L with
        | true => exact .inr (.inl rfl)
        | false => exact .inr (.inr (by
            have : ¬ room ≤ n := fun hle => hA ⟨h0, hh, hle⟩
            omega))
    rcases h' with h0 | hh | hlt
    · repeat' (first|(exact hcont _ ⟨rfl, rfl, rfl, rfl, rfl, trivial⟩)|refine zz ?_|(refine zw ?_;refine And.intro ?_ ?_<;>intro hc)|(refine zv ?_;intro cv hv)|(refine za ?_;intro _)|refine zc ?_|(refine zd ?_;refine And.intro ?_ ?_<;>(intro e;(try simp only [Bool.not_eq_true',Bool.not_eq_false'] at e);subst e;try contradiction)))
    · rw [hh]
      repeat' (first|(exact hcont _ ⟨rfl, rfl, rfl, rfl, rfl, trivial⟩)|refine zz ?_|(refine zw ?_;refine And.intro ?_ ?_<;>intro hc)|(refine zv ?_;intro cv hv)|(refine za ?_;intro _)|refine zc ?_|(refine zd ?_;refine And.intro ?_ ?_<;>(intro e;(try simp only [Bool.not_eq_true',Bool.not_eq_false'] at e);subst e;try contradiction)))
    · cases hasL k L with
      | true => repeat' (first|(exact hcont _ ⟨rfl, rfl, rfl, rfl, rfl, trivial⟩)|refine zz ?_|(refine zw ?_;refine And.intro ?_ ?_<;>intro hc)|(refine zv ?_;intro cv hv)|(refine za ?_;intro _)|refine zc ?_|(refine zd ?_;refine And.intro ?_ ?_<;>(intro e;(try simp only [Bool.not_eq_true',Bool.not_eq_false'] at e);subst e;try contradiction)))
      | false => repeat' (first|(exact hcont _ ⟨rfl, rfl, rfl, rfl, rfl, trivial⟩)|refine zz ?_|(refine zw ?_;refine And.intro ?_ ?_<;>intro hc)|(refine zv ?_;intro cv hv)|(refine za ?_;intro _)|refine zc ?_|(refine zd ?_;refine And.intro ?_ ?_<;>(intro e;(try simp only [Bool.not_eq_true',Bool.not_eq_false'] at e);subst e;try contradiction)))
end
end Go.Proofs.Ytlflpjjmkigepaa

namespace Go.Proofs.Ytlflpjjmkigepaa
open Go Go.Abs
attribute [local irreducible] Cmp Rg Dw Cd Lp Ev Rdk CT Upd InK
section
variable {r n room : Nat} {vt vf vc : AV} {T F C : OS}
theorem table54F (h : room ≤ n) : CT Try.prog false 33 [rP r] [rB r vt vf vc n room] fun w K' => w = .tup [valA v0, .int .i64 (.ofNat 8)] ∧ K' = [rB r vt vf vc n room] := by
  refine CT.enterS mixed comp33 (Nat.le_of_ble_eq_true rfl) ?_
  repeat' (first|refine zz ?_|(refine zw ?_;refine And.intro ?_ ?_<;>intro hc)|(refine zv ?_;intro cv hv)|(refine za ?_;intro _)|refine zc ?_|(refine zd ?_;refine And.intro ?_ ?_<;>(intro e;(try simp only [Bool.not_eq_true',Bool.not_eq_false'] at e);subst e;try contradiction)))
  (first|refine ⟨.inr rfl,_,.t rfl .nil,?_⟩|refine ⟨.inr rfl,_,.t rfl (.t rfl .nil),?_⟩|refine ⟨.inr rfl,_,.t rfl (.t rfl (.t rfl .nil)),?_⟩|refine ⟨.inr rfl,_,.nil,?_⟩|refine ⟨.inl rfl,_,.t rfl .nil,?_⟩|refine ⟨.inl rfl,_,.nil,?_⟩|refine ⟨.inr rfl,_,.cn rfl (by exact zN) .nil,?_⟩|refine ⟨.inr rfl,_,.cn rfl (by exact zN) (.t rfl .nil),?_⟩)
  exact ⟨_, _, (.cons (.there (.here)) (.nil)), rfl, rfl⟩
theorem table54 (h : n < room) (hr : room ≤ 1000000) (hT : T.ok 1) (hl : T.rows.length < 10000000) : CT Try.prog false 33 [rP r] [rB r (T.v 1) vf vc n room, T.c] fun w K' => w = .tup [valA ⟨3, T.rows.length, []⟩, .int .i64 (.ofNat 0)] ∧ ∃ (T' : OS) (m : Nat), T'.ok 1 ∧ T'.rows = T.rows ++ [[tP m]] ∧ K' = [rB r (T'.v 1) vf vc (n + 1) room, T'.c, tO m .nilslc] := by
  refine CT.enterS mixed comp33 (Nat.le_of_ble_eq_true rfl) ?_
  repeat' (first|refine zz ?_|(refine zw ?_;refine And.intro ?_ ?_<;>intro hc)|(refine zv ?_;intro cv hv)|(refine za ?_;intro _)|refine zc ?_|(refine zd ?_;refine And.intro ?_ ?_<;>(intro e;(try simp only [Bool.not_eq_true',Bool.not_eq_false'] at e);subst e;try contradiction)))
  rename_i m _
  refine Rg.e (Ef.appO (rs := [[tP m]]) (n := 1) rfl rfl hT (by intro r hr; simp at hr; subst hr; rfl) (.there (.there (.there (.there (.here))))) rfl (by decide) (Rw.slc (InK.there InK.here) (Nat.le_refl _) (Nat.le_refl _) rfl) (by simp only [lim]; omega)) ?_
  rintro _ _ ⟨T', hT', hr2, rfl, rfl⟩
  have hl2 := hT'.len
  rw [hr2, List.length_append, List.length_singleton] at hl2
  repeat' (first|refine zz ?_|(refine zw ?_;refine And.intro ?_ ?_<;>intro hc)|(refine zv ?_;intro cv hv)|(refine za ?_;intro _)|refine zc ?_|(refine zd ?_;refine And.intro ?_ ?_<;>(intro e;(try simp only [Bool.not_eq_true',Bool.not_eq_false'] at e);subst e;try contradiction)))
  refine Rg.e (Ef.store1 rfl rfl (T'.one 1) (.there (.there (.there (.there (Upd.here))))) (Nat.le_of_ble_eq_true rfl)) ?_
  rintro _ _ ⟨rfl, rfl⟩
  repeat' (first|refine zz ?_|(refine zw ?_;refine And.intro ?_ ?_<;>intro hc)|(refine zv ?_;intro cv hv)|(refine za ?_;intro _)|refine zc ?_|(refine zd ?_;refine And.intro ?_ ?_<;>(intro e;(try simp only [Bool.not_eq_true',Bool.not_eq_false'] at e);subst e;try contradiction)))
  (first|refine ⟨.inr rfl,_,.t rfl .nil,?_⟩|refine ⟨.inr rfl,_,.t rfl (.t rfl .nil),?_⟩|refine ⟨.inr rfl,_,.t rfl (.t rfl (.t rfl .nil)),?_⟩|refine ⟨.inr rfl,_,.nil,?_⟩|refine ⟨.inl rfl,_,.t rfl .nil,?_⟩|refine ⟨.inl rfl,_,.nil,?_⟩|refine ⟨.inr rfl,_,.cn rfl (by exact zN) .nil,?_⟩|refine ⟨.inr rfl,_,.cn rfl (by exact zN) (.t rfl .nil),?_⟩)
  exact ⟨_, _, (.cons (.there (.there (.there (.there (.here))))) (.cons (.here) (.cons (.there (.here)) (.nil)))), rfl, T', m, hT', hr2, rfl⟩
end
theorem new28 {n : Int} : CT Try.prog false 20 [.int .i64 n] [] fun v K' => ((n < 0 ∨ 1000000 < n) ∧ ∃ b, v = .tup [rP b, .int .i64 (.ofNat 1)]) ∨ ∃ room b, n = Int.ofNat room ∧ room ≤ 1000000 ∧ v = .tup [rP b, .int .i64 (.ofNat 0)] ∧ K' = [rB b .nilslc .nilslc .nilslc 0 room] := by
  refine CT.enter mixed comp20 (Nat.le_of_ble_eq_true rfl) ?_
  by_cases h : n < 0
  · repeat' (first|refine zz ?_|(refine zw ?_;refine And.intro ?_ ?_<;>intro hc)|(refine zv ?_;intro cv hv)|(refine za ?_;intro _)|refine zc ?_|(refine zd ?_;refine And.intro ?_ ?_<;>(intro e;(try simp only [Bool.not_eq_true',Bool.not_eq_false'] at e);subst e;try contradiction)))
    (first|refine ⟨.inr rfl,_,.t rfl .nil,?_⟩|refine ⟨.inr rfl,_,.t rfl (.t rfl .nil),?_⟩|refine ⟨.inr rfl,_,.t rfl (.t rfl (.t rfl .nil)),?_⟩|refine ⟨.inr rfl,_,.nil,?_⟩|refine ⟨.inl rfl,_,.t rfl .nil,?_⟩|refine ⟨.inl rfl,_,.nil,?_⟩|refine ⟨.inr rfl,_,.cn rfl (by exact zN) .nil,?_⟩|refine ⟨.inr rfl,_,.cn rfl (by exact zN) (.t rfl .nil),?_⟩)
    exact .inl ⟨.inl h, _, rfl⟩
  by_cases h2 : 1000000 < n
  · repeat' (first|refine zz ?_|(refine zw ?_;refine And.intro ?_ ?_<;>intro hc)|(refine zv ?_;intro cv hv)|(refine za ?_;intro _)|refine zc ?_|(refine zd ?_;refine And.intro ?_ ?_<;>(intro e;(try simp only [Bool.not_eq_true',Bool.not_eq_false'] at e);subst e;try contradiction)))
    (first|refine ⟨.inr rfl,_,.t rfl .nil,?_⟩|refine ⟨.inr rfl,_,.t rfl (.t rfl .nil),?_⟩|refine ⟨.inr rfl,_,.t rfl (.t rfl (.t rfl .nil)),?_⟩|refine ⟨.inr rfl,_,.nil,?_⟩|refine ⟨.inl rfl,_,.t rfl .nil,?_⟩|refine ⟨.inl rfl,_,.nil,?_⟩|refine ⟨.inr rfl,_,.cn rfl (by exact zN) .nil,?_⟩|refine ⟨.inr rfl,_,.cn rfl (by exact zN) (.t rfl .nil),?_⟩)
    exact .inl ⟨.inr h2, _, rfl⟩
  obtain ⟨room, rfl⟩ : ∃ r : Nat, n = Int.ofNat r := ⟨n.toNat, by simp; omega⟩
  have h3 : room ≤ 1000000 := by simp at h2; omega
  repeat' (first|refine zz ?_|(refine zw ?_;refine And.intro ?_ ?_<;>intro hc)|(refine zv ?_;intro cv hv)|(refine za ?_;intro _)|refine zc ?_|(refine zd ?_;refine And.intro ?_ ?_<;>(intro e;(try simp only [Bool.not_eq_true',Bool.not_eq_false'] at e);subst e;try contradiction)))
  (first|refine ⟨.inr rfl,_,.t rfl .nil,?_⟩|refine ⟨.inr rfl,_,.t rfl (.t rfl .nil),?_⟩|refine ⟨.inr rfl,_,.t rfl (.t rfl (.t rfl .nil)),?_⟩|refine ⟨.inr rfl,_,.nil,?_⟩|refine ⟨.inl rfl,_,.t rfl .nil,?_⟩|refine ⟨.inl rfl,_,.nil,?_⟩|refine ⟨.inr rfl,_,.cn rfl (by exact zN) .nil,?_⟩|refine ⟨.inr rfl,_,.cn rfl (by exact zN) (.t rfl .nil),?_⟩)
  exact .inr ⟨room, _, rfl, h3, rfl, rfl⟩
end Go.Proofs.Ytlflpjjmkigepaa

namespace Go.Proofs.Ytlflpjjmkigepaa
open Go Go.Abs
structure RH where
  T : OS
  F : OS
  C : OS
  ms : List Nat
  ls : List OS
def tabRC (ms : List Nat) (ls : List OS) : Chk := (List.zipWith (fun m l => tO m (OS.v l 6) ++ l.c) ms ls).flatten
abbrev RH.mem (X : RH) (r : Nat) (H : MH) : Mem := [rB r (X.T.v 1) (X.F.v 3) (X.C.v 3) H.used H.room, X.T.c, X.F.c, X.C.c, tabRC X.ms X.ls]
structure RH.ok (X : RH) (H : MH) (fs : List OS) : Prop where
  T1 : X.T.ok 1
  T2 : X.T.rows = X.ms.map fun m => [tP m]
  m1 : X.ms.length = H.tabs.length
  l1 : X.ls.length = H.tabs.length
  tr : ∀ (i : Nat) (l : OS) (L : List KV), X.ls[i]? = some l → H.tabs[i]? = some L → l.ok 6 ∧ l.rows = L.map pairR
  F1 : X.F.ok 3
  F2 : X.F.rows = List.zipWith cloW H.fns fs
  f1 : fs.length = H.fns.length
  fr : ∀ (i : Nat) (c : Cl) (o : OS), H.fns[i]? = some c → fs[i]? = some o → o.ok 1 ∧ o.rows = c.cells.map rowI
  C1 : X.C.ok 3
  C2 : X.C.rows = H.cells.map valR
def RC (r : Nat) (H : MH) (fs : List OS) (c : Chk) : Prop := ∃ X : RH, X.ok H fs ∧ c = (X.mem r H).flatten
theorem tabRC_at {m : Nat} {l : OS} : ∀ {i : Nat} {ms : List Nat} {ls : List OS}, ms[i]? = some m → ls[i]? = some l → (tabRC ms ls).Perm ([tO m (l.v 6), l.c, tabRC (ms.eraseIdx i) (ls.eraseIdx i)] : Mem).flatten
  | 0, a :: ms, x :: ls, h1, h2 => by
    simp at h1 h2; subst h1; subst h2
    simp [tabRC]
  | i + 1, a :: ms, x :: ls, h1, h2 => by
    have := tabRC_at (i := i) (ms := ms) (ls := ls) (by simpa using h1) (by simpa using h2)
    simp only [tabRC, List.zipWith_cons_cons, List.eraseIdx_cons_succ, List.flatten_cons] at this ⊢
    refine (List.Perm.append_left _ this).trans ?_
    exact chunk_perm [tO a (x.v 6) ++ x.c, tO m (l.v 6), l.c, _] [0, 1, 2, 3] [1, 2, 0, 3] (by decide) |>.trans (by simp)
  | 0, [], _, h1, _ => by simp at h1
  | i + 1, [], _, h1, _ => by simp at h1
  | 0, _ :: _, [], _, h2 => by simp at h2
  | i + 1, _ :: _, [], _, h2 => by simp at h2
theorem last_perm (A D : Mem) {d : Chk} (h : d.Perm D.flatten) : (A ++ [d]).flatten.Perm (A ++ D).flatten := by
  rw [List.flatten_append, List.flatten_append, List.flatten_singleton]
  exact List.Perm.append_left _ h
section
variable {r : Nat} {H : MH} {fs : List OS} {X : RH}
theorem RH.ok.at (hX : X.ok H fs) {i : Nat} (hi : i < H.tabs.length) : ∃ m l, X.ms[i]? = some m ∧ X.ls[i]? = some l ∧ X.T.rows[i]? = some [tP m] ∧ l.ok 6 ∧ l.rows = (tabL H i).map pairR := by
  have h1 : i < X.ms.length := by rw [hX.m1]; exact hi
  have h2 : i < X.ls.length := by rw [hX.l1]; exact hi
  obtain ⟨h3, h4⟩ := hX.tr i _ _ (List.getElem?_eq_getElem h2) (List.getElem?_eq_getElem hi)
  refine ⟨X.ms[i], X.ls[i], List.getElem?_eq_getElem h1, List.getElem?_eq_getElem h2, ?_, h3, ?_⟩
  · rw [hX.T2, List.getElem?_map, List.getElem?_eq_getElem h1]; rfl
  · rw [h4, tabL, List.getElem?_eq_getElem hi]; rfl
theorem RH.ok.not (hX : X.ok H fs) {t : Val} (h : tabI H t = none) : ¬ isT X.T t := by
  have := tabI_none h
  rw [isT, hX.T2, List.length_map, hX.m1]
  exact this
theorem RH.perm {i m : Nat} {l : OS} (h1 : X.ms[i]? = some m) (h2 : X.ls[i]? = some l) : (X.mem r H).flatten.Perm ([rB r (X.T.v 1) (X.F.v 3) (X.C.v 3) H.used H.room, X.T.c, tO m (l.v 6), l.c] ++ [X.F.c, X.C.c, tabRC (X.ms.eraseIdx i) (X.ls.eraseIdx i)]).flatten :=
  (last_perm [rB r (X.T.v 1) (X.F.v 3) (X.C.v 3) H.used H.room, X.T.c, X.F.c, X.C.c] _ (tabRC_at h1 h2)).trans
    (chunk_perm [rB r (X.T.v 1) (X.F.v 3) (X.C.v 3) H.used H.room, X.T.c, X.F.c, X.C.c, tO m (l.v 6), l.c, tabRC (X.ms.eraseIdx i) (X.ls.eraseIdx i)] [0, 1, 2, 3, 4, 5, 6] [0, 1, 4, 5, 2, 3, 6] (by decide))
variable {c : Chk}
theorem RH.ok.put (hX : X.ok H fs) {i u : Nat} {l : OS} {L : List KV} (hi : i < H.tabs.length) (h : l.ok 6) (h2 : l.rows = L.map pairR) : RH.ok { X with ls := X.ls.set i l } { H with used := u, tabs := H.tabs.set i L } fs where
  T1 := hX.T1
  T2 := hX.T2
  m1 := by rw [List.length_set]; exact hX.m1
  l1 := by rw [List.length_set, List.length_set]; exact hX.l1
  tr := fun j t M h1 h3 => by
    by_cases e : i = j
    · subst e
      rw [List.getElem?_set_self (by rw [hX.l1]; exact hi)] at h1
      rw [List.getElem?_set_self hi] at h3
      cases h1; cases h3
      exact ⟨h, h2⟩
    · rw [List.getElem?_set_ne e] at h1 h3
      exact hX.tr j t M h1 h3
  F1 := hX.F1
  F2 := hX.F2
  f1 := hX.f1
  fr := hX.fr
  C1 := hX.C1
  C2 := hX.C2
theorem putR (hX : RC r H fs c) (hok : H.ok) {t k v : Val} (hk : keyB k = true → Can k) (hkl : keyB k = true → k.s.length ≤ 1024) : CT Try.prog false 34 [rP r, valA t, valA k, valA v] [c] fun w K' => w = .int .i64 (.ofNat (mPut H t k v).2) ∧ ∃ c', RC r (mPut H t k v).1 fs c' ∧ K' = [c'] := by
  obtain ⟨X, hX, rfl⟩ := hX
  cases ht : tabI H t with
  | none =>
    refine CT.over (m := [rB r (X.T.v 1) (X.F.v 3) (X.C.v 3) H.used H.room]) (r := [X.T.c, X.F.c, X.C.c, tabRC X.ms X.ls]) (by simp) (put44F hX.T1 (hX.not ht)) ?_
    rintro v m' ⟨rfl, rfl⟩
    exact ⟨[(X.mem r H).flatten], by simp, by simp only [mPut, ht], _, ⟨X, by simp only [mPut, ht]; exact hX, by simp only [mPut, ht]⟩, rfl⟩
  | some i =>
    obtain ⟨e, hi⟩ := tabI_some ht
    obtain ⟨m, l, h1, h2, h3, h4, h5⟩ := hX.at hi
    have hle := len_le hi
    have hu := hok.used
    have hl := hok.le
    have hr := hok.room
    simp only [mPut, ht]
    rw [e]
    cases hkb : keyB k with
    | false =>
      refine CT.over (m := [rB r (X.T.v 1) (X.F.v 3) (X.C.v 3) H.used H.room, X.T.c]) (r := [X.F.c, X.C.c, tabRC X.ms X.ls]) (by simp) (put44K hX.T1 h3 hkb) ?_
      rintro v m' ⟨rfl, rfl⟩
      exact ⟨[(X.mem r H).flatten], by simp, by simp, _, ⟨X, hX, rfl⟩, rfl⟩
    | true =>
      rw [if_pos rfl]
      have hp := RH.perm (r := r) (H := H) h1 h2
      have hs := hok.srt _ (tabL_mem hi)
      refine CT.over (r := [X.F.c, X.C.c, tabRC (X.ms.eraseIdx i) (X.ls.eraseIdx i)]) (by rw [List.flatten_singleton]; exact hp) (put44 hX.T1 h3 h4 h5 (by omega) (by omega) hkb hs (hok.kl _ (tabL_mem hi)) (hk hkb) (hkl hkb)) ?_
      intro w m' hw
      by_cases hA : v.k ≠ 0 ∧ hasL k (tabL H i) = false ∧ H.used = H.room
      · rw [if_pos ⟨hA.1, hA.2.1, by omega⟩] at hw
        obtain ⟨rfl, rfl⟩ := hw
        rw [if_pos hA]
        exact ⟨[(X.mem r H).flatten], by rw [List.flatten_singleton]; exact hp.symm, rfl, _, ⟨X, hX, rfl⟩, rfl⟩
      · rw [if_neg (fun h => hA ⟨h.1, h.2.1, by omega⟩)] at hw
        obtain ⟨l', hl', hr', rfl, rfl⟩ := hw
        rw [if_neg hA]
        have hX' := hX.put (u := H.used - (tabL H i).length + (setL k v (tabL H i)).length) hi hl' hr'
        have hp' := RH.perm (r := r) (H := { H with used := H.used - (tabL H i).length + (setL k v (tabL H i)).length, tabs := H.tabs.set i (setL k v (tabL H i)) }) (X := { X with ls := X.ls.set i l' }) h1 (List.getElem?_set_self (by rw [hX.l1]; exact hi))
        refine ⟨[_], ?_, rfl, _, ⟨_, hX', rfl⟩, rfl⟩
        rw [era_set] at hp'
        rw [show H.used + (setL k v (tabL H i)).length - (tabL H i).length = H.used - (tabL H i).length + (setL k v (tabL H i)).length by omega, List.flatten_singleton]
        exact hp'.symm
theorem tableR (hX : RC r H fs c) (hok : H.ok) : CT Try.prog false 33 [rP r] [c] fun w K' => w = .tup [valA (mTable H).2.1, .int .i64 (.ofNat (mTable H).2.2)] ∧ ∃ c', RC r (mTable H).1 fs c' ∧ K' = [c'] := by
  obtain ⟨X, hX, rfl⟩ := hX
  have hu := hok.used
  have hl := hok.le
  have hr := hok.room
  unfold mTable
  split
  · rename_i h
    refine CT.over (m := [rB r (X.T.v 1) (X.F.v 3) (X.C.v 3) H.used H.room, X.T.c]) (r := [X.F.c, X.C.c, tabRC X.ms X.ls]) (by simp) (table54 h hr hX.T1 (by rw [hX.T2, List.length_map, hX.m1]; omega)) ?_
    rintro v m' ⟨rfl, T', m, hT', hT2, rfl⟩
    refine ⟨[_], ?_, by rw [hX.T2, List.length_map, hX.m1], _, ⟨⟨T', X.F, X.C, X.ms ++ [m], X.ls ++ [⟨none, []⟩]⟩, ⟨hT', by rw [hT2, hX.T2]; simp, ?_, ?_, ?_, hX.F1, hX.F2, hX.f1, hX.fr, hX.C1, hX.C2⟩, rfl⟩, rfl⟩
    · have : tabRC (X.ms ++ [m]) (X.ls ++ [⟨none, []⟩]) = tabRC X.ms X.ls ++ tO m .nilslc := by
        unfold tabRC
        rw [List.zipWith_append (by rw [hX.m1, hX.l1]), List.flatten_append]
        simp [OS.v, OS.c]
      simp only [RH.mem, this]
      rw [List.flatten_singleton]
      refine (chunk_perm [rB r (T'.v 1) (X.F.v 3) (X.C.v 3) (H.used + 1) H.room, T'.c, tO m .nilslc, X.F.c, X.C.c, tabRC X.ms X.ls] [0, 1, 2, 3, 4, 5] [0, 1, 3, 4, 5, 2] (by decide)).trans ?_
      simp
    · simp [hX.m1]
    · simp [hX.l1]
    · intro i t L h1 h2
      by_cases hi : i < H.tabs.length
      · rw [List.getElem?_append_left (by rw [hX.l1]; exact hi)] at h1
        rw [List.getElem?_append_left hi] at h2
        exact hX.tr i t L h1 h2
      · rw [List.getElem?_append_right (by rw [hX.l1]; omega), hX.l1] at h1
        rw [List.getElem?_append_right (by omega)] at h2
        have : i - H.tabs.length = 0 := by
          rcases Nat.eq_zero_or_pos (i - H.tabs.length) with h | h
          · exact h
          · rw [List.getElem?_eq_none (by simp; omega)] at h2; cases h2
        rw [this] at h1 h2
        cases h1; cases h2
        exact ⟨OS.ok.nil, rfl⟩
  · rename_i h
    refine CT.over (m := [rB r (X.T.v 1) (X.F.v 3) (X.C.v 3) H.used H.room]) (r := [X.T.c, X.F.c, X.C.c, tabRC X.ms X.ls]) (by simp) (table54F (by omega)) ?_
    rintro v m' ⟨rfl, rfl⟩
    exact ⟨[(X.mem r H).flatten], by simp, rfl, _, ⟨X, hX, rfl⟩, rfl⟩
end
end Go.Proofs.Ytlflpjjmkigepaa

namespace Go.Proofs.Ytlflpjjmkigepaa
open Go Go.Abs
attribute [local irreducible] Cmp Rg Dw Cd Lp Ev Rdk CT Upd InK
section
variable {r : Nat} {H : MH} {fs : List OS} {X : RH} {c : Chk}
theorem RH.ok.fn (hX : X.ok H fs) {F' o : OS} {q : Cl} (hF : F'.ok 3) (ho : o.ok 1) (hor : o.rows = q.cells.map rowI) (hF2 : F'.rows = X.F.rows ++ [[.int .i64 q.u, .int .i64 q.p, o.v 1]]) : RH.ok { X with F := F' } { H with used := H.used + 1, fns := H.fns ++ [q] } (fs ++ [o]) where
  T1 := hX.T1
  T2 := hX.T2
  m1 := hX.m1
  l1 := hX.l1
  tr := hX.tr
  F1 := hF
  F2 := by
    show F'.rows = List.zipWith cloW (H.fns ++ [q]) (fs ++ [o])
    rw [hF2, hX.F2, List.zipWith_append hX.f1.symm]
    rfl
  f1 := by simp [hX.f1]
  fr := fun i c' o' h1 h2 => by
    by_cases hi : i < H.fns.length
    · rw [List.getElem?_append_left hi] at h1
      rw [List.getElem?_append_left (by rw [hX.f1]; exact hi)] at h2
      exact hX.fr i c' o' h1 h2
    · rw [List.getElem?_append_right (by omega)] at h1
      rw [List.getElem?_append_right (by rw [hX.f1]; omega), hX.f1] at h2
      have : i - H.fns.length = 0 := by
        rcases Nat.eq_zero_or_pos (i - H.fns.length) with h | h
        · exact h
        · rw [List.getElem?_eq_none (by simp; omega)] at h2; cases h2
      rw [this] at h1 h2
      cases h1; cases h2
      exact ⟨ho, hor⟩
  C1 := hX.C1
  C2 := hX.C2
theorem newR {n : Int} : CT Try.prog false 20 [.int .i64 n] [] fun v K' => ((n < 0 ∨ 1000000 < n) ∧ ∃ b, v = .tup [rP b, .int .i64 (.ofNat 1)]) ∨ ∃ room b c, n = Int.ofNat room ∧ room ≤ 1000000 ∧ v = .tup [rP b, .int .i64 (.ofNat 0)] ∧ RC b (mNew room) [] c ∧ K' = [c] := by
  refine CT.re new28 ?_
  rintro v K' (h | ⟨room, b, h1, h2, h3, rfl⟩)
  · exact ⟨K', .refl _, .inl h⟩
  · refine ⟨_, ?_, .inr ⟨room, b, _, h1, h2, h3, ⟨⟨⟨none, []⟩, ⟨none, []⟩, ⟨none, []⟩, [], []⟩, ⟨OS.ok.nil, rfl, rfl, rfl, fun i t L h => (by cases h), OS.ok.nil, rfl, rfl, fun i c o h => (by cases h), OS.ok.nil, rfl⟩, rfl⟩, rfl⟩⟩
    simp [tabRC, OS.c, OS.v, mNew]
end
/-! Lists of values. -/
section
variable {A B : OS} {xs ys : List Val}
end
end Go.Proofs.Ytlflpjjmkigepaa
