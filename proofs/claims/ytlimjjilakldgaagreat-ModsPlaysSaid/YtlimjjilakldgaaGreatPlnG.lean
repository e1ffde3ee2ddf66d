/- The document's table of modules: a place in the order; the parts of Put. -/
import Derived.Test.YtlimjjilakldgaaGreatPlnF
import Derived.Test.YtlimjjilakldgaaGreatAbsW
set_option autoImplicit false
set_option maxRecDepth 100000
set_option maxHeartbeats 4000000
set_option linter.unusedVariables false
set_option linter.unusedSimpArgs false
namespace Go.Proofs.YtlimjjilakldgaaGreat
open Go Go.Abs
attribute [local irreducible] Cmp Rg Dw Cd Lp Ev Rdk CT Upd InK
theorem less52_loop {x y : List Nat} (hx : x.length ≤ 9223372036854775807) (hy : y.length ≤ 9223372036854775807) {Q : AX → SL → Mem → Prop} (hret : ∀ l' K, lkS l' 4 = some (.bool (nless x y)) → Q .ret l' K)
  (hend : ∀ l' K, nless x y = decide (x.length < y.length) → Sub2 [(0, .str x), (1, .str y)] l' → Q (.ext 0) l' K) :
  ∀ (f i : Nat), x.length < i + f → i ≤ x.length → i ≤ y.length → x.take i = y.take i → Lp Try.prog false b52_0 f [(0, .str x), (1, .str y), (5, .int .i64 (.ofNat i))] [] Q := by
 intro f
 induction f with
 | zero => intro i h1 h2; omega
 | succ f ih =>
  intro i h1 h2 h3 ht
  refine Lp.round ?_
  by_cases hi : i < x.length ∧ i < y.length
  ·obtain ⟨hix, hiy⟩ := hi
   obtain ⟨a, ha⟩ : ∃ a, x[i]? = some a := ⟨_, List.getElem?_eq_getElem hix⟩
   obtain ⟨c, hc⟩ : ∃ c, y[i]? = some c := ⟨_, List.getElem?_eq_getElem hiy⟩
   have q1 := idxs_at (s := x) (k := .i64) ha
   have q2 := idxs_at (s := y) (k := .i64) hc
   by_cases e : a = c
   ·repeat' (first|intro _|refine yU ?_|(apply YA.mk;intro cv hv)|(refine yT ?_ ?_<;>(intro e;(try simp only [nbT,nbF] at e);subst e;try contradiction)))
    refine Lp.weak ?hw (ih (i + 1) (by omega) (by omega) (by omega) ?_)
    case hw => exact ⟨rfl, rfl, rfl, trivial⟩
    rw [List.take_add_one, List.take_add_one, ht, ha, hc, e]
   ·have hn := Go.Proofs.YtlimjjilakldgaaGreat.Q.nless_at ht ha hc e
    rw [hn] at hret
    by_cases h5 : a < c
    ·rw [decide_eq_true h5] at hret
     repeat' (first|intro _|refine yU ?_|(apply YA.mk;intro cv hv)|(refine yT ?_ ?_<;>(intro e;(try simp only [nbT,nbF] at e);subst e;try contradiction)))
     exact hret _ _ rfl
    ·rw [decide_eq_false h5] at hret
     repeat' (first|intro _|refine yU ?_|(apply YA.mk;intro cv hv)|(refine yT ?_ ?_<;>(intro e;(try simp only [nbT,nbF] at e);subst e;try contradiction)))
     exact hret _ _ rfl
  ·have hn := Go.Proofs.YtlimjjilakldgaaGreat.Q.nless_end ht h2 h3 hi
   by_cases hix : i < x.length
   ·have : ¬ i < y.length := fun h => hi ⟨hix, h⟩
    repeat' (first|intro _|refine yU ?_|(apply YA.mk;intro cv hv)|(refine yT ?_ ?_<;>(intro e;(try simp only [nbT,nbF] at e);subst e;try contradiction)))
    exact hend _ _ hn ⟨rfl, rfl, trivial⟩
   ·repeat' (first|intro _|refine yU ?_|(apply YA.mk;intro cv hv)|(refine yT ?_ ?_<;>(intro e;(try simp only [nbT,nbF] at e);subst e;try contradiction)))
    exact hend _ _ hn ⟨rfl, rfl, trivial⟩
theorem less52 {x y : List Nat} (hx : x.length ≤ 9223372036854775807) (hy : y.length ≤ 9223372036854775807) : PT Try.prog false 52 [.str x, .str y] (.bool (nless x y)) := by
 refine PT.of (CT.enter mixed comp52 (Nat.le_of_ble_eq_true rfl) ?_)
 repeat' (first|intro _|refine yU ?_|(apply YA.mk;intro cv hv)|(refine yT ?_ ?_<;>(intro e;(try simp only [nbT,nbF] at e);subst e;try contradiction)))
 refine Cd.weak (l2 := [(0, _), (1, _), (5, _)]) ⟨rfl, rfl, rfl, trivial⟩ ?_
 refine Cd.loop (k := x.length + 1) (less52_loop hx hy ?_ ?_ (x.length + 1) 0 (by omega) (by omega) (by omega) rfl)
 ·intro l' K e
  exact ⟨.inr rfl, _, .t e .nil, rfl⟩
 ·intro l' K hn hs
  show Cd _ _ _ _ _ _
  refine Cd.weak hs ?_
  rw [hn]
  by_cases h : x.length < y.length
  ·rw [decide_eq_true h]
   repeat' (first|intro _|refine yU ?_|(apply YA.mk;intro cv hv)|(refine yT ?_ ?_<;>(intro e;(try simp only [nbT,nbF] at e);subst e;try contradiction)))
   refine yX ?_
   rfl
  ·rw [decide_eq_false h]
   repeat' (first|intro _|refine yU ?_|(apply YA.mk;intro cv hv)|(refine yT ?_ ?_<;>(intro e;(try simp only [nbT,nbF] at e);subst e;try contradiction)))
   refine yX ?_
   rfl
theorem OS.tail {O : OS} {sz i : Nat} {k : IntKind} (h : O.ok sz) (hi : i ≤ O.rows.length) : ∃ v, aslice sz (O.v sz) (some (.int k (.ofNat i))) none none = some v ∧ ∀ K : Mem, (∀ id o, (id, o) ∈ O.c → InK K id o) → Rw K sz v (O.rows.drop i).flatten (O.rows.drop i).length := by
 obtain ⟨o, rows⟩ := O
 cases o with
 | none =>
  obtain rfl : rows = [] := h.no rfl
  obtain rfl : i = 0 := by simpa using hi
  exact ⟨.nilslc, rfl, fun K _ s hs => ⟨rfl, rfl⟩⟩
 | some p =>
  obtain ⟨id, g⟩ := p
  simp only at hi
  by_cases hl : i < rows.length
  ·refine ⟨.slc id g (0 + i * sz) (rows.length - i) (rows.length - i) sz, ?_, fun K hK => ?_⟩
   ·simp only [OS.v, aslice, bnd]
    rw [show Nat.beq sz sz = true by simp, cond_true, Nat.ble_eq_true_of_le hi]
    simp only [cond_true]
    rw [show Nat.blt i rows.length = true from Nat.ble_eq_true_of_le hl, cond_true]
   ·have e : (rows.drop i).length = rows.length - i := List.length_drop
    rw [e]
    refine Rw.slc (gr := true) (vs := rows.flatten) (gen := g) (w := g) (hK id _ (by simp [OS.c])) (Nat.le_refl _) (Nat.le_refl _) ?_
    rw [seg_rows (rows := rows) h.row (by omega), List.take_of_length_le (by rw [e]; omega)]
  ·obtain rfl : i = rows.length := by omega
   refine ⟨.eslc, ?_, fun K hK s hs => ?_⟩
   ·simp only [OS.v, aslice, bnd]
    rw [show Nat.beq sz sz = true by simp, cond_true, Nat.ble_eq_true_of_le hi]
    simp only [cond_true]
    rw [show Nat.blt rows.length rows.length = false by rw [← Bool.not_eq_true]; intro hb; exact Nat.lt_irrefl _ (Nat.le_of_ble_eq_true hb), cond_false]
   ·rw [List.drop_of_length_le (Nat.le_refl _)]
    exact ⟨rfl, rfl⟩
theorem Ef.appZ {P : Program} {l : SL} {K : Mem} {x y : AO} {sz bytes n : Nat} {u : OS} {b : AV} {rs : List (List AV)} {K1 : Mem} (hx : x.evL l = some (u.v sz)) (hy : y.evL l = some b) (hu : u.ok sz) (hr : ∀ r, r ∈ rs → r.length = sz) (hK : Take K u.c K1) (hn : rs.length = n) (hb : Rw (u.c :: K1) sz b rs.flatten n)
  (hl : (u.rows.length + n) * (bytes + 1) ≤ lim) : Ef P l K (.append sz bytes x y) fun v K2 => ∃ u' : OS, u'.ok sz ∧ u'.rows = u.rows ++ rs ∧ v = u'.v sz ∧ K2 = u'.c :: K1 := by
 by_cases h0 : n = 0
 ·subst h0
  obtain rfl : rs = [] := List.length_eq_zero_iff.1 hn
  refine Ef.perm (K2 := u.c :: K1) (by rw [List.flatten_cons]; exact hK.perm) ?_
  refine Ef.mono (Ef.app0 hx hy hb ?_) ?_
  ·obtain ⟨o, rows⟩ := u
   cases o <;> rfl
  ·rintro v K2 ⟨rfl, rfl⟩
   exact ⟨u, hu, by simp, rfl, rfl⟩
 ·exact Ef.appO hx hy hu hr hK hn h0 hb hl
theorem insM_cut {x : MO} : ∀ {l : List MO} {i : Nat}, (∀ j y, j < i → l[j]? = some y → nless y.nm x.nm = true) → (∀ y, l[i]? = some y → nless y.nm x.nm = false) → insM x l = l.take i ++ x :: l.drop i
 | [], i, _, _ => by simp [insM]
 | a :: l, 0, _, h => by
  have := h a rfl
  simp [insM, this]
 | a :: l, i + 1, h1, h2 => by
  have ha := h1 0 a (by omega) rfl
  have ih := insM_cut (x := x) (l := l) (i := i) (fun j y hj hy => h1 (j + 1) y (by omega) (by simpa using hy)) (fun y hy => h2 y (by simpa using hy))
  simp [insM, ha, ih]
section
variable {r id3 : Nat} {L U : OS} {uv : AV} {s : MS} {l : List MO} {u : Unt}
abbrev bU (b : Nat) (u : Unt) : Chk := [(b, .cells (unitR u) 0 0 false)]
theorem put41_in {C : Chk} {id : Nat} {Q : AX → SL → Mem → Prop} (hu : u.name.length ≤ 100000) (hn : ∀ x, x ∈ l → x.nm.length ≤ 100000) (hL : L.ok 4) (hr : L.rows = l.map roR) (hl : l.length ≤ 1000)
  (hend : ∀ l' i N, i ≤ l.length → (∀ j y, j < i → l[j]? = some y → nless y.nm u.name = true) → (∀ y, l[i]? = some y → nless y.nm u.name = false) → OS.ok N 4 → N.rows = (l.take i).map roR →
   Sub2 [(0, rP r), (3, .ptr id3 0 0 5), (7, .int .i64 (.ofNat id)), (10, N.v 4), (11, .int .i64 (.ofNat i))] l' → Q (.ext 0) l' [bU id3 u, rB r (L.v 4) uv, L.c, C, N.c]) :
  ∀ (k i : Nat) (N : OS), l.length < i + k → i ≤ l.length → (∀ j y, j < i → l[j]? = some y → nless y.nm u.name = true) → N.ok 4 → N.rows = (l.take i).map roR →
   Lp Try.prog false b41_0 k [(0, rP r), (3, .ptr id3 0 0 5), (7, .int .i64 (.ofNat id)), (10, N.v 4), (11, .int .i64 (.ofNat i))] [bU id3 u, rB r (L.v 4) uv, L.c, C, N.c] Q := by
 have hlen := hL.len
 rw [hr, List.length_map] at hlen
 intro k
 induction k with
 | zero => intro i N h1 h2; omega
 | succ k ih =>
  intro i N h1 h2 hp hN hNr
  refine Lp.round ?_
  by_cases hi : i < l.length
  ·obtain ⟨x, hx⟩ : ∃ x, l[i]? = some x := ⟨_, List.getElem?_eq_getElem hi⟩
   have kl := less52 (x := x.nm) (y := u.name) (by have := hn x (List.mem_iff_getElem?.2 ⟨_, hx⟩); omega) (by omega)
   obtain ⟨id, g, rfl, q1, q2⟩ := at_row hL hr hx
   have r1 : ∀ K, InK K id (.cells (l.map roR).flatten g g true) → Rdk K .load1 (.ptr id g (0 + i * 4) 1) (.ptr id g (0 + i * 4) 1) (.str x.nm) := fun K h => Rdk.cel0 (lm := 0) h roR_len q2 rfl
   have r2 : ∀ K, InK K id (.cells (l.map roR).flatten g g true) → Rdk K (.loadn 4) (.ptr id g (0 + i * 4) 4) (.ptr id g (0 + i * 4) 4) (.agg (roR x)) := fun K h => Rdk.row h roR_len q2
   cases hh : nless x.nm u.name with
   | true =>
    rw [hh] at kl
    repeat' (first|refine Dw.call (v := .bool true) rfl kl (by repeat (first | exact trivial | refine And.intro (Or.inl rfl) ?_ | (refine And.intro (Or.inr ?_) ?_; (focus (first | exact r1 _ (by repeat (first | exact InK.here | refine InK.there ?_)) | first | exact Rdk.i1 | assumption | (refine Rdk.in ?_; first | assumption | exact rfl) | (refine Rdk.b1 (cs := ?_) ?_ ?_; rotate_left; (repeat (first | exact InK.here | refine InK.there ?_)); exact rfl) | (refine Rdk.bw ?_ ?_; (repeat (first | exact InK.here | refine InK.there ?_)); first | assumption | exact rfl) | (refine Rdk.bw (cs := ?_) ?_ ?_; rotate_left; (repeat (first | exact InK.here | refine InK.there ?_)); first | assumption | exact rfl) | (refine Rdk.bn ?_ ?_; (repeat (first | exact InK.here | refine InK.there ?_)); exact rfl) | (refine Rdk.bn (cs := ?_) ?_ ?_; rotate_left; (repeat (first | exact InK.here | refine InK.there ?_)); exact rfl)))))) ?_|refine yD r1 ?_|refine yR r2 ?_|intro _|refine yS ?_|(apply YB.mk<;>intro hc)|(apply YA.mk;intro cv hv)|(refine yT ?_ ?_<;>(intro e;(try simp only [nbT,nbF] at e);subst e;try contradiction)))
    refine Rg.e (Ef.appO (rs := [roR x]) (n := 1) rfl rfl hN (by intro r hr; simp at hr; subst hr; rfl) (.there (.there (.there (.there (.there (.here)))))) rfl (by decide) (Rw.slc (InK.there InK.here) (Nat.le_refl _) (Nat.le_refl _) rfl) (by rw [hNr, List.length_map, List.length_take]; simp only [lim]; omega)) ?_
    rintro _ _ ⟨N', hN', hNr', rfl, rfl⟩
    repeat' (first|intro _|refine yS ?_|(apply YB.mk<;>intro hc)|(apply YA.mk;intro cv hv)|(refine yT ?_ ?_<;>(intro e;(try simp only [nbT,nbF] at e);subst e;try contradiction)))
    refine Lp.drop (.cons (.there (.there (.here))) (.cons (.there (.there (.here))) (.cons (.there (.there (.here))) (.cons (.there (.there (.here))) (.cons (.here) (.nil)))))) (Lp.weak ?hw (ih (i + 1) N' (by omega) (by omega) ?_ hN' ?_))
    case hw => exact ⟨rfl, rfl, rfl, rfl, rfl, trivial⟩
    ·intro j y hj hy
     by_cases e : j = i
     ·subst e
      rw [hx] at hy
      cases hy
      exact hh
     ·exact hp j y (by omega) hy
    ·rw [hNr', hNr, List.take_add_one, hx, List.map_append]
     rfl
   | false =>
    rw [hh] at kl
    repeat' (first|refine Dw.call (v := .bool false) rfl kl (by repeat (first | exact trivial | refine And.intro (Or.inl rfl) ?_ | (refine And.intro (Or.inr ?_) ?_; (focus (first | exact r1 _ (by repeat (first | exact InK.here | refine InK.there ?_)) | first | exact Rdk.i1 | assumption | (refine Rdk.in ?_; first | assumption | exact rfl) | (refine Rdk.b1 (cs := ?_) ?_ ?_; rotate_left; (repeat (first | exact InK.here | refine InK.there ?_)); exact rfl) | (refine Rdk.bw ?_ ?_; (repeat (first | exact InK.here | refine InK.there ?_)); first | assumption | exact rfl) | (refine Rdk.bw (cs := ?_) ?_ ?_; rotate_left; (repeat (first | exact InK.here | refine InK.there ?_)); first | assumption | exact rfl) | (refine Rdk.bn ?_ ?_; (repeat (first | exact InK.here | refine InK.there ?_)); exact rfl) | (refine Rdk.bn (cs := ?_) ?_ ?_; rotate_left; (repeat (first | exact InK.here | refine InK.there ?_)); exact rfl)))))) ?_|refine yD r1 ?_|intro _|refine yS ?_|(apply YB.mk<;>intro hc)|(apply YA.mk;intro cv hv)|(refine yT ?_ ?_<;>(intro e;(try simp only [nbT,nbF] at e);subst e;try contradiction)))
    exact hend _ i N h2 hp (fun y hy => by rw [hx] at hy; cases hy; exact hh) hN hNr ⟨rfl, rfl, rfl, rfl, rfl, trivial⟩
  ·obtain rfl : i = l.length := by omega
   repeat' (first|intro _|refine yS ?_|(apply YB.mk<;>intro hc)|(apply YA.mk;intro cv hv)|(refine yT ?_ ?_<;>(intro e;(try simp only [nbT,nbF] at e);subst e;try contradiction)))
   exact hend _ _ N h2 hp (fun y hy => by simp at hy) hN hNr ⟨rfl, rfl, rfl, rfl, rfl, trivial⟩
end
end Go.Proofs.YtlimjjilakldgaaGreat
namespace Go.Proofs.YtlimjjilakldgaaGreat
open Go Go.Abs
attribute [local irreducible] Cmp Rg Dw Cd Lp Ev Rdk CT Upd InK
def mPut (s : MS) (u : Unt) : MS × Nat × Nat := if mMay s u.name u.version ≠ 0 then (s, 0, mMay s u.name u.version) else match fM s u.name with
  | some x => (⟨updM u.name (fun x => ⟨x.nm, s.U.length, some x.cur, x.st⟩) s.L, s.U ++ [u]⟩, s.U.length, 0)
  | none => (⟨insM ⟨u.name, s.U.length, none, [0]⟩ s.L, s.U ++ [u]⟩, s.U.length, 0)
theorem mAdd_put (s : MS) (u : Unt) : mAdd s u = if (check u).1 ≠ 0 then (s, 0, (check u).1) else mPut s u := rfl
section
variable {r : Nat} {L U : OS} {s : MS} {u : Unt}
abbrev rM (r : Nat) (L U : OS) : Mem := [rB r (L.v 4) (U.v 5), L.c, U.c]
theorem put41E {e : Nat} (he : e ≠ 0) (km : CT Try.prog false 7 [rP r, .str u.name, .int .i64 u.version] (rM r L U) fun w K' => w = .int .i64 (.ofNat e) ∧ K' = rM r L U) : CT Try.prog false 41 [rP r, .agg (unitR u)] (rM r L U) fun w K' => w = .tup [.int .i64 (.ofNat 0), .int .i64 (.ofNat e)] ∧ K' = rM r L U := by
 refine CT.enterS mixed comp41 (Nat.le_of_ble_eq_true rfl) ?_
 repeat' (first|(refine Rg.callM rfl km (.cons (.there (.here)) (.cons (.there (.here)) (.cons (.there (.here)) (.nil)))) ?_; rintro _ _ ⟨rfl, rfl⟩)|intro _|refine yS ?_|(apply YB.mk<;>intro hc)|(apply YA.mk;intro cv hv)|(refine yT ?_ ?_<;>(intro e;(try simp only [nbT,nbF] at e);subst e;try contradiction)))
 refine yX ?_
 exact ⟨_, _, (.cons (.here) (.cons (.here) (.cons (.here) (.nil)))), rfl, rfl⟩
theorem put41S {x : MO} {i : Nat} (km : CT Try.prog false 7 [rP r, .str u.name, .int .i64 u.version] (rM r L U) fun w K' => w = .int .i64 (.ofNat 0) ∧ K' = rM r L U)
  (hL : L.ok 4) (hr : L.rows = s.L.map roR) (hl : s.L.length ≤ 1000) (hU : U.ok 5) (hUr : U.rows = s.U.map unitR) (hUl : s.U.length ≤ 1000000) (h1 : iA u.name s.L 0 = some i) (h2 : s.L[i]? = some x) (hxn : x.nm = u.name) :
  CT Try.prog false 41 [rP r, .agg (unitR u)] (rM r L U) fun w K' => w = .tup [.int .i64 (.ofNat s.U.length), .int .i64 (.ofNat 0)] ∧ ∃ L' U' : OS, L'.ok 4 ∧ L'.rows = (s.L.set i (addF s.U.length x)).map roR ∧ U'.ok 5 ∧ U'.rows = (s.U ++ [u]).map unitR ∧ K' = rM r L' U' := by
 rw [show addF s.U.length x = ⟨u.name, s.U.length, some x.cur, x.st⟩ by simp only [addF, hxn]]
 have hlen := hU.len
 rw [hUr, List.length_map] at hlen
 refine CT.enterS mixed comp41 (Nat.le_of_ble_eq_true rfl) ?_
 repeat' (first|(refine Rg.callM rfl km (.cons (.there (.here)) (.cons (.there (.here)) (.cons (.there (.here)) (.nil)))) ?_; rintro _ _ ⟨rfl, rfl⟩)|intro _|refine yS ?_|(apply YB.mk<;>intro hc)|(apply YA.mk;intro cv hv)|(refine yT ?_ ?_<;>(intro e;(try simp only [nbT,nbF] at e);subst e;try contradiction)))
 refine Dw.e (Ef.appO (rs := [unitR u]) (n := 1) rfl rfl hU (by intro r hr; simp at hr; subst hr; rfl) (.there (.there (.there (.here)))) rfl (by decide) (Rw.slc (InK.there InK.here) (Nat.le_refl _) (Nat.le_refl _) rfl) (by rw [hUr, List.length_map]; simp only [lim]; omega)) ?_
 rintro _ _ ⟨U', hU', hUr', rfl, rfl⟩
 refine yO ?_
 repeat' (first|intro _|refine yS ?_|(apply YB.mk<;>intro hc)|(apply YA.mk;intro cv hv)|(refine yT ?_ ?_<;>(intro e;(try simp only [nbT,nbF] at e);subst e;try contradiction)))
 refine Dw.e (Ef.store1 rfl rfl (U'.one 5) (.there (.there (Upd.here))) (Nat.le_of_ble_eq_true rfl)) ?_
 rintro _ _ ⟨rfl, rfl⟩
 refine yO ?_
 have kf := find13 (r := r) (uv := U'.v 5) (n := u.name) hL hr (by omega)
 rw [h1] at kf
 simp only [oldV] at kf
 repeat' (first|(refine Rg.callM rfl kf (.cons (.there (.there (.here))) (.cons (.there (.there (.here))) (.nil))) ?_; rintro _ _ ⟨rfl, rfl⟩)|intro _|refine yS ?_|(apply YB.mk<;>intro hc)|(apply YA.mk;intro cv hv)|(refine yT ?_ ?_<;>(intro e;(try simp only [nbT,nbF] at e);subst e;try contradiction)))
 refine Rg.e (Ef.appI (rs := s.L.map roR) (n := L.rows.length) rfl rfl roR_len (by rw [hr]) (by rw [← hr]; exact Rw.os hL fun id o h => .there (.mem h)) (by rw [hr, List.length_map]; simp only [lim]; omega)) ?_
 rintro _ _ ⟨O, hO, hOr, rfl, rfl⟩
 obtain ⟨id, g, rfl, q1, q2⟩ := at_row hO hOr h2
 have hd := col_rd (id := id) (g := g) (j := 1) (v := .int .i64 (.ofNat x.cur)) q2 rfl
 have hc := col_rd (id := id) (g := g) (j := 3) (v := .str x.st) q2 rfl
 repeat' (first|refine yD hd ?_|refine yD hc ?_|intro _|refine yS ?_|(apply YB.mk<;>intro hc)|(apply YA.mk;intro cv hv)|(refine yT ?_ ?_<;>(intro e;(try simp only [nbT,nbF] at e);subst e;try contradiction)))
 refine Dw.e (Ef.storeR rfl rfl roR_len q2 (r := roR ⟨u.name, s.U.length, some x.cur, x.st⟩) rfl (Upd.here)) ?_
 rintro _ _ ⟨rfl, rfl⟩
 refine yO ?_
 repeat' (first|intro _|refine yS ?_|(apply YB.mk<;>intro hc)|(apply YA.mk;intro cv hv)|(refine yT ?_ ?_<;>(intro e;(try simp only [nbT,nbF] at e);subst e;try contradiction)))
 refine yX ?_
 refine ⟨_, _, (.cons (.there (.here)) (.cons (.here) (.cons (.there (.here)) (.nil)))), rfl, ⟨some (id, g), (s.L.set i ⟨u.name, s.U.length, some x.cur, x.st⟩).map roR⟩, U', set_ok, rfl, hU', ?_, ?_⟩
 ·rw [hUr', hUr, List.map_append]
  rfl
 ·have e : ((s.L.set i ⟨u.name, s.U.length, some x.cur, x.st⟩).map roR).length = (s.L.map roR).length := by simp
  simp only [rM, rB, OS.v, OS.c, e]
  rw [List.map_set]
  rfl
theorem put41N (km : CT Try.prog false 7 [rP r, .str u.name, .int .i64 u.version] (rM r L U) fun w K' => w = .int .i64 (.ofNat 0) ∧ K' = rM r L U)
  (hL : L.ok 4) (hr : L.rows = s.L.map roR) (hl : s.L.length ≤ 1000) (hU : U.ok 5) (hUr : U.rows = s.U.map unitR) (hUl : s.U.length ≤ 1000000) (h1 : iA u.name s.L 0 = none) (hu : u.name.length ≤ 100000) (hn : ∀ x, x ∈ s.L → x.nm.length ≤ 100000) :
  CT Try.prog false 41 [rP r, .agg (unitR u)] (rM r L U) fun w K' => w = .tup [.int .i64 (.ofNat s.U.length), .int .i64 (.ofNat 0)] ∧ ∃ L' U' : OS, L'.ok 4 ∧ L'.rows = (insM ⟨u.name, s.U.length, none, [0]⟩ s.L).map roR ∧ U'.ok 5 ∧ U'.rows = (s.U ++ [u]).map unitR ∧ K' = rM r L' U' := by
 have hlen := hU.len
 rw [hUr, List.length_map] at hlen
 have q3 : abin .geq (.int .i64 (.negSucc 0)) (.int .i64 (.ofNat 0)) = some (.bool false) := rfl
 refine CT.enterS mixed comp41 (Nat.le_of_ble_eq_true rfl) ?_
 repeat' (first|(refine Rg.callM rfl km (.cons (.there (.here)) (.cons (.there (.here)) (.cons (.there (.here)) (.nil)))) ?_; rintro _ _ ⟨rfl, rfl⟩)|intro _|refine yS ?_|(apply YB.mk<;>intro hc)|(apply YA.mk;intro cv hv)|(refine yT ?_ ?_<;>(intro e;(try simp only [nbT,nbF] at e);subst e;try contradiction)))
 refine Dw.e (Ef.appO (rs := [unitR u]) (n := 1) rfl rfl hU (by intro r hr; simp at hr; subst hr; rfl) (.there (.there (.there (.here)))) rfl (by decide) (Rw.slc (InK.there InK.here) (Nat.le_refl _) (Nat.le_refl _) rfl) (by rw [hUr, List.length_map]; simp only [lim]; omega)) ?_
 rintro _ _ ⟨U', hU', hUr', rfl, rfl⟩
 refine yO ?_
 repeat' (first|intro _|refine yS ?_|(apply YB.mk<;>intro hc)|(apply YA.mk;intro cv hv)|(refine yT ?_ ?_<;>(intro e;(try simp only [nbT,nbF] at e);subst e;try contradiction)))
 refine Dw.e (Ef.store1 rfl rfl (U'.one 5) (.there (.there (Upd.here))) (Nat.le_of_ble_eq_true rfl)) ?_
 rintro _ _ ⟨rfl, rfl⟩
 refine yO ?_
 have kf := find13 (r := r) (uv := U'.v 5) (n := u.name) hL hr (by omega)
 rw [h1] at kf
 simp only [oldV] at kf
 repeat' (first|(refine Rg.callM rfl kf (.cons (.there (.there (.here))) (.cons (.there (.there (.here))) (.nil))) ?_; rintro _ _ ⟨rfl, rfl⟩)|intro _|refine yS ?_|(apply YB.mk<;>intro hc)|(apply YA.mk;intro cv hv)|(refine yT ?_ ?_<;>(intro e;(try simp only [nbT,nbF] at e);subst e;try contradiction)))
 rename_i id3 _
 refine Cd.weak (l2 := [(0, rP r), (3, .ptr id3 0 0 5), (7, .int .i64 (.ofNat s.U.length)), (10, OS.v ⟨none, []⟩ 4), (11, .int .i64 (.ofNat 0))]) ⟨rfl, rfl, rfl, rfl, rfl, trivial⟩ ?_
 refine Cd.drop (m := [bU id3 u, rB r (L.v 4) (U'.v 5), L.c, U'.c]) (.cons (.there (.there (.there (.there (.here))))) (.cons (.here) (.cons (.here) (.cons (.here) (.nil))))) ?_
 refine Cd.perm (K2 := [bU id3 u, rB r (L.v 4) (U'.v 5), L.c, U'.c, OS.c ⟨none, []⟩]) (by simp [OS.c]) ?_
 refine Cd.loop (k := s.L.length + 1) (put41_in (u := u) (C := U'.c) hu hn hL hr (by omega) ?_ (s.L.length + 1) 0 ⟨none, []⟩ (by omega) (Nat.zero_le _) (fun j y hj => absurd hj (Nat.not_lt_zero _)) OS.ok.nil rfl)
 intro l' i N hi hp hq hN hNr hs'
 show Cd _ _ _ _ _ _
 refine Cd.weak hs' ?_
 obtain ⟨tl, htl, hrw⟩ := OS.tail (k := .i64) (i := i) hL (by rw [hr, List.length_map]; exact hi)
 rw [hr] at hrw
 repeat' (first|intro _|refine yS ?_|(apply YB.mk<;>intro hc)|(apply YA.mk;intro cv hv)|(refine yT ?_ ?_<;>(intro e;(try simp only [nbT,nbF] at e);subst e;try contradiction)))
 refine Rg.e (Ef.appO (rs := [roR ⟨u.name, s.U.length, none, [0]⟩]) (n := 1) rfl rfl hN (by intro r hr; simp at hr; subst hr; rfl) (.there (.there (.there (.there (.there (.here)))))) rfl (by decide) (Rw.slc (InK.there InK.here) (Nat.le_refl _) (Nat.le_refl _) rfl) (by rw [hNr, List.length_map, List.length_take]; simp only [lim]; omega)) ?_
 rintro _ _ ⟨N1, hN1, hN1r, rfl, rfl⟩
 repeat' (first|intro _|refine yS ?_|(apply YB.mk<;>intro hc)|(apply YA.mk;intro cv hv)|(refine yT ?_ ?_<;>(intro e;(try simp only [nbT,nbF] at e);subst e;try contradiction)))
 refine Rg.e (Ef.appZ (rs := (s.L.map roR).drop i) (n := ((s.L.map roR).drop i).length) rfl rfl hN1 (fun r h => roR_len r (List.mem_of_mem_drop h)) .here rfl (hrw _ (fun id o h => .there (.there (.there (.there (.mem h)))))) (by rw [hN1r, hNr]; simp only [lim, List.length_append, List.length_map, List.length_take, List.length_drop, List.length_singleton]; omega)) ?_
 rintro _ _ ⟨N2, hN2, hN2r, rfl, rfl⟩
 repeat' (first|intro _|refine yS ?_|(apply YB.mk<;>intro hc)|(apply YA.mk;intro cv hv)|(refine yT ?_ ?_<;>(intro e;(try simp only [nbT,nbF] at e);subst e;try contradiction)))
 refine Rg.e (Ef.store1 rfl rfl (N2.one 4) (.there (.there (.there (Upd.here)))) (Nat.le_of_ble_eq_true rfl)) ?_
 rintro _ _ ⟨rfl, rfl⟩
 repeat' (first|intro _|refine yS ?_|(apply YB.mk<;>intro hc)|(apply YA.mk;intro cv hv)|(refine yT ?_ ?_<;>(intro e;(try simp only [nbT,nbF] at e);subst e;try contradiction)))
 refine yX ?_
 refine ⟨_, _, (.cons (.there (.there (.there (.here)))) (.cons (.here) (.cons (.there (.there (.there (.here)))) (.nil)))), rfl, N2, U', hN2, ?_, hU', ?_, rfl⟩
 ·rw [hN2r, hN1r, hNr, insM_cut (x := ⟨u.name, s.U.length, none, [0]⟩) hp hq, List.map_append, List.map_cons, List.map_drop]
  simp
 ·rw [hUr', hUr, List.map_append]
  rfl
theorem put41 (hs : s.ok) (hL : L.ok 4) (hr : L.rows = s.L.map roR) (hU : U.ok 5) (hUr : U.rows = s.U.map unitR) (hUl : s.U.length ≤ 1000000) (hu : u.name.length ≤ 100000) (hn : ∀ x, x ∈ s.L → x.nm.length ≤ 100000) :
  CT Try.prog false 41 [rP r, .agg (unitR u)] (rM r L U) fun w K' => w = .tup [.int .i64 (.ofNat (mPut s u).2.1), .int .i64 (.ofNat (mPut s u).2.2)] ∧ ∃ L' U' : OS, L'.ok 4 ∧ L'.rows = (mPut s u).1.L.map roR ∧ U'.ok 5 ∧ U'.rows = (mPut s u).1.U.map unitR ∧ K' = rM r L' U' := by
 have hl : s.L.length ≤ 1000 := by have := hs.len; omega
 have km := may7 (r := r) (n := u.name) (ver := u.version) hs hL hr (by omega) hU hUr
 by_cases he : mMay s u.name u.version ≠ 0
 ·rw [show mPut s u = (s, 0, mMay s u.name u.version) by unfold mPut; rw [if_pos he]]
  refine CT.mono (put41E he km) ?_
  rintro w K' ⟨rfl, rfl⟩
  exact ⟨rfl, L, U, hL, hr, hU, hUr, rfl⟩
 ·have he := Decidable.not_not.1 he
  rw [he] at km
  rcases iA_fM s u.name with ⟨h1, h2⟩ | ⟨i, x, h1, h2, h3⟩
  ·rw [show mPut s u = (⟨insM ⟨u.name, s.U.length, none, [0]⟩ s.L, s.U ++ [u]⟩, s.U.length, 0) by unfold mPut; rw [if_neg (by rw [he]; simp), h2]]
   exact put41N km hL hr hl hU hUr hUl h1 hu hn
  ·rw [show mPut s u = (⟨updM u.name (addF s.U.length) s.L, s.U ++ [u]⟩, s.U.length, 0) by unfold mPut; rw [if_neg (by rw [he]; simp), h3], upd_set hs.ord h2 (fM_mem h3).2]
   exact put41S km hL hr hl hU hUr hUl h1 h2 (fM_mem h3).2
theorem unit_name {u : Unt} (h : unitB u = true) : u.name.length ≤ 16 := by
 simp only [unitB, Bool.and_eq_true, isName, decide_eq_true_eq] at h
 exact h.1.1.1.1.1.2
theorem add15 (hc : PT Try.prog false 40 [.agg (unitR u)] (tup3 (check u))) (hs : s.ok) (hL : L.ok 4) (hr : L.rows = s.L.map roR) (hU : U.ok 5) (hUr : U.rows = s.U.map unitR) (hUl : s.U.length ≤ 1000000) (hn : ∀ x, x ∈ s.L → x.nm.length ≤ 100000) :
  CT Try.prog false 15 [rP r, .agg (unitR u)] (rM r L U) fun w K' => w = .tup [.int .i64 (.ofNat (mAdd s u).2.1), .int .i64 (.ofNat (mAdd s u).2.2)] ∧ ∃ L' U' : OS, L'.ok 4 ∧ L'.rows = (mAdd s u).1.L.map roR ∧ U'.ok 5 ∧ U'.rows = (mAdd s u).1.U.map unitR ∧ K' = rM r L' U' := by
 have hu : (check u).1 = 0 → u.name.length ≤ 100000 := fun h => by have := unit_name (check_unit h); omega
 rcases hck : check u with ⟨e, f, g⟩
 rw [hck] at hc hu
 simp only [tup3] at hc
 refine CT.enterS mixed comp15 (Nat.le_of_ble_eq_true rfl) ?_
 rw [mAdd_put, hck]
 by_cases he : e ≠ 0
 ·simp only [if_pos he]
  repeat' (first|intro _|refine yS ?_|(apply YB.mk<;>intro hc)|(apply YA.mk;intro cv hv)|(refine yT ?_ ?_<;>(intro e;(try simp only [nbT,nbF] at e);subst e;try contradiction)))
  refine yX ?_
  exact ⟨_, _, (.cons (.there (.here)) (.cons (.there (.here)) (.cons (.there (.here)) (.nil)))), rfl, L, U, hL, hr, hU, hUr, rfl⟩
 ·simp only [if_neg he]
  have he := Decidable.not_not.1 he
  subst he
  have kp := put41 (r := r) hs hL hr hU hUr hUl (hu rfl) hn
  repeat' (first|(refine Rg.callM rfl kp (.cons (.there (.here)) (.cons (.there (.here)) (.cons (.there (.here)) (.nil)))) ?_; rintro _ _ ⟨rfl, L', U', k1, k2, k3, k4, rfl⟩)|intro _|refine yS ?_|(apply YB.mk<;>intro hc)|(apply YA.mk;intro cv hv)|(refine yT ?_ ?_<;>(intro e;(try simp only [nbT,nbF] at e);subst e;try contradiction)))
  refine yX ?_
  exact ⟨_, _, (.cons (.here) (.cons (.here) (.cons (.here) (.nil)))), rfl, L', U', k1, k2, k3, k4, rfl⟩
end
end Go.Proofs.YtlimjjilakldgaaGreat
namespace Go.Proofs.YtlimjjilakldgaaGreat
open Go Go.Abs
def RM (r : Nat) (s : MS) (c : Chk) : Prop := ∃ L U : OS, L.ok 4 ∧ L.rows = s.L.map roR ∧ U.ok 5 ∧ U.rows = s.U.map unitR ∧ c = (rM r L U).flatten
theorem CT.pt {P : Program} {nd : Bool} {f : FuncId} {args : List AV} {v : AV} {K : Mem} (h : PT P nd f args v) : CT P nd f args K fun w K' => w = v ∧ K' = K := by
 refine CT.over (m := []) (r := K) (by simp) h ?_
 rintro v m' ⟨rfl, rfl⟩
 exact ⟨K, by simp, rfl, rfl⟩
section
variable {r : Nat} {d : Chk} {s : MS} {n fn st : List Nat} {u : Unt}
theorem rm_two {r : Nat} {L U : OS} : ([(rM r L U).flatten] : Mem).flatten.Perm ([rB r (L.v 4) (U.v 5), L.c] ++ [U.c]).flatten := by simp
theorem rm_two' {r : Nat} {L U : OS} : ([rB r (L.v 4) (U.v 5), L.c] ++ [U.c] : Mem).flatten.Perm ([(rM r L U).flatten] : Mem).flatten := by simp
theorem rm_all {r : Nat} {L U : OS} : ([(rM r L U).flatten] : Mem).flatten.Perm (rM r L U ++ []).flatten := by simp
theorem rm_all' {r : Nat} {L U : OS} : (rM r L U ++ [] : Mem).flatten.Perm ([(rM r L U).flatten] : Mem).flatten := by simp
theorem curR (h : RM r s d) (hs : s.ok) : CT Try.prog false 32 [rP r, .str n] [d] fun w K' => w = toldA (mCur s n) ∧ K' = [d] := by
 obtain ⟨L, U, h1, h2, h3, h4, rfl⟩ := h
 have := hs.len
 refine CT.over rm_two (cur32 h1 h2 (by omega)) ?_
 rintro v m' ⟨rfl, rfl⟩
 exact ⟨_, rm_two', rfl, rfl⟩
theorem oldR (h : RM r s d) (hs : s.ok) : CT Try.prog false 34 [rP r, .str n] [d] fun w K' => w = toldA (mOld s n) ∧ K' = [d] := by
 obtain ⟨L, U, h1, h2, h3, h4, rfl⟩ := h
 have := hs.len
 refine CT.over rm_two (old34 h1 h2 (by omega)) ?_
 rintro v m' ⟨rfl, rfl⟩
 exact ⟨_, rm_two', rfl, rfl⟩
theorem stateR (h : RM r s d) (hs : s.ok) : CT Try.prog false 36 [rP r, .str n] [d] fun w K' => w = stA (mState s n) ∧ K' = [d] := by
 obtain ⟨L, U, h1, h2, h3, h4, rfl⟩ := h
 have := hs.len
 refine CT.over rm_two (state36 h1 h2 (by omega)) ?_
 rintro v m' ⟨rfl, rfl⟩
 exact ⟨_, rm_two', rfl, rfl⟩
theorem mayR (h : RM r s d) (hs : s.ok) {ver : Int} : CT Try.prog false 7 [rP r, .str n, .int .i64 ver] [d] fun w K' => w = .int .i64 (.ofNat (mMay s n ver)) ∧ K' = [d] := by
 obtain ⟨L, U, h1, h2, h3, h4, rfl⟩ := h
 have := hs.len
 refine CT.over rm_all (may7 hs h1 h2 (by omega) h3 h4) ?_
 rintro v m' ⟨rfl, rfl⟩
 exact ⟨_, rm_all', rfl, rfl⟩
theorem setR (h : RM r s d) (hs : s.ok) (hst : ∀ x, x ∈ st → x < 256) (hsl : st.length ≤ 900000) : CT Try.prog false 17 [rP r, .str n, .str st] [d] fun w K' => w = .int .i64 (.ofNat (mSetS s n st (Q.rightB st)).2) ∧ ∃ d', RM r (mSetS s n st (Q.rightB st)).1 d' ∧ K' = [d'] := by
 obtain ⟨L, U, h1, h2, h3, h4, rfl⟩ := h
 have := hs.len
 refine CT.over rm_two (set17 hs hst hsl h1 h2 (by omega)) ?_
 rintro v m' ⟨rfl, O, k1, k2, rfl⟩
 exact ⟨_, rm_two', rfl, _, ⟨O, U, k1, k2, h3, by rw [mSetS_U]; exact h4, rfl⟩, rfl⟩
theorem purgeR (h : RM r s d) (hs : s.ok) : CT Try.prog false 19 [rP r, .str n] [d] fun w K' => w = .int .i64 (.ofNat (mPurge s n).2) ∧ ∃ d', RM r (mPurge s n).1 d' ∧ K' = [d'] := by
 obtain ⟨L, U, h1, h2, h3, h4, rfl⟩ := h
 have := hs.len
 refine CT.over rm_two (purge19 hs h1 h2 (by omega)) ?_
 rintro v m' ⟨rfl, O, k1, k2, rfl⟩
 exact ⟨_, rm_two', rfl, _, ⟨O, U, k1, k2, h3, by rw [mPurge_U]; exact h4, rfl⟩, rfl⟩
theorem namesR (h : RM r s d) (hs : s.ok) : CT Try.prog false 30 [rP r] [d] fun w K' => ∃ N : OS, N.ok 1 ∧ N.rows = s.L.map nmR ∧ w = N.v 1 ∧ K' = [d, N.c] := by
 obtain ⟨L, U, h1, h2, h3, h4, rfl⟩ := h
 have := hs.len
 refine CT.over rm_two (names30 h1 h2 (by omega)) ?_
 rintro v m' ⟨N, k1, k2, rfl, rfl⟩
 refine ⟨[(rM r L U).flatten, N.c], ?_, N, k1, k2, rfl, rfl⟩
 have := chunk_perm [rB r (L.v 4) (U.v 5), L.c, U.c, N.c] [0, 1, 3, 2] [0, 1, 2, 3] (by decide)
 simpa using this
theorem unitR21 (h : RM r s d) (hs : s.ok) {i : Int} : CT Try.prog false 21 [rP r, .int .i64 i] [d] fun w K' => w = unA (mUnitZ s i) ∧ K' = [d] := by
 obtain ⟨L, U, h1, h2, h3, h4, rfl⟩ := h
 have := hs.len
 refine CT.over rm_all (unit21 hs h1 h2 (by omega) h3 h4) ?_
 rintro v m' ⟨rfl, rfl⟩
 exact ⟨_, rm_all', rfl, rfl⟩
theorem findR24 (h : RM r s d) (hs : s.ok) {pr : Int} : CT Try.prog false 24 [rP r, .str n, .str fn, .int .i64 pr] [d] fun w K' => w = findR (mFind s n fn pr) ∧ K' = [d] := by
 obtain ⟨L, U, h1, h2, h3, h4, rfl⟩ := h
 have := hs.len
 refine CT.over rm_all (find24 hs h1 h2 (by omega) h3 h4) ?_
 rintro v m' ⟨rfl, rfl⟩
 exact ⟨_, rm_all', rfl, rfl⟩
theorem addR (h : RM r s d) (hs : s.ok) (hok : OkU u) (hUl : s.U.length ≤ 1000000) (hn : ∀ x, x ∈ s.L → x.nm.length ≤ 100000) : CT Try.prog false 15 [rP r, .agg (unitR u)] [d] fun w K' => w = .tup [.int .i64 (.ofNat (mAdd s u).2.1), .int .i64 (.ofNat (mAdd s u).2.2)] ∧ ∃ d', RM r (mAdd s u).1 d' ∧ K' = [d'] := by
 obtain ⟨L, U, h1, h2, h3, h4, rfl⟩ := h
 refine CT.over rm_all (add15 (check9 hok) hs h1 h2 h3 h4 hUl hn) ?_
 rintro v m' ⟨rfl, L', U', k1, k2, k3, k4, rfl⟩
 exact ⟨_, rm_all', rfl, _, ⟨L', U', k1, k2, k3, k4, rfl⟩, rfl⟩
theorem newR {b : Nat} : RM b s0 [(b, .cells [.nilslc, .nilslc] 0 0 false)] := ⟨⟨none, []⟩, ⟨none, []⟩, OS.ok.nil, rfl, OS.ok.nil, rfl, rfl⟩
end
end Go.Proofs.YtlimjjilakldgaaGreat
namespace Go.Proofs.YtlimjjilakldgaaGreat
open Go Go.Abs
attribute [local irreducible] Cmp Rg Dw Cd Lp Ev Rdk CT Upd InK
structure Rdx (P : Chk) (sz : Nat) (v : AV) (rows : List (List AV)) : Prop where
 len : apure .e (.len false (.c v)) = some (.int .i64 (.ofNat rows.length))
 ix : ∀ (i : Nat) (r : List AV), rows[i]? = some r → ∃ a, apure .e (.iadr sz (.c v) (.c (.int .i64 (.ofNat i)))) = some a ∧ ∀ K, PinK P K → Rdk K (.loadn sz) a a (.agg r)
theorem ASl.rdx {P : Chk} {sz : Nat} {v : AV} {rows : List (List AV)} (h : ASl sz v rows) : Rdx P sz v rows := ⟨h.len, fun i r hi => ⟨_, h.iadr hi, fun K _ => Rdk.in (h.1 r (List.mem_iff_getElem?.2 ⟨_, hi⟩))⟩⟩
theorem PSl.rdx {P : Chk} {sz : Nat} {v : AV} {rows : List (List AV)} (h : PSl P sz v rows) : Rdx P sz v rows := by
 obtain ⟨O, h1, rfl, rfl, h4⟩ := h
 refine ⟨h1.len, fun i r hi => ?_⟩
 obtain ⟨id, g, e⟩ := h1.at hi
 have h5 : (id, AObj.cells O.rows.flatten g g true) ∈ P := h4 _ _ (by rw [e]; simp [OS.c])
 rw [e]
 exact ⟨_, iadr_slc (sz := sz) (b := id) (g := g) (off := 0) (len := O.rows.length) (cap := O.rows.length) (i := i) (k := .i64) (List.getElem?_eq_some_iff.1 hi).1, fun K hK => Rdk.row (hK _ _ h5) h1.row hi⟩
structure RxP (P : Chk) (p : Proto) : Prop where
 code : Rdx P 4 p.codeV (p.code.map insR)
 consts : Rdx P 3 p.constsV (p.consts.map valR)
 caps : Rdx P 2 p.capsV (p.caps.map capR)
structure RxU (P : Chk) (u : Unt) : Prop where
 uses : Rdx P 3 u.usesV (u.uses.map useR)
 protos : Rdx P 6 u.protosV (u.protos.map protoR)
 ps : ∀ p, p ∈ u.protos → RxP P p
theorem OkU.rx {P : Chk} {u : Unt} (h : OkU u) : RxU P u := ⟨ASl.rdx h.uses, ASl.rdx h.protos, fun p hp => ⟨ASl.rdx (h.ps p hp).code, ASl.rdx (h.ps p hp).consts, ASl.rdx (h.ps p hp).caps⟩⟩
theorem MemU.rx {P : Chk} {u : Unt} (h : MemU P u) : RxU P u := ⟨h.uses.rdx, h.protos.rdx, fun p hp => ⟨(h.ps p hp).code.rdx, (h.ps p hp).consts.rdx, (h.ps p hp).caps.rdx⟩⟩
theorem neq_self (s : List Nat) : abin .neq (.str s) (.str s) = some (.bool false) := by
 simp only [abin, acmp, neq_dec, decide_true, Bool.not_true]
theorem ceqs_self : ∀ {ks : List CK} {xs : List AV}, kindsOk ks xs = true → ceqs ks xs xs = some true
 | [], [], _ => rfl
 | .b :: ks, .bool b :: xs, h => by
  simp only [ceqs, ceq, beq_self_eq_true]
  exact ceqs_self (by simpa [kindsOk] using h)
 | .i :: ks, .int k i :: xs, h => by
  simp only [ceqs, ceq, keq_self, cond_true, ieq_dec, decide_true]
  exact ceqs_self (by simpa [kindsOk] using h)
 | .s :: ks, .str s :: xs, h => by
  simp only [ceqs, ceq, neq_dec, decide_true]
  exact ceqs_self (by simpa [kindsOk] using h)
theorem aeq_self {ks : List CK} {xs : List AV} (h : kindsOk ks xs = true) : aeq (.flat true ks) (.agg xs) (.agg xs) = some true := by
 simp only [aeq, flatEq, isAg, cellsOf, beq_self_eq_true, Bool.and_self, cond_true]
 exact ceqs_self h
section
variable {P : Chk} {p q : Proto} {b2 b3 : Nat}
abbrev bP (b : Nat) (p : Proto) : Chk := [(b, .cells (protoR p) 0 0 false)]
theorem same44_caps {Q : AX → SL → Mem → Prop} (hp : RxP P p) (hq : RxP P q) (e : p.caps = q.caps) (hl : p.caps.length ≤ 100000)
  (hend : ∀ l', Sub2 [(2, .ptr b2 0 0 6), (3, .ptr b3 0 0 6)] l' → Q (.ext 0) l' [bP b3 q, bP b2 p, P]) :
  ∀ (k i : Nat), p.caps.length < i + k → i ≤ p.caps.length → Lp Try.prog false b44_0 k [(2, .ptr b2 0 0 6), (3, .ptr b3 0 0 6), (5, .int .i64 (.ofNat i))] [bP b3 q, bP b2 p, P] Q := by
 have hlen := hp.caps.len
 rw [List.length_map] at hlen
 intro k
 induction k with
 | zero => intro i h1 h2; omega
 | succ k ih =>
  intro i h1 h2
  refine Lp.round ?_
  by_cases hi : i < p.caps.length
  ·obtain ⟨x, hx⟩ : ∃ x, p.caps[i]? = some x := ⟨_, List.getElem?_eq_getElem hi⟩
   obtain ⟨a, qa, ra⟩ := hp.caps.ix i (capR x) (by rw [List.getElem?_map, hx]; rfl)
   obtain ⟨b, qb, rb⟩ := hq.caps.ix i (capR x) (by rw [← e, List.getElem?_map, hx]; rfl)
   have e0 := aeq_self (ks := [.b, .i]) (xs := capR x) rfl
   repeat' (first|refine Dw.r rfl rfl (ra _ (by repeat (first | exact PinK.here | refine PinK.there ?_))) (by repeat (first | exact trivial | refine And.intro (Or.inl rfl) ?_ | (refine And.intro (Or.inr ?_) ?_; (focus (first | exact ra _ (by repeat (first | exact PinK.here | refine PinK.there ?_)) | exact rb _ (by repeat (first | exact PinK.here | refine PinK.there ?_)) | first | exact Rdk.i1 | assumption | (refine Rdk.in ?_; first | assumption | exact rfl) | (refine Rdk.b1 (cs := ?_) ?_ ?_; rotate_left; (repeat (first | exact InK.here | refine InK.there ?_)); exact rfl) | (refine Rdk.bw ?_ ?_; (repeat (first | exact InK.here | refine InK.there ?_)); first | assumption | exact rfl) | (refine Rdk.bw (cs := ?_) ?_ ?_; rotate_left; (repeat (first | exact InK.here | refine InK.there ?_)); first | assumption | exact rfl) | (refine Rdk.bn ?_ ?_; (repeat (first | exact InK.here | refine InK.there ?_)); exact rfl) | (refine Rdk.bn (cs := ?_) ?_ ?_; rotate_left; (repeat (first | exact InK.here | refine InK.there ?_)); exact rfl)))))) ?_|refine Dw.r rfl rfl (rb _ (by repeat (first | exact PinK.here | refine PinK.there ?_))) (by repeat (first | exact trivial | refine And.intro (Or.inl rfl) ?_ | (refine And.intro (Or.inr ?_) ?_; (focus (first | exact ra _ (by repeat (first | exact PinK.here | refine PinK.there ?_)) | exact rb _ (by repeat (first | exact PinK.here | refine PinK.there ?_)) | first | exact Rdk.i1 | assumption | (refine Rdk.in ?_; first | assumption | exact rfl) | (refine Rdk.b1 (cs := ?_) ?_ ?_; rotate_left; (repeat (first | exact InK.here | refine InK.there ?_)); exact rfl) | (refine Rdk.bw ?_ ?_; (repeat (first | exact InK.here | refine InK.there ?_)); first | assumption | exact rfl) | (refine Rdk.bw (cs := ?_) ?_ ?_; rotate_left; (repeat (first | exact InK.here | refine InK.there ?_)); first | assumption | exact rfl) | (refine Rdk.bn ?_ ?_; (repeat (first | exact InK.here | refine InK.there ?_)); exact rfl) | (refine Rdk.bn (cs := ?_) ?_ ?_; rotate_left; (repeat (first | exact InK.here | refine InK.there ?_)); exact rfl)))))) ?_|intro _|refine yS ?_|(apply YB.mk<;>intro hc)|(apply YA.mk;intro cv hv)|(refine yT ?_ ?_<;>(intro e;(try simp only [nbT,nbF] at e);subst e;try contradiction)))
   exact Lp.weak (by exact ⟨rfl, rfl, rfl, trivial⟩) (ih (i + 1) (by omega) (by omega))
  ·obtain rfl : i = p.caps.length := by omega
   repeat' (first|intro _|refine yS ?_|(apply YB.mk<;>intro hc)|(apply YA.mk;intro cv hv)|(refine yT ?_ ?_<;>(intro e;(try simp only [nbT,nbF] at e);subst e;try contradiction)))
   exact hend _ ⟨rfl, rfl, trivial⟩
theorem same44_consts {Q : AX → SL → Mem → Prop} (hp : RxP P p) (hq : RxP P q) (e : p.consts = q.consts) (hl : p.consts.length ≤ 100000)
  (hend : ∀ l', Sub2 [(2, .ptr b2 0 0 6), (3, .ptr b3 0 0 6)] l' → Q (.ext 2) l' [bP b3 q, bP b2 p, P]) :
  ∀ (k i : Nat), p.consts.length < i + k → i ≤ p.consts.length → Lp Try.prog false b44_1 k [(2, .ptr b2 0 0 6), (3, .ptr b3 0 0 6), (6, .int .i64 (.ofNat i))] [bP b3 q, bP b2 p, P] Q := by
 have hlen := hp.consts.len
 rw [List.length_map] at hlen
 intro k
 induction k with
 | zero => intro i h1 h2; omega
 | succ k ih =>
  intro i h1 h2
  refine Lp.round ?_
  by_cases hi : i < p.consts.length
  ·obtain ⟨x, hx⟩ : ∃ x, p.consts[i]? = some x := ⟨_, List.getElem?_eq_getElem hi⟩
   obtain ⟨a, qa, ra⟩ := hp.consts.ix i (valR x) (by rw [List.getElem?_map, hx]; rfl)
   obtain ⟨b, qb, rb⟩ := hq.consts.ix i (valR x) (by rw [← e, List.getElem?_map, hx]; rfl)
   have e0 := aeq_self (ks := [.i, .i, .s]) (xs := valR x) rfl
   repeat' (first|refine Dw.r rfl rfl (ra _ (by repeat (first | exact PinK.here | refine PinK.there ?_))) (by repeat (first | exact trivial | refine And.intro (Or.inl rfl) ?_ | (refine And.intro (Or.inr ?_) ?_; (focus (first | exact ra _ (by repeat (first | exact PinK.here | refine PinK.there ?_)) | exact rb _ (by repeat (first | exact PinK.here | refine PinK.there ?_)) | first | exact Rdk.i1 | assumption | (refine Rdk.in ?_; first | assumption | exact rfl) | (refine Rdk.b1 (cs := ?_) ?_ ?_; rotate_left; (repeat (first | exact InK.here | refine InK.there ?_)); exact rfl) | (refine Rdk.bw ?_ ?_; (repeat (first | exact InK.here | refine InK.there ?_)); first | assumption | exact rfl) | (refine Rdk.bw (cs := ?_) ?_ ?_; rotate_left; (repeat (first | exact InK.here | refine InK.there ?_)); first | assumption | exact rfl) | (refine Rdk.bn ?_ ?_; (repeat (first | exact InK.here | refine InK.there ?_)); exact rfl) | (refine Rdk.bn (cs := ?_) ?_ ?_; rotate_left; (repeat (first | exact InK.here | refine InK.there ?_)); exact rfl)))))) ?_|refine Dw.r rfl rfl (rb _ (by repeat (first | exact PinK.here | refine PinK.there ?_))) (by repeat (first | exact trivial | refine And.intro (Or.inl rfl) ?_ | (refine And.intro (Or.inr ?_) ?_; (focus (first | exact ra _ (by repeat (first | exact PinK.here | refine PinK.there ?_)) | exact rb _ (by repeat (first | exact PinK.here | refine PinK.there ?_)) | first | exact Rdk.i1 | assumption | (refine Rdk.in ?_; first | assumption | exact rfl) | (refine Rdk.b1 (cs := ?_) ?_ ?_; rotate_left; (repeat (first | exact InK.here | refine InK.there ?_)); exact rfl) | (refine Rdk.bw ?_ ?_; (repeat (first | exact InK.here | refine InK.there ?_)); first | assumption | exact rfl) | (refine Rdk.bw (cs := ?_) ?_ ?_; rotate_left; (repeat (first | exact InK.here | refine InK.there ?_)); first | assumption | exact rfl) | (refine Rdk.bn ?_ ?_; (repeat (first | exact InK.here | refine InK.there ?_)); exact rfl) | (refine Rdk.bn (cs := ?_) ?_ ?_; rotate_left; (repeat (first | exact InK.here | refine InK.there ?_)); exact rfl)))))) ?_|intro _|refine yS ?_|(apply YB.mk<;>intro hc)|(apply YA.mk;intro cv hv)|(refine yT ?_ ?_<;>(intro e;(try simp only [nbT,nbF] at e);subst e;try contradiction)))
   exact Lp.weak (by exact ⟨rfl, rfl, rfl, trivial⟩) (ih (i + 1) (by omega) (by omega))
  ·obtain rfl : i = p.consts.length := by omega
   repeat' (first|intro _|refine yS ?_|(apply YB.mk<;>intro hc)|(apply YA.mk;intro cv hv)|(refine yT ?_ ?_<;>(intro e;(try simp only [nbT,nbF] at e);subst e;try contradiction)))
   exact hend _ ⟨rfl, rfl, trivial⟩
theorem same44_code {Q : AX → SL → Mem → Prop} (hp : RxP P p) (hq : RxP P q) (e : p.code = q.code) (hl : p.code.length ≤ 100000)
  (hend : ∀ l', Sub2 [(2, .ptr b2 0 0 6), (3, .ptr b3 0 0 6)] l' → Q (.ext 4) l' [bP b3 q, bP b2 p, P]) :
  ∀ (k i : Nat), p.code.length < i + k → i ≤ p.code.length → Lp Try.prog false b44_2 k [(2, .ptr b2 0 0 6), (3, .ptr b3 0 0 6), (7, .int .i64 (.ofNat i))] [bP b3 q, bP b2 p, P] Q := by
 have hlen := hp.code.len
 rw [List.length_map] at hlen
 intro k
 induction k with
 | zero => intro i h1 h2; omega
 | succ k ih =>
  intro i h1 h2
  refine Lp.round ?_
  by_cases hi : i < p.code.length
  ·obtain ⟨x, hx⟩ : ∃ x, p.code[i]? = some x := ⟨_, List.getElem?_eq_getElem hi⟩
   obtain ⟨a, qa, ra⟩ := hp.code.ix i (insR x) (by rw [List.getElem?_map, hx]; rfl)
   obtain ⟨b, qb, rb⟩ := hq.code.ix i (insR x) (by rw [← e, List.getElem?_map, hx]; rfl)
   have e0 := aeq_self (ks := [.i, .i, .i, .i]) (xs := insR x) rfl
   repeat' (first|refine Dw.r rfl rfl (ra _ (by repeat (first | exact PinK.here | refine PinK.there ?_))) (by repeat (first | exact trivial | refine And.intro (Or.inl rfl) ?_ | (refine And.intro (Or.inr ?_) ?_; (focus (first | exact ra _ (by repeat (first | exact PinK.here | refine PinK.there ?_)) | exact rb _ (by repeat (first | exact PinK.here | refine PinK.there ?_)) | first | exact Rdk.i1 | assumption | (refine Rdk.in ?_; first | assumption | exact rfl) | (refine Rdk.b1 (cs := ?_) ?_ ?_; rotate_left; (repeat (first | exact InK.here | refine InK.there ?_)); exact rfl) | (refine Rdk.bw ?_ ?_; (repeat (first | exact InK.here | refine InK.there ?_)); first | assumption | exact rfl) | (refine Rdk.bw (cs := ?_) ?_ ?_; rotate_left; (repeat (first | exact InK.here | refine InK.there ?_)); first | assumption | exact rfl) | (refine Rdk.bn ?_ ?_; (repeat (first | exact InK.here | refine InK.there ?_)); exact rfl) | (refine Rdk.bn (cs := ?_) ?_ ?_; rotate_left; (repeat (first | exact InK.here | refine InK.there ?_)); exact rfl)))))) ?_|refine Dw.r rfl rfl (rb _ (by repeat (first | exact PinK.here | refine PinK.there ?_))) (by repeat (first | exact trivial | refine And.intro (Or.inl rfl) ?_ | (refine And.intro (Or.inr ?_) ?_; (focus (first | exact ra _ (by repeat (first | exact PinK.here | refine PinK.there ?_)) | exact rb _ (by repeat (first | exact PinK.here | refine PinK.there ?_)) | first | exact Rdk.i1 | assumption | (refine Rdk.in ?_; first | assumption | exact rfl) | (refine Rdk.b1 (cs := ?_) ?_ ?_; rotate_left; (repeat (first | exact InK.here | refine InK.there ?_)); exact rfl) | (refine Rdk.bw ?_ ?_; (repeat (first | exact InK.here | refine InK.there ?_)); first | assumption | exact rfl) | (refine Rdk.bw (cs := ?_) ?_ ?_; rotate_left; (repeat (first | exact InK.here | refine InK.there ?_)); first | assumption | exact rfl) | (refine Rdk.bn ?_ ?_; (repeat (first | exact InK.here | refine InK.there ?_)); exact rfl) | (refine Rdk.bn (cs := ?_) ?_ ?_; rotate_left; (repeat (first | exact InK.here | refine InK.there ?_)); exact rfl)))))) ?_|intro _|refine yS ?_|(apply YB.mk<;>intro hc)|(apply YA.mk;intro cv hv)|(refine yT ?_ ?_<;>(intro e;(try simp only [nbT,nbF] at e);subst e;try contradiction)))
   exact Lp.weak (by exact ⟨rfl, rfl, rfl, trivial⟩) (ih (i + 1) (by omega) (by omega))
  ·obtain rfl : i = p.code.length := by omega
   repeat' (first|intro _|refine yS ?_|(apply YB.mk<;>intro hc)|(apply YA.mk;intro cv hv)|(refine yT ?_ ?_<;>(intro e;(try simp only [nbT,nbF] at e);subst e;try contradiction)))
   exact hend _ ⟨rfl, rfl, trivial⟩
theorem same44 (hp : RxP P p) (hq : RxP P q) (e : SameP p q) (hl : p.code.length ≤ 100000 ∧ p.consts.length ≤ 100000 ∧ p.caps.length ≤ 100000) : CT Try.prog false 44 [.agg (protoR p), .agg (protoR q)] [P] fun w K' => w = .bool true ∧ K' = [P] := by
 obtain ⟨e1, e2, e3, e4, e5, e6⟩ := e
 have l1 := hp.code.len
 have l2 := hp.consts.len
 have l3 := hp.caps.len
 have m1 := hq.code.len
 have m2 := hq.consts.len
 have m3 := hq.caps.len
 rw [List.length_map] at l1 l2 l3
 rw [← e4, List.length_map] at m1
 rw [← e5, List.length_map] at m2
 rw [← e6, List.length_map] at m3
 have n0 : abin .neq (.str p.name) (.str q.name) = some (.bool false) := by rw [e1]; exact neq_self _
 refine CT.enterS mixed comp44 (Nat.le_of_ble_eq_true rfl) ?_
 repeat' (first|(refine zz ?_ (by refine iPb (o := .neq) (a:=?_) (b:=?_) (v:=?_) ?_ ?_ ?_; rotate_left 3; exact rfl; exact rfl; exact n0))|intro _|refine yS ?_|(apply YB.mk<;>intro hc)|(apply YA.mk;intro cv hv)|(refine yT ?_ ?_<;>(intro e;(try simp only [nbT,nbF] at e);subst e;try contradiction)))
 rename_i b2 b3
 refine Cd.weak (l2 := [(2, .ptr b2 0 0 6), (3, .ptr b3 0 0 6), (5, .int .i64 (.ofNat 0))]) ⟨rfl, rfl, rfl, trivial⟩ ?_
 refine Cd.loop (k := p.caps.length + 1) (same44_caps hp hq e6 hl.2.2 ?_ (p.caps.length + 1) 0 (by omega) (Nat.zero_le _))
 intro l' hs
 show Cd _ _ _ _ _ _
 refine Cd.weak hs ?_
 repeat' (first|intro _|refine yS ?_|(apply YB.mk<;>intro hc)|(apply YA.mk;intro cv hv)|(refine yT ?_ ?_<;>(intro e;(try simp only [nbT,nbF] at e);subst e;try contradiction)))
 refine Cd.weak (l2 := [(2, .ptr b2 0 0 6), (3, .ptr b3 0 0 6), (6, .int .i64 (.ofNat 0))]) ⟨rfl, rfl, rfl, trivial⟩ ?_
 refine Cd.loop (k := p.consts.length + 1) (same44_consts hp hq e5 hl.2.1 ?_ (p.consts.length + 1) 0 (by omega) (Nat.zero_le _))
 intro l' hs
 show Cd _ _ _ _ _ _
 refine Cd.weak hs ?_
 repeat' (first|intro _|refine yS ?_|(apply YB.mk<;>intro hc)|(apply YA.mk;intro cv hv)|(refine yT ?_ ?_<;>(intro e;(try simp only [nbT,nbF] at e);subst e;try contradiction)))
 refine Cd.weak (l2 := [(2, .ptr b2 0 0 6), (3, .ptr b3 0 0 6), (7, .int .i64 (.ofNat 0))]) ⟨rfl, rfl, rfl, trivial⟩ ?_
 refine Cd.loop (k := p.code.length + 1) (same44_code hp hq e4 hl.1 ?_ (p.code.length + 1) 0 (by omega) (Nat.zero_le _))
 intro l' hs
 show Cd _ _ _ _ _ _
 refine Cd.weak (l2 := []) trivial ?_
 repeat' (first|intro _|refine yS ?_|(apply YB.mk<;>intro hc)|(apply YA.mk;intro cv hv)|(refine yT ?_ ?_<;>(intro e;(try simp only [nbT,nbF] at e);subst e;try contradiction)))
 refine yX ?_
 exact ⟨_, _, (.cons (.there (.there (.here))) (.nil)), rfl, rfl⟩
end
end Go.Proofs.YtlimjjilakldgaaGreat
namespace Go.Proofs.YtlimjjilakldgaaGreat
open Go Go.Abs
attribute [local irreducible] Cmp Rg Dw Cd Lp Ev Rdk CT Upd InK
section
variable {P : Chk} {u v : Unt} {b2 b3 : Nat}
theorem same22_uses {Q : AX → SL → Mem → Prop} (hp : RxU P u) (hq : RxU P v) (e : u.uses = v.uses) (hl : u.uses.length ≤ 100000)
  (hend : ∀ l', Sub2 [(2, .ptr b2 0 0 5), (3, .ptr b3 0 0 5)] l' → Q (.ext 0) l' [bU b3 v, bU b2 u, P]) :
  ∀ (k i : Nat), u.uses.length < i + k → i ≤ u.uses.length → Lp Try.prog false b22_0 k [(2, .ptr b2 0 0 5), (3, .ptr b3 0 0 5), (5, .int .i64 (.ofNat i))] [bU b3 v, bU b2 u, P] Q := by
 have hlen := hp.uses.len
 rw [List.length_map] at hlen
 intro k
 induction k with
 | zero => intro i h1 h2; omega
 | succ k ih =>
  intro i h1 h2
  refine Lp.round ?_
  by_cases hi : i < u.uses.length
  ·obtain ⟨x, hx⟩ : ∃ x, u.uses[i]? = some x := ⟨_, List.getElem?_eq_getElem hi⟩
   obtain ⟨a, qa, ra⟩ := hp.uses.ix i (useR x) (by rw [List.getElem?_map, hx]; rfl)
   obtain ⟨b, qb, rb⟩ := hq.uses.ix i (useR x) (by rw [← e, List.getElem?_map, hx]; rfl)
   have e0 := aeq_self (ks := [.s, .s, .i]) (xs := useR x) rfl
   repeat' (first|refine Dw.r rfl rfl (ra _ (by repeat (first | exact PinK.here | refine PinK.there ?_))) (by repeat (first | exact trivial | refine And.intro (Or.inl rfl) ?_ | (refine And.intro (Or.inr ?_) ?_; (focus (first | exact ra _ (by repeat (first | exact PinK.here | refine PinK.there ?_)) | exact rb _ (by repeat (first | exact PinK.here | refine PinK.there ?_)) | first | exact Rdk.i1 | assumption | (refine Rdk.in ?_; first | assumption | exact rfl) | (refine Rdk.b1 (cs := ?_) ?_ ?_; rotate_left; (repeat (first | exact InK.here | refine InK.there ?_)); exact rfl) | (refine Rdk.bw ?_ ?_; (repeat (first | exact InK.here | refine InK.there ?_)); first | assumption | exact rfl) | (refine Rdk.bw (cs := ?_) ?_ ?_; rotate_left; (repeat (first | exact InK.here | refine InK.there ?_)); first | assumption | exact rfl) | (refine Rdk.bn ?_ ?_; (repeat (first | exact InK.here | refine InK.there ?_)); exact rfl) | (refine Rdk.bn (cs := ?_) ?_ ?_; rotate_left; (repeat (first | exact InK.here | refine InK.there ?_)); exact rfl)))))) ?_|refine Dw.r rfl rfl (rb _ (by repeat (first | exact PinK.here | refine PinK.there ?_))) (by repeat (first | exact trivial | refine And.intro (Or.inl rfl) ?_ | (refine And.intro (Or.inr ?_) ?_; (focus (first | exact ra _ (by repeat (first | exact PinK.here | refine PinK.there ?_)) | exact rb _ (by repeat (first | exact PinK.here | refine PinK.there ?_)) | first | exact Rdk.i1 | assumption | (refine Rdk.in ?_; first | assumption | exact rfl) | (refine Rdk.b1 (cs := ?_) ?_ ?_; rotate_left; (repeat (first | exact InK.here | refine InK.there ?_)); exact rfl) | (refine Rdk.bw ?_ ?_; (repeat (first | exact InK.here | refine InK.there ?_)); first | assumption | exact rfl) | (refine Rdk.bw (cs := ?_) ?_ ?_; rotate_left; (repeat (first | exact InK.here | refine InK.there ?_)); first | assumption | exact rfl) | (refine Rdk.bn ?_ ?_; (repeat (first | exact InK.here | refine InK.there ?_)); exact rfl) | (refine Rdk.bn (cs := ?_) ?_ ?_; rotate_left; (repeat (first | exact InK.here | refine InK.there ?_)); exact rfl)))))) ?_|intro _|refine yS ?_|(apply YB.mk<;>intro hc)|(apply YA.mk;intro cv hv)|(refine yT ?_ ?_<;>(intro e;(try simp only [nbT,nbF] at e);subst e;try contradiction)))
   exact Lp.weak (by exact ⟨rfl, rfl, rfl, trivial⟩) (ih (i + 1) (by omega) (by omega))
  ·obtain rfl : i = u.uses.length := by omega
   repeat' (first|intro _|refine yS ?_|(apply YB.mk<;>intro hc)|(apply YA.mk;intro cv hv)|(refine yT ?_ ?_<;>(intro e;(try simp only [nbT,nbF] at e);subst e;try contradiction)))
   exact hend _ ⟨rfl, rfl, trivial⟩
theorem same22_protos {Q : AX → SL → Mem → Prop} (hp : RxU P u) (hq : RxU P v) (e : SamePs u.protos v.protos) (hs : Sml u)
  (hend : ∀ l', Q (.ext 2) l' [bU b3 v, bU b2 u, P]) :
  ∀ (k i : Nat), u.protos.length < i + k → i ≤ u.protos.length → Lp Try.prog false b22_1 k [(2, .ptr b2 0 0 5), (3, .ptr b3 0 0 5), (6, .int .i64 (.ofNat i))] [bU b3 v, bU b2 u, P] Q := by
 have hlen := hp.protos.len
 rw [List.length_map] at hlen
 have hsl := hs.protos
 intro k
 induction k with
 | zero => intro i h1 h2; omega
 | succ k ih =>
  intro i h1 h2
  refine Lp.round ?_
  by_cases hi : i < u.protos.length
  ·obtain ⟨x, hx⟩ : ∃ x, u.protos[i]? = some x := ⟨_, List.getElem?_eq_getElem hi⟩
   obtain ⟨y, hy, hxy⟩ := e.at hx
   have hxm := List.mem_iff_getElem?.2 ⟨_, hx⟩
   have hym := List.mem_iff_getElem?.2 ⟨_, hy⟩
   obtain ⟨a, qa, ra⟩ := hp.protos.ix i (protoR x) (by rw [List.getElem?_map, hx]; rfl)
   obtain ⟨b, qb, rb⟩ := hq.protos.ix i (protoR y) (by rw [List.getElem?_map, hy]; rfl)
   have k44 := same44 (hp.ps x hxm) (hq.ps y hym) hxy (hs.ps x hxm)
   repeat' (first|(refine Dw.callM rfl k44 (.cons (.there (.there (.here))) (.nil)) ?_; rintro _ _ ⟨rfl, rfl⟩; refine yO ?_)|refine Dw.r rfl rfl (ra _ (by repeat (first | exact PinK.here | refine PinK.there ?_))) (by repeat (first | exact trivial | refine And.intro (Or.inl rfl) ?_ | (refine And.intro (Or.inr ?_) ?_; (focus (first | exact ra _ (by repeat (first | exact PinK.here | refine PinK.there ?_)) | exact rb _ (by repeat (first | exact PinK.here | refine PinK.there ?_)) | first | exact Rdk.i1 | assumption | (refine Rdk.in ?_; first | assumption | exact rfl) | (refine Rdk.b1 (cs := ?_) ?_ ?_; rotate_left; (repeat (first | exact InK.here | refine InK.there ?_)); exact rfl) | (refine Rdk.bw ?_ ?_; (repeat (first | exact InK.here | refine InK.there ?_)); first | assumption | exact rfl) | (refine Rdk.bw (cs := ?_) ?_ ?_; rotate_left; (repeat (first | exact InK.here | refine InK.there ?_)); first | assumption | exact rfl) | (refine Rdk.bn ?_ ?_; (repeat (first | exact InK.here | refine InK.there ?_)); exact rfl) | (refine Rdk.bn (cs := ?_) ?_ ?_; rotate_left; (repeat (first | exact InK.here | refine InK.there ?_)); exact rfl)))))) ?_|refine Dw.r rfl rfl (rb _ (by repeat (first | exact PinK.here | refine PinK.there ?_))) (by repeat (first | exact trivial | refine And.intro (Or.inl rfl) ?_ | (refine And.intro (Or.inr ?_) ?_; (focus (first | exact ra _ (by repeat (first | exact PinK.here | refine PinK.there ?_)) | exact rb _ (by repeat (first | exact PinK.here | refine PinK.there ?_)) | first | exact Rdk.i1 | assumption | (refine Rdk.in ?_; first | assumption | exact rfl) | (refine Rdk.b1 (cs := ?_) ?_ ?_; rotate_left; (repeat (first | exact InK.here | refine InK.there ?_)); exact rfl) | (refine Rdk.bw ?_ ?_; (repeat (first | exact InK.here | refine InK.there ?_)); first | assumption | exact rfl) | (refine Rdk.bw (cs := ?_) ?_ ?_; rotate_left; (repeat (first | exact InK.here | refine InK.there ?_)); first | assumption | exact rfl) | (refine Rdk.bn ?_ ?_; (repeat (first | exact InK.here | refine InK.there ?_)); exact rfl) | (refine Rdk.bn (cs := ?_) ?_ ?_; rotate_left; (repeat (first | exact InK.here | refine InK.there ?_)); exact rfl)))))) ?_|intro _|refine yS ?_|(apply YB.mk<;>intro hc)|(apply YA.mk;intro cv hv)|(refine yT ?_ ?_<;>(intro e;(try simp only [nbT,nbF] at e);subst e;try contradiction)))
   exact Lp.drop (.cons (.there (.here)) (.cons (.there (.here)) (.cons (.here) (.nil)))) (Lp.weak (by exact ⟨rfl, rfl, rfl, trivial⟩) (ih (i + 1) (by omega) (by omega)))
  ·obtain rfl : i = u.protos.length := by omega
   repeat' (first|intro _|refine yS ?_|(apply YB.mk<;>intro hc)|(apply YA.mk;intro cv hv)|(refine yT ?_ ?_<;>(intro e;(try simp only [nbT,nbF] at e);subst e;try contradiction)))
   exact hend _
theorem same22 (hp : RxU P u) (hq : RxU P v) (e : SameU u v) (hs : Sml u) : CT Try.prog false 22 [.agg (unitR u), .agg (unitR v)] [P] fun w K' => w = .bool true ∧ K' = [P] := by
 obtain ⟨e1, e2, e3, e4, e5⟩ := e
 have l1 := hp.uses.len
 have l2 := hp.protos.len
 have m1 := hq.uses.len
 have m2 := hq.protos.len
 rw [List.length_map] at l1 l2
 rw [← e3, List.length_map] at m1
 rw [List.length_map, ← e5.len] at m2
 have s1 := hs.uses
 have s2 := hs.protos
 have n0 : abin .neq (.str u.name) (.str v.name) = some (.bool false) := by rw [e1]; exact neq_self _
 refine CT.enterS mixed comp22 (Nat.le_of_ble_eq_true rfl) ?_
 repeat' (first|(refine zz ?_ (by refine iPb (o := .neq) (a:=?_) (b:=?_) (v:=?_) ?_ ?_ ?_; rotate_left 3; exact rfl; exact rfl; exact n0))|intro _|refine yS ?_|(apply YB.mk<;>intro hc)|(apply YA.mk;intro cv hv)|(refine yT ?_ ?_<;>(intro e;(try simp only [nbT,nbF] at e);subst e;try contradiction)))
 rename_i b2 b3
 refine Cd.weak (l2 := [(2, .ptr b2 0 0 5), (3, .ptr b3 0 0 5), (5, .int .i64 (.ofNat 0))]) ⟨rfl, rfl, rfl, trivial⟩ ?_
 refine Cd.loop (k := u.uses.length + 1) (same22_uses hp hq e3 s1 ?_ (u.uses.length + 1) 0 (by omega) (Nat.zero_le _))
 intro l' hs'
 show Cd _ _ _ _ _ _
 refine Cd.weak hs' ?_
 repeat' (first|intro _|refine yS ?_|(apply YB.mk<;>intro hc)|(apply YA.mk;intro cv hv)|(refine yT ?_ ?_<;>(intro e;(try simp only [nbT,nbF] at e);subst e;try contradiction)))
 refine Cd.weak (l2 := [(2, .ptr b2 0 0 5), (3, .ptr b3 0 0 5), (6, .int .i64 (.ofNat 0))]) ⟨rfl, rfl, rfl, trivial⟩ ?_
 refine Cd.loop (k := u.protos.length + 1) (same22_protos hp hq e5 hs ?_ (u.protos.length + 1) 0 (by omega) (Nat.zero_le _))
 intro l'
 show Cd _ _ _ _ _ _
 refine Cd.weak (l2 := []) trivial ?_
 repeat' (first|intro _|refine yS ?_|(apply YB.mk<;>intro hc)|(apply YA.mk;intro cv hv)|(refine yT ?_ ?_<;>(intro e;(try simp only [nbT,nbF] at e);subst e;try contradiction)))
 refine yX ?_
 exact ⟨_, _, (.cons (.there (.there (.here))) (.nil)), rfl, rfl⟩
end
end Go.Proofs.YtlimjjilakldgaaGreat
namespace Go.Proofs.YtlimjjilakldgaaGreat
open Go Go.Abs
attribute [local irreducible] Cmp Rg Dw Cd Lp Ev Rdk CT Upd InK
abbrev codeS : List Ins := [⟨1, 0, 0, 0⟩, ⟨37, 0, 0, 0⟩]
abbrev codeC : List AV := (codeS.map insR).flatten
abbrev pRow (fn : List Nat) (cv : AV) : List AV := [.str fn, .int .i64 (.ofNat 0), .int .i64 (.ofNat 1), cv, .nilslc, .nilslc]
abbrev sR (nm : List Nat) (ver : Int) (v : AV) : List AV := [.str nm, .int .i64 ver, .nilslc, .int .i64 (.ofNat 1), v]
abbrev sV (p g : Nat) : AV := .slc p g 0 1 1 6
abbrev pK (p g c h : Nat) (fn : List Nat) (gr : Bool) : Chk := [(p, .cells (pRow fn (.slc c h 0 2 2 4)) g g gr)]
abbrev cK (c h : Nat) (gr : Bool) : Chk := [(c, .cells codeC h h gr)]
def sP (fn : List Nat) : Proto := ⟨fn, 0, 1, .isl codeC 2 4, codeS, .nilslc, [], .nilslc, []⟩
def sU (nm : List Nat) (ver : Int) (fn : List Nat) : Unt := ⟨nm, ver, .nilslc, [], 1, .isl (protoR (sP fn)) 1 6, [sP fn]⟩
section
variable {nm fn : List Nat} {ver : Int} {p g c h : Nat} {gr gc : Bool}
theorem simple27s : CT Try.prog false 27 [.str nm, .int .i64 ver, .str fn] [] fun w K' => ∃ p c, w = .agg (sR nm ver (sV p 0)) ∧ K' = [pK p 0 c 0 fn false, cK c 0 false] := by
 refine CT.enterS mixed comp27 (Nat.le_of_ble_eq_true rfl) ?_
 repeat' (first|intro _|refine yU ?_|(apply YA.mk;intro cv hv)|(refine yT ?_ ?_<;>(intro e;(try simp only [nbT,nbF] at e);subst e;try contradiction)))
 refine yX ?_
 exact ⟨_, _, .cons .here (.cons .here .nil), _, _, rfl, rfl⟩
end
section
variable {nm fn : List Nat} {ver : Int} {p g c h : Nat} {gr gc : Bool}
theorem sP_ok (h : Txt fn) : OkP (sP fn) := by
 refine ⟨h, ⟨?_, .inr (.inr rfl)⟩, ⟨by simp [sP], .inl ⟨rfl, rfl⟩⟩, ⟨by simp [sP], .inl ⟨rfl, rfl⟩⟩, ?_, ?_, ?_⟩
 ·intro r hr
  obtain ⟨x, _, rfl⟩ := List.mem_map.1 hr
  rfl
 ·show 2 ≤ 9223372036854775807; omega
 ·show 0 ≤ 9223372036854775807; omega
 ·show 0 ≤ 9223372036854775807; omega
theorem sU_ok (h1 : Txt nm) (h2 : Txt fn) : OkU (sU nm ver fn) := by
 refine ⟨h1, ⟨by simp [sU], .inl ⟨rfl, rfl⟩⟩, ⟨?_, .inr (.inr rfl)⟩, ?_, ?_, ?_, ?_⟩
 ·intro r hr
  obtain ⟨x, _, rfl⟩ := List.mem_map.1 hr
  rfl
 ·show 0 ≤ 9223372036854775807; omega
 ·show 1 ≤ 9223372036854775807; omega
 ·intro x hx; cases hx
 ·intro p hp
  simp only [sU, List.mem_singleton] at hp
  subst hp
  exact sP_ok h2
def sB (nm : List Nat) (ver : Int) (fn : List Nat) : Bool := isName nm && decide (1 ≤ ver ∧ ver ≤ 2147483647) && isName fn
theorem shaped_sP : shapedB (sP fn) = true := by
 have h : codeS.all rightI = true := by kernel_rfl
 simp only [shapedB, sP, h]
 rfl
theorem unit_sU : unitB (sU nm ver fn) = sB nm ver fn := by
 have h1 : protosB (sU nm ver fn).funs 0 (sU nm ver fn).protos = isName fn := by
  show (protoB (sP fn) (decide (((0 + 1 : Nat) : Int) ≤ 1)) && true) = _
  rw [protoB, shaped_sP]
  show ((isName fn && decide (0 = 0)) && true && true) = _
  simp
 simp only [unitB, h1]
 show (isName nm && decide (1 ≤ ver ∧ ver ≤ 2147483647) && decide ((0 : Int) ≤ 1 ∧ (1 : Int) ≤ min 32 ((1 : Nat) : Int)) && (decide (0 ≤ 16) && true) && (decide (1 ≤ 64) && isName fn)) = _
 simp [sB, show (1 : Int) ≤ min 32 1 by decide]
theorem check_sU : check (sU nm ver fn) = if sB nm ver fn = true then (0, 0, 0) else (4, 0, 0) := by
 rw [check, unit_sU]
 have h : protoBad (sU nm ver fn) (sP fn) = none := by
  show (if endsB ⟨37, 0, 0, 0⟩ = true then firstBad (sU nm ver fn) (sP fn) 0 codeS else some 1) = none
  rw [if_pos (by decide)]
  have m0 : mayB (sU nm ver fn) (sP fn) 0 ⟨1, 0, 0, 0⟩ = true := by kernel_rfl
  have m1 : mayB (sU nm ver fn) (sP fn) 1 ⟨37, 0, 0, 0⟩ = true := by kernel_rfl
  show (if mayB (sU nm ver fn) (sP fn) 0 ⟨1, 0, 0, 0⟩ = true then (if mayB (sU nm ver fn) (sP fn) 1 ⟨37, 0, 0, 0⟩ = true then none else some 1) else some 0) = none
  rw [if_pos m0, if_pos m1]
 split
 ·show chk (sU nm ver fn) 0 [sP fn] = _
  simp only [chk, h]
 ·rfl
theorem check37s (h1 : Txt nm) (h2 : Txt fn) : CT Try.prog false 37 [.agg (sR nm ver (sV p g))] [pK p g c h fn gr, cK c h gc] fun w K' => K' = [pK p g c h fn gr, cK c h gc] ∧ w = tup3 (if sB nm ver fn = true then (0, 0, 0) else (4, 0, 0)) := by
 rw [← check_sU]
 refine CT.frz 5 (check8 (sU_ok h1 h2)) rfl fun s hs => ?_
 simp only [Fz2]
 refine ⟨_, [], rfl, Frz.agg ?_, rfl⟩
 simp only [Fz2, unitR, sU]
 refine ⟨_, _, rfl, Frz.atom rfl, _, _, rfl, Frz.atom rfl, _, _, rfl, Frz.atom rfl, _, _, rfl, Frz.atom rfl, _, _, rfl, ?_, rfl⟩
 refine Frz.slc hs InK.here (Nat.le_refl _) (Nat.le_refl _) (seg_all rfl) ?_
 simp only [Fz2, protoR, sP]
 refine ⟨_, _, rfl, Frz.atom rfl, _, _, rfl, Frz.atom rfl, _, _, rfl, Frz.atom rfl, _, _, rfl, ?_, _, _, rfl, Frz.atom rfl, _, _, rfl, Frz.atom rfl, rfl⟩
 refine Frz.slc hs (InK.there InK.here) (Nat.le_refl _) (Nat.le_refl _) (seg_all rfl) (Fz2.same fun x hx => Frz.atom ?_)
 obtain ⟨r, hr, hx⟩ := List.mem_flatten.1 hx
 obtain ⟨y, _, rfl⟩ := List.mem_map.1 hr
 simp only [insR, List.mem_cons, List.not_mem_nil, or_false] at hx
 rcases hx with rfl | rfl | rfl | rfl <;> rfl
end
def sU' (nm : List Nat) (ver : Int) (fn : List Nat) (p c : Nat) : Unt := ⟨nm, ver, .nilslc, [], 1, .slc p 0 0 1 1 6, [⟨fn, 0, 1, .slc c 0 0 2 2 4, codeS, .nilslc, [], .nilslc, []⟩]⟩
section
variable {nm fn : List Nat} {ver : Int} {p c b : Nat} {P d : Chk} {s : MS}
theorem check_sU' : check (sU' nm ver fn p c) = check (sU nm ver fn) := rfl
theorem sU'_rd : RdU (pK p 0 c 0 fn false ++ cK c 0 false) (sU' nm ver fn p c) := by
 have h0 : ∀ {sz : Nat}, Rdl (pK p 0 c 0 fn false ++ cK c 0 false) sz .nilslc [] := fun {sz} => ⟨fun r h => (by cases h), ⟨rfl, rfl⟩, fun K _ s hs => ⟨rfl, rfl⟩, rfl⟩
 refine ⟨h0, ⟨?_, ⟨rfl, rfl⟩, fun K hK => ?_, rfl⟩, ?_⟩
 ·intro r hr
  obtain ⟨x, _, rfl⟩ := List.mem_map.1 hr
  rfl
 ·exact Rw.slc (gr := false) (hK p _ (List.mem_append_left _ (List.mem_singleton.2 rfl))) (Nat.le_refl _) (Nat.le_refl _) (seg_all rfl)
 ·intro q hq
  simp only [sU', List.mem_singleton] at hq
  subst hq
  refine ⟨⟨?_, ⟨rfl, rfl⟩, fun K hK => ?_, rfl⟩, h0, h0⟩
  ·intro r hr
   obtain ⟨x, _, rfl⟩ := List.mem_map.1 hr
   rfl
  ·exact Rw.slc (gr := false) (hK c _ (List.mem_append_right _ (List.mem_singleton.2 rfl))) (Nat.le_refl _) (Nat.le_refl _) (seg_all rfl)
theorem sU'_sml : Sml (sU' nm ver fn p c) := ⟨Nat.zero_le _, by show 1 ≤ 100000; omega, fun q hq => by
 simp only [sU', List.mem_singleton] at hq
 subst hq
 exact ⟨by show 2 ≤ 100000; omega, Nat.zero_le _, Nat.zero_le _⟩⟩
theorem addS (h : HM b P s d) (hs : s.ok) (h1 : Txt nm) (h2 : Txt fn) (hnx : s.U.length < 1000000) :
  CT Try.prog false 14 [mP b, .agg (sR nm ver (sV p 0))] [d, pK p 0 c 0 fn false, cK c 0 false] fun w K' => (∃ x y : Nat, w = .tup [.int .i64 (.ofNat x), .int .i64 (.ofNat y)]) ∧ ∃ J, K' = [J] := by
 have hc : CT Try.prog false 37 [.agg (unitR (sU' nm ver fn p c))] [pK p 0 c 0 fn false ++ cK c 0 false] fun w K' => w = tup3 (check (sU' nm ver fn p c)) ∧ K' = [pK p 0 c 0 fn false ++ cK c 0 false] := by
  rw [check_sU', check_sU]
  refine CT.over (m := [pK p 0 c 0 fn false, cK c 0 false]) (r := []) (by simp) (check37s h1 h2) ?_
  rintro v m' ⟨rfl, rfl⟩
  exact ⟨_, by simp, rfl, rfl⟩
 refine CT.over (m := [d, pK p 0 c 0 fn false ++ cK c 0 false]) (r := []) (by simp) (addM (u := sU' nm ver fn p c) h hs sU'_rd (fun _ => sU'_sml) hnx hc) ?_
 rintro v m' ⟨rfl, _⟩
 exact ⟨[(m' ++ []).flatten], by simp, ⟨_, _, rfl⟩, _, rfl⟩
theorem addM' {u : Unt} (h : HM b P s d) (hs : s.ok) (hok : OkU u) (hnx : s.U.length < 1000000) :
  CT Try.prog false 14 [mP b, .agg (unitR u)] [d, P] fun w K' => w = .tup [.int .i64 (.ofNat (mAdd s u).2.1), .int .i64 (.ofNat (mAdd s u).2.2)] ∧ ∃ d' P', (∀ id o, (id, o) ∈ P → (id, o) ∈ P') ∧ HM b P' (mAdd s u).1 d' ∧ K' = [d', P'] := by
 refine CT.over (m := [d, []]) (r := [P]) (by simp) (addM (R := []) (u := u) h hs hok.rd unit_sml hnx (CT.pt (check8 hok))) ?_
 rintro v m' ⟨rfl, c', Q, hQ, rfl⟩
 refine ⟨[c', P ++ Q], ?_, rfl, c', P ++ Q, fun id o hm => List.mem_append_left _ hm, hQ, rfl⟩
 have := chunk_perm [c', [], Q, P] [0, 1, 2, 3] [0, 1, 3, 2] (by decide)
 simpa using this
end
end Go.Proofs.YtlimjjilakldgaaGreat
namespace Go.Proofs.YtlimjjilakldgaaGreat
open Go Go.Abs
attribute [local irreducible] Cmp Rg Dw Cd Lp Ev Rdk CT Upd InK
structure OpM where
 kind : Int
 u : Unt
 nm : List Nat
 st : List Nat
 fn : List Nat
 n : Int
def opR (o : OpM) : List AV := [.int .i64 o.kind, .str o.u.name, .int .i64 o.u.version, o.u.usesV, .int .i64 o.u.funs, o.u.protosV, .str o.nm, .str o.st, .str o.fn, .int .i64 o.n]
structure PlK (b r : Nat) (s : MS) (P c d : Chk) : Prop where
 m : HM b P s c
 r : RM r s d
 ok : s.ok
 nm : ∀ x, x ∈ s.L → x.nm.length ≤ 100000
def DoneP (r : Nat) (s : MS) (w : AV) (K' : Mem) : Prop := ∃ b' s' P' c' d', w = .tup [mP b', .bool true] ∧ PlK b' r s' P' c' d' ∧ s'.U.length ≤ s.U.length + 1 ∧ K' = [c', d', P']
theorem may_none {s : MS} {u : Unt} : ∀ x, x ∈ (mAdd s u).1.L → x.nm.length ≤ 16 ∨ ∃ y, y ∈ s.L ∧ y.nm = x.nm := by
 intro x hx
 unfold mAdd at hx
 split at hx
 ·exact .inr ⟨x, hx, rfl⟩
 ·rename_i hck
  have hn := unit_name (check_unit (Decidable.not_not.1 hck))
  split at hx
  ·exact .inr ⟨x, hx, rfl⟩
  ·split at hx
   ·obtain ⟨y, hy, h | h⟩ := mem_upd hx
    ·exact .inr ⟨y, hy, by rw [h.2]⟩
    ·exact .inr ⟨y, hy, by rw [h.2]⟩
   ·rcases mem_ins.1 hx with rfl | hx
    ·exact .inl hn
    ·exact .inr ⟨x, hx, rfl⟩
theorem nm_upd {n : List Nat} {f : MO → MO} {L : List MO} (hf : ∀ x, (f x).nm = x.nm) (h : ∀ x, x ∈ L → x.nm.length ≤ 100000) : ∀ x, x ∈ updM n f L → x.nm.length ≤ 100000 := by
 intro x hx
 obtain ⟨y, hy, e | e⟩ := mem_upd hx
 ·rw [e.2, hf]; exact h y hy
 ·rw [e.2]; exact h y hy
theorem nm_set {s : MS} {n st : List Nat} {b : Bool} (h : ∀ x, x ∈ s.L → x.nm.length ≤ 100000) : ∀ x, x ∈ (mSetS s n st b).1.L → x.nm.length ≤ 100000 := by
 unfold mSetS
 split
 ·exact h
 ·split
  ·exact nm_upd (fun _ => rfl) h
  ·exact h
theorem nm_purge {s : MS} {n : List Nat} (h : ∀ x, x ∈ s.L → x.nm.length ≤ 100000) : ∀ x, x ∈ (mPurge s n).1.L → x.nm.length ≤ 100000 := by
 unfold mPurge
 split
 ·exact h
 ·split
  ·exact h
  ·exact nm_upd (fun _ => rfl) h
theorem nm_add {s : MS} {u : Unt} (h : ∀ x, x ∈ s.L → x.nm.length ≤ 100000) : ∀ x, x ∈ (mAdd s u).1.L → x.nm.length ≤ 100000 := by
 intro x hx
 rcases may_none x hx with e | ⟨y, hy, e⟩
 ·omega
 ·rw [← e]; exact h y hy
section
variable {b r : Nat} {s : MS} {P c d : Chk} {o : OpM}
structure OkO (o : OpM) : Prop where
 u : OkU o.u
 nm : Txt o.nm
 st : Txt o.st
 stl : o.st.length ≤ 5000
theorem does8_0 (h : PlK b r s P c d) (ho : OkO o) (hk : o.kind = 0) (hU : s.U.length < 1000) : CT Try.prog true 8 [mP b, rP r, .agg (opR o)] [c, d, P] (DoneP r s) := by
 have k1 := (addM' (u := o.u) h.m h.ok ho.u (by omega)).up (nd := true)
 have k2 := (addR (u := o.u) h.r h.ok ho.u (by omega) h.nm).up (nd := true)
 refine CT.enterS mixed comp8 (Nat.le_of_ble_eq_true rfl) ?_
 repeat' (first|refine Rg.r (v := .agg (unitR o.u)) rfl rfl (Rdk.bn (off := 1) (n := 5) .here rfl) ?_|(refine Rg.callM rfl k1 (.cons (.there (.here)) (.cons (.there (.there (.here))) (.nil))) ?_; rintro _ _ ⟨rfl, c', P', hPs, hc', rfl⟩)|refine Rg.r (v := .agg (unitR o.u)) rfl rfl (Rdk.bn (off := 1) (n := 5) (.there (.there .here)) rfl) ?_|(refine Rg.callM rfl k2 (.cons (.there (.there (.there (.here)))) (.nil)) ?_; rintro _ _ ⟨rfl, d', hd', rfl⟩)|intro _|refine yS ?_|(apply YB.mk<;>intro hc)|(apply YA.mk;intro cv hv)|(refine yT ?_ ?_<;>(intro e;(try simp only [nbT,nbF] at e);subst e;try contradiction)))
 refine yX ?_
 exact ⟨_, _, (.cons (.there (.here)) (.cons (.here) (.cons (.here) (.nil)))), b, (mAdd s o.u).1, P', c', d', rfl, ⟨hc', hd', h.ok.add ho.u, nm_add h.nm⟩, mAdd_len, rfl⟩
theorem does8_1 (h : PlK b r s P c d) (ho : OkO o) (hk : o.kind = 1) : CT Try.prog true 8 [mP b, rP r, .agg (opR o)] [c, d, P] (DoneP r s) := by
 have hst := ho.st.2
 have hsl := ho.stl
 have k1 := (setM (n := o.nm) (st := o.st) h.m hst (by omega))
 have k2 := (setR (n := o.nm) (st := o.st) h.r h.ok hst (by omega))
 refine CT.enterS mixed comp8 (Nat.le_of_ble_eq_true rfl) ?_
 repeat' (first|(refine Dw.callM rfl k1 (.cons (.there (.here)) (.nil)) ?_; rintro _ _ ⟨rfl, c', hc', rfl⟩; refine yO ?_)|(refine Dw.callM rfl k2 (.cons (.there (.there (.here))) (.nil)) ?_; rintro _ _ ⟨rfl, d', hd', rfl⟩; refine yO ?_)|intro _|refine yS ?_|(apply YB.mk<;>intro hc)|(apply YA.mk;intro cv hv)|(refine yT ?_ ?_<;>(intro e;(try simp only [nbT,nbF] at e);subst e;try contradiction)))
 refine yX ?_
 exact ⟨_, _, (.cons (.there (.here)) (.cons (.here) (.cons (.there (.here)) (.nil)))), b, (mSetS s o.nm o.st (Q.rightB o.st)).1, P, c', d', rfl, ⟨hc', hd', h.ok.setS, nm_set h.nm⟩, by rw [mSetS_U]; omega, rfl⟩
theorem does8_2 (h : PlK b r s P c d) (ho : OkO o) (hk : o.kind = 2) : CT Try.prog true 8 [mP b, rP r, .agg (opR o)] [c, d, P] (DoneP r s) := by
 have k1 := (purgeM (n := o.nm) h.m h.ok)
 have k2 := (purgeR (n := o.nm) h.r h.ok)
 refine CT.enterS mixed comp8 (Nat.le_of_ble_eq_true rfl) ?_
 repeat' (first|(refine Dw.callM rfl k1 (.cons (.there (.here)) (.nil)) ?_; rintro _ _ ⟨rfl, c', hc', rfl⟩; refine yO ?_)|(refine Dw.callM rfl k2 (.cons (.there (.there (.here))) (.nil)) ?_; rintro _ _ ⟨rfl, d', hd', rfl⟩; refine yO ?_)|intro _|refine yS ?_|(apply YB.mk<;>intro hc)|(apply YA.mk;intro cv hv)|(refine yT ?_ ?_<;>(intro e;(try simp only [nbT,nbF] at e);subst e;try contradiction)))
 refine yX ?_
 exact ⟨_, _, (.cons (.there (.here)) (.cons (.here) (.cons (.there (.here)) (.nil)))), b, (mPurge s o.nm).1, P, c', d', rfl, ⟨hc', hd', h.ok.purge, nm_purge h.nm⟩, by rw [mPurge_U]; omega, rfl⟩
theorem does8_4 (h : PlK b r s P c d) (ho : OkO o) (hk : o.kind = 4) : CT Try.prog true 8 [mP b, rP r, .agg (opR o)] [c, d, P] (DoneP r s) := by
 have k1 := (findM (n := o.nm) (fn := o.fn) (pr := o.n) h.m h.ok).up (nd := true)
 have k2 := (findR24 (n := o.nm) (fn := o.fn) (pr := o.n) h.r h.ok).up (nd := true)
 have e0 : aeq (.flat false [.b]) (.bool true) (.bool true) = some true := rfl
 have e1 : aeq (.flat false [.b]) (.bool false) (.bool false) = some true := rfl
 refine CT.enterS mixed comp8 (Nat.le_of_ble_eq_true rfl) ?_
 cases hf : mFind s o.nm o.fn o.n with
 | none =>
  rw [hf] at k1 k2
  simp only [findR] at k1 k2
  repeat' (first|(refine Rg.callM rfl k1 (.cons (.there (.here)) (.cons (.there (.there (.here))) (.nil))) ?_; rintro _ _ ⟨rfl, rfl⟩)|(refine Rg.callM rfl k2 (.cons (.there (.there (.there (.here)))) (.nil)) ?_; rintro _ _ ⟨rfl, rfl⟩)|intro _|refine yS ?_|(apply YB.mk<;>intro hc)|(apply YA.mk;intro cv hv)|(refine yT ?_ ?_<;>(intro e;(try simp only [nbT,nbF] at e);subst e;try contradiction)))
  refine yX ?_
  exact ⟨_, _, (.cons (.there (.here)) (.cons (.here) (.cons (.here) (.nil)))), b, s, P, c, d, rfl, h, by omega, rfl⟩
 | some p =>
  obtain ⟨x, y⟩ := p
  rw [hf] at k1 k2
  simp only [findR] at k1 k2
  repeat' (first|(refine Rg.callM rfl k1 (.cons (.there (.here)) (.cons (.there (.there (.here))) (.nil))) ?_; rintro _ _ ⟨rfl, rfl⟩)|(refine Rg.callM rfl k2 (.cons (.there (.there (.there (.here)))) (.nil)) ?_; rintro _ _ ⟨rfl, rfl⟩)|intro _|refine yS ?_|(apply YB.mk<;>intro hc)|(apply YA.mk;intro cv hv)|(refine yT ?_ ?_<;>(intro e;(try simp only [nbT,nbF] at e);subst e;try contradiction)))
  refine yX ?_
  exact ⟨_, _, (.cons (.there (.here)) (.cons (.here) (.cons (.here) (.nil)))), b, s, P, c, d, rfl, h, by omega, rfl⟩
end
end Go.Proofs.YtlimjjilakldgaaGreat
namespace Go.Proofs.YtlimjjilakldgaaGreat
open Go Go.Abs
attribute [local irreducible] Cmp Rg Dw Cd Lp Ev Rdk CT Upd InK
theorem SameP.symm {p q : Proto} (h : SameP p q) : SameP q p := ⟨h.1.symm, h.2.1.symm, h.2.2.1.symm, h.2.2.2.1.symm, h.2.2.2.2.1.symm, h.2.2.2.2.2.symm⟩
theorem SamePs.symm {l m : List Proto} (h : SamePs l m) : SamePs m l := by
 induction h with
 | nil => exact .nil
 | cons h1 _ ih => exact .cons h1.symm ih
theorem SameU.symm {u v : Unt} (h : SameU u v) : SameU v u := ⟨h.name.symm, h.version.symm, h.uses.symm, h.funs.symm, h.ps.symm⟩
section
variable {b r : Nat} {s : MS} {P c d : Chk} {o : OpM}
theorem regs55 {b12 id g n : Nat} {A B : Chk} {u : Unt} {z0 : AV} {Q : AX → SL → Mem → Prop} (hv : u.protosV = .slc id g 0 n n 6) (hn : n ≤ 100000)
  (hend : ∀ l' K, Sub2 [(0, z0), (16, .bool true)] l' → Q (.ext 1) l' ([bU b12 u, K])) :
  ∀ (k i : Nat) (rows : List (List AV)), rows.length = n → (∀ r, r ∈ rows → r.length = 6) → n < i + k → i ≤ n →
   Lp Try.prog true b8_0 k [(0, z0), (12, .ptr b12 0 0 5), (16, .bool true), (17, .int .i64 (.ofNat i))] [bU b12 u, A ++ (id, .cells rows.flatten g g true) :: B] Q := by
 intro k
 induction k with
 | zero => intro i rows h1 h2; omega
 | succ k ih =>
  intro i rows hl hr h1 h2
  refine Lp.round ?_
  obtain ⟨nm, ver, usesV, uses, funs, protosV, protos⟩ := u
  simp only at hv
  subst hv
  by_cases hi : i < n
  ·obtain ⟨x, hx⟩ : ∃ x, rows[i]? = some x := ⟨_, List.getElem?_eq_getElem (by omega)⟩
   have q1 := iadr_slc (sz := 6) (b := id) (g := g) (off := 0) (len := n) (cap := n) (i := i) (k := .i64) hi
   have hfl := (flatten_at (sz := 6) hr hx).2
   repeat' (first|intro _|refine yS ?_|(apply YB.mk<;>intro hc)|(apply YA.mk;intro cv hv)|(refine yT ?_ ?_<;>(intro e;(try simp only [nbT,nbF] at e);subst e;try contradiction)))
   refine Rg.e (Ef.store1 rfl rfl ⟨rfl, rfl⟩ (.there Upd.chunk) (by omega)) ?_
   rintro _ _ ⟨rfl, rfl⟩
   rw [setSeg_cell (j := 2) hr hx (by omega)]
   repeat' (first|intro _|refine yS ?_|(apply YB.mk<;>intro hc)|(apply YA.mk;intro cv hv)|(refine yT ?_ ?_<;>(intro e;(try simp only [nbT,nbF] at e);subst e;try contradiction)))
   refine Lp.weak (by exact ⟨rfl, rfl, rfl, rfl, trivial⟩) (ih (i + 1) _ (by rw [List.length_set]; exact hl) ?_ (by omega) (by omega))
   intro r hm
   rcases List.mem_or_eq_of_mem_set hm with h | h
   ·exact hr r h
   ·rw [h, List.length_set]; exact hr x (List.mem_iff_getElem?.2 ⟨_, hx⟩)
  ·obtain rfl : i = n := by omega
   repeat' (first|intro _|refine yS ?_|(apply YB.mk<;>intro hc)|(apply YA.mk;intro cv hv)|(refine yT ?_ ?_<;>(intro e;(try simp only [nbT,nbF] at e);subst e;try contradiction)))
   exact hend _ _ ⟨rfl, rfl, trivial⟩
theorem regs0 {b12 : Nat} {u : Unt} {z0 : AV} {Q : AX → SL → Mem → Prop} (hv : u.protosV = .nilslc)
  (hend : ∀ l', Sub2 [(0, z0), (16, .bool true)] l' → Q (.ext 1) l' [bU b12 u]) :
   Lp Try.prog true b8_0 1 [(0, z0), (12, .ptr b12 0 0 5), (16, .bool true), (17, .int .i64 (.ofNat 0))] [bU b12 u] Q := by
 refine Lp.round ?_
 obtain ⟨nm, ver, usesV, uses, funs, protosV, protos⟩ := u
 simp only at hv
 subst hv
 repeat' (first|intro _|refine yS ?_|(apply YB.mk<;>intro hc)|(apply YA.mk;intro cv hv)|(refine yT ?_ ?_<;>(intro e;(try simp only [nbT,nbF] at e);subst e;try contradiction)))
 exact hend _ ⟨rfl, rfl, trivial⟩
abbrev uZ : Unt := ⟨[], 0, .nilslc, [], 0, .nilslc, []⟩
theorem uZ_rx : RxU [] uZ := by
 have h0 : ∀ {sz : Nat}, Rdx [] sz .nilslc [] := fun {sz} => ⟨rfl, fun i r h => by simp at h⟩
 exact ⟨h0, h0, fun p hp => by cases hp⟩
theorem uZ_sml : Sml uZ := ⟨Nat.zero_le _, Nat.zero_le _, fun p hp => by cases hp⟩
theorem mUnitZ_mem {i : Int} {u : Unt} (h : mUnitZ s i = some u) : u ∈ s.U := by
 cases i with
 | negSucc m => cases h
 | ofNat m =>
  simp only [mUnitZ, mUnit] at h
  split at h
  ·exact List.mem_iff_getElem?.2 ⟨_, h⟩
  ·cases h
theorem does8_3 (h : PlK b r s P c d) (ho : OkO o) (hk : o.kind = 3) : CT Try.prog true 8 [mP b, rP r, .agg (opR o)] [c, d, P] (DoneP r s) := by
 have k1 := (unitM (i := o.n) h.m h.ok).up (nd := true)
 have k2 := (unitR21 (i := o.n) h.r h.ok).up (nd := true)
 have e0 : aeq (.flat false [.b]) (.bool true) (.bool true) = some true := rfl
 have e1 : aeq (.flat false [.b]) (.bool false) (.bool false) = some true := rfl
 refine CT.enterS mixed comp8 (Nat.le_of_ble_eq_true rfl) ?_
 cases hf : mUnitZ s o.n with
 | none =>
  rw [hf] at k1 k2
  simp only [unA] at k1 k2
  have k3 := (same22 (u := uZ) (v := uZ) uZ_rx uZ_rx ⟨rfl, rfl, rfl, rfl, .nil⟩ uZ_sml).up (nd := true)
  have k4 : CT Try.prog true 22 [.agg (unitR uZ), .agg (unitR uZ)] [] fun w K' => w = .bool true ∧ K' = [] := CT.re (CT.perm (K2 := [[]]) (by simp) k3) (by rintro v K' ⟨rfl, rfl⟩; exact ⟨[], by simp, rfl, rfl⟩)
  repeat' (first|(refine Rg.callM rfl k1 (.cons (.there (.here)) (.cons (.there (.there (.here))) (.nil))) ?_; rintro _ _ ⟨rfl, rfl⟩)|(refine Rg.callM rfl k2 (.cons (.there (.there (.there (.there (.here))))) (.nil)) ?_; rintro _ _ ⟨rfl, rfl⟩)|(refine Rg.callM rfl k4 .nil ?_; rintro _ _ ⟨rfl, rfl⟩)|intro _|refine yS ?_|(apply YB.mk<;>intro hc)|(apply YA.mk;intro cv hv)|(refine yT ?_ ?_<;>(intro e;(try simp only [nbT,nbF] at e);subst e;try contradiction)))
  rename_i b5 b12 b14
  refine Cd.weak (l2 := [(0, mP b), (12, .ptr b12 0 0 5), (16, .bool true), (17, .int .i64 (.ofNat 0))]) ⟨rfl, rfl, rfl, rfl, trivial⟩ ?_
  refine Cd.loop (k := 1) (Lp.fr (m := [bU b12 uZ]) (.cons (.there (.there (.here))) (.nil)) (regs0 rfl fun l' hs => ?_))
  show Cd _ _ _ _ _ _
  refine Cd.weak hs ?_
  repeat' (first|intro _|refine yS ?_|(apply YB.mk<;>intro hc)|(apply YA.mk;intro cv hv)|(refine yT ?_ ?_<;>(intro e;(try simp only [nbT,nbF] at e);subst e;try contradiction)))
  refine yX ?_
  exact ⟨_, _, (.cons (.there (.there (.there (.here)))) (.cons (.there (.there (.here))) (.cons (.there (.there (.here))) (.nil)))), b, s, P, c, d, rfl, h, by omega, rfl⟩
 | some u =>
  rw [hf] at k1 k2
  simp only [unA] at k1 k2
  obtain ⟨hok, hck⟩ := h.ok.chk u (mUnitZ_mem hf)
  have hsm := unit_sml (check_unit hck)
  have k3 : ∀ {Q : Chk} {u2 : Unt}, MemU Q u2 → SameU u u2 → _ := fun {Q u2} hQ hsu => (same22 (P := Q) (u := u2) (v := u) hQ.rx hok.rx hsu.symm (hsu.sml hsm)).up (nd := true)
  repeat' (first|(refine Rg.callM rfl k1 (.cons (.there (.here)) (.cons (.there (.there (.here))) (.nil))) ?_; rintro _ _ ⟨u2, Q, rfl, hQ, hsu, rfl⟩)|(refine Rg.callM rfl k2 (.cons (.there (.there (.there (.there (.there (.here)))))) (.nil)) ?_; rintro _ _ ⟨rfl, rfl⟩)|(refine Rg.callM rfl (k3 hQ hsu) (.cons (.there (.there (.there (.there (.there (.here)))))) (.nil)) ?_; rintro _ _ ⟨rfl, rfl⟩)|intro _|refine yS ?_|(apply YB.mk<;>intro hc)|(apply YA.mk;intro cv hv)|(refine yT ?_ ?_<;>(intro e;(try simp only [nbT,nbF] at e);subst e;try contradiction)))
  rename_i b5 b12 b14
  refine Cd.weak (l2 := [(0, mP b), (12, .ptr b12 0 0 5), (16, .bool true), (17, .int .i64 (.ofNat 0))]) ⟨rfl, rfl, rfl, rfl, trivial⟩ ?_
  obtain ⟨O, hO, hOr, hOv, hOc⟩ := hQ.protos
  have hn : O.rows.length ≤ 100000 := by rw [hOr, List.length_map]; exact (hsu.sml hsm).protos
  obtain ⟨o', rows⟩ := O
  cases o' with
  | none =>
   refine Cd.loop (k := 1) (Lp.fr (m := [bU b12 u2]) (.cons (.there (.there (.there (.here)))) (.nil)) (regs0 hOv fun l' hs => ?_))
   show Cd _ _ _ _ _ _
   refine Cd.weak hs ?_
   repeat' (first|intro _|refine yS ?_|(apply YB.mk<;>intro hc)|(apply YA.mk;intro cv hv)|(refine yT ?_ ?_<;>(intro e;(try simp only [nbT,nbF] at e);subst e;try contradiction)))
   refine yX ?_
   exact ⟨_, _, (.cons (.there (.there (.there (.there (.here))))) (.cons (.there (.there (.there (.here)))) (.cons (.there (.there (.there (.here)))) (.nil)))), b, s, P, c, d, rfl, h, by omega, rfl⟩
  | some p =>
   obtain ⟨id, g⟩ := p
   obtain ⟨A, B, rfl⟩ := List.append_of_mem (hOc id _ (by simp [OS.c]; rfl))
   refine Cd.loop (k := rows.length + 1) (Lp.fr (m := [bU b12 u2, A ++ (id, .cells rows.flatten g g true) :: B]) (.cons (.there (.there (.there (.here)))) (.cons (.here) (.nil))) (regs55 hOv hn (fun l' K hs => ?_) (rows.length + 1) 0 rows rfl hO.row (by show rows.length < 0 + (rows.length + 1); omega) (Nat.zero_le _)))
   show Cd _ _ _ _ _ _
   refine Cd.weak hs ?_
   repeat' (first|intro _|refine yS ?_|(apply YB.mk<;>intro hc)|(apply YA.mk;intro cv hv)|(refine yT ?_ ?_<;>(intro e;(try simp only [nbT,nbF] at e);subst e;try contradiction)))
   refine yX ?_
   exact ⟨_, _, (.cons (.there (.there (.there (.there (.here))))) (.cons (.there (.there (.there (.here)))) (.cons (.there (.there (.there (.here)))) (.nil)))), b, s, P, c, d, rfl, h, by omega, rfl⟩
end
end Go.Proofs.YtlimjjilakldgaaGreat
namespace Go.Proofs.YtlimjjilakldgaaGreat
open Go Go.Abs
attribute [local irreducible] Cmp Rg Dw Cd Lp Ev Rdk CT Upd InK
theorem txt_left : Txt [108, 101, 102, 116] := ⟨by decide, by decide⟩
section
variable {b r : Nat} {s : MS} {P c d : Chk} {o : OpM}
theorem does8_5 (h : PlK b r s P c d) (ho : OkO o) (hk : o.kind = 5) (hU : s.U.length < 1000) : CT Try.prog true 8 [mP b, rP r, .agg (opR o)] [c, d, P] (DoneP r s) := by
 have k1 := copyM h.m h.ok
 have k2 : ∀ {b' : Nat} {c' : Chk}, HM b' P s c' → _ := fun {b' c'} hc => (addM' (b := b') (d := c') (u := o.u) hc h.ok ho.u (by omega)).up (nd := true)
 have k3 := (addR (u := o.u) h.r h.ok ho.u (by omega) h.nm).up (nd := true)
 have hok := h.ok.add ho.u
 have k4 : ∀ {b' : Nat} {P' c' : Chk}, HM b' P' (mAdd s o.u).1 c' → _ := fun {b' P' c'} hc => takeM (b2 := b') h.m hc hok
 have k5 : ∀ {b' : Nat} {P' c' : Chk}, HM b' P' (mAdd s o.u).1 c' → _ := fun {b' P' c'} hc => (purgeM (b := b') (n := o.nm) hc hok).up (nd := true)
 refine CT.enterS mixed comp8 (Nat.le_of_ble_eq_true rfl) ?_
 repeat' (first|(refine Rg.callM rfl k1 (.cons (.there (.here)) (.nil)) ?_; rintro _ _ ⟨b', c', rfl, hc', rfl⟩)|intro _|refine yS ?_|(apply YB.mk<;>intro hc)|(apply YA.mk;intro cv hv)|(refine yT ?_ ?_<;>(intro e;(try simp only [nbT,nbF] at e);subst e;try contradiction)))
 refine Rg.r (v := .agg (unitR o.u)) rfl rfl (Rdk.bn (off := 1) (n := 5) (.there (.there (.here))) rfl) ?_
 repeat' (first|(refine Rg.callM rfl (k2 hc') (.cons (.there (.here)) (.cons (.there (.there (.there (.here)))) (.nil))) ?_; rintro _ _ ⟨rfl, c2, P2, hP2, hc2, rfl⟩)|intro _|refine yS ?_|(apply YB.mk<;>intro hc)|(apply YA.mk;intro cv hv)|(refine yT ?_ ?_<;>(intro e;(try simp only [nbT,nbF] at e);subst e;try contradiction)))
 refine Rg.r (v := .agg (unitR o.u)) rfl rfl (Rdk.bn (off := 1) (n := 5) (.there (.there (.there (.here)))) rfl) ?_
 repeat' (first|(refine Rg.callM rfl k3 (.cons (.there (.there (.there (.there (.here))))) (.nil)) ?_; rintro _ _ ⟨rfl, d', hd', rfl⟩)|intro _|refine yS ?_|(apply YB.mk<;>intro hc)|(apply YA.mk;intro cv hv)|(refine yT ?_ ?_<;>(intro e;(try simp only [nbT,nbF] at e);subst e;try contradiction)))
 refine Rg.callM rfl (k4 hc2) (.cons (.there (.there (.there (.here)))) (.cons (.there (.here)) (.nil))) ?_
 rintro _ _ ⟨rfl, c3, hc3, rfl⟩
 repeat' (first|(refine Rg.callM rfl (k5 hc2) (.cons (.there (.here)) (.nil)) ?_; rintro _ _ ⟨rfl, c4, hc4, rfl⟩)|intro _|refine yS ?_|(apply YB.mk<;>intro hc)|(apply YA.mk;intro cv hv)|(refine yT ?_ ?_<;>(intro e;(try simp only [nbT,nbF] at e);subst e;try contradiction)))
 refine yX ?_
 exact ⟨_, _, (.cons (.there (.here)) (.cons (.there (.here)) (.cons (.there (.here)) (.nil)))), b, (mAdd s o.u).1, P2, c3, d', rfl, ⟨hc3, hd', hok, nm_add h.nm⟩, mAdd_len, rfl⟩
theorem does8_6 (h : PlK b r s P c d) (ho : OkO o) (hk : ∀ i : Nat, i ≤ 5 → o.kind ≠ (i : Int)) (hU : s.U.length < 1000) : CT Try.prog true 8 [mP b, rP r, .agg (opR o)] [c, d, P] (DoneP r s) := by
 have k1 := copyM h.m h.ok
 have k2 := (purgeM (n := o.nm) h.m h.ok).up (nd := true)
 have k3 := (simple27s (nm := o.nm) (ver := 2147483647) (fn := [108, 101, 102, 116])).up (nd := true)
 have k4 : ∀ {c' : Chk} {p q : Nat}, HM b P (mPurge s o.nm).1 c' → _ := fun {c' p q} hc => (addS (nm := o.nm) (ver := 2147483647) (fn := [108, 101, 102, 116]) (p := p) (c := q) hc h.ok.purge ho.nm txt_left (by rw [mPurge_U]; omega)).up (nd := true)
 have h0 := hk 0 (by omega)
 have h1 := hk 1 (by omega)
 have h2 := hk 2 (by omega)
 have h3 := hk 3 (by omega)
 have h4 := hk 4 (by omega)
 have h5 := hk 5 (by omega)
 clear hk
 refine CT.enterS mixed comp8 (Nat.le_of_ble_eq_true rfl) ?_
 repeat' (first|(refine Rg.callM rfl k1 (.cons (.there (.here)) (.nil)) ?_; rintro _ _ ⟨b', c', rfl, hc', rfl⟩)|(refine Rg.callM rfl k2 (.cons (.here) (.nil)) ?_; rintro _ _ ⟨rfl, c2, hc2, rfl⟩)|(refine Rg.callM rfl k3 .nil ?_; rintro _ _ ⟨p, q, rfl, rfl⟩)|intro _|refine yS ?_|(apply YB.mk<;>intro hc)|(apply YA.mk;intro cv hv)|(refine yT ?_ ?_<;>(intro e;(try simp only [nbT,nbF] at e);subst e;try contradiction)))
 refine Rg.callM rfl (k4 hc2) (.cons (.there (.there (.here))) (.cons (.here) (.cons (.here) (.nil)))) ?_
 rintro _ _ ⟨⟨x, y, rfl⟩, J, rfl⟩
 repeat' (first|intro _|refine yS ?_|(apply YB.mk<;>intro hc)|(apply YA.mk;intro cv hv)|(refine yT ?_ ?_<;>(intro e;(try simp only [nbT,nbF] at e);subst e;try contradiction)))
 refine yX ?_
 exact ⟨_, _, (.cons (.there (.here)) (.cons (.there (.there (.here))) (.cons (.there (.there (.here))) (.nil)))), b', s, P, c', d, rfl, ⟨hc', h.r, h.ok, h.nm⟩, by omega, rfl⟩
theorem does8 (h : PlK b r s P c d) (ho : OkO o) (hU : s.U.length < 1000) : CT Try.prog true 8 [mP b, rP r, .agg (opR o)] [c, d, P] (DoneP r s) := by
 by_cases h0 : o.kind = 0
 ·exact does8_0 h ho h0 hU
 by_cases h1 : o.kind = 1
 ·exact does8_1 h ho h1
 by_cases h2 : o.kind = 2
 ·exact does8_2 h ho h2
 by_cases h3 : o.kind = 3
 ·exact does8_3 h ho h3
 by_cases h4 : o.kind = 4
 ·exact does8_4 h ho h4
 by_cases h5 : o.kind = 5
 ·exact does8_5 h ho h5 hU
 ·refine does8_6 h ho (fun i hi => ?_) hU
  intro e
  have : i = 0 ∨ i = 1 ∨ i = 2 ∨ i = 3 ∨ i = 4 ∨ i = 5 := by omega
  rcases this with rfl | rfl | rfl | rfl | rfl | rfl
  ·exact h0 e
  ·exact h1 e
  ·exact h2 e
  ·exact h3 e
  ·exact h4 e
  ·exact h5 e
end
end Go.Proofs.YtlimjjilakldgaaGreat
