/- The document's heap in memory: its tables are found, read, counted, their keys told. -/
import Derived.Test.YtlflpjjmkigepaaPlnC
set_option autoImplicit false
set_option maxRecDepth 100000
set_option maxHeartbeats 4000000
set_option linter.unusedVariables false
set_option linter.unusedSimpArgs false
namespace Go.Proofs.Ytlflpjjmkigepaa
open Go Go.Abs
attribute [local irreducible] Cmp Rg Dw Cd Lp Ev Rdk CT Upd InK
theorem _root_.Go.Abs.row_part {sz i o n : Nat} {rows : List (List AV)} {r cs : List AV} (h : ∀ r, r ∈ rows → r.length = sz) (hi : rows[i]? = some r) (hs : seg r o n = some cs) : seg rows.flatten (0 + i * sz + o) n = some cs := by
  obtain ⟨h1, h2⟩ := flatten_at h hi
  have hr : r.length = sz := h r (List.mem_of_getElem? hi)
  simp only [seg] at hs ⊢
  cases hb : Nat.ble (o + n) r.length with
  | false => rw [hb] at hs; cases hs
  | true =>
    rw [hb, cond_true] at hs
    have hle := Nat.le_of_ble_eq_true hb
    rw [Nat.zero_add, Nat.ble_eq_true_of_le (by rw [Nat.add_mul] at h2; omega), cond_true, ← hs, ← h1, ← List.drop_drop, List.drop_take, List.take_take, Nat.min_eq_left (by omega)]
theorem _root_.Go.Abs.Rdk.part {K : Mem} {id g i o n sz : Nat} {gr : Bool} {rows : List (List AV)} {r cs : List AV} {y : AV} (h : InK K id (.cells rows.flatten g g gr)) (hr : ∀ r, r ∈ rows → r.length = sz) (hi : rows[i]? = some r) (hs : seg r o n = some cs) : Rdk K (.loadn n) (.ptr id g (0 + i * sz + o) n) y (.agg cs) :=
  Rdk.ldn h (Nat.le_refl _) (Nat.le_refl _) (Nat.le_refl _) (row_part hr hi hs)
abbrev rB (r : Nat) (vt vf vc : AV) (n room : Nat) : Chk := [(r, .cells [vt, vf, vc, .int .i64 (.ofNat n), .int .i64 (.ofNat room)] 0 0 false)]
abbrev rP (r : Nat) : AV := .ptr r 0 0 5
abbrev tP (m : Nat) : AV := .ptr m 0 0 1
abbrev tO (m : Nat) (v : AV) : Chk := [(m, .cells [v] 0 0 false)]
abbrev bV (b : Nat) (v : Val) : Chk := [(b, .cells (valR v) 0 0 false)]
def pairR (e : KV) : List AV := valR e.1 ++ valR e.2
theorem pairRows (L : List KV) : ∀ r, r ∈ L.map pairR → r.length = 6 := by
  intro r hr
  obtain ⟨v, _, rfl⟩ := List.mem_map.1 hr
  rfl
section
variable {r n room : Nat} {vf vc : AV} {T : OS} {t k v : Val}
theorem table57F (hT : T.ok 1) (h : ¬ isT T t) : CT Try.prog false 51 [rP r, valA t] [rB r (T.v 1) vf vc n room] fun w K' => w = .nilptr ∧ K' = [rB r (T.v 1) vf vc n room] := by
  refine CT.enterS mixed comp51 (Nat.le_of_ble_eq_true rfl) ?_
  have hl := hT.len
  have h' : t.k ≠ 3 ∨ t.n < 0 ∨ (T.rows.length : Int) ≤ t.n := by unfold isT at h; omega
  repeat' (first|refine zz ?_|(refine zw ?_;refine And.intro ?_ ?_<;>intro hc)|(refine zv ?_;intro cv hv)|(refine za ?_;intro _)|refine zc ?_|(refine zd ?_;refine And.intro ?_ ?_<;>(intro e;(try simp only [Bool.not_eq_true',Bool.not_eq_false'] at e);subst e;try contradiction)))
  all_goals first | ((first|refine ⟨.inr rfl,_,.t rfl .nil,?_⟩|refine ⟨.inr rfl,_,.t rfl (.t rfl .nil),?_⟩|refine ⟨.inr rfl,_,.t rfl (.t rfl (.t rfl .nil)),?_⟩|refine ⟨.inr rfl,_,.nil,?_⟩|refine ⟨.inl rfl,_,.t rfl .nil,?_⟩|refine ⟨.inl rfl,_,.nil,?_⟩|refine ⟨.inr rfl,_,.cn rfl (by exact zN) .nil,?_⟩|refine ⟨.inr rfl,_,.cn rfl (by exact zN) (.t rfl .nil),?_⟩); exact ⟨_, _, .cons (.there .here) .nil, rfl, rfl⟩) | (exfalso; omega)
theorem table57 {i m : Nat} {s : List Nat} (hT : T.ok 1) (hi : T.rows[i]? = some [tP m]) : CT Try.prog false 51 [rP r, valA ⟨3, (i : Int), s⟩] [rB r (T.v 1) vf vc n room, T.c] fun w K' => w = tP m ∧ K' = [rB r (T.v 1) vf vc n room, T.c] := by
  refine CT.enterS mixed comp51 (Nat.le_of_ble_eq_true rfl) ?_
  obtain ⟨id, g, e⟩ := hT.at hi
  have hl := hT.len
  have hrow := hT.row
  have hil := (List.getElem?_eq_some_iff.1 hi).1
  generalize T.rows = rows at *
  subst e
  have q1 := iadr_slc (sz := 1) (b := id) (g := g) (off := 0) (len := rows.length) (cap := rows.length) (i := i) (k := .i64) hil
  repeat' (first|refine zz ?_|(refine zw ?_;refine And.intro ?_ ?_<;>intro hc)|(refine zv ?_;intro cv hv)|(refine za ?_;intro _)|refine zc ?_|(refine zd ?_;refine And.intro ?_ ?_<;>(intro e;(try simp only [Bool.not_eq_true',Bool.not_eq_false'] at e);subst e;try contradiction)))
  refine Dw.r rfl rfl (Rdk.cel0 (i := i) (rows := rows) (by repeat (first | exact InK.here | refine InK.there ?_)) hrow hi rfl) ?_ ?_
  · repeat (first | exact trivial | refine And.intro (Or.inl rfl) ?_ | (refine And.intro (Or.inr ?_) ?_; (focus (first | exact Rdk.i1 | assumption | (refine Rdk.in ?_; first | assumption | exact rfl) | (refine Rdk.b1 (cs := ?_) ?_ ?_; rotate_left; (repeat (first | exact InK.here | refine InK.there ?_)); exact rfl) | (refine Rdk.bw ?_ ?_; (repeat (first | exact InK.here | refine InK.there ?_)); first | assumption | exact rfl) | (refine Rdk.bw (cs := ?_) ?_ ?_; rotate_left; (repeat (first | exact InK.here | refine InK.there ?_)); first | assumption | exact rfl) | (refine Rdk.bn ?_ ?_; (repeat (first | exact InK.here | refine InK.there ?_)); exact rfl) | (refine Rdk.bn (cs := ?_) ?_ ?_; rotate_left; (repeat (first | exact InK.here | refine InK.there ?_)); exact rfl)))))
  repeat' (first|refine zz ?_|(refine zw ?_;refine And.intro ?_ ?_<;>intro hc)|(refine zv ?_;intro cv hv)|(refine za ?_;intro _)|refine zc ?_|(refine zd ?_;refine And.intro ?_ ?_<;>(intro e;(try simp only [Bool.not_eq_true',Bool.not_eq_false'] at e);subst e;try contradiction)))
  (first|refine ⟨.inr rfl,_,.t rfl .nil,?_⟩|refine ⟨.inr rfl,_,.t rfl (.t rfl .nil),?_⟩|refine ⟨.inr rfl,_,.t rfl (.t rfl (.t rfl .nil)),?_⟩|refine ⟨.inr rfl,_,.nil,?_⟩|refine ⟨.inl rfl,_,.t rfl .nil,?_⟩|refine ⟨.inl rfl,_,.nil,?_⟩|refine ⟨.inr rfl,_,.cn rfl (by exact zN) .nil,?_⟩|refine ⟨.inr rfl,_,.cn rfl (by exact zN) (.t rfl .nil),?_⟩)
  exact ⟨_, _, .cons (.there .here) (.cons (.there .here) .nil), rfl, rfl⟩
theorem len46F (hT : T.ok 1) (h : ¬ isT T t) : CT Try.prog false 58 [rP r, valA t] [rB r (T.v 1) vf vc n room] fun w K' => w = .tup [.int .i64 (.ofNat 0), .int .i64 (.ofNat 1)] ∧ K' = [rB r (T.v 1) vf vc n room] := by
  have k57 := table57F (r := r) (n := n) (room := room) (vf := vf) (vc := vc) hT h
  refine CT.enterS mixed comp58 (Nat.le_of_ble_eq_true rfl) ?_
  repeat' (first|(refine Rg.callM rfl k57 (.cons (.there .here) .nil) ?_; rintro _ _ ⟨rfl, rfl⟩)|refine zz ?_|(refine zw ?_;refine And.intro ?_ ?_<;>intro hc)|(refine zv ?_;intro cv hv)|(refine za ?_;intro _)|refine zc ?_|(refine zd ?_;refine And.intro ?_ ?_<;>(intro e;(try simp only [Bool.not_eq_true',Bool.not_eq_false'] at e);subst e;try contradiction)))
  (first|refine ⟨.inr rfl,_,.t rfl .nil,?_⟩|refine ⟨.inr rfl,_,.t rfl (.t rfl .nil),?_⟩|refine ⟨.inr rfl,_,.t rfl (.t rfl (.t rfl .nil)),?_⟩|refine ⟨.inr rfl,_,.nil,?_⟩|refine ⟨.inl rfl,_,.t rfl .nil,?_⟩|refine ⟨.inl rfl,_,.nil,?_⟩|refine ⟨.inr rfl,_,.cn rfl (by exact zN) .nil,?_⟩|refine ⟨.inr rfl,_,.cn rfl (by exact zN) (.t rfl .nil),?_⟩)
  exact ⟨_, _, .cons .here .nil, rfl, rfl⟩
theorem get45F (hT : T.ok 1) (h : ¬ isT T t) : CT Try.prog false 28 [rP r, valA t, valA k] [rB r (T.v 1) vf vc n room] fun w K' => w = .tup [valA v0, .int .i64 (.ofNat 1)] ∧ K' = [rB r (T.v 1) vf vc n room] := by
  have k57 := table57F (r := r) (n := n) (room := room) (vf := vf) (vc := vc) hT h
  refine CT.enterS mixed comp28 (Nat.le_of_ble_eq_true rfl) ?_
  repeat' (first|(refine Rg.callM rfl k57 (.cons (.there (.there (.there .here))) .nil) ?_; rintro _ _ ⟨rfl, rfl⟩)|refine zz ?_|(refine zw ?_;refine And.intro ?_ ?_<;>intro hc)|(refine zv ?_;intro cv hv)|(refine za ?_;intro _)|refine zc ?_|(refine zd ?_;refine And.intro ?_ ?_<;>(intro e;(try simp only [Bool.not_eq_true',Bool.not_eq_false'] at e);subst e;try contradiction)))
  (first|refine ⟨.inr rfl,_,.t rfl .nil,?_⟩|refine ⟨.inr rfl,_,.t rfl (.t rfl .nil),?_⟩|refine ⟨.inr rfl,_,.t rfl (.t rfl (.t rfl .nil)),?_⟩|refine ⟨.inr rfl,_,.nil,?_⟩|refine ⟨.inl rfl,_,.t rfl .nil,?_⟩|refine ⟨.inl rfl,_,.nil,?_⟩|refine ⟨.inr rfl,_,.cn rfl (by exact zN) .nil,?_⟩|refine ⟨.inr rfl,_,.cn rfl (by exact zN) (.t rfl .nil),?_⟩)
  exact ⟨_, _, .cons .here .nil, rfl, rfl⟩
theorem put44F (hT : T.ok 1) (h : ¬ isT T t) : CT Try.prog false 34 [rP r, valA t, valA k, valA v] [rB r (T.v 1) vf vc n room] fun w K' => w = .int .i64 (.ofNat 1) ∧ K' = [rB r (T.v 1) vf vc n room] := by
  have k57 := table57F (r := r) (n := n) (room := room) (vf := vf) (vc := vc) hT h
  refine CT.enterS mixed comp34 (Nat.le_of_ble_eq_true rfl) ?_
  repeat' (first|(refine Rg.callM rfl k57 (.cons (.there (.there (.there .here))) .nil) ?_; rintro _ _ ⟨rfl, rfl⟩)|refine zz ?_|(refine zw ?_;refine And.intro ?_ ?_<;>intro hc)|(refine zv ?_;intro cv hv)|(refine za ?_;intro _)|refine zc ?_|(refine zd ?_;refine And.intro ?_ ?_<;>(intro e;(try simp only [Bool.not_eq_true',Bool.not_eq_false'] at e);subst e;try contradiction)))
  (first|refine ⟨.inr rfl,_,.t rfl .nil,?_⟩|refine ⟨.inr rfl,_,.t rfl (.t rfl .nil),?_⟩|refine ⟨.inr rfl,_,.t rfl (.t rfl (.t rfl .nil)),?_⟩|refine ⟨.inr rfl,_,.nil,?_⟩|refine ⟨.inl rfl,_,.t rfl .nil,?_⟩|refine ⟨.inl rfl,_,.nil,?_⟩|refine ⟨.inr rfl,_,.cn rfl (by exact zN) .nil,?_⟩|refine ⟨.inr rfl,_,.cn rfl (by exact zN) (.t rfl .nil),?_⟩)
  exact ⟨_, _, .cons .here .nil, rfl, rfl⟩
theorem keys48F (hT : T.ok 1) (h : ¬ isT T t) : CT Try.prog false 26 [rP r, valA t] [rB r (T.v 1) vf vc n room] fun w K' => w = .nilslc ∧ K' = [rB r (T.v 1) vf vc n room] := by
  have k57 := table57F (r := r) (n := n) (room := room) (vf := vf) (vc := vc) hT h
  refine CT.enterS mixed comp26 (Nat.le_of_ble_eq_true rfl) ?_
  repeat' (first|(refine Rg.callM rfl k57 (.cons (.there .here) .nil) ?_; rintro _ _ ⟨rfl, rfl⟩)|refine zz ?_|(refine zw ?_;refine And.intro ?_ ?_<;>intro hc)|(refine zv ?_;intro cv hv)|(refine za ?_;intro _)|refine zc ?_|(refine zd ?_;refine And.intro ?_ ?_<;>(intro e;(try simp only [Bool.not_eq_true',Bool.not_eq_false'] at e);subst e;try contradiction)))
  refine Cd.loop (k := 1) (Lp.round ?_)
  repeat' (first|refine zz ?_|(refine zw ?_;refine And.intro ?_ ?_<;>intro hc)|(refine zv ?_;intro cv hv)|(refine za ?_;intro _)|refine zc ?_|(refine zd ?_;refine And.intro ?_ ?_<;>(intro e;(try simp only [Bool.not_eq_true',Bool.not_eq_false'] at e);subst e;try contradiction)))
  (first|refine ⟨.inr rfl,_,.t rfl .nil,?_⟩|refine ⟨.inr rfl,_,.t rfl (.t rfl .nil),?_⟩|refine ⟨.inr rfl,_,.t rfl (.t rfl (.t rfl .nil)),?_⟩|refine ⟨.inr rfl,_,.nil,?_⟩|refine ⟨.inl rfl,_,.t rfl .nil,?_⟩|refine ⟨.inl rfl,_,.nil,?_⟩|refine ⟨.inr rfl,_,.cn rfl (by exact zN) .nil,?_⟩|refine ⟨.inr rfl,_,.cn rfl (by exact zN) (.t rfl .nil),?_⟩)
  exact ⟨_, _, .cons .here .nil, rfl, rfl⟩
end
section
variable {r n room i m : Nat} {s : List Nat} {vf vc : AV} {T l : OS} {L : List KV} {k v : Val}
theorem len46 (hT : T.ok 1) (hi : T.rows[i]? = some [tP m]) (hl : l.ok 6) (hr : l.rows = L.map pairR) : CT Try.prog false 58 [rP r, valA ⟨3, (i : Int), s⟩] [rB r (T.v 1) vf vc n room, T.c, tO m (l.v 6)] fun w K' => w = .tup [.int .i64 (.ofNat L.length), .int .i64 (.ofNat 0)] ∧ K' = [rB r (T.v 1) vf vc n room, T.c, tO m (l.v 6)] := by
  have k57 := table57 (r := r) (n := n) (room := room) (vf := vf) (vc := vc) (s := s) hT hi
  have hln := hl.len
  rw [hr, List.length_map] at hln
  refine CT.enterS mixed comp58 (Nat.le_of_ble_eq_true rfl) ?_
  repeat' (first|(refine Rg.callM rfl k57 (.cons (.there .here) (.cons (.there .here) .nil)) ?_; rintro _ _ ⟨rfl, rfl⟩)|refine zz ?_|(refine zw ?_;refine And.intro ?_ ?_<;>intro hc)|(refine zv ?_;intro cv hv)|(refine za ?_;intro _)|refine zc ?_|(refine zd ?_;refine And.intro ?_ ?_<;>(intro e;(try simp only [Bool.not_eq_true',Bool.not_eq_false'] at e);subst e;try contradiction)))
  (first|refine ⟨.inr rfl,_,.t rfl .nil,?_⟩|refine ⟨.inr rfl,_,.t rfl (.t rfl .nil),?_⟩|refine ⟨.inr rfl,_,.t rfl (.t rfl (.t rfl .nil)),?_⟩|refine ⟨.inr rfl,_,.nil,?_⟩|refine ⟨.inl rfl,_,.t rfl .nil,?_⟩|refine ⟨.inl rfl,_,.nil,?_⟩|refine ⟨.inr rfl,_,.cn rfl (by exact zN) .nil,?_⟩|refine ⟨.inr rfl,_,.cn rfl (by exact zN) (.t rfl .nil),?_⟩)
  exact ⟨_, _, .cons .here (.cons .here (.cons (.there .here) .nil)), rfl, rfl⟩
theorem get45K (hT : T.ok 1) (hi : T.rows[i]? = some [tP m]) (hk : keyB k = false) : CT Try.prog false 28 [rP r, valA ⟨3, (i : Int), s⟩, valA k] [rB r (T.v 1) vf vc n room, T.c] fun w K' => w = .tup [valA v0, .int .i64 (.ofNat 4)] ∧ K' = [rB r (T.v 1) vf vc n room, T.c] := by
  have k57 := table57 (r := r) (n := n) (room := room) (vf := vf) (vc := vc) (s := s) hT hi
  have k16 := key16 (k := k)
  rw [hk] at k16
  refine CT.enterS mixed comp28 (Nat.le_of_ble_eq_true rfl) ?_
  repeat' (first|(refine Rg.callM rfl k57 (.cons (.there (.there (.there .here))) (.cons (.there (.there (.there .here))) .nil)) ?_; rintro _ _ ⟨rfl, rfl⟩)|refine zz ?_|(refine zw ?_;refine And.intro ?_ ?_<;>intro hc)|(refine zv ?_;intro cv hv)|(refine za ?_;intro _)|refine zc ?_|(refine zd ?_;refine And.intro ?_ ?_<;>(intro e;(try simp only [Bool.not_eq_true',Bool.not_eq_false'] at e);subst e;try contradiction)))
  (first|refine ⟨.inr rfl,_,.t rfl .nil,?_⟩|refine ⟨.inr rfl,_,.t rfl (.t rfl .nil),?_⟩|refine ⟨.inr rfl,_,.t rfl (.t rfl (.t rfl .nil)),?_⟩|refine ⟨.inr rfl,_,.nil,?_⟩|refine ⟨.inl rfl,_,.t rfl .nil,?_⟩|refine ⟨.inl rfl,_,.nil,?_⟩|refine ⟨.inr rfl,_,.cn rfl (by exact zN) .nil,?_⟩|refine ⟨.inr rfl,_,.cn rfl (by exact zN) (.t rfl .nil),?_⟩)
  exact ⟨_, _, .cons .here (.cons .here .nil), rfl, rfl⟩
theorem put44K (hT : T.ok 1) (hi : T.rows[i]? = some [tP m]) (hk : keyB k = false) : CT Try.prog false 34 [rP r, valA ⟨3, (i : Int), s⟩, valA k, valA v] [rB r (T.v 1) vf vc n room, T.c] fun w K' => w = .int .i64 (.ofNat 4) ∧ K' = [rB r (T.v 1) vf vc n room, T.c] := by
  have k57 := table57 (r := r) (n := n) (room := room) (vf := vf) (vc := vc) (s := s) hT hi
  have k16 := key16 (k := k)
  rw [hk] at k16
  refine CT.enterS mixed comp34 (Nat.le_of_ble_eq_true rfl) ?_
  repeat' (first|(refine Rg.callM rfl k57 (.cons (.there (.there (.there .here))) (.cons (.there (.there (.there .here))) .nil)) ?_; rintro _ _ ⟨rfl, rfl⟩)|refine zz ?_|(refine zw ?_;refine And.intro ?_ ?_<;>intro hc)|(refine zv ?_;intro cv hv)|(refine za ?_;intro _)|refine zc ?_|(refine zd ?_;refine And.intro ?_ ?_<;>(intro e;(try simp only [Bool.not_eq_true',Bool.not_eq_false'] at e);subst e;try contradiction)))
  (first|refine ⟨.inr rfl,_,.t rfl .nil,?_⟩|refine ⟨.inr rfl,_,.t rfl (.t rfl .nil),?_⟩|refine ⟨.inr rfl,_,.t rfl (.t rfl (.t rfl .nil)),?_⟩|refine ⟨.inr rfl,_,.nil,?_⟩|refine ⟨.inl rfl,_,.t rfl .nil,?_⟩|refine ⟨.inl rfl,_,.nil,?_⟩|refine ⟨.inr rfl,_,.cn rfl (by exact zN) .nil,?_⟩|refine ⟨.inr rfl,_,.cn rfl (by exact zN) (.t rfl .nil),?_⟩)
  exact ⟨_, _, .cons .here (.cons .here .nil), rfl, rfl⟩
/-! The value under a key. -/
abbrev m45 (b5 b6 m : Nat) (k v : Val) (l : OS) : Mem := [bV b5 k, bV b6 v, tO m (l.v 6), l.c]
theorem get45_loop {b5 b6 : Nat} {Q : AX → SL → Mem → Prop} (hl : l.ok 6) (hr : l.rows = L.map pairR) (hll : L.length ≤ 1000000)
    (hret : ∀ l', Sub2 [(6, .ptr b6 0 0 3), (7, .int .i64 (.ofNat 0))] l' → Q .ret l' (m45 b5 b6 m k (getL k L) l))
    (hend : ∀ l', getL k L = v0 → Sub2 [(6, .ptr b6 0 0 3)] l' → Q (.ext 0) l' (m45 b5 b6 m k v0 l)) :
    ∀ (f i : Nat), L.length < i + f → i ≤ L.length → getL k (L.drop i) = getL k L → Lp Try.prog false b28_0 f [(5, .ptr b5 0 0 3), (6, .ptr b6 0 0 3), (8, tP m), (9, .int .i64 (.ofNat i))] (m45 b5 b6 m k v0 l) Q := by
  have hln := hl.len
  rw [hr, List.length_map] at hln
  intro f
  induction f with
  | zero => intro i h1 h2; omega
  | succ f ih =>
    intro i h1 h2 h3
    refine Lp.round ?_
    by_cases hi : i < L.length
    · obtain ⟨e, he⟩ : ∃ e, L[i]? = some e := ⟨_, List.getElem?_eq_getElem hi⟩
      have hrow := pairRows L
      have hri : (L.map pairR)[i]? = some (pairR e) := by rw [List.getElem?_map, he]; rfl
      obtain ⟨id, g, el⟩ := hl.at (i := i) (r := pairR e) (by rw [hr]; exact hri)
      rw [hr] at el
      subst el
      have q1 := iadr_slc (sz := 6) (b := id) (g := g) (off := 0) (len := (L.map pairR).length) (cap := (L.map pairR).length) (i := i) (k := .i64) (by rw [List.length_map]; exact hi)
      have hp := fun K h => Rdk.part (K := K) (id := id) (g := g) (gr := true) (y := .ptr id g (0 + i * 6 + 0) 3) (i := i) (o := 0) (n := 3) (cs := valR e.1) h hrow hri rfl
      have hp2 := fun K h => Rdk.part (K := K) (id := id) (g := g) (gr := true) (y := .ptr id g (0 + i * 6 + 3) 3) (i := i) (o := 3) (n := 3) (cs := valR e.2) h hrow hri rfl
      have hd : L.drop i = e :: L.drop (i + 1) := by
        rw [List.drop_eq_getElem_cons hi]
        rw [List.getElem?_eq_getElem hi] at he
        cases he
        rfl
      rw [hd] at h3
      by_cases hk : e.1 = k
      · have q2 : aeq (.flat true [.i, .i, .s]) (.agg (valR e.1)) (valA k) = some true := by
          rw [show (AV.agg (valR e.1)) = valA e.1 from rfl]
          simp only [aeq, flatVal, hk, decide_true]
        have hg : getL k L = e.2 := by rw [← h3]; simp [getL, hk]
        rw [hg] at hret
        repeat' (first|(refine Dw.r rfl rfl (hp _ (by repeat (first | exact InK.here | refine InK.there ?_))) (by repeat (first | exact trivial | refine And.intro (Or.inl rfl) ?_ | (refine And.intro (Or.inr ?_) ?_; (focus (first | exact Rdk.i1 | assumption | (refine Rdk.in ?_; first | assumption | exact rfl) | (refine Rdk.b1 (cs := ?_) ?_ ?_; rotate_left; (repeat (first | exact InK.here | refine InK.there ?_)); exact rfl) | (refine Rdk.bw ?_ ?_; (repeat (first | exact InK.here | refine InK.there ?_)); first | assumption | exact rfl) | (refine Rdk.bw (cs := ?_) ?_ ?_; rotate_left; (repeat (first | exact InK.here | refine InK.there ?_)); first | assumption | exact rfl) | (refine Rdk.bn ?_ ?_; (repeat (first | exact InK.here | refine InK.there ?_)); exact rfl) | (refine Rdk.bn (cs := ?_) ?_ ?_; rotate_left; (repeat (first | exact InK.here | refine InK.there ?_)); exact rfl)))))) ?_)|(refine Rg.r rfl rfl (hp2 _ (by repeat (first | exact InK.here | refine InK.there ?_))) ?_)|refine zz ?_|(refine zw ?_;refine And.intro ?_ ?_<;>intro hc)|(refine zv ?_;intro cv hv)|(refine za ?_;intro _)|refine zc ?_|(refine zd ?_;refine And.intro ?_ ?_<;>(intro e;(try simp only [Bool.not_eq_true',Bool.not_eq_false'] at e);subst e;try contradiction)))
        refine hret _ ⟨rfl, rfl, trivial⟩
      · have q2 : aeq (.flat true [.i, .i, .s]) (.agg (valR e.1)) (valA k) = some false := by
          rw [show (AV.agg (valR e.1)) = valA e.1 from rfl]
          simp only [aeq, flatVal, hk, decide_false]
        repeat' (first|(refine Dw.r rfl rfl (hp _ (by repeat (first | exact InK.here | refine InK.there ?_))) (by repeat (first | exact trivial | refine And.intro (Or.inl rfl) ?_ | (refine And.intro (Or.inr ?_) ?_; (focus (first | exact Rdk.i1 | assumption | (refine Rdk.in ?_; first | assumption | exact rfl) | (refine Rdk.b1 (cs := ?_) ?_ ?_; rotate_left; (repeat (first | exact InK.here | refine InK.there ?_)); exact rfl) | (refine Rdk.bw ?_ ?_; (repeat (first | exact InK.here | refine InK.there ?_)); first | assumption | exact rfl) | (refine Rdk.bw (cs := ?_) ?_ ?_; rotate_left; (repeat (first | exact InK.here | refine InK.there ?_)); first | assumption | exact rfl) | (refine Rdk.bn ?_ ?_; (repeat (first | exact InK.here | refine InK.there ?_)); exact rfl) | (refine Rdk.bn (cs := ?_) ?_ ?_; rotate_left; (repeat (first | exact InK.here | refine InK.there ?_)); exact rfl)))))) ?_)|refine zz ?_|(refine zw ?_;refine And.intro ?_ ?_<;>intro hc)|(refine zv ?_;intro cv hv)|(refine za ?_;intro _)|refine zc ?_|(refine zd ?_;refine And.intro ?_ ?_<;>(intro e;(try simp only [Bool.not_eq_true',Bool.not_eq_false'] at e);subst e;try contradiction)))
        refine Lp.weak ?hw (ih (i + 1) (by omega) hi (by rw [← h3]; simp [getL, Ne.symm hk]))
        case hw => exact ⟨rfl, rfl, rfl, rfl, trivial⟩
    · rw [List.drop_of_length_le (by omega)] at h3
      repeat' (first|refine zz ?_|(refine zw ?_;refine And.intro ?_ ?_<;>intro hc)|(refine zv ?_;intro cv hv)|(refine za ?_;intro _)|refine zc ?_|(refine zd ?_;refine And.intro ?_ ?_<;>(intro e;(try simp only [Bool.not_eq_true',Bool.not_eq_false'] at e);subst e;try contradiction)))
      exact hend _ h3.symm ⟨rfl, trivial⟩
theorem get45 (hT : T.ok 1) (hi : T.rows[i]? = some [tP m]) (hl : l.ok 6) (hr : l.rows = L.map pairR) (hll : L.length ≤ 1000000) (hk : keyB k = true) : CT Try.prog false 28 [rP r, valA ⟨3, (i : Int), s⟩, valA k] [rB r (T.v 1) vf vc n room, T.c, tO m (l.v 6), l.c] fun w K' => w = .tup [valA (getL k L), .int .i64 (.ofNat 0)] ∧ K' = [rB r (T.v 1) vf vc n room, T.c, tO m (l.v 6), l.c] := by
  have k57 := table57 (r := r) (n := n) (room := room) (vf := vf) (vc := vc) (s := s) hT hi
  have k16 := key16 (k := k)
  rw [hk] at k16
  refine CT.enterS mixed comp28 (Nat.le_of_ble_eq_true rfl) ?_
  repeat' (first|(refine Rg.callM rfl k57 (.cons (.there (.there (.there .here))) (.cons (.there (.there (.there .here))) .nil)) ?_; rintro _ _ ⟨rfl, rfl⟩)|refine zz ?_|(refine zw ?_;refine And.intro ?_ ?_<;>intro hc)|(refine zv ?_;intro cv hv)|(refine za ?_;intro _)|refine zc ?_|(refine zd ?_;refine And.intro ?_ ?_<;>(intro e;(try simp only [Bool.not_eq_true',Bool.not_eq_false'] at e);subst e;try contradiction)))
  rename_i b4 b5 b6
  refine Cd.weak (l2 := [(5, _), (6, _), (8, _), (9, _)]) ⟨rfl, rfl, rfl, rfl, trivial⟩ ?_
  refine Cd.loop (k := L.length + 1) (Lp.fr (m := m45 b5 b6 m k v0 l) (.cons (.there (.there (.there (.here)))) (.cons (.there (.there (.here))) (.cons (.there (.there (.there (.here)))) (.cons (.there (.there (.there (.here)))) (.nil))))) (get45_loop hl hr hll ?_ ?_ (L.length + 1) 0 (by omega) (by omega) rfl))
  · intro l' hs
    refine ⟨.inr rfl, _, .cn hs.1 (by first | exact Rdk.i1 | assumption | (refine Rdk.in ?_; first | assumption | exact rfl) | (refine Rdk.b1 (cs := ?_) ?_ ?_; rotate_left; (repeat (first | exact InK.here | refine InK.there ?_)); exact rfl) | (refine Rdk.bw ?_ ?_; (repeat (first | exact InK.here | refine InK.there ?_)); first | assumption | exact rfl) | (refine Rdk.bw (cs := ?_) ?_ ?_; rotate_left; (repeat (first | exact InK.here | refine InK.there ?_)); first | assumption | exact rfl) | (refine Rdk.bn ?_ ?_; (repeat (first | exact InK.here | refine InK.there ?_)); exact rfl) | (refine Rdk.bn (cs := ?_) ?_ ?_; rotate_left; (repeat (first | exact InK.here | refine InK.there ?_)); exact rfl)) (.t hs.2.1 .nil), ?_⟩
    exact ⟨_, _, .cons (.there (.there (.there (.there .here)))) (.cons (.there (.there (.there (.there .here)))) (.cons (.there (.there .here)) (.cons (.there (.there .here)) .nil))), rfl, rfl⟩
  · intro l' hg hs
    show Cd _ _ _ _ _ _
    refine Cd.weak hs ?_
    repeat' (first|refine zz ?_|(refine zw ?_;refine And.intro ?_ ?_<;>intro hc)|(refine zv ?_;intro cv hv)|(refine za ?_;intro _)|refine zc ?_|(refine zd ?_;refine And.intro ?_ ?_<;>(intro e;(try simp only [Bool.not_eq_true',Bool.not_eq_false'] at e);subst e;try contradiction)))
    (first|refine ⟨.inr rfl,_,.t rfl .nil,?_⟩|refine ⟨.inr rfl,_,.t rfl (.t rfl .nil),?_⟩|refine ⟨.inr rfl,_,.t rfl (.t rfl (.t rfl .nil)),?_⟩|refine ⟨.inr rfl,_,.nil,?_⟩|refine ⟨.inl rfl,_,.t rfl .nil,?_⟩|refine ⟨.inl rfl,_,.nil,?_⟩|refine ⟨.inr rfl,_,.cn rfl (by exact zN) .nil,?_⟩|refine ⟨.inr rfl,_,.cn rfl (by exact zN) (.t rfl .nil),?_⟩)
    rw [hg]
    exact ⟨_, _, .cons (.there (.there (.there (.there .here)))) (.cons (.there (.there (.there (.there .here)))) (.cons (.there (.there .here)) (.cons (.there (.there .here)) .nil))), rfl, rfl⟩
end
end Go.Proofs.Ytlflpjjmkigepaa

namespace Go.Proofs.Ytlflpjjmkigepaa
open Go Go.Abs
attribute [local irreducible] Cmp Rg Dw Cd Lp Ev Rdk CT Upd InK
theorem can_k {a : Val} (h : Can a) : a.k = 1 ∨ a.k = 2 := by
  rcases h with h | h
  · exact .inl h.1
  · exact .inr h.1
theorem ahead58 {a c : Val} (ha : Can a) (hc : Can c) (h1 : a.s.length ≤ 1024) (h2 : c.s.length ≤ 1024) : PT Try.prog false 55 [valA a, valA c] (.bool (aheadB a c)) := by
  have k19 := two19 (a := a) (b := c) (can_k ha) (by omega) (by omega)
  have ka := can_k ha
  have kc := can_k hc
  refine PT.of (CT.enter mixed comp55 (Nat.le_of_ble_eq_true rfl) ?_)
  by_cases h : a.k = c.k
  · rw [if_pos h] at k19
    cases hb : aheadB a c with
    | true =>
      rw [hb] at k19
      repeat' (first|refine zz ?_|(refine zw ?_;refine And.intro ?_ ?_<;>intro hc)|(refine zv ?_;intro cv hv)|(refine za ?_;intro _)|refine zc ?_|(refine zd ?_;refine And.intro ?_ ?_<;>(intro e;(try simp only [Bool.not_eq_true',Bool.not_eq_false'] at e);subst e;try contradiction)))
      (first|refine ⟨.inr rfl,_,.t rfl .nil,?_⟩|refine ⟨.inr rfl,_,.t rfl (.t rfl .nil),?_⟩|refine ⟨.inr rfl,_,.t rfl (.t rfl (.t rfl .nil)),?_⟩|refine ⟨.inr rfl,_,.nil,?_⟩|refine ⟨.inl rfl,_,.t rfl .nil,?_⟩|refine ⟨.inl rfl,_,.nil,?_⟩|refine ⟨.inr rfl,_,.cn rfl (by exact zN) .nil,?_⟩|refine ⟨.inr rfl,_,.cn rfl (by exact zN) (.t rfl .nil),?_⟩)
      rfl
    | false =>
      rw [hb] at k19
      repeat' (first|refine zz ?_|(refine zw ?_;refine And.intro ?_ ?_<;>intro hc)|(refine zv ?_;intro cv hv)|(refine za ?_;intro _)|refine zc ?_|(refine zd ?_;refine And.intro ?_ ?_<;>(intro e;(try simp only [Bool.not_eq_true',Bool.not_eq_false'] at e);subst e;try contradiction)))
      (first|refine ⟨.inr rfl,_,.t rfl .nil,?_⟩|refine ⟨.inr rfl,_,.t rfl (.t rfl .nil),?_⟩|refine ⟨.inr rfl,_,.t rfl (.t rfl (.t rfl .nil)),?_⟩|refine ⟨.inr rfl,_,.nil,?_⟩|refine ⟨.inl rfl,_,.t rfl .nil,?_⟩|refine ⟨.inl rfl,_,.nil,?_⟩|refine ⟨.inr rfl,_,.cn rfl (by exact zN) .nil,?_⟩|refine ⟨.inr rfl,_,.cn rfl (by exact zN) (.t rfl .nil),?_⟩)
      rfl
  · have hb : aheadB a c = decide (a.k < c.k) := by rw [aheadB, if_pos h]
    rw [hb]
    rcases ka with ka | ka
    · rw [decide_eq_true (by omega)]
      repeat' (first|refine zz ?_|(refine zw ?_;refine And.intro ?_ ?_<;>intro hc)|(refine zv ?_;intro cv hv)|(refine za ?_;intro _)|refine zc ?_|(refine zd ?_;refine And.intro ?_ ?_<;>(intro e;(try simp only [Bool.not_eq_true',Bool.not_eq_false'] at e);subst e;try contradiction)))
      (first|refine ⟨.inr rfl,_,.t rfl .nil,?_⟩|refine ⟨.inr rfl,_,.t rfl (.t rfl .nil),?_⟩|refine ⟨.inr rfl,_,.t rfl (.t rfl (.t rfl .nil)),?_⟩|refine ⟨.inr rfl,_,.nil,?_⟩|refine ⟨.inl rfl,_,.t rfl .nil,?_⟩|refine ⟨.inl rfl,_,.nil,?_⟩|refine ⟨.inr rfl,_,.cn rfl (by exact zN) .nil,?_⟩|refine ⟨.inr rfl,_,.cn rfl (by exact zN) (.t rfl .nil),?_⟩)
      rfl
    · rw [decide_eq_false (by omega)]
      repeat' (first|refine zz ?_|(refine zw ?_;refine And.intro ?_ ?_<;>intro hc)|(refine zv ?_;intro cv hv)|(refine za ?_;intro _)|refine zc ?_|(refine zd ?_;refine And.intro ?_ ?_<;>(intro e;(try simp only [Bool.not_eq_true',Bool.not_eq_false'] at e);subst e;try contradiction)))
      (first|refine ⟨.inr rfl,_,.t rfl .nil,?_⟩|refine ⟨.inr rfl,_,.t rfl (.t rfl .nil),?_⟩|refine ⟨.inr rfl,_,.t rfl (.t rfl (.t rfl .nil)),?_⟩|refine ⟨.inr rfl,_,.nil,?_⟩|refine ⟨.inl rfl,_,.t rfl .nil,?_⟩|refine ⟨.inl rfl,_,.nil,?_⟩|refine ⟨.inr rfl,_,.cn rfl (by exact zN) .nil,?_⟩|refine ⟨.inr rfl,_,.cn rfl (by exact zN) (.t rfl .nil),?_⟩)
      rfl
section
variable {r n room i m : Nat} {s : List Nat} {vf vc : AV} {T l : OS} {L : List KV} {k v : Val}
/-! Keys. -/
theorem keys48_loop {Q : AX → SL → Mem → Prop} (hl : l.ok 6) (hr : l.rows = L.map pairR) (hll : L.length ≤ 1000000)
    (hend : ∀ (O : OS) (l' : SL), O.ok 3 → O.rows = (L.map fun e => e.1).map valR → Sub2 [(6, O.v 3)] l' → Q (.ext 0) l' [O.c, tO m (l.v 6), l.c]) :
    ∀ (f i : Nat) (O : OS), L.length < i + f → i ≤ L.length → O.ok 3 → O.rows = ((L.take i).map fun e => e.1).map valR → Lp Try.prog false b26_0 f [(5, tP m), (6, O.v 3), (7, .int .i64 (.ofNat i))] [O.c, tO m (l.v 6), l.c] Q := by
  have hln := hl.len
  rw [hr, List.length_map] at hln
  intro f
  induction f with
  | zero => intro i O h1 h2; omega
  | succ f ih =>
    intro i O h1 h2 hO hOr
    refine Lp.round ?_
    by_cases hi : i < L.length
    · obtain ⟨e, he⟩ : ∃ e, L[i]? = some e := ⟨_, List.getElem?_eq_getElem hi⟩
      have hrow := pairRows L
      have hri : (L.map pairR)[i]? = some (pairR e) := by rw [List.getElem?_map, he]; rfl
      obtain ⟨id, g, el⟩ := hl.at (i := i) (r := pairR e) (by rw [hr]; exact hri)
      rw [hr] at el
      subst el
      have q1 := iadr_slc (sz := 6) (b := id) (g := g) (off := 0) (len := (L.map pairR).length) (cap := (L.map pairR).length) (i := i) (k := .i64) (by rw [List.length_map]; exact hi)
      have hp := fun K h => Rdk.part (K := K) (id := id) (g := g) (gr := true) (y := .ptr id g (0 + i * 6 + 0) 3) (i := i) (o := 0) (n := 3) (cs := valR e.1) h hrow hri rfl
      repeat' (first|(refine Rg.r rfl rfl (hp _ (by repeat (first | exact InK.here | refine InK.there ?_))) ?_)|refine zz ?_|(refine zw ?_;refine And.intro ?_ ?_<;>intro hc)|(refine zv ?_;intro cv hv)|(refine za ?_;intro _)|refine zc ?_|(refine zd ?_;refine And.intro ?_ ?_<;>(intro e;(try simp only [Bool.not_eq_true',Bool.not_eq_false'] at e);subst e;try contradiction)))
      refine Rg.e (Ef.appO (rs := [valR e.1]) (n := 1) rfl rfl hO (by intro r hr; simp at hr; subst hr; rfl) (.there .here) rfl (by decide) (Rw.slc (InK.there InK.here) (Nat.le_refl _) (Nat.le_refl _) rfl) ?_) ?_
      · rw [hOr]
        simp only [List.length_map, List.length_take, lim]
        omega
      rintro _ _ ⟨O', hO', hr2, rfl, rfl⟩
      repeat' (first|refine zz ?_|(refine zw ?_;refine And.intro ?_ ?_<;>intro hc)|(refine zv ?_;intro cv hv)|(refine za ?_;intro _)|refine zc ?_|(refine zd ?_;refine And.intro ?_ ?_<;>(intro e;(try simp only [Bool.not_eq_true',Bool.not_eq_false'] at e);subst e;try contradiction)))
      refine Lp.drop (m := [O'.c, tO m (.slc id g 0 (L.map pairR).length (L.map pairR).length 6), [(id, .cells (L.map pairR).flatten g g true)]]) (.cons (.here) (.cons (.there (.here)) (.cons (.there (.here)) (.nil)))) (Lp.weak ?hw (ih (i + 1) O' (by omega) hi hO' ?_))
      case hw => exact ⟨rfl, rfl, rfl, trivial⟩
      rw [hr2, hOr, List.take_add_one, he]
      simp
    · repeat' (first|refine zz ?_|(refine zw ?_;refine And.intro ?_ ?_<;>intro hc)|(refine zv ?_;intro cv hv)|(refine za ?_;intro _)|refine zc ?_|(refine zd ?_;refine And.intro ?_ ?_<;>(intro e;(try simp only [Bool.not_eq_true',Bool.not_eq_false'] at e);subst e;try contradiction)))
      refine hend O _ hO ?_ ⟨rfl, trivial⟩
      rw [hOr, List.take_of_length_le (by omega)]
theorem keys48 (hT : T.ok 1) (hi : T.rows[i]? = some [tP m]) (hl : l.ok 6) (hr : l.rows = L.map pairR) (hll : L.length ≤ 1000000) : CT Try.prog false 26 [rP r, valA ⟨3, (i : Int), s⟩] [rB r (T.v 1) vf vc n room, T.c, tO m (l.v 6), l.c]
    fun w K' => ∃ O : OS, O.ok 3 ∧ O.rows = (L.map fun e => e.1).map valR ∧ w = O.v 3 ∧ K' = [rB r (T.v 1) vf vc n room, T.c, tO m (l.v 6), l.c, O.c] := by
  have k57 := table57 (r := r) (n := n) (room := room) (vf := vf) (vc := vc) (s := s) hT hi
  refine CT.enterS mixed comp26 (Nat.le_of_ble_eq_true rfl) ?_
  repeat' (first|(refine Rg.callM rfl k57 (.cons (.there .here) (.cons (.there .here) .nil)) ?_; rintro _ _ ⟨rfl, rfl⟩)|refine zz ?_|(refine zw ?_;refine And.intro ?_ ?_<;>intro hc)|(refine zv ?_;intro cv hv)|(refine za ?_;intro _)|refine zc ?_|(refine zd ?_;refine And.intro ?_ ?_<;>(intro e;(try simp only [Bool.not_eq_true',Bool.not_eq_false'] at e);subst e;try contradiction)))
  refine Cd.weak (l2 := [(5, _), (6, _), (7, _)]) ⟨rfl, rfl, rfl, trivial⟩ ?_
  refine Cd.perm (K2 := OS.c ⟨none, []⟩ :: [rB r (T.v 1) vf vc n room, T.c, [(_, _)], tO m (l.v 6), l.c]) (.refl _) ?_
  refine Cd.loop (k := L.length + 1) (Lp.fr (m := [OS.c ⟨none, []⟩, tO m (l.v 6), l.c]) (.cons (.here) (.cons (.there (.there (.there (.here)))) (.cons (.there (.there (.there (.here)))) (.nil)))) (keys48_loop hl hr hll ?_ (L.length + 1) 0 ⟨none, []⟩ (by omega) (by omega) OS.ok.nil rfl))
  intro O l' hO hOr hs
  show Cd _ _ _ _ _ _
  refine Cd.weak hs ?_
  repeat' (first|refine zz ?_|(refine zw ?_;refine And.intro ?_ ?_<;>intro hc)|(refine zv ?_;intro cv hv)|(refine za ?_;intro _)|refine zc ?_|(refine zd ?_;refine And.intro ?_ ?_<;>(intro e;(try simp only [Bool.not_eq_true',Bool.not_eq_false'] at e);subst e;try contradiction)))
  (first|refine ⟨.inr rfl,_,.t rfl .nil,?_⟩|refine ⟨.inr rfl,_,.t rfl (.t rfl .nil),?_⟩|refine ⟨.inr rfl,_,.t rfl (.t rfl (.t rfl .nil)),?_⟩|refine ⟨.inr rfl,_,.nil,?_⟩|refine ⟨.inl rfl,_,.t rfl .nil,?_⟩|refine ⟨.inl rfl,_,.nil,?_⟩|refine ⟨.inr rfl,_,.cn rfl (by exact zN) .nil,?_⟩|refine ⟨.inr rfl,_,.cn rfl (by exact zN) (.t rfl .nil),?_⟩)
  exact ⟨_, _, (.cons (.there (.there (.there (.here)))) (.cons (.there (.there (.there (.here)))) (.cons (.there (.here)) (.cons (.there (.here)) (.cons (.here) (.nil)))))), O, hO, hOr, rfl, rfl⟩
theorem put44_met {b6 : Nat} {z y w : AV} {Q : AX → SL → Mem → Prop} (hl : l.ok 6) (hr : l.rows = L.map pairR) (hll : L.length ≤ 1000000)
    (hend : ∀ l', Sub2 [(0, z), (6, .ptr b6 0 0 3), (7, y), (9, tP m), (10, w), (11, .bool (hasL k L))] l' → Q (.ext 0) l' [bV b6 k, tO m (l.v 6), l.c]) :
    ∀ (f i : Nat), L.length < i + f → i ≤ L.length → Lp Try.prog false b34_0 f [(0, z), (6, .ptr b6 0 0 3), (7, y), (9, tP m), (10, w), (11, .bool (hasL k (L.take i))), (12, .int .i64 (.ofNat i))] [bV b6 k, tO m (l.v 6), l.c] Q := by
  have hln := hl.len
  rw [hr, List.length_map] at hln
  intro f
  induction f with
  | zero => intro i h1 h2; omega
  | succ f ih =>
    intro i h1 h2
    refine Lp.round ?_
    by_cases hi : i < L.length
    · obtain ⟨e, he⟩ : ∃ e, L[i]? = some e := ⟨_, List.getElem?_eq_getElem hi⟩
      have hrow := pairRows L
      have hri : (L.map pairR)[i]? = some (pairR e) := by rw [List.getElem?_map, he]; rfl
      obtain ⟨id, g, el⟩ := hl.at (i := i) (r := pairR e) (by rw [hr]; exact hri)
      rw [hr] at el
      subst el
      have q1 := iadr_slc (sz := 6) (b := id) (g := g) (off := 0) (len := (L.map pairR).length) (cap := (L.map pairR).length) (i := i) (k := .i64) (by rw [List.length_map]; exact hi)
      have hp := fun K h => Rdk.part (K := K) (id := id) (g := g) (gr := true) (y := .ptr id g (0 + i * 6 + 0) 3) (i := i) (o := 0) (n := 3) (cs := valR e.1) h hrow hri rfl
      have hh : hasL k (L.take (i + 1)) = (hasL k (L.take i) || decide (e.1 = k)) := by
        rw [List.take_add_one, he]
        simp [hasL]
      by_cases hk : e.1 = k
      · have q2 : aeq (.flat true [.i, .i, .s]) (.agg (valR e.1)) (valA k) = some true := by
          rw [show (AV.agg (valR e.1)) = valA e.1 from rfl]
          simp only [aeq, flatVal, hk, decide_true]
        rw [hk] at hh
        simp only [decide_true, Bool.or_true] at hh
        repeat' (first|(refine Dw.r rfl rfl (hp _ (by repeat (first | exact InK.here | refine InK.there ?_))) (by repeat (first | exact trivial | refine And.intro (Or.inl rfl) ?_ | (refine And.intro (Or.inr ?_) ?_; (focus (first | exact Rdk.i1 | assumption | (refine Rdk.in ?_; first | assumption | exact rfl) | (refine Rdk.b1 (cs := ?_) ?_ ?_; rotate_left; (repeat (first | exact InK.here | refine InK.there ?_)); exact rfl) | (refine Rdk.bw ?_ ?_; (repeat (first | exact InK.here | refine InK.there ?_)); first | assumption | exact rfl) | (refine Rdk.bw (cs := ?_) ?_ ?_; rotate_left; (repeat (first | exact InK.here | refine InK.there ?_)); first | assumption | exact rfl) | (refine Rdk.bn ?_ ?_; (repeat (first | exact InK.here | refine InK.there ?_)); exact rfl) | (refine Rdk.bn (cs := ?_) ?_ ?_; rotate_left; (repeat (first | exact InK.here | refine InK.there ?_)); exact rfl)))))) ?_)|refine zz ?_|(refine zw ?_;refine And.intro ?_ ?_<;>intro hc)|(refine zv ?_;intro cv hv)|(refine za ?_;intro _)|refine zc ?_|(refine zd ?_;refine And.intro ?_ ?_<;>(intro e;(try simp only [Bool.not_eq_true',Bool.not_eq_false'] at e);subst e;try contradiction)))
        refine Lp.weak ?hw (ih (i + 1) (by omega) hi)
        case hw => rw [hh]; exact ⟨rfl, rfl, rfl, rfl, rfl, rfl, rfl, trivial⟩
      · have q2 : aeq (.flat true [.i, .i, .s]) (.agg (valR e.1)) (valA k) = some false := by
          rw [show (AV.agg (valR e.1)) = valA e.1 from rfl]
          simp only [aeq, flatVal, hk, decide_false]
        simp only [hk, decide_false, Bool.or_false] at hh
        repeat' (first|(refine Dw.r rfl rfl (hp _ (by repeat (first | exact InK.here | refine InK.there ?_))) (by repeat (first | exact trivial | refine And.intro (Or.inl rfl) ?_ | (refine And.intro (Or.inr ?_) ?_; (focus (first | exact Rdk.i1 | assumption | (refine Rdk.in ?_; first | assumption | exact rfl) | (refine Rdk.b1 (cs := ?_) ?_ ?_; rotate_left; (repeat (first | exact InK.here | refine InK.there ?_)); exact rfl) | (refine Rdk.bw ?_ ?_; (repeat (first | exact InK.here | refine InK.there ?_)); first | assumption | exact rfl) | (refine Rdk.bw (cs := ?_) ?_ ?_; rotate_left; (repeat (first | exact InK.here | refine InK.there ?_)); first | assumption | exact rfl) | (refine Rdk.bn ?_ ?_; (repeat (first | exact InK.here | refine InK.there ?_)); exact rfl) | (refine Rdk.bn (cs := ?_) ?_ ?_; rotate_left; (repeat (first | exact InK.here | refine InK.there ?_)); exact rfl)))))) ?_)|refine zz ?_|(refine zw ?_;refine And.intro ?_ ?_<;>intro hc)|(refine zv ?_;intro cv hv)|(refine za ?_;intro _)|refine zc ?_|(refine zd ?_;refine And.intro ?_ ?_<;>(intro e;(try simp only [Bool.not_eq_true',Bool.not_eq_false'] at e);subst e;try contradiction)))
        refine Lp.weak ?hw2 (ih (i + 1) (by omega) hi)
        case hw2 => rw [hh]; exact ⟨rfl, rfl, rfl, rfl, rfl, rfl, rfl, trivial⟩
    · rw [List.take_of_length_le (by omega)]
      repeat' (first|refine zz ?_|(refine zw ?_;refine And.intro ?_ ?_<;>intro hc)|(refine zv ?_;intro cv hv)|(refine za ?_;intro _)|refine zc ?_|(refine zd ?_;refine And.intro ?_ ?_<;>(intro e;(try simp only [Bool.not_eq_true',Bool.not_eq_false'] at e);subst e;try contradiction)))
      exact hend _ ⟨rfl, rfl, rfl, rfl, rfl, rfl, trivial⟩
/-- What has come of the first pairs: whether the new one is laid, and the pairs so far. -/
def stepP (k v : Val) (e : KV) (p : Bool × List KV) : Bool × List KV :=
  if p.1 = false ∧ aheadB e.1 k = false then (true, (p.2 ++ [(k, v)]) ++ if e.1 = k then [] else [e]) else (p.1, p.2 ++ if e.1 = k then [] else [e])
def goP (k v : Val) : List KV → Bool × List KV → Bool × List KV
  | [], p => p
  | e :: r, p => goP k v r (stepP k v e p)
theorem step_t {k v : Val} {e : KV} {o : List KV} : stepP k v e (true, o) = (true, o ++ if e.1 = k then [] else [e]) := by rw [stepP, if_neg (by simp)]
theorem step_a {k v : Val} {e : KV} {o : List KV} (ha : aheadB e.1 k = true) : stepP k v e (false, o) = (false, o ++ [e]) := by rw [stepP, if_neg (by simp [ha]), if_neg (ahead_ne ha)]
theorem step_b {k v : Val} {e : KV} {o : List KV} (ha : aheadB e.1 k = false) : stepP k v e (false, o) = (true, (o ++ [(k, v)]) ++ if e.1 = k then [] else [e]) := by rw [stepP, if_pos ⟨rfl, ha⟩]
theorem goP_true {k v : Val} : ∀ (L : List KV) (o : List KV), goP k v L (true, o) = (true, o ++ L.filter fun e => !decide (e.1 = k))
  | [], o => by simp [goP]
  | e :: r, o => by
    rw [goP, step_t, goP_true r]
    by_cases h : e.1 = k
    · simp [List.filter_cons, h]
    · simp [List.filter_cons, h]
theorem Srt.behind {e : KV} {r : List KV} (h : Srt (e :: r)) {k : Val} (he : aheadB k e.1 = true ∨ e.1 = k) : (r.filter fun e => aheadB e.1 k) = [] ∧ (r.filter fun e => aheadB k e.1) = r ∧ (r.filter fun e => !decide (e.1 = k)) = r := by
  have hx : ∀ x, x ∈ r → aheadB k x.1 = true := fun x hx => by
    have := (List.pairwise_cons.1 h.ord).1 x hx
    rcases he with he | he
    · exact ahead_trans he this
    · rwa [he] at this
  refine ⟨?_, ?_, ?_⟩
  · rw [List.filter_eq_nil_iff]
    intro x hm
    rw [ahead_asym (hx x hm)]
    simp
  · rw [List.filter_eq_self]
    exact hx
  · rw [List.filter_eq_self]
    intro x hm
    have := (ahead_ne (hx x hm)).symm
    simp [this]
theorem goP_false {k v : Val} (hk : Can k) : ∀ {L : List KV} (o : List KV), Srt L → (if (goP k v L (false, o)).1 = true then (goP k v L (false, o)).2 else (goP k v L (false, o)).2 ++ [(k, v)]) = o ++ (L.filter (fun e => aheadB e.1 k) ++ (k, v) :: L.filter fun e => aheadB k e.1)
  | [], o, _ => by simp [goP]
  | e :: r, o, h => by
    rw [goP]
    cases ha : aheadB e.1 k with
    | true =>
      rw [step_a ha, goP_false hk (o ++ [e]) h.tail]
      simp [List.filter_cons, ha, ahead_asym ha]
    | false =>
      rw [step_b ha, goP_true, if_pos rfl]
      by_cases hek : e.1 = k
      · obtain ⟨f1, f2, f3⟩ := h.behind (.inr hek)
        rw [f3, if_pos hek]
        simp [List.filter_cons, hek, ahead_irr, f1, f2]
      · have hb := ahead_tri (h.can _ List.mem_cons_self) hk ha hek
        obtain ⟨f1, f2, f3⟩ := h.behind (.inl hb)
        rw [f3, if_neg hek]
        simp [List.filter_cons, ha, hb, f1, f2]
theorem goP_all {k v : Val} (hk : Can k) {L : List KV} (h : Srt L) : (if (goP k v L (decide (v.k = 0), [])).1 = true then (goP k v L (decide (v.k = 0), [])).2 else (goP k v L (decide (v.k = 0), [])).2 ++ [(k, v)]) = setL k v L := by
  unfold setL
  by_cases h0 : v.k = 0
  · simp [h0, goP_true]
  · simp only [h0, decide_false, if_false]
    rw [goP_false hk [] h]
    rfl
theorem goP_app {k v : Val} {e : KV} : ∀ {L : List KV} {p : Bool × List KV}, goP k v (L ++ [e]) p = stepP k v e (goP k v L p)
  | [], _ => rfl
  | x :: r, p => by
    rw [List.cons_append, goP, goP]
    exact goP_app
theorem goP_len {k v : Val} : ∀ (L : List KV) (p : Bool × List KV), (goP k v L p).2.length ≤ p.2.length + 2 * L.length
  | [], p => by simp [goP]
  | e :: r, p => by
    rw [goP]
    refine Nat.le_trans (goP_len r _) ?_
    simp only [List.length_cons, stepP]
    split <;> split <;> simp <;> omega
end
end Go.Proofs.Ytlflpjjmkigepaa
