/- The document goes over a value's bytes. -/
import Derived.Test.YtlflpjjmkigepaaPlnH
set_option autoImplicit false
set_option maxRecDepth 100000
set_option maxHeartbeats 4000000
set_option linter.unusedVariables false
set_option linter.unusedSimpArgs false
namespace Go.Proofs.Ytlflpjjmkigepaa
open Go Go.Abs
attribute [local irreducible] Cmp Rg Dw Cd Lp Ev Rdk CT Upd InK
section
variable {σ : Type} {B : Bld σ} {s : List Nat}
theorem dec_no {f : Nat} {x : σ} {a l : Nat} (h : s.length ≤ a) : dec B s f x a l = none := by
  cases f with
  | zero => rfl
  | succ f =>
    cases l with
    | zero => rfl
    | succ l => simp only [dec]; rw [List.getElem?_eq_none h]
theorem dec_0 {f : Nat} {x : σ} {a l : Nat} {v : Val} {x1 : σ} {a1 l1 m : Nat} (h : s[a]? = some 0) (hd : dec B s f x a l = some (v, x1, a1, l1, m)) : v.k = 0 := by
  cases f with
  | zero => cases hd
  | succ f =>
    cases l with
    | zero => cases hd
    | succ l =>
      simp only [dec, h] at hd
      rw [if_neg (by decide), rdS_0 h] at hd
      simp only [Option.some.injEq, Prod.mk.injEq] at hd
      rw [← hd.1]
theorem dec_n0 {f : Nat} {x : σ} {a l c : Nat} {v : Val} {x1 : σ} {a1 l1 m : Nat} (hB : (B.tb x).2.k ≠ 0) (h : s[a]? = some c) (hc : c ≠ 0) (hd : dec B s f x a l = some (v, x1, a1, l1, m)) : v.k ≠ 0 := by
  cases f with
  | zero => cases hd
  | succ f =>
    cases l with
    | zero => cases hd
    | succ l =>
      simp only [dec, h] at hd
      split at hd
      · split at hd
        · split at hd
          · cases hd
          · simp only [Option.some.injEq, Prod.mk.injEq] at hd
            rw [← hd.1]
            exact hB
        · cases hd
      · split at hd
        · cases hd
        · rename_i v2 to hr
          simp only [Option.some.injEq, Prod.mk.injEq] at hd
          rw [← hd.1]
          by_cases h1 : c = 1
          · subst h1
            rw [rdS_1 h] at hr
            split at hr
            · cases hr; show (1 : Int) ≠ 0; decide
            · cases hr
          · by_cases h2 : c = 2
            · subst h2
              rw [rdS_2 h] at hr
              split at hr
              · split at hr
                · cases hr; show (2 : Int) ≠ 0; decide
                · cases hr
              · cases hr
            · rw [rdS_x h hc h1 h2] at hr
              cases hr
end
def ovA (d : DR Unit) (w : AV) : Prop := match d with
  | some (_, _, a, l, m) => w = .tup [.int .i64 (.ofNat a), .int .i64 (.ofNat l), .int .i64 (.ofNat m)]
  | none => ∃ x, w = .tup [.int .i64 (.negSucc 0), .int .i64 x, .int .i64 (.ofNat 0)]
section
variable {s : List Nat}
theorem ahead_v0 {k : Val} (hk : keyB k = true) : aheadB v0 k = true := by
  simp only [keyB, Bool.or_eq_true, decide_eq_true_eq] at hk
  have h0 : v0.k = 0 := rfl
  rw [aheadB, if_pos (by omega), decide_eq_true (by omega)]
theorem m16 (hl : s.length ≤ 100000) {b14 b16 i to : Nat} {last kv : Val} {z1 z2 z11 z13 : AV} {d : Bool} (hto : to ≤ s.length) (hlast : i = 0 ∧ last = v0 ∨ 0 < i ∧ ScOk last ∧ keyB last = true) (hk : ScOk kv) (hkb : keyB kv = true)
    (hd : d = (!(aheadB last kv) || decide (s[to]? = none ∨ s[to]? = some 0))) :
    Cd Try.prog false (.reg r43_16) [(0, .str s), (1, z1), (2, z2), (11, z11), (13, z13), (14, .ptr b14 0 0 3), (15, .int .i64 (.ofNat i)), (16, .ptr b16 0 0 3), (17, .int .i64 (.ofNat to))] [b3 b16 kv, b3 b14 last]
      fun e l K => e = .nrm ∧ Sub2 [(0, .str s), (1, z1), (2, z2), (11, z11), (13, z13), (14, .ptr b14 0 0 3), (15, .int .i64 (.ofNat i)), (16, .ptr b16 0 0 3), (17, .int .i64 (.ofNat to)), (96, .bool d)] l ∧ K = [b3 b16 kv, b3 b14 last] := by
  have k53 := key16 (k := kv)
  rw [hkb] at k53
  have kk : kv.k = 1 ∨ kv.k = 2 := by simpa [keyB] using hkb
  rcases hlast with ⟨rfl, rfl⟩ | ⟨hi, hlo, hlk⟩
  · rw [ahead_v0 hkb] at hd
    by_cases ht : to < s.length
    · have hx : s[to]? = some s[to] := List.getElem?_eq_getElem ht
      generalize s[to] = y at hx
      have q1 := idxs_at (k := .i64) hx
      by_cases hy : y = 0
      · subst hy
        simp only [hx] at hd
        subst hd
        repeat' (first|refine zz ?_|(refine zw ?_;refine And.intro ?_ ?_<;>intro hc)|(refine zv ?_;intro cv hv)|(refine za ?_;intro _)|refine zc ?_|(refine zd ?_;refine And.intro ?_ ?_<;>(intro e;(try simp only [Bool.not_eq_true',Bool.not_eq_false'] at e);subst e;try contradiction)))
        exact ⟨rfl, ⟨rfl, rfl, rfl, rfl, rfl, rfl, rfl, rfl, rfl, rfl, trivial⟩, rfl⟩
      · have n0 := nlit hy
        simp only [hx] at hd
        obtain rfl : d = false := by rw [hd]; simp [hy]
        repeat' (first|refine zz ?_|(refine zw ?_;refine And.intro ?_ ?_<;>intro hc)|(refine zv ?_;intro cv hv)|(refine za ?_;intro _)|refine zc ?_|(refine zd ?_;refine And.intro ?_ ?_<;>(intro e;(try simp only [Bool.not_eq_true',Bool.not_eq_false'] at e);subst e;try contradiction)))
        exact ⟨rfl, ⟨rfl, rfl, rfl, rfl, rfl, rfl, rfl, rfl, rfl, rfl, trivial⟩, rfl⟩
    · have hx : s[to]? = none := List.getElem?_eq_none (by omega)
      simp only [hx] at hd
      subst hd
      repeat' (first|refine zz ?_|(refine zw ?_;refine And.intro ?_ ?_<;>intro hc)|(refine zv ?_;intro cv hv)|(refine za ?_;intro _)|refine zc ?_|(refine zd ?_;refine And.intro ?_ ?_<;>(intro e;(try simp only [Bool.not_eq_true',Bool.not_eq_false'] at e);subst e;try contradiction)))
      exact ⟨rfl, ⟨rfl, rfl, rfl, rfl, rfl, rfl, rfl, rfl, rfl, rfl, trivial⟩, rfl⟩
  · have k65 := behind65 (a := last) (b := kv) (by simpa [keyB] using hlk) kk hlo.len hk.len
    cases ha : aheadB last kv with
    | false =>
      rw [ha] at k65 hd
      obtain rfl : d = true := by rw [hd]; rfl
      repeat' (first|refine zz ?_|(refine zw ?_;refine And.intro ?_ ?_<;>intro hc)|(refine zv ?_;intro cv hv)|(refine za ?_;intro _)|refine zc ?_|(refine zd ?_;refine And.intro ?_ ?_<;>(intro e;(try simp only [Bool.not_eq_true',Bool.not_eq_false'] at e);subst e;try contradiction)))
      exact ⟨rfl, ⟨rfl, rfl, rfl, rfl, rfl, rfl, rfl, rfl, rfl, rfl, trivial⟩, rfl⟩
    | true =>
      rw [ha] at k65 hd
      by_cases ht : to < s.length
      · have hx : s[to]? = some s[to] := List.getElem?_eq_getElem ht
        generalize s[to] = y at hx
        have q1 := idxs_at (k := .i64) hx
        by_cases hy : y = 0
        · subst hy
          simp only [hx] at hd
          subst hd
          repeat' (first|refine zz ?_|(refine zw ?_;refine And.intro ?_ ?_<;>intro hc)|(refine zv ?_;intro cv hv)|(refine za ?_;intro _)|refine zc ?_|(refine zd ?_;refine And.intro ?_ ?_<;>(intro e;(try simp only [Bool.not_eq_true',Bool.not_eq_false'] at e);subst e;try contradiction)))
          exact ⟨rfl, ⟨rfl, rfl, rfl, rfl, rfl, rfl, rfl, rfl, rfl, rfl, trivial⟩, rfl⟩
        · have n0 := nlit hy
          simp only [hx] at hd
          obtain rfl : d = false := by rw [hd]; simp [hy]
          repeat' (first|refine zz ?_|(refine zw ?_;refine And.intro ?_ ?_<;>intro hc)|(refine zv ?_;intro cv hv)|(refine za ?_;intro _)|refine zc ?_|(refine zd ?_;refine And.intro ?_ ?_<;>(intro e;(try simp only [Bool.not_eq_true',Bool.not_eq_false'] at e);subst e;try contradiction)))
          exact ⟨rfl, ⟨rfl, rfl, rfl, rfl, rfl, rfl, rfl, rfl, rfl, rfl, trivial⟩, rfl⟩
      · have hx : s[to]? = none := List.getElem?_eq_none (by omega)
        simp only [hx] at hd
        subst hd
        repeat' (first|refine zz ?_|(refine zw ?_;refine And.intro ?_ ?_<;>intro hc)|(refine zv ?_;intro cv hv)|(refine za ?_;intro _)|refine zc ?_|(refine zd ?_;refine And.intro ?_ ?_<;>(intro e;(try simp only [Bool.not_eq_true',Bool.not_eq_false'] at e);subst e;try contradiction)))
        exact ⟨rfl, ⟨rfl, rfl, rfl, rfl, rfl, rfl, rfl, rfl, rfl, rfl, trivial⟩, rfl⟩
theorem over43_loop (hs : ∀ x, x ∈ s → x < 256) (hl : s.length ≤ 100000) {g : Unit → Nat → Nat → DR Unit} {t : Val} {n Bd b14 : Nat} {Q : AX → SL → Mem → Prop} (hn : n < 65536)
    (hg : ∀ a l, l ≤ Bd → a ≤ s.length → CT Try.prog false 43 [.str s, .int .i64 (.ofNat a), .int .i64 (.ofNat l)] [] fun w K' => ovA (g () a l) w ∧ K' = [])
    (hle : ∀ x a l v x1 a1 l1 m, g x a l = some (v, x1, a1, l1, m) → a < a1 ∧ a1 ≤ s.length ∧ l1 < l ∧ m + 1 ≤ 2 * (l - l1))
    (hno : ∀ a l, s.length ≤ a → g () a l = none) (h0 : ∀ a l v x1 a1 l1 m, s[a]? = some 0 → g () a l = some (v, x1, a1, l1, m) → v.k = 0) (hn0 : ∀ a l c v x1 a1 l1 m, s[a]? = some c → c ≠ 0 → g () a l = some (v, x1, a1, l1, m) → v.k ≠ 0) :
    ∀ (f k i : Nat) (last : Val) (a l nd : Nat), k < f → i + k = n → l ≤ Bd → a ≤ s.length → nd + 65537 * l ≤ 100000000 → (i = 0 ∧ last = v0 ∨ 0 < i ∧ ScOk last ∧ keyB last = true) →
      (hend : ∀ l' a2 l2 m K, decL openB s g t k last () a l = some ((), a2, l2, m) → Sub2 [(1, .int .i64 (.ofNat a2)), (2, .int .i64 (.ofNat l2)), (13, .int .i64 (.ofNat (nd + m)))] l' → Q (.ext 0) l' K) →
      (hret : decL openB s g t k last () a l = none → ∀ l' K', Sub2 [(6, .int .i64 (.negSucc 0)), (7, .int .i64 (.ofNat 0)), (8, .int .i64 (.ofNat 0))] l' → Q .ret l' K') →
      Lp Try.prog false b43_0 f [(0, .str s), (1, .int .i64 (.ofNat a)), (2, .int .i64 (.ofNat l)), (11, .int .i64 (.ofNat n)), (13, .int .i64 (.ofNat nd)), (14, .ptr b14 0 0 3), (15, .int .i64 (.ofNat i))] [b3 b14 last] Q := by
  intro f
  induction f with
  | zero => intro k i last a l nd h1; omega
  | succ f ih =>
    intro k i last a l nd h1 h2 h3 h4 h5 hlast hend hret
    refine Lp.round ?_
    cases k with
    | zero =>
      obtain rfl : i = n := by omega
      repeat' (first|refine zz ?_|(refine zw ?_;refine And.intro ?_ ?_<;>intro hc)|(refine zv ?_;intro cv hv)|(refine za ?_;intro _)|refine zc ?_|(refine zd ?_;refine And.intro ?_ ?_<;>(intro e;(try simp only [Bool.not_eq_true',Bool.not_eq_false'] at e);subst e;try contradiction)))
      exact hend _ a l 0 _ rfl ⟨rfl, rfl, rfl, trivial⟩
    | succ k =>
      have hin : i < n := by omega
      have k63 := read63 (a := a) hs hl (by omega)
      unfold readA at k63
      cases hr : rdS s a with
      | none =>
        rw [hr] at k63
        have hk : rdK s a = none := by unfold rdK; rw [hr]
        repeat' (first|refine zz ?_|(refine zw ?_;refine And.intro ?_ ?_<;>intro hc)|(refine zv ?_;intro cv hv)|(refine za ?_;intro _)|refine zc ?_|(refine zd ?_;refine And.intro ?_ ?_<;>(intro e;(try simp only [Bool.not_eq_true',Bool.not_eq_false'] at e);subst e;try contradiction)))
        exact hret (by simp only [decL, hk]) _ _ ⟨rfl, rfl, rfl, trivial⟩
      | some p =>
        obtain ⟨kv, to⟩ := p
        rw [hr] at k63
        simp only at k63
        obtain ⟨hto1, hto2⟩ := rdS_le hr
        have hkOk := (rdS_sc hs hr).2.2.2
        have k53 := key16 (k := kv)
        cases hkb : keyB kv with
        | false =>
          rw [hkb] at k53
          have hk : rdK s a = none := by unfold rdK; simp only [hr, hkb]; rfl
          repeat' (first|refine zz ?_|(refine zw ?_;refine And.intro ?_ ?_<;>intro hc)|(refine zv ?_;intro cv hv)|(refine za ?_;intro _)|refine zc ?_|(refine zd ?_;refine And.intro ?_ ?_<;>(intro e;(try simp only [Bool.not_eq_true',Bool.not_eq_false'] at e);subst e;try contradiction)))
          exact hret (by simp only [decL, hk]) _ _ ⟨rfl, rfl, rfl, trivial⟩
        | true =>
          rw [hkb] at k53
          have hk : rdK s a = some (kv, to) := by unfold rdK; simp only [hr, hkb, if_true]
          repeat' (first|(refine stopAt (c := r43_16) ?_)|refine zz ?_|(refine zw ?_;refine And.intro ?_ ?_<;>intro hc)|(refine zv ?_;intro cv hv)|(refine za ?_;intro _)|refine zc ?_|(refine zd ?_;refine And.intro ?_ ?_<;>(intro e;(try simp only [Bool.not_eq_true',Bool.not_eq_false'] at e);subst e;try contradiction)))
          rename_i b16
          refine ⟨?_⟩
          refine Cd.seq (Cd.weak (l2 := [(0, .str s), (1, .int .i64 (.ofNat a)), (2, .int .i64 (.ofNat l)), (11, .int .i64 (.ofNat n)), (13, .int .i64 (.ofNat nd)), (14, .ptr b14 0 0 3), (15, .int .i64 (.ofNat i)), (16, .ptr b16 0 0 3), (17, .int .i64 (.ofNat to))]) ⟨rfl, rfl, rfl, rfl, rfl, rfl, rfl, rfl, rfl, trivial⟩ (Cd.mono (m16 hl hto2 hlast hkOk hkb rfl) ?_))
          rintro _ l' _ ⟨rfl, hsub, rfl⟩
          show Cd _ _ _ _ _ _
          refine Cd.weak hsub ?_
          cases hah : aheadB last kv with
          | false =>
            repeat' (first|refine zz ?_|(refine zw ?_;refine And.intro ?_ ?_<;>intro hc)|(refine zv ?_;intro cv hv)|(refine za ?_;intro _)|refine zc ?_|(refine zd ?_;refine And.intro ?_ ?_<;>(intro e;(try simp only [Bool.not_eq_true',Bool.not_eq_false'] at e);subst e;try contradiction)))
            exact hret (by simp only [decL, hk, hah]; rfl) _ _ ⟨rfl, rfl, rfl, trivial⟩
          | true =>
            by_cases hst : s[to]? = none ∨ s[to]? = some 0
            · rw [decide_eq_true hst]
              have hno2 : decL openB s g t (k + 1) last () a l = none := by
                simp only [decL, hk, hah, if_true]
                cases hgv : g () to l with
                | none => rfl
                | some p =>
                  obtain ⟨v, x1, a1, l1, m1⟩ := p
                  rcases hst with hst | hst
                  · rw [hno to l (List.getElem?_eq_none_iff.1 hst)] at hgv
                    cases hgv
                  · have := h0 _ _ _ _ _ _ _ hst hgv
                    simp only [this, if_true]
              repeat' (first|refine zz ?_|(refine zw ?_;refine And.intro ?_ ?_<;>intro hc)|(refine zv ?_;intro cv hv)|(refine za ?_;intro _)|refine zc ?_|(refine zd ?_;refine And.intro ?_ ?_<;>(intro e;(try simp only [Bool.not_eq_true',Bool.not_eq_false'] at e);subst e;try contradiction)))
              exact hret hno2 _ _ ⟨rfl, rfl, rfl, trivial⟩
            · rw [decide_eq_false hst]
              obtain ⟨y, hy, hy0⟩ : ∃ y, s[to]? = some y ∧ y ≠ 0 := by
                cases h : s[to]? with
                | none => exact absurd (.inl h) hst
                | some y => exact ⟨y, rfl, fun e => hst (.inr (by rw [h, e]))⟩
              have k43 := hg to l h3 hto2
              cases hgv : g () to l with
              | none =>
                rw [hgv] at k43
                simp only [ovA] at k43
                repeat' (first|(refine Rg.callM (m := []) rfl k43 .nil ?_; rintro _ _ ⟨⟨x, rfl⟩, rfl⟩)|refine zz ?_|(refine zw ?_;refine And.intro ?_ ?_<;>intro hc)|(refine zv ?_;intro cv hv)|(refine za ?_;intro _)|refine zc ?_|(refine zd ?_;refine And.intro ?_ ?_<;>(intro e;(try simp only [Bool.not_eq_true',Bool.not_eq_false'] at e);subst e;try contradiction)))
                exact hret (by simp only [decL, hk, hah, hgv]; rfl) _ _ ⟨rfl, rfl, rfl, trivial⟩
              | some p =>
                obtain ⟨v, x1, a1, l1, m1⟩ := p
                rw [hgv] at k43
                simp only [ovA] at k43
                have hv0 := hn0 _ _ _ _ _ _ _ _ hy hy0 hgv
                obtain ⟨g1, g2, g3, g4⟩ := hle _ _ _ _ _ _ _ _ hgv
                have e : decL openB s g t (k + 1) last () a l = match decL openB s g t k kv () a1 l1 with
                    | none => none
                    | some (x2, a2, l2, m2) => some (x2, a2, l2, m1 + m2) := by
                  simp only [decL, hk, hah, hgv, if_true]
                  rw [if_neg hv0, show openB.pt x1 t kv v = () from rfl]
                  cases decL openB s g t k kv () a1 l1 with
                  | none => rfl
                  | some p => rfl
                repeat' (first|(refine Rg.callM (m := []) rfl k43 .nil ?_; rintro _ _ ⟨rfl, rfl⟩)|refine zz ?_|(refine zw ?_;refine And.intro ?_ ?_<;>intro hc)|(refine zv ?_;intro cv hv)|(refine za ?_;intro _)|refine zc ?_|(refine zd ?_;refine And.intro ?_ ?_<;>(intro e;(try simp only [Bool.not_eq_true',Bool.not_eq_false'] at e);subst e;try contradiction)))
                have := ih k (i + 1) kv a1 l1 (nd + m1) (by omega) (by omega) (by omega) g2 (by omega) (.inr ⟨by omega, hkOk, hkb⟩)
                  (fun l' a2 l2 m2 K hd hs2 => hend l' a2 l2 (m1 + m2) K (by rw [e, hd]) (by rw [← Nat.add_assoc]; exact hs2))
                  (fun hd => hret (by rw [e, hd]))
                exact Lp.drop (.cons (.there (.here)) (.nil)) (Lp.weak (by exact ⟨rfl, rfl, rfl, rfl, rfl, rfl, rfl, trivial⟩) this)
theorem sub_z2 : abin .sub (.int .i64 (.ofNat 0)) (.int .i64 (.ofNat 1)) = some (.int .i64 (.negSucc 0)) := rfl
theorem sub_o2 {n : Nat} (h : n < 1000000) : abin .sub (.int .i64 (.ofNat (n + 1))) (.int .i64 (.ofNat 1)) = some (.int .i64 (.ofNat n)) := sub_nat (a := n + 1) (by omega) (by omega)
theorem over43_0 (hl : s.length ≤ 100000) {a : Nat} {d : DR Unit} (hd : d = none) : CT Try.prog false 43 [.str s, .int .i64 (.ofNat a), .int .i64 (.ofNat 0)] [] fun w K' => ovA d w ∧ K' = [] := by
  have e0 := sub_z2
  subst hd
  refine CT.enterS mixed comp43 (Nat.le_of_ble_eq_true rfl) ?_
  repeat' (first|refine zz ?_|(refine zw ?_;refine And.intro ?_ ?_<;>intro hc)|(refine zv ?_;intro cv hv)|(refine za ?_;intro _)|refine zc ?_|(refine zd ?_;refine And.intro ?_ ?_<;>(intro e;(try simp only [Bool.not_eq_true',Bool.not_eq_false'] at e);subst e;try contradiction)))
  (first|refine ⟨.inr rfl,_,.t rfl .nil,?_⟩|refine ⟨.inr rfl,_,.t rfl (.t rfl .nil),?_⟩|refine ⟨.inr rfl,_,.t rfl (.t rfl (.t rfl .nil)),?_⟩|refine ⟨.inr rfl,_,.nil,?_⟩|refine ⟨.inl rfl,_,.t rfl .nil,?_⟩|refine ⟨.inl rfl,_,.nil,?_⟩|refine ⟨.inr rfl,_,.cn rfl (by exact zN) .nil,?_⟩|refine ⟨.inr rfl,_,.cn rfl (by exact zN) (.t rfl .nil),?_⟩)
  exact ⟨_, _, .nil, ⟨0, rfl⟩, rfl⟩
theorem nlit8 {x n : Nat} (h : x ≠ n) : abin .neq (.int .u8 (.ofNat x)) (.int .u8 (.ofNat n)) = some (.bool true) := by
  have e : abin .neq (.int .u8 (.ofNat x)) (.int .u8 (.ofNat n)) = some (.bool (!(ieq (.ofNat x) (.ofNat n)))) := rfl
  rw [e, ieq_dec, decide_eq_false fun e => h (Int.ofNat.inj e)]
  rfl
theorem over43 (hs : ∀ x, x ∈ s → x < 256) (hl : s.length ≤ 100000) : ∀ (f : Nat) {a l : Nat}, l ≤ f → l ≤ 200 → a ≤ s.length →
    CT Try.prog false 43 [.str s, .int .i64 (.ofNat a), .int .i64 (.ofNat l)] [] fun w K' => ovA (dec openB s f () a l) w ∧ K' = [] := by
  intro f
  induction f with
  | zero =>
    intro a l h1 h2 h3
    obtain rfl : l = 0 := by omega
    exact over43_0 hl rfl
  | succ f ih =>
    intro a l h1 h2 h3
    cases l with
    | zero => exact over43_0 hl rfl
    | succ l =>
      have e0 := sub_o2 (n := l) (by omega)
      by_cases h : a < s.length
      · have hx : s[a]? = some s[a] := List.getElem?_eq_getElem h
        generalize s[a] = y at hx
        have q1 := idxs_at (k := .i64) hx
        refine CT.enterS mixed comp43 (Nat.le_of_ble_eq_true rfl) ?_
        by_cases h3y : y = 3
        · subst h3y
          have k2 := get64 (a := a + 1) (w := 2) hs (by omega) (by omega) (by omega)
          rw [show a + 1 + 2 = a + 3 by omega] at k2
          by_cases h3l : a + 3 ≤ s.length
          · rw [if_pos h3l] at k2
            have hlt := segd_lt (w := 2) (a := a + 1) (b := a + 3) hs h3l (by omega) (by omega)
            have e2 : 256 ^ 2 = 65536 := by decide
            rw [e2] at hlt
            rw [i64_lo (by omega)] at k2
            have ed : dec openB s (f + 1) () a (l + 1) = match decL openB s (dec openB s f) ⟨3, 0, []⟩ (deB (sgm s (a + 1) (a + 3))) v0 () (a + 3) l with
                | none => none
                | some (x2, a2, l2, m) => some (⟨3, 0, []⟩, x2, a2, l2, 1 + deB (sgm s (a + 1) (a + 3)) + m) := by
              simp only [dec, hx, if_true, if_pos h3l, show openB.tb () = ((), ⟨3, 0, []⟩) from rfl]
              cases decL openB s (dec openB s f) ⟨3, 0, []⟩ (deB (sgm s (a + 1) (a + 3))) v0 () (a + 3) l with
              | none => rfl
              | some p => rfl
            generalize deB (sgm s (a + 1) (a + 3)) = n at k2 hlt ed
            repeat' (first|refine zz ?_|(refine zw ?_;refine And.intro ?_ ?_<;>intro hc)|(refine zv ?_;intro cv hv)|(refine za ?_;intro _)|refine zc ?_|(refine zd ?_;refine And.intro ?_ ?_<;>(intro e;(try simp only [Bool.not_eq_true',Bool.not_eq_false'] at e);subst e;try contradiction)))
            rename_i b14
            refine Cd.loop (k := n + 1) (Lp.weak (l2 := [(0, .str s), (1, .int .i64 (.ofNat (a + 3))), (2, .int .i64 (.ofNat l)), (11, .int .i64 (.ofNat n)), (13, .int .i64 (.ofNat (1 + n))), (14, .ptr b14 0 0 3), (15, .int .i64 (.ofNat 0))]) ⟨rfl, rfl, rfl, rfl, rfl, rfl, rfl, trivial⟩
              (over43_loop (t := ⟨3, 0, []⟩) (g := dec openB s f) (Bd := l) hs hl hlt (fun a l h1 h2 => ih (by omega) (by omega) h2) (fun _ _ _ _ _ _ _ _ h => dec_le h) (fun a l h => dec_no h) (fun _ _ _ _ _ _ _ h hd => dec_0 h hd) (fun _ _ _ _ _ _ _ _ h h2 hd => dec_n0 (by decide) h h2 hd) (n + 1) n 0 v0 (a + 3) l (1 + n) (by omega) (by omega) (Nat.le_refl _) h3l (by omega) (.inl ⟨rfl, rfl⟩) ?_ ?_))
            · intro l' a2 l2 m K hd hsub
              show Cd _ _ _ _ _ _
              refine Cd.weak hsub ?_
              repeat' (first|refine zz ?_|(refine zw ?_;refine And.intro ?_ ?_<;>intro hc)|(refine zv ?_;intro cv hv)|(refine za ?_;intro _)|refine zc ?_|(refine zd ?_;refine And.intro ?_ ?_<;>(intro e;(try simp only [Bool.not_eq_true',Bool.not_eq_false'] at e);subst e;try contradiction)))
              (first|refine ⟨.inr rfl,_,.t rfl .nil,?_⟩|refine ⟨.inr rfl,_,.t rfl (.t rfl .nil),?_⟩|refine ⟨.inr rfl,_,.t rfl (.t rfl (.t rfl .nil)),?_⟩|refine ⟨.inr rfl,_,.nil,?_⟩|refine ⟨.inl rfl,_,.t rfl .nil,?_⟩|refine ⟨.inl rfl,_,.nil,?_⟩|refine ⟨.inr rfl,_,.cn rfl (by exact zN) .nil,?_⟩|refine ⟨.inr rfl,_,.cn rfl (by exact zN) (.t rfl .nil),?_⟩)
              refine ⟨_, _, .nil, ?_, rfl⟩
              rw [ed, hd]
              rfl
            · rintro hd l' K' ⟨h6, h7, h8, _⟩
              refine ⟨.inr rfl, _, .t h6 (.t h7 (.t h8 .nil)), _, _, .nil, ?_, rfl⟩
              rw [ed, hd]
              exact ⟨_, rfl⟩
          · rw [if_neg h3l] at k2
            have ed : dec openB s (f + 1) () a (l + 1) = none := by simp only [dec, hx, if_true, if_neg h3l]
            rw [ed]
            repeat' (first|refine zz ?_|(refine zw ?_;refine And.intro ?_ ?_<;>intro hc)|(refine zv ?_;intro cv hv)|(refine za ?_;intro _)|refine zc ?_|(refine zd ?_;refine And.intro ?_ ?_<;>(intro e;(try simp only [Bool.not_eq_true',Bool.not_eq_false'] at e);subst e;try contradiction)))
            (first|refine ⟨.inr rfl,_,.t rfl .nil,?_⟩|refine ⟨.inr rfl,_,.t rfl (.t rfl .nil),?_⟩|refine ⟨.inr rfl,_,.t rfl (.t rfl (.t rfl .nil)),?_⟩|refine ⟨.inr rfl,_,.nil,?_⟩|refine ⟨.inl rfl,_,.t rfl .nil,?_⟩|refine ⟨.inl rfl,_,.nil,?_⟩|refine ⟨.inr rfl,_,.cn rfl (by exact zN) .nil,?_⟩|refine ⟨.inr rfl,_,.cn rfl (by exact zN) (.t rfl .nil),?_⟩)
            exact ⟨_, _, .nil, ⟨0, rfl⟩, rfl⟩
        · have n3 := nlit8 h3y
          have k63 := read63 (a := a) hs hl (by omega)
          unfold readA at k63
          have ed : dec openB s (f + 1) () a (l + 1) = match rdS s a with
              | none => none
              | some (v, to) => some (v, (), to, l, 0) := by
            simp only [dec, hx, if_neg h3y]
            cases rdS s a with
            | none => rfl
            | some p => rfl
          rw [ed]
          cases hr : rdS s a with
          | none =>
            rw [hr] at k63
            repeat' (first|refine zz ?_|(refine zw ?_;refine And.intro ?_ ?_<;>intro hc)|(refine zv ?_;intro cv hv)|(refine za ?_;intro _)|refine zc ?_|(refine zd ?_;refine And.intro ?_ ?_<;>(intro e;(try simp only [Bool.not_eq_true',Bool.not_eq_false'] at e);subst e;try contradiction)))
            (first|refine ⟨.inr rfl,_,.t rfl .nil,?_⟩|refine ⟨.inr rfl,_,.t rfl (.t rfl .nil),?_⟩|refine ⟨.inr rfl,_,.t rfl (.t rfl (.t rfl .nil)),?_⟩|refine ⟨.inr rfl,_,.nil,?_⟩|refine ⟨.inl rfl,_,.t rfl .nil,?_⟩|refine ⟨.inl rfl,_,.nil,?_⟩|refine ⟨.inr rfl,_,.cn rfl (by exact zN) .nil,?_⟩|refine ⟨.inr rfl,_,.cn rfl (by exact zN) (.t rfl .nil),?_⟩)
            exact ⟨_, _, .nil, ⟨l, rfl⟩, rfl⟩
          | some p =>
            obtain ⟨v, to⟩ := p
            rw [hr] at k63
            simp only at k63
            repeat' (first|refine zz ?_|(refine zw ?_;refine And.intro ?_ ?_<;>intro hc)|(refine zv ?_;intro cv hv)|(refine za ?_;intro _)|refine zc ?_|(refine zd ?_;refine And.intro ?_ ?_<;>(intro e;(try simp only [Bool.not_eq_true',Bool.not_eq_false'] at e);subst e;try contradiction)))
            (first|refine ⟨.inr rfl,_,.t rfl .nil,?_⟩|refine ⟨.inr rfl,_,.t rfl (.t rfl .nil),?_⟩|refine ⟨.inr rfl,_,.t rfl (.t rfl (.t rfl .nil)),?_⟩|refine ⟨.inr rfl,_,.nil,?_⟩|refine ⟨.inl rfl,_,.t rfl .nil,?_⟩|refine ⟨.inl rfl,_,.nil,?_⟩|refine ⟨.inr rfl,_,.cn rfl (by exact zN) .nil,?_⟩|refine ⟨.inr rfl,_,.cn rfl (by exact zN) (.t rfl .nil),?_⟩)
            exact ⟨_, _, .nil, rfl, rfl⟩
      · rw [dec_no (by omega)]
        refine CT.enterS mixed comp43 (Nat.le_of_ble_eq_true rfl) ?_
        repeat' (first|refine zz ?_|(refine zw ?_;refine And.intro ?_ ?_<;>intro hc)|(refine zv ?_;intro cv hv)|(refine za ?_;intro _)|refine zc ?_|(refine zd ?_;refine And.intro ?_ ?_<;>(intro e;(try simp only [Bool.not_eq_true',Bool.not_eq_false'] at e);subst e;try contradiction)))
        (first|refine ⟨.inr rfl,_,.t rfl .nil,?_⟩|refine ⟨.inr rfl,_,.t rfl (.t rfl .nil),?_⟩|refine ⟨.inr rfl,_,.t rfl (.t rfl (.t rfl .nil)),?_⟩|refine ⟨.inr rfl,_,.nil,?_⟩|refine ⟨.inl rfl,_,.t rfl .nil,?_⟩|refine ⟨.inl rfl,_,.nil,?_⟩|refine ⟨.inr rfl,_,.cn rfl (by exact zN) .nil,?_⟩|refine ⟨.inr rfl,_,.cn rfl (by exact zN) (.t rfl .nil),?_⟩)
        exact ⟨_, _, .nil, ⟨0, rfl⟩, rfl⟩
end
end Go.Proofs.Ytlflpjjmkigepaa

namespace Go.Proofs.Ytlflpjjmkigepaa
open Go Go.Abs
attribute [local irreducible] Cmp Rg Dw Cd Lp Ev Rdk CT Upd InK
def decU (s : List Nat) : DR Unit := dec openB s 200 () 0 200
def rightB (s : List Nat) : Bool := match decU s with
  | some (_, _, a, _, _) => decide (a = s.length)
  | none => false
def needsN (s : List Nat) : Nat := match decU s with
  | some (_, _, a, _, m) => if a = s.length then m else 0
  | none => 0
section
variable {s : List Nat}
theorem right15 (hs : ∀ x, x ∈ s → x < 256) (hl : s.length ≤ 100000) : PT Try.prog false 15 [.str s] (.bool (rightB s)) := by
  have k := over43 hs hl 200 (a := 0) (l := 200) (Nat.le_refl _) (Nat.le_refl _) (Nat.zero_le _)
  refine PT.of (CT.enter mixed comp15 (Nat.le_of_ble_eq_true rfl) ?_)
  unfold rightB decU
  cases hd : dec openB s 200 () 0 200 with
  | none =>
    rw [hd] at k
    simp only [ovA] at k
    repeat' (first|refine zz ?_|(refine zw ?_;refine And.intro ?_ ?_<;>intro hc)|(refine zv ?_;intro cv hv)|(refine za ?_;intro _)|refine zc ?_|(refine zd ?_;refine And.intro ?_ ?_<;>(intro e;(try simp only [Bool.not_eq_true',Bool.not_eq_false'] at e);subst e;try contradiction)))
    refine Rg.callM (m := []) rfl k .nil ?_
    rintro _ _ ⟨⟨x, rfl⟩, rfl⟩
    repeat' (first|refine zz ?_|(refine zw ?_;refine And.intro ?_ ?_<;>intro hc)|(refine zv ?_;intro cv hv)|(refine za ?_;intro _)|refine zc ?_|(refine zd ?_;refine And.intro ?_ ?_<;>(intro e;(try simp only [Bool.not_eq_true',Bool.not_eq_false'] at e);subst e;try contradiction)))
    all_goals (first|refine ⟨.inr rfl,_,.t rfl .nil,?_⟩|refine ⟨.inr rfl,_,.t rfl (.t rfl .nil),?_⟩|refine ⟨.inr rfl,_,.t rfl (.t rfl (.t rfl .nil)),?_⟩|refine ⟨.inr rfl,_,.nil,?_⟩|refine ⟨.inl rfl,_,.t rfl .nil,?_⟩|refine ⟨.inl rfl,_,.nil,?_⟩|refine ⟨.inr rfl,_,.cn rfl (by exact zN) .nil,?_⟩|refine ⟨.inr rfl,_,.cn rfl (by exact zN) (.t rfl .nil),?_⟩)
    all_goals rfl
  | some p =>
    obtain ⟨v, x1, a1, l1, m1⟩ := p
    obtain ⟨g1, g2, g3, g4⟩ := dec_le hd
    rw [hd] at k
    simp only [ovA] at k
    by_cases ha : a1 = s.length
    · simp only [decide_eq_true ha]
      repeat' (first|refine zz ?_|(refine zw ?_;refine And.intro ?_ ?_<;>intro hc)|(refine zv ?_;intro cv hv)|(refine za ?_;intro _)|refine zc ?_|(refine zd ?_;refine And.intro ?_ ?_<;>(intro e;(try simp only [Bool.not_eq_true',Bool.not_eq_false'] at e);subst e;try contradiction)))
      refine Rg.callM (m := []) rfl k .nil ?_
      rintro _ _ ⟨rfl, rfl⟩
      repeat' (first|refine zz ?_|(refine zw ?_;refine And.intro ?_ ?_<;>intro hc)|(refine zv ?_;intro cv hv)|(refine za ?_;intro _)|refine zc ?_|(refine zd ?_;refine And.intro ?_ ?_<;>(intro e;(try simp only [Bool.not_eq_true',Bool.not_eq_false'] at e);subst e;try contradiction)))
      all_goals (first|refine ⟨.inr rfl,_,.t rfl .nil,?_⟩|refine ⟨.inr rfl,_,.t rfl (.t rfl .nil),?_⟩|refine ⟨.inr rfl,_,.t rfl (.t rfl (.t rfl .nil)),?_⟩|refine ⟨.inr rfl,_,.nil,?_⟩|refine ⟨.inl rfl,_,.t rfl .nil,?_⟩|refine ⟨.inl rfl,_,.nil,?_⟩|refine ⟨.inr rfl,_,.cn rfl (by exact zN) .nil,?_⟩|refine ⟨.inr rfl,_,.cn rfl (by exact zN) (.t rfl .nil),?_⟩)
      all_goals rfl
    · simp only [decide_eq_false ha]
      repeat' (first|refine zz ?_|(refine zw ?_;refine And.intro ?_ ?_<;>intro hc)|(refine zv ?_;intro cv hv)|(refine za ?_;intro _)|refine zc ?_|(refine zd ?_;refine And.intro ?_ ?_<;>(intro e;(try simp only [Bool.not_eq_true',Bool.not_eq_false'] at e);subst e;try contradiction)))
      refine Rg.callM (m := []) rfl k .nil ?_
      rintro _ _ ⟨rfl, rfl⟩
      repeat' (first|refine zz ?_|(refine zw ?_;refine And.intro ?_ ?_<;>intro hc)|(refine zv ?_;intro cv hv)|(refine za ?_;intro _)|refine zc ?_|(refine zd ?_;refine And.intro ?_ ?_<;>(intro e;(try simp only [Bool.not_eq_true',Bool.not_eq_false'] at e);subst e;try contradiction)))
      all_goals (first|refine ⟨.inr rfl,_,.t rfl .nil,?_⟩|refine ⟨.inr rfl,_,.t rfl (.t rfl .nil),?_⟩|refine ⟨.inr rfl,_,.t rfl (.t rfl (.t rfl .nil)),?_⟩|refine ⟨.inr rfl,_,.nil,?_⟩|refine ⟨.inl rfl,_,.t rfl .nil,?_⟩|refine ⟨.inl rfl,_,.nil,?_⟩|refine ⟨.inr rfl,_,.cn rfl (by exact zN) .nil,?_⟩|refine ⟨.inr rfl,_,.cn rfl (by exact zN) (.t rfl .nil),?_⟩)
      all_goals rfl
theorem needs17 (hs : ∀ x, x ∈ s → x < 256) (hl : s.length ≤ 100000) : PT Try.prog false 17 [.str s] (.int .i64 (.ofNat (needsN s))) := by
  have k := over43 hs hl 200 (a := 0) (l := 200) (Nat.le_refl _) (Nat.le_refl _) (Nat.zero_le _)
  have k15 := right15 hs hl
  refine PT.of (CT.enter mixed comp17 (Nat.le_of_ble_eq_true rfl) ?_)
  unfold rightB at k15
  unfold needsN
  unfold decU at *
  cases hd : dec openB s 200 () 0 200 with
  | none =>
    rw [hd] at k15
    repeat' (first|refine zz ?_|(refine zw ?_;refine And.intro ?_ ?_<;>intro hc)|(refine zv ?_;intro cv hv)|(refine za ?_;intro _)|refine zc ?_|(refine zd ?_;refine And.intro ?_ ?_<;>(intro e;(try simp only [Bool.not_eq_true',Bool.not_eq_false'] at e);subst e;try contradiction)))
    (first|refine ⟨.inr rfl,_,.t rfl .nil,?_⟩|refine ⟨.inr rfl,_,.t rfl (.t rfl .nil),?_⟩|refine ⟨.inr rfl,_,.t rfl (.t rfl (.t rfl .nil)),?_⟩|refine ⟨.inr rfl,_,.nil,?_⟩|refine ⟨.inl rfl,_,.t rfl .nil,?_⟩|refine ⟨.inl rfl,_,.nil,?_⟩|refine ⟨.inr rfl,_,.cn rfl (by exact zN) .nil,?_⟩|refine ⟨.inr rfl,_,.cn rfl (by exact zN) (.t rfl .nil),?_⟩)
    rfl
  | some p =>
    obtain ⟨v, x1, a1, l1, m1⟩ := p
    rw [hd] at k k15
    simp only [ovA] at k
    by_cases ha : a1 = s.length
    · simp only [decide_eq_true ha] at k15
      simp only [if_pos ha]
      repeat' (first|refine zz ?_|(refine zw ?_;refine And.intro ?_ ?_<;>intro hc)|(refine zv ?_;intro cv hv)|(refine za ?_;intro _)|refine zc ?_|(refine zd ?_;refine And.intro ?_ ?_<;>(intro e;(try simp only [Bool.not_eq_true',Bool.not_eq_false'] at e);subst e;try contradiction)))
      refine Rg.callM (m := []) rfl k .nil ?_
      rintro _ _ ⟨rfl, rfl⟩
      repeat' (first|refine zz ?_|(refine zw ?_;refine And.intro ?_ ?_<;>intro hc)|(refine zv ?_;intro cv hv)|(refine za ?_;intro _)|refine zc ?_|(refine zd ?_;refine And.intro ?_ ?_<;>(intro e;(try simp only [Bool.not_eq_true',Bool.not_eq_false'] at e);subst e;try contradiction)))
      (first|refine ⟨.inr rfl,_,.t rfl .nil,?_⟩|refine ⟨.inr rfl,_,.t rfl (.t rfl .nil),?_⟩|refine ⟨.inr rfl,_,.t rfl (.t rfl (.t rfl .nil)),?_⟩|refine ⟨.inr rfl,_,.nil,?_⟩|refine ⟨.inl rfl,_,.t rfl .nil,?_⟩|refine ⟨.inl rfl,_,.nil,?_⟩|refine ⟨.inr rfl,_,.cn rfl (by exact zN) .nil,?_⟩|refine ⟨.inr rfl,_,.cn rfl (by exact zN) (.t rfl .nil),?_⟩)
      rfl
    · simp only [decide_eq_false ha] at k15
      simp only [if_neg ha]
      repeat' (first|refine zz ?_|(refine zw ?_;refine And.intro ?_ ?_<;>intro hc)|(refine zv ?_;intro cv hv)|(refine za ?_;intro _)|refine zc ?_|(refine zd ?_;refine And.intro ?_ ?_<;>(intro e;(try simp only [Bool.not_eq_true',Bool.not_eq_false'] at e);subst e;try contradiction)))
      (first|refine ⟨.inr rfl,_,.t rfl .nil,?_⟩|refine ⟨.inr rfl,_,.t rfl (.t rfl .nil),?_⟩|refine ⟨.inr rfl,_,.t rfl (.t rfl (.t rfl .nil)),?_⟩|refine ⟨.inr rfl,_,.nil,?_⟩|refine ⟨.inl rfl,_,.t rfl .nil,?_⟩|refine ⟨.inl rfl,_,.nil,?_⟩|refine ⟨.inr rfl,_,.cn rfl (by exact zN) .nil,?_⟩|refine ⟨.inr rfl,_,.cn rfl (by exact zN) (.t rfl .nil),?_⟩)
      rfl
theorem open41 : CT Try.prog false 41 [.str s] [] fun w K' => ∃ rd, w = rdP rd ∧ K' = [rdC rd s 0 (.ofNat 200) 0 (.fn 60 [] []) (.fn 61 [] [])] := by
  refine CT.enterS mixed comp41 (Nat.le_of_ble_eq_true rfl) ?_
  repeat' (first|refine zz ?_|(refine zw ?_;refine And.intro ?_ ?_<;>intro hc)|(refine zv ?_;intro cv hv)|(refine za ?_;intro _)|refine zc ?_|(refine zd ?_;refine And.intro ?_ ?_<;>(intro e;(try simp only [Bool.not_eq_true',Bool.not_eq_false'] at e);subst e;try contradiction)))
  (first|refine ⟨.inr rfl,_,.t rfl .nil,?_⟩|refine ⟨.inr rfl,_,.t rfl (.t rfl .nil),?_⟩|refine ⟨.inr rfl,_,.t rfl (.t rfl (.t rfl .nil)),?_⟩|refine ⟨.inr rfl,_,.nil,?_⟩|refine ⟨.inl rfl,_,.t rfl .nil,?_⟩|refine ⟨.inl rfl,_,.nil,?_⟩|refine ⟨.inr rfl,_,.cn rfl (by exact zN) .nil,?_⟩|refine ⟨.inr rfl,_,.cn rfl (by exact zN) (.t rfl .nil),?_⟩)
  exact ⟨_, _, (.cons (.here) (.nil)), _, rfl, rfl⟩
def openR (x : Unit) (c : Chk) : Prop := c = []
theorem openC : Clo openB openR 60 61 [] [] := by
  refine ⟨?_, ?_⟩
  · rintro x c rfl
    refine CT.enterS mixed comp60 (Nat.le_of_ble_eq_true rfl) ?_
    repeat' (first|refine zz ?_|(refine zw ?_;refine And.intro ?_ ?_<;>intro hc)|(refine zv ?_;intro cv hv)|(refine za ?_;intro _)|refine zc ?_|(refine zd ?_;refine And.intro ?_ ?_<;>(intro e;(try simp only [Bool.not_eq_true',Bool.not_eq_false'] at e);subst e;try contradiction)))
    (first|refine ⟨.inr rfl,_,.t rfl .nil,?_⟩|refine ⟨.inr rfl,_,.t rfl (.t rfl .nil),?_⟩|refine ⟨.inr rfl,_,.t rfl (.t rfl (.t rfl .nil)),?_⟩|refine ⟨.inr rfl,_,.nil,?_⟩|refine ⟨.inl rfl,_,.t rfl .nil,?_⟩|refine ⟨.inl rfl,_,.nil,?_⟩|refine ⟨.inr rfl,_,.cn rfl (by exact zN) .nil,?_⟩|refine ⟨.inr rfl,_,.cn rfl (by exact zN) (.t rfl .nil),?_⟩)
    exact ⟨_, _, (.cons (.there (.here)) (.nil)), rfl, _, rfl, rfl⟩
  · rintro x c t k v rfl _ _
    refine CT.enterS mixed comp61 (Nat.le_of_ble_eq_true rfl) ?_
    repeat' (first|refine zz ?_|(refine zw ?_;refine And.intro ?_ ?_<;>intro hc)|(refine zv ?_;intro cv hv)|(refine za ?_;intro _)|refine zc ?_|(refine zd ?_;refine And.intro ?_ ?_<;>(intro e;(try simp only [Bool.not_eq_true',Bool.not_eq_false'] at e);subst e;try contradiction)))
    (first|refine ⟨.inr rfl,_,.t rfl .nil,?_⟩|refine ⟨.inr rfl,_,.t rfl (.t rfl .nil),?_⟩|refine ⟨.inr rfl,_,.t rfl (.t rfl (.t rfl .nil)),?_⟩|refine ⟨.inr rfl,_,.nil,?_⟩|refine ⟨.inl rfl,_,.t rfl .nil,?_⟩|refine ⟨.inl rfl,_,.nil,?_⟩|refine ⟨.inr rfl,_,.cn rfl (by exact zN) .nil,?_⟩|refine ⟨.inr rfl,_,.cn rfl (by exact zN) (.t rfl .nil),?_⟩)
    exact ⟨_, _, (.cons (.there (.there (.there (.here)))) (.nil)), rfl, _, rfl, rfl⟩
section
variable {σ : Type} {B : Bld σ} {R : σ → Chk → Prop} {gt gp : FuncId} {ct cp : List AV} {rd : Nat}
def V42 (d : DR σ) (R : σ → Chk → Prop) (rd : Nat) (s : List Nat) (tf pf : AV) (w : AV) (K' : Mem) : Prop :=
  (∃ v x' l' m c', d = some (v, x', s.length, l', m) ∧ w = .tup [valA v, .bool true] ∧ R x' c' ∧ K' = [rdC rd s s.length (.ofNat l') m tf pf, c']) ∨ ((∀ v x' l' m, d ≠ some (v, x', s.length, l', m)) ∧ ∃ v rc c2, w = .tup [valA v, .bool false] ∧ K' = [rc, c2])
theorem whole42 (hC : Clo B R gt gp ct cp) (hs : ∀ x, x ∈ s → x < 256) (hl : s.length ≤ 100000) {x : σ} {c : Chk} (hR : R x c) :
    CT Try.prog false 42 [rdP rd] [rdC rd s 0 (.ofNat 200) 0 (.fn gt [] ct) (.fn gp [] cp), c] (V42 (dec B s 200 x 0 200) R rd s (.fn gt [] ct) (.fn gp [] cp)) := by
  have k := value62 (rd := rd) (nd := 0) hC hs hl 200 (x := x) (a := 0) (l := 200) (Nat.le_refl _) (Nat.zero_le _) hR (by omega)
  refine CT.enterS mixed comp42 (Nat.le_of_ble_eq_true rfl) ?_
  repeat' (first|refine zz ?_|(refine zw ?_;refine And.intro ?_ ?_<;>intro hc)|(refine zv ?_;intro cv hv)|(refine za ?_;intro _)|refine zc ?_|(refine zd ?_;refine And.intro ?_ ?_<;>(intro e;(try simp only [Bool.not_eq_true',Bool.not_eq_false'] at e);subst e;try contradiction)))
  refine Rg.callM rfl k (.cons (.there (.here)) (.cons (.there (.here)) (.nil))) ?_
  rintro _ _ (⟨v, x1, a1, l1, m1, c1, hv, rfl, hR1, rfl⟩ | ⟨hv, v, a2, l2, nd2, c2, rfl, rfl⟩)
  · obtain ⟨g1, g2, g3, g4⟩ := dec_le hv
    by_cases ha : a1 = s.length
    · subst ha
      repeat' (first|refine zz ?_|(refine zw ?_;refine And.intro ?_ ?_<;>intro hc)|(refine zv ?_;intro cv hv)|(refine za ?_;intro _)|refine zc ?_|(refine zd ?_;refine And.intro ?_ ?_<;>(intro e;(try simp only [Bool.not_eq_true',Bool.not_eq_false'] at e);subst e;try contradiction)))
      refine Dw.e (Ef.storeW rfl rfl (.there (.there (.there Upd.here))) rfl (Nat.le_of_ble_eq_true rfl) rfl) ?_
      rintro _ _ ⟨rfl, rfl⟩
      refine ⟨by repeat (first | exact trivial | refine rdsB rfl ?_ | (refine rdsR ?_ ?_; (focus (first | assumption | (refine Rdk.b1 (cs := ?_) ?_ ?_; rotate_left; (repeat (first | exact InK.here | refine InK.there ?_)); exact rfl) | (refine Rdk.bw ?_ ?_; (repeat (first | exact InK.here | refine InK.there ?_)); first | assumption | exact rfl) | (refine Rdk.bn ?_ ?_; (repeat (first | exact InK.here | refine InK.there ?_)); exact rfl) | (refine Rdk.in ?_; first | assumption | exact rfl) | exact Rdk.i1)))), ?_⟩
      repeat' (first|refine zz ?_|(refine zw ?_;refine And.intro ?_ ?_<;>intro hc)|(refine zv ?_;intro cv hv)|(refine za ?_;intro _)|refine zc ?_|(refine zd ?_;refine And.intro ?_ ?_<;>(intro e;(try simp only [Bool.not_eq_true',Bool.not_eq_false'] at e);subst e;try contradiction)))
      (first|refine ⟨.inr rfl,_,.t rfl .nil,?_⟩|refine ⟨.inr rfl,_,.t rfl (.t rfl .nil),?_⟩|refine ⟨.inr rfl,_,.t rfl (.t rfl (.t rfl .nil)),?_⟩|refine ⟨.inr rfl,_,.nil,?_⟩|refine ⟨.inl rfl,_,.t rfl .nil,?_⟩|refine ⟨.inl rfl,_,.nil,?_⟩|refine ⟨.inr rfl,_,.cn rfl (by exact zN) .nil,?_⟩|refine ⟨.inr rfl,_,.cn rfl (by exact zN) (.t rfl .nil),?_⟩)
      exact ⟨_, _, (.cons (.there (.here)) (.cons (.there (.here)) (.nil))), .inl ⟨v, x1, l1, m1, c1, hv, rfl, hR1, by rw [Nat.zero_add]⟩⟩
    · repeat' (first|refine zz ?_|(refine zw ?_;refine And.intro ?_ ?_<;>intro hc)|(refine zv ?_;intro cv hv)|(refine za ?_;intro _)|refine zc ?_|(refine zd ?_;refine And.intro ?_ ?_<;>(intro e;(try simp only [Bool.not_eq_true',Bool.not_eq_false'] at e);subst e;try contradiction)))
      refine Dw.e (Ef.storeW rfl rfl (.there (.there (.there Upd.here))) rfl (Nat.le_of_ble_eq_true rfl) rfl) ?_
      rintro _ _ ⟨rfl, rfl⟩
      refine ⟨by repeat (first | exact trivial | refine rdsB rfl ?_ | (refine rdsR ?_ ?_; (focus (first | assumption | (refine Rdk.b1 (cs := ?_) ?_ ?_; rotate_left; (repeat (first | exact InK.here | refine InK.there ?_)); exact rfl) | (refine Rdk.bw ?_ ?_; (repeat (first | exact InK.here | refine InK.there ?_)); first | assumption | exact rfl) | (refine Rdk.bn ?_ ?_; (repeat (first | exact InK.here | refine InK.there ?_)); exact rfl) | (refine Rdk.in ?_; first | assumption | exact rfl) | exact Rdk.i1)))), ?_⟩
      repeat' (first|refine zz ?_|(refine zw ?_;refine And.intro ?_ ?_<;>intro hc)|(refine zv ?_;intro cv hv)|(refine za ?_;intro _)|refine zc ?_|(refine zd ?_;refine And.intro ?_ ?_<;>(intro e;(try simp only [Bool.not_eq_true',Bool.not_eq_false'] at e);subst e;try contradiction)))
      (first|refine ⟨.inr rfl,_,.t rfl .nil,?_⟩|refine ⟨.inr rfl,_,.t rfl (.t rfl .nil),?_⟩|refine ⟨.inr rfl,_,.t rfl (.t rfl (.t rfl .nil)),?_⟩|refine ⟨.inr rfl,_,.nil,?_⟩|refine ⟨.inl rfl,_,.t rfl .nil,?_⟩|refine ⟨.inl rfl,_,.nil,?_⟩|refine ⟨.inr rfl,_,.cn rfl (by exact zN) .nil,?_⟩|refine ⟨.inr rfl,_,.cn rfl (by exact zN) (.t rfl .nil),?_⟩)
      exact ⟨_, _, (.cons (.there (.here)) (.cons (.there (.here)) (.nil))), .inr ⟨fun v x l m e => (by rw [e] at hv; cases hv; exact ha rfl), v, _, _, rfl, rfl⟩⟩
  · repeat' (first|refine zz ?_|(refine zw ?_;refine And.intro ?_ ?_<;>intro hc)|(refine zv ?_;intro cv hv)|(refine za ?_;intro _)|refine zc ?_|(refine zd ?_;refine And.intro ?_ ?_<;>(intro e;(try simp only [Bool.not_eq_true',Bool.not_eq_false'] at e);subst e;try contradiction)))
    refine Dw.e (Ef.storeW rfl rfl (.there (.there (.there Upd.here))) rfl (Nat.le_of_ble_eq_true rfl) rfl) ?_
    rintro _ _ ⟨rfl, rfl⟩
    refine ⟨by repeat (first | exact trivial | refine rdsB rfl ?_ | (refine rdsR ?_ ?_; (focus (first | assumption | (refine Rdk.b1 (cs := ?_) ?_ ?_; rotate_left; (repeat (first | exact InK.here | refine InK.there ?_)); exact rfl) | (refine Rdk.bw ?_ ?_; (repeat (first | exact InK.here | refine InK.there ?_)); first | assumption | exact rfl) | (refine Rdk.bn ?_ ?_; (repeat (first | exact InK.here | refine InK.there ?_)); exact rfl) | (refine Rdk.in ?_; first | assumption | exact rfl) | exact Rdk.i1)))), ?_⟩
    repeat' (first|refine zz ?_|(refine zw ?_;refine And.intro ?_ ?_<;>intro hc)|(refine zv ?_;intro cv hv)|(refine za ?_;intro _)|refine zc ?_|(refine zd ?_;refine And.intro ?_ ?_<;>(intro e;(try simp only [Bool.not_eq_true',Bool.not_eq_false'] at e);subst e;try contradiction)))
    (first|refine ⟨.inr rfl,_,.t rfl .nil,?_⟩|refine ⟨.inr rfl,_,.t rfl (.t rfl .nil),?_⟩|refine ⟨.inr rfl,_,.t rfl (.t rfl (.t rfl .nil)),?_⟩|refine ⟨.inr rfl,_,.nil,?_⟩|refine ⟨.inl rfl,_,.t rfl .nil,?_⟩|refine ⟨.inl rfl,_,.nil,?_⟩|refine ⟨.inr rfl,_,.cn rfl (by exact zN) .nil,?_⟩|refine ⟨.inr rfl,_,.cn rfl (by exact zN) (.t rfl .nil),?_⟩)
    exact ⟨_, _, (.cons (.there (.here)) (.cons (.there (.here)) (.nil))), .inr ⟨fun v x l m e => (by rw [e] at hv; cases hv), v, _, _, rfl, rfl⟩⟩
end
theorem decU_full (hd : ∃ v x l m, dec openB s 200 () 0 200 = some (v, x, s.length, l, m)) : rightB s = true ∧ ∃ v x l m, dec openB s 200 () 0 200 = some (v, x, s.length, l, m) ∧ needsN s = m := by
  obtain ⟨v, x, l, m, hd⟩ := hd
  refine ⟨?_, v, x, l, m, hd, ?_⟩
  · unfold rightB decU; rw [hd]; simp
  · unfold needsN decU; rw [hd]; simp
theorem decU_no (hd : ∀ v x l m, dec openB s 200 () 0 200 ≠ some (v, x, s.length, l, m)) : rightB s = false ∧ needsN s = 0 := by
  unfold rightB needsN decU
  cases h : dec openB s 200 () 0 200 with
  | none => exact ⟨rfl, rfl⟩
  | some p =>
    obtain ⟨v, x, a, l, m⟩ := p
    have ha : a ≠ s.length := by
      rintro rfl
      exact hd _ _ _ _ h
    exact ⟨by simp [ha], by simp [ha]⟩
theorem right14 (hs : ∀ x, x ∈ s → x < 256) (hl : s.length ≤ 100000) : PT Try.prog false 14 [.str s] (.bool (rightB s)) := by
  refine PT.of (CT.enter mixed comp14 (Nat.le_of_ble_eq_true rfl) ?_)
  refine Cd.perm (K2 := [[]]) (.refl _) ?_
  repeat' (first|refine zz ?_|(refine zw ?_;refine And.intro ?_ ?_<;>intro hc)|(refine zv ?_;intro cv hv)|(refine za ?_;intro _)|refine zc ?_|(refine zd ?_;refine And.intro ?_ ?_<;>(intro e;(try simp only [Bool.not_eq_true',Bool.not_eq_false'] at e);subst e;try contradiction)))
  refine Rg.callM (m := []) rfl open41 .nil ?_
  rintro _ _ ⟨rd, rfl, rfl⟩
  have k := whole42 (rd := rd) openC hs hl (x := ()) (c := []) rfl
  refine Rg.callM rfl k (.cons (.here) (.cons (.here) (.nil))) ?_
  rintro _ _ (⟨v, x, l, m, c, hd, rfl, _, rfl⟩ | ⟨hd, v, rc, c2, rfl, rfl⟩)
  · rw [(decU_full ⟨v, x, l, m, hd⟩).1]
    repeat' (first|refine zz ?_|(refine zw ?_;refine And.intro ?_ ?_<;>intro hc)|(refine zv ?_;intro cv hv)|(refine za ?_;intro _)|refine zc ?_|(refine zd ?_;refine And.intro ?_ ?_<;>(intro e;(try simp only [Bool.not_eq_true',Bool.not_eq_false'] at e);subst e;try contradiction)))
    (first|refine ⟨.inr rfl,_,.t rfl .nil,?_⟩|refine ⟨.inr rfl,_,.t rfl (.t rfl .nil),?_⟩|refine ⟨.inr rfl,_,.t rfl (.t rfl (.t rfl .nil)),?_⟩|refine ⟨.inr rfl,_,.nil,?_⟩|refine ⟨.inl rfl,_,.t rfl .nil,?_⟩|refine ⟨.inl rfl,_,.nil,?_⟩|refine ⟨.inr rfl,_,.cn rfl (by exact zN) .nil,?_⟩|refine ⟨.inr rfl,_,.cn rfl (by exact zN) (.t rfl .nil),?_⟩)
    rfl
  · rw [(decU_no hd).1]
    repeat' (first|refine zz ?_|(refine zw ?_;refine And.intro ?_ ?_<;>intro hc)|(refine zv ?_;intro cv hv)|(refine za ?_;intro _)|refine zc ?_|(refine zd ?_;refine And.intro ?_ ?_<;>(intro e;(try simp only [Bool.not_eq_true',Bool.not_eq_false'] at e);subst e;try contradiction)))
    (first|refine ⟨.inr rfl,_,.t rfl .nil,?_⟩|refine ⟨.inr rfl,_,.t rfl (.t rfl .nil),?_⟩|refine ⟨.inr rfl,_,.t rfl (.t rfl (.t rfl .nil)),?_⟩|refine ⟨.inr rfl,_,.nil,?_⟩|refine ⟨.inl rfl,_,.t rfl .nil,?_⟩|refine ⟨.inl rfl,_,.nil,?_⟩|refine ⟨.inr rfl,_,.cn rfl (by exact zN) .nil,?_⟩|refine ⟨.inr rfl,_,.cn rfl (by exact zN) (.t rfl .nil),?_⟩)
    rfl
theorem needs16 (hs : ∀ x, x ∈ s → x < 256) (hl : s.length ≤ 100000) : PT Try.prog false 16 [.str s] (.int .i64 (.ofNat (needsN s))) := by
  refine PT.of (CT.enter mixed comp16 (Nat.le_of_ble_eq_true rfl) ?_)
  refine Cd.perm (K2 := [[]]) (.refl _) ?_
  repeat' (first|refine zz ?_|(refine zw ?_;refine And.intro ?_ ?_<;>intro hc)|(refine zv ?_;intro cv hv)|(refine za ?_;intro _)|refine zc ?_|(refine zd ?_;refine And.intro ?_ ?_<;>(intro e;(try simp only [Bool.not_eq_true',Bool.not_eq_false'] at e);subst e;try contradiction)))
  refine Rg.callM (m := []) rfl open41 .nil ?_
  rintro _ _ ⟨rd, rfl, rfl⟩
  repeat' (first|refine zz ?_|(refine zw ?_;refine And.intro ?_ ?_<;>intro hc)|(refine zv ?_;intro cv hv)|(refine za ?_;intro _)|refine zc ?_|(refine zd ?_;refine And.intro ?_ ?_<;>(intro e;(try simp only [Bool.not_eq_true',Bool.not_eq_false'] at e);subst e;try contradiction)))
  have k := whole42 (rd := rd) openC hs hl (x := ()) (c := []) rfl
  refine Rg.callM rfl k (.cons (.here) (.cons (.here) (.nil))) ?_
  rintro _ _ (⟨v, x, l, m, c, hd, rfl, _, rfl⟩ | ⟨hd, v, rc, c2, rfl, rfl⟩)
  · have h2 : needsN s = m := by
      unfold needsN decU; rw [hd]; simp
    rw [h2]
    repeat' (first|refine zz ?_|(refine zw ?_;refine And.intro ?_ ?_<;>intro hc)|(refine zv ?_;intro cv hv)|(refine za ?_;intro _)|refine zc ?_|(refine zd ?_;refine And.intro ?_ ?_<;>(intro e;(try simp only [Bool.not_eq_true',Bool.not_eq_false'] at e);subst e;try contradiction)))
    (first|refine ⟨.inr rfl,_,.t rfl .nil,?_⟩|refine ⟨.inr rfl,_,.t rfl (.t rfl .nil),?_⟩|refine ⟨.inr rfl,_,.t rfl (.t rfl (.t rfl .nil)),?_⟩|refine ⟨.inr rfl,_,.nil,?_⟩|refine ⟨.inl rfl,_,.t rfl .nil,?_⟩|refine ⟨.inl rfl,_,.nil,?_⟩|refine ⟨.inr rfl,_,.cn rfl (by exact zN) .nil,?_⟩|refine ⟨.inr rfl,_,.cn rfl (by exact zN) (.t rfl .nil),?_⟩)
    rfl
  · rw [(decU_no hd).2]
    repeat' (first|refine zz ?_|(refine zw ?_;refine And.intro ?_ ?_<;>intro hc)|(refine zv ?_;intro cv hv)|(refine za ?_;intro _)|refine zc ?_|(refine zd ?_;refine And.intro ?_ ?_<;>(intro e;(try simp only [Bool.not_eq_true',Bool.not_eq_false'] at e);subst e;try contradiction)))
    (first|refine ⟨.inr rfl,_,.t rfl .nil,?_⟩|refine ⟨.inr rfl,_,.t rfl (.t rfl .nil),?_⟩|refine ⟨.inr rfl,_,.t rfl (.t rfl (.t rfl .nil)),?_⟩|refine ⟨.inr rfl,_,.nil,?_⟩|refine ⟨.inl rfl,_,.t rfl .nil,?_⟩|refine ⟨.inl rfl,_,.nil,?_⟩|refine ⟨.inr rfl,_,.cn rfl (by exact zN) .nil,?_⟩|refine ⟨.inr rfl,_,.cn rfl (by exact zN) (.t rfl .nil),?_⟩)
    rfl
end
end Go.Proofs.Ytlflpjjmkigepaa

namespace Go.Proofs.Ytlflpjjmkigepaa
open Go Go.Abs
attribute [local irreducible] Cmp Rg Dw Cd Lp Ev Rdk CT Upd InK
theorem known11r : PT Try.prog false 11 [] (.bool true) := PT.run plain0 (by kernel_rfl) rfl rfl
theorem right4 {s : List Nat} (hs : ∀ x, x ∈ s → x < 256) : CT Try.prog true 4 [.str s] [] fun w _ => w = .bool true := by
  have k11 := known11r.up (nd := true)
  refine CT.enter mixed comp4 (Nat.le_of_ble_eq_true rfl) ?_
  by_cases h : s.length ≤ 20000
  · have k1 := (right14 hs (by omega)).up (nd := true)
    have k2 := (right15 hs (by omega)).up (nd := true)
    have k3 := (needs16 hs (by omega)).up (nd := true)
    have k4 := (needs17 hs (by omega)).up (nd := true)
    have q : aeq (.flat false [.b]) (.bool (rightB s)) (.bool (rightB s)) = some true := by cases rightB s <;> rfl
    repeat' (first|refine zz ?_|(refine zw ?_;refine And.intro ?_ ?_<;>intro hc)|(refine zv ?_;intro cv hv)|(refine za ?_;intro _)|refine zc ?_|(refine zd ?_;refine And.intro ?_ ?_<;>(intro e;(try simp only [Bool.not_eq_true',Bool.not_eq_false'] at e);subst e;try contradiction)))
    subst_vars
    repeat' (first|refine zz ?_|(refine zw ?_;refine And.intro ?_ ?_<;>intro hc)|(refine zv ?_;intro cv hv)|(refine za ?_;intro _)|refine zc ?_|(refine zd ?_;refine And.intro ?_ ?_<;>(intro e;(try simp only [Bool.not_eq_true',Bool.not_eq_false'] at e);subst e;try contradiction)))
    (first|refine ⟨.inr rfl,_,.t rfl .nil,?_⟩|refine ⟨.inr rfl,_,.t rfl (.t rfl .nil),?_⟩|refine ⟨.inr rfl,_,.t rfl (.t rfl (.t rfl .nil)),?_⟩|refine ⟨.inr rfl,_,.nil,?_⟩|refine ⟨.inl rfl,_,.t rfl .nil,?_⟩|refine ⟨.inl rfl,_,.nil,?_⟩|refine ⟨.inr rfl,_,.cn rfl (by exact zN) .nil,?_⟩|refine ⟨.inr rfl,_,.cn rfl (by exact zN) (.t rfl .nil),?_⟩)
    subst hv
    rfl
  · repeat' (first|refine zz ?_|(refine zw ?_;refine And.intro ?_ ?_<;>intro hc)|(refine zv ?_;intro cv hv)|(refine za ?_;intro _)|refine zc ?_|(refine zd ?_;refine And.intro ?_ ?_<;>(intro e;(try simp only [Bool.not_eq_true',Bool.not_eq_false'] at e);subst e;try contradiction)))
    (first|refine ⟨.inr rfl,_,.t rfl .nil,?_⟩|refine ⟨.inr rfl,_,.t rfl (.t rfl .nil),?_⟩|refine ⟨.inr rfl,_,.t rfl (.t rfl (.t rfl .nil)),?_⟩|refine ⟨.inr rfl,_,.nil,?_⟩|refine ⟨.inl rfl,_,.t rfl .nil,?_⟩|refine ⟨.inl rfl,_,.nil,?_⟩|refine ⟨.inr rfl,_,.cn rfl (by exact zN) .nil,?_⟩|refine ⟨.inr rfl,_,.cn rfl (by exact zN) (.t rfl .nil),?_⟩)
    subst hv
    rfl
end Go.Proofs.Ytlflpjjmkigepaa
