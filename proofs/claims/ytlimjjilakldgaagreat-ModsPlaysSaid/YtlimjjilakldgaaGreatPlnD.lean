/- The program's reader: a value. -/
import Derived.Test.YtlimjjilakldgaaGreatPlnC
import Derived.Test.YtlimjjilakldgaaGreatPlnB
import Derived.Test.YtlimjjilakldgaaGreatAbsY
set_option autoImplicit false
set_option maxRecDepth 900000
set_option maxHeartbeats 4000000
set_option linter.unusedVariables false
set_option linter.unusedSimpArgs false
set_option maxRecDepth 100000
namespace Go.Proofs.YtlimjjilakldgaaGreat.Q
open Go Go.Abs
attribute [local irreducible] Cmp Rg Dw Cd Lp Ev Rdk CT Upd InK
structure Clo {σ : Type} (B : Bld σ) (R : σ → Chk → Prop) (gt gp : FuncId) (ct cp : List AV) : Prop where
 tab : ∀ x c, R x c → CT Try.prog false gt ([] ++ [] ++ ct) [c] fun w K' => w = valA (B.tb x).2 ∧ ∃ c', R (B.tb x).1 c' ∧ K' = [c']
 put : ∀ x c t k v, R x c → ScOk k → keyB k = true → CT Try.prog false gp ([] ++ [valA t, valA k, valA v] ++ cp) [c] fun w K' => w = .tup [] ∧ ∃ c', R (B.pt x t k v) c' ∧ K' = [c']
def V62 {σ : Type} (d : DR σ) (R : σ → Chk → Prop) (rd : Nat) (s : List Nat) (nd : Nat) (tf pf : AV) (w : AV) (K' : Mem) : Prop :=
 (∃ v x' a' l' m c', d = some (v, x', a', l', m) ∧ w = .tup [valA v, .bool true] ∧ R x' c' ∧ K' = [rdC rd s a' (.ofNat l') (nd + m) tf pf, c']) ∨ (d = none ∧ ∃ v a2 l2 nd2 c2, w = .tup [valA v, .bool false] ∧ K' = [rdC rd s a2 l2 nd2 tf pf, c2])
section
variable {σ : Type} {B : Bld σ} {R : σ → Chk → Prop} {gt gp : FuncId} {ct cp : List AV} {s : List Nat} {rd : Nat}
theorem value62_loop (hC : Clo B R gt gp ct cp) (hs : ∀ x, x ∈ s → x < 256) (hl : s.length ≤ 900000) {g : σ → Nat → Nat → DR σ} {t : Val} {n Bd b2 b7 b8 : Nat} {Q : AX → SL → Mem → Prop} (hn : n < 65536)
  (hg : ∀ x a l nd c, l ≤ Bd → a ≤ s.length → R x c → nd + 65537 * l ≤ 100000000 → CT Try.prog false 76 [rdP rd] [rdC rd s a (.ofNat l) nd (.fn gt [] ct) (.fn gp [] cp), c] (V62 (g x a l) R rd s nd (.fn gt [] ct) (.fn gp [] cp)))
  (hle : ∀ x a l v x1 a1 l1 m, g x a l = some (v, x1, a1, l1, m) → a < a1 ∧ a1 ≤ s.length ∧ l1 < l ∧ m + 1 ≤ 2 * (l - l1)) :
  ∀ (f k i : Nat) (last : Val) (x : σ) (a l nd : Nat) (c : Chk), k < f → i + k = n → l ≤ Bd → a ≤ s.length → R x c → nd + 65537 * l ≤ 100000000 →
   (hend : ∀ l' x2 a2 l2 m c2 last2, decL B s g t k last x a l = some (x2, a2, l2, m) → R x2 c2 → Sub2 [(2, .ptr b2 0 0 3), (7, .ptr b7 0 0 3)] l' → Q (.ext 0) l' [rdC rd s a2 (.ofNat l2) (nd + m) (.fn gt [] ct) (.fn gp [] cp), c2, b3 b7 t, b3 b8 last2, b3 b2 v0]) →
   (hret : decL B s g t k last x a l = none → ∀ l' K', Sub2 [(2, .ptr b2 0 0 3), (3, .bool false)] l' → (∃ a2 l2 nd2 c2 r, Sel K' [rdC rd s a2 l2 nd2 (.fn gt [] ct) (.fn gp [] cp), c2, b3 b2 v0] r) → Q .ret l' K') →
   Lp Try.prog false b76_0 f [(0, rdP rd), (2, .ptr b2 0 0 3), (7, .ptr b7 0 0 3), (8, .ptr b8 0 0 3), (64, .int .i64 (.ofNat n)), (65, .int .i64 (.ofNat i))] [rdC rd s a (.ofNat l) nd (.fn gt [] ct) (.fn gp [] cp), c, b3 b7 t, b3 b8 last, b3 b2 v0] Q := by
 intro f
 induction f with
 | zero => intro k i last x a l nd c h1; omega
 | succ f ih =>
  intro k i last x a l nd c h1 h2 h3 h4 hR h5 hend hret
  refine Lp.round ?_
  cases k with
  | zero =>
   obtain rfl : i = n := by omega
   repeat' (first|intro _|refine yS ?_|(apply YB.mk<;>intro hc)|(apply YA.mk;intro cv hv)|(refine yT ?_ ?_<;>(intro e;(try simp only [nbT,nbF] at e);subst e;try contradiction)))
   exact hend _ x a l 0 c last rfl hR ⟨rfl, rfl, trivial⟩
  | succ k =>
   have hin : i < n := by omega
   have k73 := key73 (a := a) (rd := rd) (left := .ofNat l) (nd := nd) (tf := .fn gt [] ct) (pf := .fn gp [] cp) hs hl (by omega)
   repeat' (first|(refine Rg.callM rfl k73 (.cons (.here) (.nil)) ?_; rintro _ _ (⟨kv, to, hk, rfl, rfl⟩ | ⟨hk, kv, a2, rfl, rfl⟩))|intro _|refine yS ?_|(apply YB.mk<;>intro hc)|(apply YA.mk;intro cv hv)|(refine yT ?_ ?_<;>(intro e;(try simp only [nbT,nbF] at e);subst e;try contradiction)))
   ·obtain ⟨hkS, hkb⟩ := rdK_S hk
    obtain ⟨hto1, hto2⟩ := rdS_le hkS
    have hkOk := (rdS_sc hs hkS).2.2.2
    have k74 := follows74 (a := last) (b := kv) (by simpa [keyB] using hkb)
    cases hah : aheadB last kv with
    | false =>
     rw [hah] at k74
     repeat' (first|intro _|refine yS ?_|(apply YB.mk<;>intro hc)|(apply YA.mk;intro cv hv)|(refine yT ?_ ?_<;>(intro e;(try simp only [nbT,nbF] at e);subst e;try contradiction)))
     exact hret (by simp only [decL, hk, hah]; rfl) _ _ ⟨rfl, rfl, trivial⟩ ⟨_, _, _, _, _, (.cons (.there (.here)) (.cons (.there (.here)) (.cons (.there (.there (.there (.here)))) (.nil))))⟩
    | true =>
     rw [hah] at k74
     have k62 := hg x to l nd c h3 hto2 hR h5
     repeat' (first|(refine Rg.callM rfl k62 (.cons (.there (.here)) (.cons (.there (.here)) (.nil))) ?_; rintro _ _ (⟨v, x1, a1, l1, m1, c1, hv, rfl, hR1, rfl⟩ | ⟨hv, v, a2, l2, nd2, c2, rfl, rfl⟩))|intro _|refine yS ?_|(apply YB.mk<;>intro hc)|(apply YA.mk;intro cv hv)|(refine yT ?_ ?_<;>(intro e;(try simp only [nbT,nbF] at e);subst e;try contradiction)))
     ·exact hret (by simp only [decL, hk, hah, hv]; simp [hc]) _ _ ⟨rfl, rfl, trivial⟩ ⟨_, _, _, _, _, (.cons (.there (.here)) (.cons (.there (.here)) (.cons (.there (.there (.there (.there (.here))))) (.nil))))⟩
     ·obtain ⟨g1, g2, g3, g4⟩ := hle _ _ _ _ _ _ _ _ hv
      refine Dw.e (Ef.callv rfl rfl (hC.put x1 c1 t kv v hR1 hkOk hkb) (.cons (.there (.there (.here))) (.nil))) ?_
      rintro _ _ ⟨m', rfl, rfl, c3, hR3, rfl⟩
      refine yO ?_
      repeat' (first|intro _|refine yS ?_|(apply YB.mk<;>intro hc)|(apply YA.mk;intro cv hv)|(refine yT ?_ ?_<;>(intro e;(try simp only [nbT,nbF] at e);subst e;try contradiction)))
      have e : decL B s g t (k + 1) last x a l = match decL B s g t k kv (B.pt x1 t kv v) a1 l1 with
        | none => none
        | some (x2, a2, l2, m2) => some (x2, a2, l2, m1 + m2) := by
       simp only [decL, hk, hah, hv, if_true]
       rw [if_neg (show ¬ v.k = 0 from hc)]
       try rfl
      have := ih k (i + 1) kv (B.pt x1 t kv v) a1 l1 (nd + m1) c3 (by omega) (by omega) (by omega) g2 hR3 (by omega)
       (fun l' x2 a2 l2 m2 c2 last2 hd hR2 h27 => by
        have := hend l' x2 a2 l2 (m1 + m2) c2 last2 (by rw [e, hd]) hR2 h27
        rwa [← Nat.add_assoc] at this)
       (fun hd => hret (by rw [e, hd]))
      exact Lp.drop (.cons (.there (.there (.here))) (.cons (.here) (.cons (.there (.there (.here))) (.cons (.there (.there (.here))) (.cons (.there (.there (.here))) (.nil)))))) (Lp.weak (by exact ⟨rfl, rfl, rfl, rfl, rfl, rfl, trivial⟩) this)
     ·exact hret (by simp only [decL, hk, hah, hv]; rfl) _ _ ⟨rfl, rfl, trivial⟩ ⟨_, _, _, _, _, (.cons (.there (.here)) (.cons (.there (.here)) (.cons (.there (.there (.there (.there (.here))))) (.nil))))⟩
   ·exact hret (by simp only [decL, hk]) _ _ ⟨rfl, rfl, trivial⟩ ⟨_, _, _, _, _, (.cons (.there (.here)) (.cons (.there (.here)) (.cons (.there (.there (.there (.here)))) (.nil))))⟩
theorem sel_in {K m r : Mem} (h : Sel K m r) {i : Nat} {o : AObj} (hi : InK m i o) : InK K i o := by
 unfold InK at hi ⊢
 exact h.perm.mem_iff.2 (by rw [List.flatten_append]; exact List.mem_append_left _ hi)
theorem sel_two {K r : Mem} {c d e : Chk} (h : Sel K [c, d, e] r) : ∃ r', Sel K [c, d] r' := by
 cases h with
 | cons h1 h =>
  cases h with
  | cons h2 h => exact ⟨_, .cons h1 (.cons h2 .nil)⟩
theorem sub_z : abin .sub (.int .i64 (.ofNat 0)) (.int .i64 (.ofNat 1)) = some (.int .i64 (.negSucc 0)) := rfl
theorem sub_o {n : Nat} (h : n < 1000000) : abin .sub (.int .i64 (.ofNat (n + 1))) (.int .i64 (.ofNat 1)) = some (.int .i64 (.ofNat n)) := sub_nat (a := n + 1) (by omega) (by omega)
theorem value62_0 (hs : ∀ x, x ∈ s → x < 256) (hl : s.length ≤ 900000) {a nd : Nat} {c : Chk} {d : DR σ} {tf pf : AV} (h2 : a ≤ s.length) (hd : d = none) : CT Try.prog false 76 [rdP rd] [rdC rd s a (.ofNat 0) nd tf pf, c] (V62 d R rd s nd tf pf) := by
 have e0 := sub_z
 have k1 := num71 (a := a) (w := 1) (rd := rd) (left := .ofNat 0) (nd := nd) (tf := tf) (pf := pf) hs hl (by omega) (by omega)
 refine CT.enterS mixed comp76 (Nat.le_of_ble_eq_true rfl) ?_
 by_cases h : a + 1 ≤ s.length
 ·simp only [if_pos h] at k1
  repeat' (first|(refine Rg.callM rfl k1 (.cons (.there (.here)) (.nil)) ?_; rintro _ _ ⟨rfl, rfl⟩)|intro _|refine yS ?_|(apply YB.mk<;>intro hc)|(apply YA.mk;intro cv hv)|(refine yT ?_ ?_<;>(intro e;(try simp only [nbT,nbF] at e);subst e;try contradiction)))
  refine yX ?_
  exact ⟨_, _, (.cons (.here) (.cons (.there (.here)) (.nil))), .inr ⟨hd, v0, _, _, _, _, rfl, rfl⟩⟩
 ·simp only [if_neg h] at k1
  repeat' (first|(refine Rg.callM rfl k1 (.cons (.there (.here)) (.nil)) ?_; rintro _ _ ⟨rfl, rfl⟩)|intro _|refine yS ?_|(apply YB.mk<;>intro hc)|(apply YA.mk;intro cv hv)|(refine yT ?_ ?_<;>(intro e;(try simp only [nbT,nbF] at e);subst e;try contradiction)))
  refine yX ?_
  exact ⟨_, _, (.cons (.here) (.cons (.there (.here)) (.nil))), .inr ⟨hd, v0, _, _, _, _, rfl, rfl⟩⟩
theorem value62 (hC : Clo B R gt gp ct cp) (hs : ∀ x, x ∈ s → x < 256) (hl : s.length ≤ 900000) : ∀ (f : Nat) {x : σ} {a l nd : Nat} {c : Chk}, l ≤ f → a ≤ s.length → R x c → nd + 65537 * l ≤ 100000000 →
  CT Try.prog false 76 [rdP rd] [rdC rd s a (.ofNat l) nd (.fn gt [] ct) (.fn gp [] cp), c] (V62 (dec B s f x a l) R rd s nd (.fn gt [] ct) (.fn gp [] cp)) := by
 intro f
 induction f with
 | zero =>
  intro x a l nd c h1 h2 hR h3
  obtain rfl : l = 0 := by omega
  exact value62_0 hs hl h2 rfl
 | succ f ih =>
  intro x a l nd c h1 h2 hR h3
  cases l with
  | zero => exact value62_0 hs hl h2 rfl
  | succ l =>
   have e0 := sub_o (n := l) (by omega)
   have k1 := num71 (a := a) (w := 1) (rd := rd) (left := .ofNat (l + 1)) (nd := nd) (tf := .fn gt [] ct) (pf := .fn gp [] cp) hs hl (by omega) (by omega)
   refine CT.enterS mixed comp76 (Nat.le_of_ble_eq_true rfl) ?_
   by_cases h : a + 1 ≤ s.length
   ·have hx : s[a]? = some s[a] := List.getElem?_eq_getElem h
    have hxl := hs _ (List.mem_of_getElem? hx)
    generalize s[a] = y at hx hxl
    simp only [if_pos h, seg_one hx, i64_1 hxl] at k1
    by_cases h3y : y = 3
    ·subst h3y
     have k2 := num71 (a := a + 1) (w := 2) (rd := rd) (left := .ofNat l) (nd := nd) (tf := .fn gt [] ct) (pf := .fn gp [] cp) hs hl (by omega) (by omega)
     rw [show a + 1 + 2 = a + 3 by omega] at k2
     by_cases h3l : a + 3 ≤ s.length
     ·simp only [if_pos h3l] at k2
      have hlt := segd_lt (w := 2) (a := a + 1) (b := a + 3) hs h3l (by omega) (by omega)
      have e2 : 256 ^ 2 = 65536 := by decide
      rw [e2] at hlt
      rw [i64_lo (by omega)] at k2
      have ed : dec B s (f + 1) x a (l + 1) = match decL B s (dec B s f) (B.tb x).2 (deB (sgm s (a + 1) (a + 3))) v0 (B.tb x).1 (a + 3) l with
        | none => none
        | some (x2, a2, l2, m) => some ((B.tb x).2, x2, a2, l2, 1 + deB (sgm s (a + 1) (a + 3)) + m) := by
       simp only [dec, hx, if_true, if_pos h3l]
       try rfl
      generalize deB (sgm s (a + 1) (a + 3)) = n at k2 hlt ed
      have kt := hC.tab x c hR
      repeat' (first|(refine Rg.callM rfl k1 (.cons (.there (.here)) (.nil)) ?_; rintro _ _ ⟨rfl, rfl⟩)|(refine Rg.callM rfl k2 (.cons (.here) (.nil)) ?_; rintro _ _ ⟨rfl, rfl⟩)|(refine Rg.callvM rfl rfl kt (.cons (.there (.there (.here))) (.nil)) ?_; rintro _ _ ⟨rfl, c1, hR1, rfl⟩)|intro _|refine yS ?_|(apply YB.mk<;>intro hc)|(apply YA.mk;intro cv hv)|(refine yT ?_ ?_<;>(intro e;(try simp only [nbT,nbF] at e);subst e;try contradiction)))
      rename_i b2 b7 b8
      refine Cd.loop (k := n + 1) (Lp.drop (.cons (.there (.there (.there (.here)))) (.cons (.there (.there (.here))) (.cons (.there (.here)) (.cons (.here) (.cons (.here) (.nil)))))) (Lp.weak (l2 := [(0, rdP rd), (2, .ptr b2 0 0 3), (7, .ptr b7 0 0 3), (8, .ptr b8 0 0 3), (64, .int .i64 (.ofNat n)), (65, .int .i64 (.ofNat 0))]) ⟨rfl, rfl, rfl, rfl, rfl, rfl, trivial⟩
       (value62_loop (t := (B.tb x).2) (g := dec B s f) (Bd := l) hC hs hl hlt (fun x a l nd c h1 h2 h3 h4 => ih (by omega) h2 h3 h4) (fun _ _ _ _ _ _ _ _ h => dec_le h) (n + 1) n 0 v0 (B.tb x).1 (a + 3) l (nd + (1 + n)) c1 (by omega) (by omega) (Nat.le_refl _) h3l hR1 (by omega) ?_ ?_)))
      ·intro l' x2 a2 l2 m c2 last2 hd hR2 hs27
       show Cd _ _ _ _ _ _
       refine Cd.weak hs27 ?_
       repeat' (first|intro _|refine yS ?_|(apply YB.mk<;>intro hc)|(apply YA.mk;intro cv hv)|(refine yT ?_ ?_<;>(intro e;(try simp only [nbT,nbF] at e);subst e;try contradiction)))
       refine yX ?_
       refine ⟨_, _, (.cons (.here) (.cons (.here) (.nil))), .inl ⟨_, x2, a2, l2, 1 + n + m, c2, by rw [ed, hd], rfl, hR2, ?_⟩⟩
       rw [Nat.add_assoc nd]
      ·rintro hd l' K' ⟨h2, h3, _⟩ ⟨a2, l2, nd2, c2, r, hsel⟩
       obtain ⟨r', hsel'⟩ := sel_two hsel
       refine ⟨.inr rfl, _, .cn h2 (Rdk.bw (sel_in hsel (.there (.there .here))) rfl) (.t h3 .nil), ?_⟩
       exact ⟨_, _, hsel', .inr ⟨by rw [ed, hd], v0, a2, l2, nd2, c2, rfl, rfl⟩⟩
     ·simp only [if_neg h3l] at k2
      have ed : dec B s (f + 1) x a (l + 1) = none := by simp only [dec, hx, if_true, if_neg h3l]
      repeat' (first|(refine Rg.callM rfl k1 (.cons (.there (.here)) (.nil)) ?_; rintro _ _ ⟨rfl, rfl⟩)|(refine Rg.callM rfl k2 (.cons (.here) (.nil)) ?_; rintro _ _ ⟨rfl, rfl⟩)|intro _|refine yS ?_|(apply YB.mk<;>intro hc)|(apply YA.mk;intro cv hv)|(refine yT ?_ ?_<;>(intro e;(try simp only [nbT,nbF] at e);subst e;try contradiction)))
      refine yX ?_
      exact ⟨_, _, (.cons (.here) (.cons (.there (.here)) (.nil))), .inr ⟨ed, v0, _, _, _, _, rfl, rfl⟩⟩
    ·have k72 := scalar72 (a := a) (rd := rd) (left := .ofNat l) (nd := nd) (tf := .fn gt [] ct) (pf := .fn gp [] cp) hs hl hx
     have ed : dec B s (f + 1) x a (l + 1) = match rdS s a with
       | none => none
       | some (v, to) => some (v, x, to, l, 0) := by
      simp only [dec, hx, if_neg h3y]
      try rfl
     repeat' (first|(refine Rg.callM rfl k1 (.cons (.there (.here)) (.nil)) ?_; rintro _ _ ⟨rfl, rfl⟩)|(refine Rg.callM rfl k72 (.cons (.here) (.nil)) ?_; rintro _ _ (⟨v, to, hr, rfl, rfl⟩ | ⟨hr, v, a2, rfl, rfl⟩))|intro _|refine yS ?_|(apply YB.mk<;>intro hc)|(apply YA.mk;intro cv hv)|(refine yT ?_ ?_<;>(intro e;(try simp only [nbT,nbF] at e);subst e;try contradiction)))
     all_goals refine yX ?_
     ·exact ⟨_, _, (.cons (.here) (.cons (.there (.here)) (.nil))), .inl ⟨v, x, to, l, 0, c, by rw [ed, hr], rfl, hR, rfl⟩⟩
     ·exact ⟨_, _, (.cons (.here) (.cons (.there (.here)) (.nil))), .inr ⟨by rw [ed, hr], v, _, _, _, _, rfl, rfl⟩⟩
   ·simp only [if_neg h] at k1
    repeat' (first|(refine Rg.callM rfl k1 (.cons (.there (.here)) (.nil)) ?_; rintro _ _ ⟨rfl, rfl⟩)|intro _|refine yS ?_|(apply YB.mk<;>intro hc)|(apply YA.mk;intro cv hv)|(refine yT ?_ ?_<;>(intro e;(try simp only [nbT,nbF] at e);subst e;try contradiction)))
    refine yX ?_
    exact ⟨_, _, (.cons (.here) (.cons (.there (.here)) (.nil))), .inr ⟨by simp only [dec]; rw [List.getElem?_eq_none (by omega)], v0, _, _, _, _, rfl, rfl⟩⟩
end
end Go.Proofs.YtlimjjilakldgaaGreat.Q
namespace Go.Proofs.YtlimjjilakldgaaGreat.Q
open Go Go.Abs
attribute [local irreducible] Cmp Rg Dw Cd Lp Ev Rdk CT Upd InK
section
variable {σ : Type} {B : Bld σ} {s : List Nat}
theorem dec_no {f : Nat} {x : σ} {a l : Nat} (h : s.length ≤ a) : dec B s f x a l = none := by
 cases f with
 | zero => rfl
 | succ f =>
  cases l with
  | zero => rfl
  | succ l => simp only [dec]; rw [List.getElem?_eq_none h]
theorem dec_0 {f : Nat} {x : σ} {a l : Nat} {v : Val} {x1 : σ} {a1 l1 m : Nat} (h : s[a]? = some 0) (hd : dec B s f x a l = some (v, x1, a1, l1, m)) : v.k = 0 := by
 cases f with
 | zero => cases hd
 | succ f =>
  cases l with
  | zero => cases hd
  | succ l =>
   simp only [dec, h] at hd
   rw [if_neg (by decide), rdS_0 h] at hd
   simp only [Option.some.injEq, Prod.mk.injEq] at hd
   rw [← hd.1]
theorem dec_n0 {f : Nat} {x : σ} {a l c : Nat} {v : Val} {x1 : σ} {a1 l1 m : Nat} (hB : (B.tb x).2.k ≠ 0) (h : s[a]? = some c) (hc : c ≠ 0) (hd : dec B s f x a l = some (v, x1, a1, l1, m)) : v.k ≠ 0 := by
 cases f with
 | zero => cases hd
 | succ f =>
  cases l with
  | zero => cases hd
  | succ l =>
   simp only [dec, h] at hd
   split at hd
   ·split at hd
    ·split at hd
     ·cases hd
     ·simp only [Option.some.injEq, Prod.mk.injEq] at hd
      rw [← hd.1]
      exact hB
    ·cases hd
   ·split at hd
    ·cases hd
    ·rename_i v2 to hr
     simp only [Option.some.injEq, Prod.mk.injEq] at hd
     rw [← hd.1]
     by_cases h1 : c = 1
     ·subst h1
      rw [rdS_1 h] at hr
      split at hr
      ·cases hr; show (1 : Int) ≠ 0; decide
      ·cases hr
     ·by_cases h2 : c = 2
      ·subst h2
       rw [rdS_2 h] at hr
       split at hr
       ·split at hr
        ·cases hr; show (2 : Int) ≠ 0; decide
        ·cases hr
       ·cases hr
      ·rw [rdS_x h hc h1 h2] at hr
       cases hr
end
def ovA (d : DR Unit) (w : AV) : Prop := match d with
 | some (_, _, a, l, m) => w = .tup [.int .i64 (.ofNat a), .int .i64 (.ofNat l), .int .i64 (.ofNat m)]
 | none => ∃ x, w = .tup [.int .i64 (.negSucc 0), .int .i64 x, .int .i64 (.ofNat 0)]
section
variable {s : List Nat}
theorem ahead_v0 {k : Val} (hk : keyB k = true) : aheadB v0 k = true := by
 simp only [keyB, Bool.or_eq_true, decide_eq_true_eq] at hk
 have h0 : v0.k = 0 := rfl
 rw [aheadB, if_pos (by omega), decide_eq_true (by omega)]
theorem m16 (hl : s.length ≤ 900000) {b14 b16 i to : Nat} {last kv : Val} {z1 z2 z11 z13 : AV} {d : Bool} (hto : to ≤ s.length) (hlast : i = 0 ∧ last = v0 ∨ 0 < i ∧ ScOk last ∧ keyB last = true) (hk : ScOk kv) (hkb : keyB kv = true)
  (hd : d = (!(aheadB last kv) || decide (s[to]? = none ∨ s[to]? = some 0))) :
  Cd Try.prog false (.reg r55_16) [(0, .str s), (1, z1), (2, z2), (11, z11), (13, z13), (14, .ptr b14 0 0 3), (15, .int .i64 (.ofNat i)), (16, .ptr b16 0 0 3), (17, .int .i64 (.ofNat to))] [b3 b16 kv, b3 b14 last]
   fun e l K => e = .nrm ∧ Sub2 [(0, .str s), (1, z1), (2, z2), (11, z11), (13, z13), (14, .ptr b14 0 0 3), (15, .int .i64 (.ofNat i)), (16, .ptr b16 0 0 3), (17, .int .i64 (.ofNat to)), (96, .bool d)] l ∧ K = [b3 b16 kv, b3 b14 last] := by
 have k53 := key16 (k := kv)
 rw [hkb] at k53
 have kk : kv.k = 1 ∨ kv.k = 2 := by simpa [keyB] using hkb
 rcases hlast with ⟨rfl, rfl⟩ | ⟨hi, hlo, hlk⟩
 ·rw [ahead_v0 hkb] at hd
  by_cases ht : to < s.length
  ·have hx : s[to]? = some s[to] := List.getElem?_eq_getElem ht
   generalize s[to] = y at hx
   have q1 := idxs_at (k := .i64) hx
   by_cases hy : y = 0
   ·subst hy
    simp only [hx] at hd
    subst hd
    repeat' (first|intro _|refine yS ?_|(apply YB.mk<;>intro hc)|(apply YA.mk;intro cv hv)|(refine yT ?_ ?_<;>(intro e;(try simp only [nbT,nbF] at e);subst e;try contradiction)))
    exact ⟨rfl, ⟨rfl, rfl, rfl, rfl, rfl, rfl, rfl, rfl, rfl, rfl, trivial⟩, rfl⟩
   ·have n0 := nlit hy
    simp only [hx] at hd
    obtain rfl : d = false := by rw [hd]; simp [hy]
    repeat' (first|intro _|refine yS ?_|(apply YB.mk<;>intro hc)|(apply YA.mk;intro cv hv)|(refine yT ?_ ?_<;>(intro e;(try simp only [nbT,nbF] at e);subst e;try contradiction)))
    exact ⟨rfl, ⟨rfl, rfl, rfl, rfl, rfl, rfl, rfl, rfl, rfl, rfl, trivial⟩, rfl⟩
  ·have hx : s[to]? = none := List.getElem?_eq_none (by omega)
   simp only [hx] at hd
   subst hd
   repeat' (first|intro _|refine yS ?_|(apply YB.mk<;>intro hc)|(apply YA.mk;intro cv hv)|(refine yT ?_ ?_<;>(intro e;(try simp only [nbT,nbF] at e);subst e;try contradiction)))
   exact ⟨rfl, ⟨rfl, rfl, rfl, rfl, rfl, rfl, rfl, rfl, rfl, rfl, trivial⟩, rfl⟩
 ·have k65 := behind65 (a := last) (b := kv) (by simpa [keyB] using hlk) kk hlo.len hk.len
  cases ha : aheadB last kv with
  | false =>
   rw [ha] at k65 hd
   obtain rfl : d = true := by rw [hd]; rfl
   repeat' (first|intro _|refine yS ?_|(apply YB.mk<;>intro hc)|(apply YA.mk;intro cv hv)|(refine yT ?_ ?_<;>(intro e;(try simp only [nbT,nbF] at e);subst e;try contradiction)))
   exact ⟨rfl, ⟨rfl, rfl, rfl, rfl, rfl, rfl, rfl, rfl, rfl, rfl, trivial⟩, rfl⟩
  | true =>
   rw [ha] at k65 hd
   by_cases ht : to < s.length
   ·have hx : s[to]? = some s[to] := List.getElem?_eq_getElem ht
    generalize s[to] = y at hx
    have q1 := idxs_at (k := .i64) hx
    by_cases hy : y = 0
    ·subst hy
     simp only [hx] at hd
     subst hd
     repeat' (first|intro _|refine yS ?_|(apply YB.mk<;>intro hc)|(apply YA.mk;intro cv hv)|(refine yT ?_ ?_<;>(intro e;(try simp only [nbT,nbF] at e);subst e;try contradiction)))
     exact ⟨rfl, ⟨rfl, rfl, rfl, rfl, rfl, rfl, rfl, rfl, rfl, rfl, trivial⟩, rfl⟩
    ·have n0 := nlit hy
     simp only [hx] at hd
     obtain rfl : d = false := by rw [hd]; simp [hy]
     repeat' (first|intro _|refine yS ?_|(apply YB.mk<;>intro hc)|(apply YA.mk;intro cv hv)|(refine yT ?_ ?_<;>(intro e;(try simp only [nbT,nbF] at e);subst e;try contradiction)))
     exact ⟨rfl, ⟨rfl, rfl, rfl, rfl, rfl, rfl, rfl, rfl, rfl, rfl, trivial⟩, rfl⟩
   ·have hx : s[to]? = none := List.getElem?_eq_none (by omega)
    simp only [hx] at hd
    subst hd
    repeat' (first|intro _|refine yS ?_|(apply YB.mk<;>intro hc)|(apply YA.mk;intro cv hv)|(refine yT ?_ ?_<;>(intro e;(try simp only [nbT,nbF] at e);subst e;try contradiction)))
    exact ⟨rfl, ⟨rfl, rfl, rfl, rfl, rfl, rfl, rfl, rfl, rfl, rfl, trivial⟩, rfl⟩
theorem over43_loop (hs : ∀ x, x ∈ s → x < 256) (hl : s.length ≤ 900000) {g : Unit → Nat → Nat → DR Unit} {t : Val} {n Bd b14 : Nat} {Q : AX → SL → Mem → Prop} (hn : n < 65536)
  (hg : ∀ a l, l ≤ Bd → a ≤ s.length → CT Try.prog false 55 [.str s, .int .i64 (.ofNat a), .int .i64 (.ofNat l)] [] fun w K' => ovA (g () a l) w ∧ K' = [])
  (hle : ∀ x a l v x1 a1 l1 m, g x a l = some (v, x1, a1, l1, m) → a < a1 ∧ a1 ≤ s.length ∧ l1 < l ∧ m + 1 ≤ 2 * (l - l1))
  (hno : ∀ a l, s.length ≤ a → g () a l = none) (h0 : ∀ a l v x1 a1 l1 m, s[a]? = some 0 → g () a l = some (v, x1, a1, l1, m) → v.k = 0) (hn0 : ∀ a l c v x1 a1 l1 m, s[a]? = some c → c ≠ 0 → g () a l = some (v, x1, a1, l1, m) → v.k ≠ 0) :
  ∀ (f k i : Nat) (last : Val) (a l nd : Nat), k < f → i + k = n → l ≤ Bd → a ≤ s.length → nd + 65537 * l ≤ 100000000 → (i = 0 ∧ last = v0 ∨ 0 < i ∧ ScOk last ∧ keyB last = true) →
   (hend : ∀ l' a2 l2 m K, decL openB s g t k last () a l = some ((), a2, l2, m) → Sub2 [(1, .int .i64 (.ofNat a2)), (2, .int .i64 (.ofNat l2)), (13, .int .i64 (.ofNat (nd + m)))] l' → Q (.ext 0) l' K) →
   (hret : decL openB s g t k last () a l = none → ∀ l' K', Sub2 [(6, .int .i64 (.negSucc 0)), (7, .int .i64 (.ofNat 0)), (8, .int .i64 (.ofNat 0))] l' → Q .ret l' K') →
   Lp Try.prog false b55_0 f [(0, .str s), (1, .int .i64 (.ofNat a)), (2, .int .i64 (.ofNat l)), (11, .int .i64 (.ofNat n)), (13, .int .i64 (.ofNat nd)), (14, .ptr b14 0 0 3), (15, .int .i64 (.ofNat i))] [b3 b14 last] Q := by
 intro f
 induction f with
 | zero => intro k i last a l nd h1; omega
 | succ f ih =>
  intro k i last a l nd h1 h2 h3 h4 h5 hlast hend hret
  refine Lp.round ?_
  cases k with
  | zero =>
   obtain rfl : i = n := by omega
   repeat' (first|intro _|refine yS ?_|(apply YB.mk<;>intro hc)|(apply YA.mk;intro cv hv)|(refine yT ?_ ?_<;>(intro e;(try simp only [nbT,nbF] at e);subst e;try contradiction)))
   exact hend _ a l 0 _ rfl ⟨rfl, rfl, rfl, trivial⟩
  | succ k =>
   have hin : i < n := by omega
   have k63 := read63 (a := a) hs hl (by omega)
   unfold readA at k63
   cases hr : rdS s a with
   | none =>
    rw [hr] at k63
    have hk : rdK s a = none := by unfold rdK; rw [hr]
    repeat' (first|intro _|refine yS ?_|(apply YB.mk<;>intro hc)|(apply YA.mk;intro cv hv)|(refine yT ?_ ?_<;>(intro e;(try simp only [nbT,nbF] at e);subst e;try contradiction)))
    exact hret (by simp only [decL, hk]) _ _ ⟨rfl, rfl, rfl, trivial⟩
   | some p =>
    obtain ⟨kv, to⟩ := p
    rw [hr] at k63
    simp only at k63
    obtain ⟨hto1, hto2⟩ := rdS_le hr
    have hkOk := (rdS_sc hs hr).2.2.2
    have k53 := key16 (k := kv)
    cases hkb : keyB kv with
    | false =>
     rw [hkb] at k53
     have hk : rdK s a = none := by unfold rdK; simp only [hr, hkb]; rfl
     repeat' (first|intro _|refine yS ?_|(apply YB.mk<;>intro hc)|(apply YA.mk;intro cv hv)|(refine yT ?_ ?_<;>(intro e;(try simp only [nbT,nbF] at e);subst e;try contradiction)))
     exact hret (by simp only [decL, hk]) _ _ ⟨rfl, rfl, rfl, trivial⟩
    | true =>
     rw [hkb] at k53
     have hk : rdK s a = some (kv, to) := by unfold rdK; simp only [hr, hkb, if_true]
     repeat' (first|refine stopAt (c := r55_16) ?_|intro _|refine yS ?_|(apply YB.mk<;>intro hc)|(apply YA.mk;intro cv hv)|(refine yT ?_ ?_<;>(intro e;(try simp only [nbT,nbF] at e);subst e;try contradiction)))
     rename_i b16
     refine ⟨?_⟩
     refine Cd.seq (Cd.weak (l2 := [(0, .str s), (1, .int .i64 (.ofNat a)), (2, .int .i64 (.ofNat l)), (11, .int .i64 (.ofNat n)), (13, .int .i64 (.ofNat nd)), (14, .ptr b14 0 0 3), (15, .int .i64 (.ofNat i)), (16, .ptr b16 0 0 3), (17, .int .i64 (.ofNat to))]) ⟨rfl, rfl, rfl, rfl, rfl, rfl, rfl, rfl, rfl, trivial⟩ (Cd.mono (m16 hl hto2 hlast hkOk hkb rfl) ?_))
     rintro _ l' _ ⟨rfl, hsub, rfl⟩
     show Cd _ _ _ _ _ _
     refine Cd.weak hsub ?_
     cases hah : aheadB last kv with
     | false =>
      repeat' (first|intro _|refine yS ?_|(apply YB.mk<;>intro hc)|(apply YA.mk;intro cv hv)|(refine yT ?_ ?_<;>(intro e;(try simp only [nbT,nbF] at e);subst e;try contradiction)))
      exact hret (by simp only [decL, hk, hah]; rfl) _ _ ⟨rfl, rfl, rfl, trivial⟩
     | true =>
      by_cases hst : s[to]? = none ∨ s[to]? = some 0
      ·rw [decide_eq_true hst]
       have hno2 : decL openB s g t (k + 1) last () a l = none := by
        simp only [decL, hk, hah, if_true]
        cases hgv : g () to l with
        | none => rfl
        | some p =>
         obtain ⟨v, x1, a1, l1, m1⟩ := p
         rcases hst with hst | hst
         ·rw [hno to l (List.getElem?_eq_none_iff.1 hst)] at hgv
          cases hgv
         ·have := h0 _ _ _ _ _ _ _ hst hgv
          simp only [this, if_true]
       repeat' (first|intro _|refine yS ?_|(apply YB.mk<;>intro hc)|(apply YA.mk;intro cv hv)|(refine yT ?_ ?_<;>(intro e;(try simp only [nbT,nbF] at e);subst e;try contradiction)))
       exact hret hno2 _ _ ⟨rfl, rfl, rfl, trivial⟩
      ·rw [decide_eq_false hst]
       obtain ⟨y, hy, hy0⟩ : ∃ y, s[to]? = some y ∧ y ≠ 0 := by
        cases h : s[to]? with
        | none => exact absurd (.inl h) hst
        | some y => exact ⟨y, rfl, fun e => hst (.inr (by rw [h, e]))⟩
       have k43 := hg to l h3 hto2
       cases hgv : g () to l with
       | none =>
        rw [hgv] at k43
        simp only [ovA] at k43
        repeat' (first|(refine Rg.callM (m := []) rfl k43 .nil ?_; rintro _ _ ⟨⟨x, rfl⟩, rfl⟩)|intro _|refine yS ?_|(apply YB.mk<;>intro hc)|(apply YA.mk;intro cv hv)|(refine yT ?_ ?_<;>(intro e;(try simp only [nbT,nbF] at e);subst e;try contradiction)))
        exact hret (by simp only [decL, hk, hah, hgv]; rfl) _ _ ⟨rfl, rfl, rfl, trivial⟩
       | some p =>
        obtain ⟨v, x1, a1, l1, m1⟩ := p
        rw [hgv] at k43
        simp only [ovA] at k43
        have hv0 := hn0 _ _ _ _ _ _ _ _ hy hy0 hgv
        obtain ⟨g1, g2, g3, g4⟩ := hle _ _ _ _ _ _ _ _ hgv
        have e : decL openB s g t (k + 1) last () a l = match decL openB s g t k kv () a1 l1 with
          | none => none
          | some (x2, a2, l2, m2) => some (x2, a2, l2, m1 + m2) := by
         simp only [decL, hk, hah, hgv, if_true]
         rw [if_neg hv0, show openB.pt x1 t kv v = () from rfl]
         all_goals (cases decL openB s g t k kv () a1 l1 <;> rfl)
        repeat' (first|(refine Rg.callM (m := []) rfl k43 .nil ?_; rintro _ _ ⟨rfl, rfl⟩)|intro _|refine yS ?_|(apply YB.mk<;>intro hc)|(apply YA.mk;intro cv hv)|(refine yT ?_ ?_<;>(intro e;(try simp only [nbT,nbF] at e);subst e;try contradiction)))
        have := ih k (i + 1) kv a1 l1 (nd + m1) (by omega) (by omega) (by omega) g2 (by omega) (.inr ⟨by omega, hkOk, hkb⟩)
         (fun l' a2 l2 m2 K hd hs2 => hend l' a2 l2 (m1 + m2) K (by rw [e, hd]) (by rw [← Nat.add_assoc]; exact hs2))
         (fun hd => hret (by rw [e, hd]))
        exact Lp.drop (.cons (.there (.here)) (.nil)) (Lp.weak (by exact ⟨rfl, rfl, rfl, rfl, rfl, rfl, rfl, trivial⟩) this)
theorem sub_z2 : abin .sub (.int .i64 (.ofNat 0)) (.int .i64 (.ofNat 1)) = some (.int .i64 (.negSucc 0)) := rfl
theorem sub_o2 {n : Nat} (h : n < 1000000) : abin .sub (.int .i64 (.ofNat (n + 1))) (.int .i64 (.ofNat 1)) = some (.int .i64 (.ofNat n)) := sub_nat (a := n + 1) (by omega) (by omega)
theorem over43_0 (hl : s.length ≤ 900000) {a : Nat} {d : DR Unit} (hd : d = none) : CT Try.prog false 55 [.str s, .int .i64 (.ofNat a), .int .i64 (.ofNat 0)] [] fun w K' => ovA d w ∧ K' = [] := by
 have e0 := sub_z2
 subst hd
 refine CT.enterS mixed comp55 (Nat.le_of_ble_eq_true rfl) ?_
 repeat' (first|intro _|refine yS ?_|(apply YB.mk<;>intro hc)|(apply YA.mk;intro cv hv)|(refine yT ?_ ?_<;>(intro e;(try simp only [nbT,nbF] at e);subst e;try contradiction)))
 refine yX ?_
 exact ⟨_, _, .nil, ⟨0, rfl⟩, rfl⟩
theorem nlit8 {x n : Nat} (h : x ≠ n) : abin .neq (.int .u8 (.ofNat x)) (.int .u8 (.ofNat n)) = some (.bool true) := by
 have e : abin .neq (.int .u8 (.ofNat x)) (.int .u8 (.ofNat n)) = some (.bool (!(ieq (.ofNat x) (.ofNat n)))) := rfl
 rw [e, ieq_dec, decide_eq_false fun e => h (Int.ofNat.inj e)]
 rfl
theorem over43 (hs : ∀ x, x ∈ s → x < 256) (hl : s.length ≤ 900000) : ∀ (f : Nat) {a l : Nat}, l ≤ f → l ≤ 200 → a ≤ s.length →
  CT Try.prog false 55 [.str s, .int .i64 (.ofNat a), .int .i64 (.ofNat l)] [] fun w K' => ovA (dec openB s f () a l) w ∧ K' = [] := by
 intro f
 induction f with
 | zero =>
  intro a l h1 h2 h3
  obtain rfl : l = 0 := by omega
  exact over43_0 hl rfl
 | succ f ih =>
  intro a l h1 h2 h3
  cases l with
  | zero => exact over43_0 hl rfl
  | succ l =>
   have e0 := sub_o2 (n := l) (by omega)
   by_cases h : a < s.length
   ·have hx : s[a]? = some s[a] := List.getElem?_eq_getElem h
    generalize s[a] = y at hx
    have q1 := idxs_at (k := .i64) hx
    refine CT.enterS mixed comp55 (Nat.le_of_ble_eq_true rfl) ?_
    by_cases h3y : y = 3
    ·subst h3y
     have k2 := get64 (a := a + 1) (w := 2) hs (by omega) (by omega) (by omega)
     rw [show a + 1 + 2 = a + 3 by omega] at k2
     by_cases h3l : a + 3 ≤ s.length
     ·rw [if_pos h3l] at k2
      have hlt := segd_lt (w := 2) (a := a + 1) (b := a + 3) hs h3l (by omega) (by omega)
      have e2 : 256 ^ 2 = 65536 := by decide
      rw [e2] at hlt
      rw [i64_lo (by omega)] at k2
      have ed : dec openB s (f + 1) () a (l + 1) = match decL openB s (dec openB s f) ⟨3, 0, []⟩ (deB (sgm s (a + 1) (a + 3))) v0 () (a + 3) l with
        | none => none
        | some (x2, a2, l2, m) => some (⟨3, 0, []⟩, x2, a2, l2, 1 + deB (sgm s (a + 1) (a + 3)) + m) := by
       simp only [dec, hx, if_true, if_pos h3l, show openB.tb () = ((), ⟨3, 0, []⟩) from rfl]
       all_goals (cases decL openB s (dec openB s f) ⟨3, 0, []⟩ (deB (sgm s (a + 1) (a + 3))) v0 () (a + 3) l <;> rfl)
      generalize deB (sgm s (a + 1) (a + 3)) = n at k2 hlt ed
      repeat' (first|intro _|refine yS ?_|(apply YB.mk<;>intro hc)|(apply YA.mk;intro cv hv)|(refine yT ?_ ?_<;>(intro e;(try simp only [nbT,nbF] at e);subst e;try contradiction)))
      rename_i b14
      refine Cd.loop (k := n + 1) (Lp.weak (l2 := [(0, .str s), (1, .int .i64 (.ofNat (a + 3))), (2, .int .i64 (.ofNat l)), (11, .int .i64 (.ofNat n)), (13, .int .i64 (.ofNat (1 + n))), (14, .ptr b14 0 0 3), (15, .int .i64 (.ofNat 0))]) ⟨rfl, rfl, rfl, rfl, rfl, rfl, rfl, trivial⟩
       (over43_loop (t := ⟨3, 0, []⟩) (g := dec openB s f) (Bd := l) hs hl hlt (fun a l h1 h2 => ih (by omega) (by omega) h2) (fun _ _ _ _ _ _ _ _ h => dec_le h) (fun a l h => dec_no h) (fun _ _ _ _ _ _ _ h hd => dec_0 h hd) (fun _ _ _ _ _ _ _ _ h h2 hd => dec_n0 (by decide) h h2 hd) (n + 1) n 0 v0 (a + 3) l (1 + n) (by omega) (by omega) (Nat.le_refl _) h3l (by omega) (.inl ⟨rfl, rfl⟩) ?_ ?_))
      ·intro l' a2 l2 m K hd hsub
       show Cd _ _ _ _ _ _
       refine Cd.weak hsub ?_
       repeat' (first|intro _|refine yS ?_|(apply YB.mk<;>intro hc)|(apply YA.mk;intro cv hv)|(refine yT ?_ ?_<;>(intro e;(try simp only [nbT,nbF] at e);subst e;try contradiction)))
       refine yX ?_
       refine ⟨_, _, .nil, ?_, rfl⟩
       rw [ed, hd]
       rfl
      ·rintro hd l' K' ⟨h6, h7, h8, _⟩
       refine ⟨.inr rfl, _, .t h6 (.t h7 (.t h8 .nil)), _, _, .nil, ?_, rfl⟩
       rw [ed, hd]
       exact ⟨_, rfl⟩
     ·rw [if_neg h3l] at k2
      have ed : dec openB s (f + 1) () a (l + 1) = none := by simp only [dec, hx, if_true, if_neg h3l]
      rw [ed]
      repeat' (first|intro _|refine yS ?_|(apply YB.mk<;>intro hc)|(apply YA.mk;intro cv hv)|(refine yT ?_ ?_<;>(intro e;(try simp only [nbT,nbF] at e);subst e;try contradiction)))
      refine yX ?_
      exact ⟨_, _, .nil, ⟨0, rfl⟩, rfl⟩
    ·have n3 := nlit8 h3y
     have k63 := read63 (a := a) hs hl (by omega)
     unfold readA at k63
     have ed : dec openB s (f + 1) () a (l + 1) = match rdS s a with
       | none => none
       | some (v, to) => some (v, (), to, l, 0) := by
      simp only [dec, hx, if_neg h3y]
      all_goals (cases rdS s a <;> rfl)
     rw [ed]
     cases hr : rdS s a with
     | none =>
      rw [hr] at k63
      repeat' (first|intro _|refine yS ?_|(apply YB.mk<;>intro hc)|(apply YA.mk;intro cv hv)|(refine yT ?_ ?_<;>(intro e;(try simp only [nbT,nbF] at e);subst e;try contradiction)))
      refine yX ?_
      exact ⟨_, _, .nil, ⟨l, rfl⟩, rfl⟩
     | some p =>
      obtain ⟨v, to⟩ := p
      rw [hr] at k63
      simp only at k63
      repeat' (first|intro _|refine yS ?_|(apply YB.mk<;>intro hc)|(apply YA.mk;intro cv hv)|(refine yT ?_ ?_<;>(intro e;(try simp only [nbT,nbF] at e);subst e;try contradiction)))
      refine yX ?_
      exact ⟨_, _, .nil, rfl, rfl⟩
   ·rw [dec_no (by omega)]
    refine CT.enterS mixed comp55 (Nat.le_of_ble_eq_true rfl) ?_
    repeat' (first|intro _|refine yS ?_|(apply YB.mk<;>intro hc)|(apply YA.mk;intro cv hv)|(refine yT ?_ ?_<;>(intro e;(try simp only [nbT,nbF] at e);subst e;try contradiction)))
    refine yX ?_
    exact ⟨_, _, .nil, ⟨0, rfl⟩, rfl⟩
end
end Go.Proofs.YtlimjjilakldgaaGreat.Q
namespace Go.Proofs.YtlimjjilakldgaaGreat.Q
open Go Go.Abs
attribute [local irreducible] Cmp Rg Dw Cd Lp Ev Rdk CT Upd InK
def decU (s : List Nat) : DR Unit := dec openB s 200 () 0 200
def rightB (s : List Nat) : Bool := match decU s with
 | some (_, _, a, _, _) => decide (a = s.length)
 | none => false
def needsN (s : List Nat) : Nat := match decU s with
 | some (_, _, a, _, m) => if a = s.length then m else 0
 | none => 0
section
variable {s : List Nat}
theorem right15 (hs : ∀ x, x ∈ s → x < 256) (hl : s.length ≤ 900000) : PT Try.prog false 43 [.str s] (.bool (rightB s)) := by
 have k := over43 hs hl 200 (a := 0) (l := 200) (Nat.le_refl _) (Nat.le_refl _) (Nat.zero_le _)
 refine PT.of (CT.enter mixed comp43 (Nat.le_of_ble_eq_true rfl) ?_)
 unfold rightB decU
 cases hd : dec openB s 200 () 0 200 with
 | none =>
  rw [hd] at k
  simp only [ovA] at k
  repeat' (first|intro _|refine yS ?_|(apply YB.mk<;>intro hc)|(apply YA.mk;intro cv hv)|(refine yT ?_ ?_<;>(intro e;(try simp only [nbT,nbF] at e);subst e;try contradiction)))
  refine Rg.callM (m := []) rfl k .nil ?_
  rintro _ _ ⟨⟨x, rfl⟩, rfl⟩
  repeat' (first|intro _|refine yS ?_|(apply YB.mk<;>intro hc)|(apply YA.mk;intro cv hv)|(refine yT ?_ ?_<;>(intro e;(try simp only [nbT,nbF] at e);subst e;try contradiction)))
  all_goals refine yX ?_
  all_goals rfl
 | some p =>
  obtain ⟨v, x1, a1, l1, m1⟩ := p
  obtain ⟨g1, g2, g3, g4⟩ := dec_le hd
  rw [hd] at k
  simp only [ovA] at k
  by_cases ha : a1 = s.length
  ·simp only [decide_eq_true ha]
   repeat' (first|intro _|refine yS ?_|(apply YB.mk<;>intro hc)|(apply YA.mk;intro cv hv)|(refine yT ?_ ?_<;>(intro e;(try simp only [nbT,nbF] at e);subst e;try contradiction)))
   refine Rg.callM (m := []) rfl k .nil ?_
   rintro _ _ ⟨rfl, rfl⟩
   repeat' (first|intro _|refine yS ?_|(apply YB.mk<;>intro hc)|(apply YA.mk;intro cv hv)|(refine yT ?_ ?_<;>(intro e;(try simp only [nbT,nbF] at e);subst e;try contradiction)))
   all_goals refine yX ?_
   all_goals rfl
  ·simp only [decide_eq_false ha]
   repeat' (first|intro _|refine yS ?_|(apply YB.mk<;>intro hc)|(apply YA.mk;intro cv hv)|(refine yT ?_ ?_<;>(intro e;(try simp only [nbT,nbF] at e);subst e;try contradiction)))
   refine Rg.callM (m := []) rfl k .nil ?_
   rintro _ _ ⟨rfl, rfl⟩
   repeat' (first|intro _|refine yS ?_|(apply YB.mk<;>intro hc)|(apply YA.mk;intro cv hv)|(refine yT ?_ ?_<;>(intro e;(try simp only [nbT,nbF] at e);subst e;try contradiction)))
   all_goals refine yX ?_
   all_goals rfl
theorem open41 : CT Try.prog false 53 [.str s] [] fun w K' => ∃ rd, w = rdP rd ∧ K' = [rdC rd s 0 (.ofNat 200) 0 (.fn 74 [] []) (.fn 75 [] [])] := by
 refine CT.enterS mixed comp53 (Nat.le_of_ble_eq_true rfl) ?_
 repeat' (first|intro _|refine yS ?_|(apply YB.mk<;>intro hc)|(apply YA.mk;intro cv hv)|(refine yT ?_ ?_<;>(intro e;(try simp only [nbT,nbF] at e);subst e;try contradiction)))
 refine yX ?_
 exact ⟨_, _, (.cons (.here) (.nil)), _, rfl, rfl⟩
def openR (x : Unit) (c : Chk) : Prop := c = []
theorem openC : Clo openB openR 74 75 [] [] := by
 refine ⟨?_, ?_⟩
 ·rintro x c rfl
  refine CT.enterS mixed comp74 (Nat.le_of_ble_eq_true rfl) ?_
  repeat' (first|intro _|refine yS ?_|(apply YB.mk<;>intro hc)|(apply YA.mk;intro cv hv)|(refine yT ?_ ?_<;>(intro e;(try simp only [nbT,nbF] at e);subst e;try contradiction)))
  refine yX ?_
  exact ⟨_, _, (.cons (.there (.here)) (.nil)), rfl, _, rfl, rfl⟩
 ·rintro x c t k v rfl _ _
  refine CT.enterS mixed comp75 (Nat.le_of_ble_eq_true rfl) ?_
  repeat' (first|intro _|refine yS ?_|(apply YB.mk<;>intro hc)|(apply YA.mk;intro cv hv)|(refine yT ?_ ?_<;>(intro e;(try simp only [nbT,nbF] at e);subst e;try contradiction)))
  refine yX ?_
  exact ⟨_, _, (.cons (.there (.there (.there (.here)))) (.nil)), rfl, _, rfl, rfl⟩
section
variable {σ : Type} {B : Bld σ} {R : σ → Chk → Prop} {gt gp : FuncId} {ct cp : List AV} {rd : Nat}
def V42 (d : DR σ) (R : σ → Chk → Prop) (rd : Nat) (s : List Nat) (tf pf : AV) (w : AV) (K' : Mem) : Prop :=
 (∃ v x' l' m c', d = some (v, x', s.length, l', m) ∧ w = .tup [valA v, .bool true] ∧ R x' c' ∧ K' = [rdC rd s s.length (.ofNat l') m tf pf, c']) ∨ ((∀ v x' l' m, d ≠ some (v, x', s.length, l', m)) ∧ ∃ v rc c2, w = .tup [valA v, .bool false] ∧ K' = [rc, c2])
theorem whole42 (hC : Clo B R gt gp ct cp) (hs : ∀ x, x ∈ s → x < 256) (hl : s.length ≤ 900000) {x : σ} {c : Chk} (hR : R x c) :
  CT Try.prog false 54 [rdP rd] [rdC rd s 0 (.ofNat 200) 0 (.fn gt [] ct) (.fn gp [] cp), c] (V42 (dec B s 200 x 0 200) R rd s (.fn gt [] ct) (.fn gp [] cp)) := by
 have k := value62 (rd := rd) (nd := 0) hC hs hl 200 (x := x) (a := 0) (l := 200) (Nat.le_refl _) (Nat.zero_le _) hR (by omega)
 refine CT.enterS mixed comp54 (Nat.le_of_ble_eq_true rfl) ?_
 repeat' (first|intro _|refine yS ?_|(apply YB.mk<;>intro hc)|(apply YA.mk;intro cv hv)|(refine yT ?_ ?_<;>(intro e;(try simp only [nbT,nbF] at e);subst e;try contradiction)))
 refine Rg.callM rfl k (.cons (.there (.here)) (.cons (.there (.here)) (.nil))) ?_
 rintro _ _ (⟨v, x1, a1, l1, m1, c1, hv, rfl, hR1, rfl⟩ | ⟨hv, v, a2, l2, nd2, c2, rfl, rfl⟩)
 ·obtain ⟨g1, g2, g3, g4⟩ := dec_le hv
  by_cases ha : a1 = s.length
  ·subst ha
   repeat' (first|intro _|refine yS ?_|(apply YB.mk<;>intro hc)|(apply YA.mk;intro cv hv)|(refine yT ?_ ?_<;>(intro e;(try simp only [nbT,nbF] at e);subst e;try contradiction)))
   refine Dw.e (Ef.storeW rfl rfl (.there (.there (.there Upd.here))) rfl (Nat.le_of_ble_eq_true rfl) rfl) ?_
   rintro _ _ ⟨rfl, rfl⟩
   refine yO ?_
   repeat' (first|intro _|refine yS ?_|(apply YB.mk<;>intro hc)|(apply YA.mk;intro cv hv)|(refine yT ?_ ?_<;>(intro e;(try simp only [nbT,nbF] at e);subst e;try contradiction)))
   refine yX ?_
   exact ⟨_, _, (.cons (.there (.here)) (.cons (.there (.here)) (.nil))), .inl ⟨v, x1, l1, m1, c1, hv, rfl, hR1, by rw [Nat.zero_add]⟩⟩
  ·repeat' (first|intro _|refine yS ?_|(apply YB.mk<;>intro hc)|(apply YA.mk;intro cv hv)|(refine yT ?_ ?_<;>(intro e;(try simp only [nbT,nbF] at e);subst e;try contradiction)))
   refine Dw.e (Ef.storeW rfl rfl (.there (.there (.there Upd.here))) rfl (Nat.le_of_ble_eq_true rfl) rfl) ?_
   rintro _ _ ⟨rfl, rfl⟩
   refine yO ?_
   repeat' (first|intro _|refine yS ?_|(apply YB.mk<;>intro hc)|(apply YA.mk;intro cv hv)|(refine yT ?_ ?_<;>(intro e;(try simp only [nbT,nbF] at e);subst e;try contradiction)))
   refine yX ?_
   exact ⟨_, _, (.cons (.there (.here)) (.cons (.there (.here)) (.nil))), .inr ⟨fun v x l m e => (by rw [e] at hv; cases hv; exact ha rfl), v, _, _, rfl, rfl⟩⟩
 ·repeat' (first|intro _|refine yS ?_|(apply YB.mk<;>intro hc)|(apply YA.mk;intro cv hv)|(refine yT ?_ ?_<;>(intro e;(try simp only [nbT,nbF] at e);subst e;try contradiction)))
  refine Dw.e (Ef.storeW rfl rfl (.there (.there (.there Upd.here))) rfl (Nat.le_of_ble_eq_true rfl) rfl) ?_
  rintro _ _ ⟨rfl, rfl⟩
  refine yO ?_
  repeat' (first|intro _|refine yS ?_|(apply YB.mk<;>intro hc)|(apply YA.mk;intro cv hv)|(refine yT ?_ ?_<;>(intro e;(try simp only [nbT,nbF] at e);subst e;try contradiction)))
  refine yX ?_
  exact ⟨_, _, (.cons (.there (.here)) (.cons (.there (.here)) (.nil))), .inr ⟨fun v x l m e => (by rw [e] at hv; cases hv), v, _, _, rfl, rfl⟩⟩
end
theorem decU_full (hd : ∃ v x l m, dec openB s 200 () 0 200 = some (v, x, s.length, l, m)) : rightB s = true ∧ ∃ v x l m, dec openB s 200 () 0 200 = some (v, x, s.length, l, m) ∧ needsN s = m := by
 obtain ⟨v, x, l, m, hd⟩ := hd
 refine ⟨?_, v, x, l, m, hd, ?_⟩
 ·unfold rightB decU; rw [hd]; simp
 ·unfold needsN decU; rw [hd]; simp
theorem decU_no (hd : ∀ v x l m, dec openB s 200 () 0 200 ≠ some (v, x, s.length, l, m)) : rightB s = false ∧ needsN s = 0 := by
 unfold rightB needsN decU
 cases h : dec openB s 200 () 0 200 with
 | none => exact ⟨rfl, rfl⟩
 | some p =>
  obtain ⟨v, x, a, l, m⟩ := p
  have ha : a ≠ s.length := by
   rintro rfl
   exact hd _ _ _ _ h
  exact ⟨by simp [ha], by simp [ha]⟩
theorem right14 (hs : ∀ x, x ∈ s → x < 256) (hl : s.length ≤ 900000) : PT Try.prog false 42 [.str s] (.bool (rightB s)) := by
 refine PT.of (CT.enter mixed comp42 (Nat.le_of_ble_eq_true rfl) ?_)
 refine Cd.perm (K2 := [[]]) (.refl _) ?_
 repeat' (first|intro _|refine yS ?_|(apply YB.mk<;>intro hc)|(apply YA.mk;intro cv hv)|(refine yT ?_ ?_<;>(intro e;(try simp only [nbT,nbF] at e);subst e;try contradiction)))
 refine Rg.callM (m := []) rfl open41 .nil ?_
 rintro _ _ ⟨rd, rfl, rfl⟩
 have k := whole42 (rd := rd) openC hs hl (x := ()) (c := []) rfl
 refine Rg.callM rfl k (.cons (.here) (.cons (.here) (.nil))) ?_
 rintro _ _ (⟨v, x, l, m, c, hd, rfl, _, rfl⟩ | ⟨hd, v, rc, c2, rfl, rfl⟩)
 ·rw [(decU_full ⟨v, x, l, m, hd⟩).1]
  repeat' (first|intro _|refine yS ?_|(apply YB.mk<;>intro hc)|(apply YA.mk;intro cv hv)|(refine yT ?_ ?_<;>(intro e;(try simp only [nbT,nbF] at e);subst e;try contradiction)))
  refine yX ?_
  rfl
 ·rw [(decU_no hd).1]
  repeat' (first|intro _|refine yS ?_|(apply YB.mk<;>intro hc)|(apply YA.mk;intro cv hv)|(refine yT ?_ ?_<;>(intro e;(try simp only [nbT,nbF] at e);subst e;try contradiction)))
  refine yX ?_
  rfl
end
end Go.Proofs.YtlimjjilakldgaaGreat.Q
namespace Go.Proofs.YtlimjjilakldgaaGreat
open Go Go.Abs
structure MO where
 nm : List Nat
 cur : Nat
 old : Option Nat
 st : List Nat
structure MS where
 L : List MO
 U : List Unt
def fM (s : MS) (n : List Nat) : Option MO := s.L.find? fun x => decide (x.nm = n)
def mMay (s : MS) (n : List Nat) (ver : Int) : Nat := match fM s n with
 | none => if 16 ≤ s.L.length then 3 else 0
 | some x => match x.old with
  | some _ => 20
  | none => match s.U[x.cur]? with
   | some u => if ver ≤ u.version then 15 else 0
   | none => 0
def insM (x : MO) : List MO → List MO
 | [] => [x]
 | y :: r => if nless y.nm x.nm = true then y :: insM x r else x :: y :: r
def updM (n : List Nat) (f : MO → MO) (L : List MO) : List MO := L.map fun x => if x.nm = n then f x else x
def mAdd (s : MS) (u : Unt) : MS × Nat × Nat :=
 if (check u).1 ≠ 0 then (s, 0, (check u).1) else if mMay s u.name u.version ≠ 0 then (s, 0, mMay s u.name u.version) else match fM s u.name with
  | some x => (⟨updM u.name (fun x => ⟨x.nm, s.U.length, some x.cur, x.st⟩) s.L, s.U ++ [u]⟩, s.U.length, 0)
  | none => (⟨insM ⟨u.name, s.U.length, none, [0]⟩ s.L, s.U ++ [u]⟩, s.U.length, 0)
def mSetS (s : MS) (n st : List Nat) (right : Bool) : MS × Nat := match fM s n with
 | none => (s, 8)
 | some _ => if right = true then (⟨updM n (fun x => ⟨x.nm, x.cur, x.old, st⟩) s.L, s.U⟩, 0) else (s, 23)
def mPurge (s : MS) (n : List Nat) : MS × Nat := match fM s n with
 | none => (s, 8)
 | some x => match x.old with
  | none => (s, 8)
  | some _ => (⟨updM n (fun x => ⟨x.nm, x.cur, none, x.st⟩) s.L, s.U⟩, 0)
def mCur (s : MS) (n : List Nat) : Option Nat := (fM s n).map fun x => x.cur
def mOld (s : MS) (n : List Nat) : Option Nat := (fM s n).bind fun x => x.old
def mState (s : MS) (n : List Nat) : Option (List Nat) := (fM s n).map fun x => x.st
def hasU (s : MS) (i : Nat) : Bool := s.L.any fun x => decide (x.cur = i) || decide (x.old = some i)
def mUnit (s : MS) (i : Nat) : Option Unt := if hasU s i = true then s.U[i]? else none
def fpM (fn : List Nat) (pr : Int) : List Proto → Nat → Option Nat
 | [], _ => none
 | p :: r, i => if p.name = fn ∧ p.params = pr then some i else fpM fn pr r (i + 1)
def mFind (s : MS) (n fn : List Nat) (pr : Int) : Option (Nat × Nat) := match fM s n with
 | none => none
 | some x => match s.U[x.cur]? with
  | none => none
  | some u => (fpM fn pr (u.protos.take u.funs.toNat) 0).map fun i => (x.cur, i)
structure MS.ok (s : MS) : Prop where
 ord : s.L.Pairwise fun a b => nless a.nm b.nm = true
 len : s.L.length ≤ 16
 cur : ∀ x, x ∈ s.L → x.cur < s.U.length
 old : ∀ x o, x ∈ s.L → x.old = some o → o < s.U.length
 inj : ∀ x y i, x ∈ s.L → y ∈ s.L → (x.cur = i ∨ x.old = some i) → (y.cur = i ∨ y.old = some i) → x = y
 ne : ∀ x, x ∈ s.L → x.old ≠ some x.cur
 chk : ∀ u, u ∈ s.U → OkU u ∧ (check u).1 = 0
theorem nless_irr' (x : List Nat) : nless x x = false := Q.nless_irr x
theorem fM_mem {s : MS} {n : List Nat} {x : MO} (h : fM s n = some x) : x ∈ s.L ∧ x.nm = n := by
 unfold fM at h
 have h1 := List.find?_some h
 exact ⟨List.mem_of_find?_eq_some h, by simpa using h1⟩
theorem fM_none {s : MS} {n : List Nat} (h : fM s n = none) : ∀ x, x ∈ s.L → x.nm ≠ n := by
 unfold fM at h
 rw [List.find?_eq_none] at h
 intro x hx
 have := h x hx
 simpa using this
theorem MS.ok.uniq {s : MS} (h : s.ok) {x y : MO} (hx : x ∈ s.L) (hy : y ∈ s.L) (e : x.nm = y.nm) : x = y := by
 have aux : ∀ {L : List MO}, L.Pairwise (fun a b => nless a.nm b.nm = true) → x ∈ L → y ∈ L → x = y := by
  intro L
  induction L with
  | nil => intro _ h; cases h
  | cons a L ih =>
   intro hp h1 h2
   have hp := List.pairwise_cons.1 hp
   rcases List.mem_cons.1 h1 with h1 | h1
   ·rcases List.mem_cons.1 h2 with h2 | h2
    ·rw [h1, h2]
    ·have := hp.1 y h2
     rw [← h1, e, nless_irr'] at this
     cases this
   ·rcases List.mem_cons.1 h2 with h2 | h2
    ·have := hp.1 x h1
     rw [← h2, e, nless_irr'] at this
     cases this
    ·exact ih hp.2 h1 h2
 exact aux h.ord hx hy
theorem updM_len {n : List Nat} {f : MO → MO} {L : List MO} : (updM n f L).length = L.length := by simp [updM]
theorem updM_names {n : List Nat} {f : MO → MO} (hf : ∀ x, (f x).nm = x.nm) {L : List MO} : (updM n f L).map (fun x => x.nm) = L.map fun x => x.nm := by
 unfold updM
 rw [List.map_map]
 refine List.map_congr_left fun x _ => ?_
 simp only [Function.comp]
 split
 ·exact hf x
 ·rfl
theorem insM_len {x : MO} : ∀ {L : List MO}, (insM x L).length = L.length + 1
 | [] => rfl
 | y :: r => by
  simp only [insM]
  split
  ·simp [insM_len (L := r)]
  ·simp
theorem insM_perm {x : MO} : ∀ {L : List MO}, (insM x L).Perm (x :: L)
 | [] => .refl _
 | y :: r => by
  simp only [insM]
  split
  ·exact (List.Perm.cons _ insM_perm).trans (List.Perm.swap _ _ _)
  ·exact .refl _
end Go.Proofs.YtlimjjilakldgaaGreat
namespace Go.Proofs.YtlimjjilakldgaaGreat
open Go Go.Abs
section
variable {α : Type} [DecidableEq α]
structure GoodG (es : List (EntG α)) (ck : Nat) : Prop where
 keys : (es.map fun e => e.1).Nodup
 st : (es.map fun e => e.2.2).Nodup
 lt : ∀ e, e ∈ es → e.2.2 < ck
def lkG (k : α) (es : List (EntG α)) : Option AV := (underG k es).map fun p => p.1
end
theorem GoodG.nil {α : Type} : GoodG ([] : List (EntG α)) 0 := ⟨.nil, .nil, fun _ h => by cases h⟩
section
variable {α : Type} [DecidableEq α]
theorem underG_mem {k : α} {v : AV} {n : Nat} : ∀ {es : List (EntG α)}, underG k es = some (v, n) → (k, v, n) ∈ es
 | [], h => by cases h
 | (a, x, m) :: r, h => by
  simp only [underG] at h
  split at h
  ·rename_i e; cases h; subst e; simp
  ·exact List.mem_cons_of_mem _ (underG_mem h)
theorem underG_of {k : α} {v : AV} {n : Nat} : ∀ {es : List (EntG α)}, (es.map fun e => e.1).Nodup → (k, v, n) ∈ es → underG k es = some (v, n)
 | [], _, h => by cases h
 | (a, x, m) :: r, hn, h => by
  simp only [List.map_cons, List.nodup_cons] at hn
  rcases List.mem_cons.1 h with h | h
  ·cases h; simp [underG]
  ·have : k ≠ a := fun e => hn.1 (List.mem_map.2 ⟨(k, v, n), h, e⟩)
   simp only [underG, if_neg this]
   exact underG_of hn.2 h
theorem underG_no {k : α} : ∀ {es : List (EntG α)}, (∀ e, e ∈ es → e.1 ≠ k) → underG k es = none
 | [], _ => rfl
 | (a, x, m) :: r, h => by
  have h1 := h (a, x, m) (by simp)
  simp only [underG, if_neg (fun e : k = a => h1 e.symm)]
  exact underG_no fun e he => h e (List.mem_cons_of_mem _ he)
theorem lk_put {k a : α} {v : AV} {ck : Nat} : ∀ {es : List (EntG α)}, lkG a (putG k v ck es) = if a = k then some v else lkG a es
 | [] => by
  simp only [lkG, putG, underG]
  split <;> rfl
 | (b, x, m) :: r => by
  have ih := lk_put (k := k) (a := a) (v := v) (ck := ck) (es := r)
  simp only [lkG] at ih
  simp only [lkG, putG]
  by_cases h : k = b
  ·rw [if_pos h]
   subst h
   simp only [underG]
   split <;> rfl
  ·rw [if_neg h]
   simp only [underG]
   by_cases h2 : a = b
   ·subst h2
    rw [if_pos rfl, if_pos rfl, if_neg (fun e => h e.symm)]
   ·rw [if_neg h2, if_neg h2]
    exact ih
theorem lk_del {k a : α} : ∀ {es : List (EntG α)}, (es.map fun e => e.1).Nodup → lkG a (delG k es) = if a = k then none else lkG a es
 | [], _ => by
  simp only [lkG, delG, underG]
  split <;> rfl
 | (b, x, m) :: r, hn => by
  simp only [List.map_cons, List.nodup_cons] at hn
  have ih := lk_del (k := k) (a := a) hn.2
  simp only [lkG] at ih
  simp only [lkG, delG]
  by_cases h : k = b
  ·rw [if_pos h]
   subst h
   by_cases h2 : a = k
   ·subst h2
    rw [if_pos rfl, underG_no]
    ·rfl
    ·rintro e he rfl
     exact hn.1 (List.mem_map.2 ⟨e, he, rfl⟩)
   ·rw [if_neg h2]
    simp only [underG, if_neg h2]
  ·rw [if_neg h]
   simp only [underG]
   by_cases h2 : a = b
   ·subst h2
    rw [if_pos rfl, if_pos rfl, if_neg (fun e => h e.symm)]
   ·rw [if_neg h2, if_neg h2]
    exact ih
theorem put_keys {k : α} {v : AV} {ck : Nat} : ∀ {es : List (EntG α)} {e : EntG α}, e ∈ putG k v ck es → e.1 = k ∨ ∃ x, x ∈ es ∧ x.1 = e.1
 | [], e, h => by
  simp only [putG, List.mem_singleton] at h
  rw [h]; exact .inl rfl
 | (b, x, m) :: r, e, h => by
  simp only [putG] at h
  split at h
  ·rcases List.mem_cons.1 h with rfl | h
   ·exact .inl rfl
   ·exact .inr ⟨e, List.mem_cons_of_mem _ h, rfl⟩
  ·rcases List.mem_cons.1 h with rfl | h
   ·exact .inr ⟨_, List.mem_cons_self, rfl⟩
   ·rcases put_keys h with h | ⟨y, hy, e⟩
    ·exact .inl h
    ·exact .inr ⟨y, List.mem_cons_of_mem _ hy, e⟩
theorem put_st {k : α} {v : AV} {ck : Nat} : ∀ {es : List (EntG α)} {e : EntG α}, e ∈ putG k v ck es → e.2.2 = ck ∨ ∃ x, x ∈ es ∧ x.2.2 = e.2.2
 | [], e, h => by
  simp only [putG, List.mem_singleton] at h
  rw [h]; exact .inl rfl
 | (b, x, m) :: r, e, h => by
  simp only [putG] at h
  split at h
  ·rcases List.mem_cons.1 h with rfl | h
   ·exact .inr ⟨_, List.mem_cons_self, rfl⟩
   ·exact .inr ⟨e, List.mem_cons_of_mem _ h, rfl⟩
  ·rcases List.mem_cons.1 h with rfl | h
   ·exact .inr ⟨_, List.mem_cons_self, rfl⟩
   ·rcases put_st h with h | ⟨y, hy, e⟩
    ·exact .inl h
    ·exact .inr ⟨y, List.mem_cons_of_mem _ hy, e⟩
theorem putNG_le {k : α} {ck : Nat} : ∀ {es : List (EntG α)}, ck ≤ putNG k ck es
 | [] => by simp [putNG]
 | (b, x, m) :: r => by
  simp only [putNG]
  split
  ·exact Nat.le_refl _
  ·exact putNG_le
theorem GoodG.put {k : α} {v : AV} {ck : Nat} : ∀ {es : List (EntG α)}, GoodG es ck → GoodG (putG k v ck es) (putNG k ck es)
 | [], h => ⟨by simp [putG], by simp [putG], fun e he => by simp only [putG, List.mem_singleton] at he; rw [he]; show ck < ck + 1; omega⟩
 | (b, x, m) :: r, h => by
  have hk := h.keys
  have hs := h.st
  simp only [List.map_cons, List.nodup_cons] at hk hs
  have hr : GoodG r ck := ⟨hk.2, hs.2, fun e he => h.lt e (List.mem_cons_of_mem _ he)⟩
  have ih := GoodG.put (k := k) (v := v) hr
  have hm := h.lt _ (List.mem_cons_self (a := (b, x, m)) (l := r))
  simp only [putG, putNG]
  by_cases e : k = b
  ·simp only [if_pos e]
   subst e
   exact ⟨by simp only [List.map_cons, List.nodup_cons]; exact hk, by simp only [List.map_cons, List.nodup_cons]; exact hs, fun y hy => by
    rcases List.mem_cons.1 hy with rfl | hy
    ·exact hm
    ·exact hr.lt y hy⟩
  ·simp only [if_neg e]
   refine ⟨?_, ?_, fun y hy => ?_⟩
   ·simp only [List.map_cons, List.nodup_cons]
    refine ⟨fun hb => ?_, ih.keys⟩
    obtain ⟨y, hy, e2⟩ := List.mem_map.1 hb
    rcases put_keys hy with e3 | ⟨z, hz, e3⟩
    ·exact e (by rw [← e3, e2])
    ·exact hk.1 (List.mem_map.2 ⟨z, hz, by rw [e3, e2]⟩)
   ·simp only [List.map_cons, List.nodup_cons]
    refine ⟨fun hb => ?_, ih.st⟩
    obtain ⟨y, hy, e2⟩ := List.mem_map.1 hb
    rcases put_st hy with e3 | ⟨z, hz, e3⟩
    ·rw [e2] at e3
     exact Nat.lt_irrefl ck (by rw [← e3] at hm ⊢; exact hm)
    ·exact hs.1 (List.mem_map.2 ⟨z, hz, by rw [e3, e2]⟩)
   ·rcases List.mem_cons.1 hy with rfl | hy
    ·have := putNG_le (k := k) (ck := ck) (es := r)
     omega
    ·exact ih.lt y hy
theorem del_mem {k : α} : ∀ {es : List (EntG α)} {e : EntG α}, e ∈ delG k es → e ∈ es
 | [], e, h => by cases h
 | (b, x, m) :: r, e, h => by
  simp only [delG] at h
  split at h
  ·exact List.mem_cons_of_mem _ h
  ·rcases List.mem_cons.1 h with rfl | h
   ·exact List.mem_cons_self
   ·exact List.mem_cons_of_mem _ (del_mem h)
theorem GoodG.del {k : α} {ck : Nat} : ∀ {es : List (EntG α)}, GoodG es ck → GoodG (delG k es) ck
 | [], h => h
 | (b, x, m) :: r, h => by
  have hk := h.keys
  have hs := h.st
  simp only [List.map_cons, List.nodup_cons] at hk hs
  have hr : GoodG r ck := ⟨hk.2, hs.2, fun e he => h.lt e (List.mem_cons_of_mem _ he)⟩
  have ih := GoodG.del (k := k) hr
  simp only [delG]
  split
  ·exact hr
  ·refine ⟨?_, ?_, fun y hy => ?_⟩
   ·simp only [List.map_cons, List.nodup_cons]
    refine ⟨fun hb => ?_, ih.keys⟩
    obtain ⟨y, hy, e2⟩ := List.mem_map.1 hb
    exact hk.1 (List.mem_map.2 ⟨y, del_mem hy, e2⟩)
   ·simp only [List.map_cons, List.nodup_cons]
    refine ⟨fun hb => ?_, ih.st⟩
    obtain ⟨y, hy, e2⟩ := List.mem_map.1 hb
    exact hs.1 (List.mem_map.2 ⟨y, del_mem hy, e2⟩)
   ·rcases List.mem_cons.1 hy with rfl | hy
    ·exact h.lt _ List.mem_cons_self
    ·exact ih.lt y hy
end
end Go.Proofs.YtlimjjilakldgaaGreat
namespace Go.Proofs.YtlimjjilakldgaaGreat
open Go Go.Abs
def PinK (P : Chk) (K : Mem) : Prop := ∀ id o, (id, o) ∈ P → InK K id o
theorem PinK.here {P : Chk} {K : Mem} : PinK P (P :: K) := fun _ _ h => .mem h
theorem PinK.there {P c : Chk} {K : Mem} (h : PinK P K) : PinK P (c :: K) := fun id o hm => .there (h id o hm)
structure Rdl (P : Chk) (sz : Nat) (v : AV) (rows : List (List AV)) : Prop where
 row : ∀ r, r ∈ rows → r.length = sz
 one : OneC v
 rw : ∀ K, PinK P K → Rw K sz v rows.flatten rows.length
 len : apure .e (.len false (.c v)) = some (.int .i64 (.ofNat rows.length))
theorem ASl.rdl {P : Chk} {sz : Nat} {v : AV} {rows : List (List AV)} (h : ASl sz v rows) : Rdl P sz v rows := ⟨h.1, h.one, fun K _ => Rw.asl h, h.len⟩
theorem OS.ok.rdl {P : Chk} {sz : Nat} {O : OS} (h : O.ok sz) (hP : ∀ id o, (id, o) ∈ O.c → (id, o) ∈ P) : Rdl P sz (O.v sz) O.rows := ⟨h.row, O.one sz, fun K hK => Rw.os h fun id o hm => hK id o (hP id o hm), h.len⟩
theorem Rdl.mono {P Q : Chk} {sz : Nat} {v : AV} {rows : List (List AV)} (h : Rdl P sz v rows) (hs : ∀ id o, (id, o) ∈ P → (id, o) ∈ Q) : Rdl Q sz v rows := ⟨h.row, h.one, fun K hK => h.rw K fun id o hm => hK id o (hs id o hm), h.len⟩
structure RdP (P : Chk) (p : Proto) : Prop where
 code : Rdl P 4 p.codeV (p.code.map insR)
 consts : Rdl P 3 p.constsV (p.consts.map valR)
 caps : Rdl P 2 p.capsV (p.caps.map capR)
structure RdU (P : Chk) (u : Unt) : Prop where
 uses : Rdl P 3 u.usesV (u.uses.map useR)
 protos : Rdl P 6 u.protosV (u.protos.map protoR)
 ps : ∀ p, p ∈ u.protos → RdP P p
theorem OkU.rd {P : Chk} {u : Unt} (h : OkU u) : RdU P u := ⟨ASl.rdl h.uses, ASl.rdl h.protos, fun p hp => ⟨ASl.rdl (h.ps p hp).code, ASl.rdl (h.ps p hp).consts, ASl.rdl (h.ps p hp).caps⟩⟩
def PSl (P : Chk) (sz : Nat) (v : AV) (rows : List (List AV)) : Prop := ∃ O : OS, O.ok sz ∧ O.rows = rows ∧ v = O.v sz ∧ ∀ id o, (id, o) ∈ O.c → (id, o) ∈ P
theorem PSl.rdl {P : Chk} {sz : Nat} {v : AV} {rows : List (List AV)} (h : PSl P sz v rows) : Rdl P sz v rows := by
 obtain ⟨O, h1, rfl, rfl, h4⟩ := h
 exact OS.ok.rdl h1 h4
theorem PSl.mono {P Q : Chk} {sz : Nat} {v : AV} {rows : List (List AV)} (h : PSl P sz v rows) (hs : ∀ id o, (id, o) ∈ P → (id, o) ∈ Q) : PSl Q sz v rows := by
 obtain ⟨O, h1, h2, h3, h4⟩ := h
 exact ⟨O, h1, h2, h3, fun id o hm => hs id o (h4 id o hm)⟩
structure MemP (P : Chk) (p : Proto) : Prop where
 code : PSl P 4 p.codeV (p.code.map insR)
 consts : PSl P 3 p.constsV (p.consts.map valR)
 caps : PSl P 2 p.capsV (p.caps.map capR)
structure MemU (P : Chk) (u : Unt) : Prop where
 uses : PSl P 3 u.usesV (u.uses.map useR)
 protos : PSl P 6 u.protosV (u.protos.map protoR)
 ps : ∀ p, p ∈ u.protos → MemP P p
theorem MemU.rd {P : Chk} {u : Unt} (h : MemU P u) : RdU P u := ⟨h.uses.rdl, h.protos.rdl, fun p hp => ⟨(h.ps p hp).code.rdl, (h.ps p hp).consts.rdl, (h.ps p hp).caps.rdl⟩⟩
theorem MemU.mono {P Q : Chk} {u : Unt} (h : MemU P u) (hs : ∀ id o, (id, o) ∈ P → (id, o) ∈ Q) : MemU Q u := ⟨h.uses.mono hs, h.protos.mono hs, fun p hp => ⟨(h.ps p hp).code.mono hs, (h.ps p hp).consts.mono hs, (h.ps p hp).caps.mono hs⟩⟩
def SameP (p q : Proto) : Prop := p.name = q.name ∧ p.params = q.params ∧ p.regs = q.regs ∧ p.code = q.code ∧ p.consts = q.consts ∧ p.caps = q.caps
inductive SamePs : List Proto → List Proto → Prop
 | nil : SamePs [] []
 | cons {p q : Proto} {l m : List Proto} : SameP p q → SamePs l m → SamePs (p :: l) (q :: m)
structure SameU (u v : Unt) : Prop where
 name : u.name = v.name
 version : u.version = v.version
 uses : u.uses = v.uses
 funs : u.funs = v.funs
 ps : SamePs u.protos v.protos
theorem SameP.refl (p : Proto) : SameP p p := ⟨rfl, rfl, rfl, rfl, rfl, rfl⟩
theorem SamePs.refl : ∀ l : List Proto, SamePs l l
 | [] => .nil
 | p :: l => .cons (.refl p) (SamePs.refl l)
theorem SameP.trans {p q r : Proto} (h : SameP p q) (k : SameP q r) : SameP p r := ⟨h.1.trans k.1, h.2.1.trans k.2.1, h.2.2.1.trans k.2.2.1, h.2.2.2.1.trans k.2.2.2.1, h.2.2.2.2.1.trans k.2.2.2.2.1, h.2.2.2.2.2.trans k.2.2.2.2.2⟩
theorem SamePs.trans {l m n : List Proto} (h : SamePs l m) (k : SamePs m n) : SamePs l n := by
 induction h generalizing n with
 | nil => exact k
 | cons h1 h2 ih =>
  cases k with
  | cons k1 k2 => exact .cons (h1.trans k1) (ih k2)
theorem SameU.trans {u v w : Unt} (h : SameU u v) (k : SameU v w) : SameU u w := ⟨h.name.trans k.name, h.version.trans k.version, h.uses.trans k.uses, h.funs.trans k.funs, h.ps.trans k.ps⟩
theorem SamePs.len {l m : List Proto} (h : SamePs l m) : l.length = m.length := by
 induction h with
 | nil => rfl
 | cons _ _ ih => simp [ih]
theorem SamePs.append {l m l2 m2 : List Proto} (h : SamePs l m) (k : SamePs l2 m2) : SamePs (l ++ l2) (m ++ m2) := by
 induction h with
 | nil => exact k
 | cons h1 _ ih => exact .cons h1 ih
theorem SamePs.at {l m : List Proto} (h : SamePs l m) : ∀ {i : Nat} {p : Proto}, l[i]? = some p → ∃ q, m[i]? = some q ∧ SameP p q := by
 induction h with
 | nil => intro i p h; simp at h
 | cons h1 _ ih =>
  intro i p h
  cases i with
  | zero => simp at h; subst h; exact ⟨_, rfl, h1⟩
  | succ i => exact ih (by simpa using h)
end Go.Proofs.YtlimjjilakldgaaGreat
namespace Go.Proofs.YtlimjjilakldgaaGreat
open Go Go.Abs
attribute [local irreducible] Cmp Rg Dw Cd Lp Ev Rdk CT Upd InK
theorem flat_set {sz j : Nat} {v : AV} : ∀ {rows : List (List AV)} {i : Nat} {r : List AV}, (∀ r, r ∈ rows → r.length = sz) → rows[i]? = some r → j < sz → rows.flatten.set (i * sz + j) v = (rows.set i (r.set j v)).flatten
 | [], i, r, _, h, _ => by simp at h
 | x :: rows, 0, r, hl, h, hj => by
  simp at h; subst h
  have hx := hl x (by simp)
  simp only [Nat.zero_mul, Nat.zero_add, List.flatten_cons, List.set_cons_zero]
  rw [List.set_append_left _ _ (by omega)]
 | x :: rows, i + 1, r, hl, h, hj => by
  have hx := hl x (by simp)
  have ih := flat_set (j := j) (v := v) (rows := rows) (i := i) (r := r) (fun r hr => hl r (List.mem_cons_of_mem _ hr)) (by simpa using h) hj
  simp only [List.flatten_cons, List.set_cons_succ]
  rw [List.set_append_right _ _ (by rw [hx, Nat.add_mul]; omega), ← ih]
  congr 2
  rw [hx, Nat.add_mul]
  omega
theorem setSeg_cell {sz i j : Nat} {v : AV} {rows : List (List AV)} {r : List AV} (hl : ∀ r, r ∈ rows → r.length = sz) (h : rows[i]? = some r) (hj : j < sz) : setSeg rows.flatten (0 + i * sz + j) [v] = (rows.set i (r.set j v)).flatten := by
 have hf : (i + 1) * sz ≤ rows.flatten.length := (flatten_at hl h).2
 rw [Nat.add_mul] at hf
 rw [← flat_set hl h hj, List.set_eq_take_append_cons_drop, if_pos (by omega), Nat.zero_add]
 simp [setSeg]
structure Sml (u : Unt) : Prop where
 uses : u.uses.length ≤ 100000
 protos : u.protos.length ≤ 100000
 ps : ∀ p, p ∈ u.protos → p.code.length ≤ 100000 ∧ p.consts.length ≤ 100000 ∧ p.caps.length ≤ 100000
theorem useR_len {l : List Use} : ∀ r, r ∈ l.map useR → r.length = 3 := by
 intro r h; obtain ⟨x, _, rfl⟩ := List.mem_map.1 h; rfl
theorem protoR_len {l : List Proto} : ∀ r, r ∈ l.map protoR → r.length = 6 := by
 intro r h; obtain ⟨x, _, rfl⟩ := List.mem_map.1 h; rfl
theorem insR_len {l : List Ins} : ∀ r, r ∈ l.map insR → r.length = 4 := by
 intro r h; obtain ⟨x, _, rfl⟩ := List.mem_map.1 h; rfl
theorem valR_len {l : List Val} : ∀ r, r ∈ l.map valR → r.length = 3 := by
 intro r h; obtain ⟨x, _, rfl⟩ := List.mem_map.1 h; rfl
theorem capR_len {l : List Cap} : ∀ r, r ∈ l.map capR → r.length = 2 := by
 intro r h; obtain ⟨x, _, rfl⟩ := List.mem_map.1 h; rfl
theorem own39_round {P Qc X : Chk} {id g n i b1 b2 : Nat} {done rest : List Proto} {p : Proto} (hi : done.length = i) (hp : RdP P p) (hs : p.code.length ≤ 100000 ∧ p.consts.length ≤ 100000 ∧ p.caps.length ≤ 100000) (hn : n = (done ++ p :: rest).length) (hnl : n ≤ 100000) :
  Cd Try.prog false (.seq (.reg r39_6) (.seq (.reg r39_7) (.reg r39_8))) [(1, .ptr b1 0 0 5), (2, .ptr b2 0 0 5), (3, .slc id g 0 n n 6), (4, .int .i64 (.ofNat i)), (13, .int .i64 (.ofNat n)), (14, .int .i64 (.ofNat i))]
   [[(id, .cells ((done ++ p :: rest).map protoR).flatten g g true)], Qc, X, P]
   fun e l K => e = .nrm ∧ Sub2 [(1, .ptr b1 0 0 5), (2, .ptr b2 0 0 5), (3, .slc id g 0 n n 6), (13, .int .i64 (.ofNat n)), (14, .int .i64 (.ofNat i))] l ∧ ∃ q : Proto, ∃ C S A : OS, SameP p q ∧ (C.ok 4 ∧ C.rows = q.code.map insR ∧ q.codeV = C.v 4) ∧ (S.ok 3 ∧ S.rows = q.consts.map valR ∧ q.constsV = S.v 3) ∧ (A.ok 2 ∧ A.rows = q.caps.map capR ∧ q.capsV = A.v 2) ∧
    K = [A.c, S.c, C.c, [(id, .cells ((done ++ q :: rest).map protoR).flatten g g true)], Qc, X, P] := by
 have hrow : ((done ++ p :: rest).map protoR)[i]? = some (protoR p) := by
  rw [List.getElem?_map, List.getElem?_append_right (by omega), hi, Nat.sub_self]; rfl
 have q1 := iadr_slc (sz := 6) (b := id) (g := g) (off := 0) (len := n) (cap := n) (i := i) (k := .i64) (by rw [hn]; simp; omega)
 have hlen : ∀ q : Proto, 0 + i * 6 + 6 ≤ ((done ++ q :: rest).map protoR).flatten.length := fun q => by
  have hq : ((done ++ q :: rest).map protoR)[i]? = some (protoR q) := by
   rw [List.getElem?_map, List.getElem?_append_right (by omega), hi, Nat.sub_self]; rfl
  have := (flatten_at (sz := 6) protoR_len hq).2
  omega
 have hset : ∀ (q q2 : Proto) (j : Nat) (v : AV), j < 6 → (protoR q).set j v = protoR q2 → setSeg ((done ++ q :: rest).map protoR).flatten (0 + i * 6 + j) [v] = ((done ++ q2 :: rest).map protoR).flatten := fun q q2 j v hj he => by
  have hq : ((done ++ q :: rest).map protoR)[i]? = some (protoR q) := by
   rw [List.getElem?_map, List.getElem?_append_right (by omega), hi, Nat.sub_self]; rfl
  rw [setSeg_cell protoR_len hq hj, he]
  congr 1
  rw [← List.map_set, List.set_append_right _ _ (by omega), hi, Nat.sub_self]
  rfl
 have hcel : ∀ (q : Proto) (j : Nat) (v : AV), (protoR q)[j]? = some v → ∀ K, InK K id (.cells ((done ++ q :: rest).map protoR).flatten g g true) → Rdk K .load1 (.ptr id g (0 + i * 6 + j) 1) (.ptr id g (0 + i * 6 + j) 1) v := fun q j v hv K h => by
  have hq : ((done ++ q :: rest).map protoR)[i]? = some (protoR q) := by
   rw [List.getElem?_map, List.getElem?_append_right (by omega), hi, Nat.sub_self]; rfl
  exact Rdk.cel (lm := 0) h protoR_len hq hv
 have r3 := hcel p 3 p.codeV rfl
 repeat' (first|refine yR r3 ?_|intro _|refine yS ?_|(apply YB.mk<;>intro hc)|(apply YA.mk;intro cv hv)|(refine yT ?_ ?_<;>(intro e;(try simp only [nbT,nbF] at e);subst e;try contradiction)))
 refine Rg.e (Ef.appI (rs := p.code.map insR) (n := (p.code.map insR).length) rfl rfl insR_len rfl (hp.code.rw _ (.there (.there (.there .here)))) (by rw [List.length_map]; simp only [lim]; omega)) ?_
 rintro _ _ ⟨C, hC, hCr, rfl, rfl⟩
 repeat' (first|intro _|refine yS ?_|(apply YB.mk<;>intro hc)|(apply YA.mk;intro cv hv)|(refine yT ?_ ?_<;>(intro e;(try simp only [nbT,nbF] at e);subst e;try contradiction)))
 refine Rg.e (Ef.store1 rfl rfl (C.one 4) (.there Upd.here) (by have := hlen p; omega)) ?_
 rintro _ _ ⟨rfl, rfl⟩
 rw [hset p { p with codeV := C.v 4 } 3 _ (by omega) rfl]
 have r4 := hcel { p with codeV := C.v 4 } 4 p.constsV rfl
 repeat' (first|refine yR r4 ?_|intro _|refine yS ?_|(apply YB.mk<;>intro hc)|(apply YA.mk;intro cv hv)|(refine yT ?_ ?_<;>(intro e;(try simp only [nbT,nbF] at e);subst e;try contradiction)))
 refine Rg.e (Ef.appI (rs := p.consts.map valR) (n := (p.consts.map valR).length) rfl rfl valR_len rfl (hp.consts.rw _ (.there (.there (.there (.there .here))))) (by rw [List.length_map]; simp only [lim]; omega)) ?_
 rintro _ _ ⟨S, hS, hSr, rfl, rfl⟩
 repeat' (first|intro _|refine yS ?_|(apply YB.mk<;>intro hc)|(apply YA.mk;intro cv hv)|(refine yT ?_ ?_<;>(intro e;(try simp only [nbT,nbF] at e);subst e;try contradiction)))
 refine Rg.e (Ef.store1 rfl rfl (S.one 3) (.there (.there Upd.here)) (by have := hlen { p with codeV := C.v 4 }; omega)) ?_
 rintro _ _ ⟨rfl, rfl⟩
 rw [hset { p with codeV := C.v 4 } { p with codeV := C.v 4, constsV := S.v 3 } 4 _ (by omega) rfl]
 have r5 := hcel { p with codeV := C.v 4, constsV := S.v 3 } 5 p.capsV rfl
 repeat' (first|refine yR r5 ?_|intro _|refine yS ?_|(apply YB.mk<;>intro hc)|(apply YA.mk;intro cv hv)|(refine yT ?_ ?_<;>(intro e;(try simp only [nbT,nbF] at e);subst e;try contradiction)))
 refine Rg.e (Ef.appI (rs := p.caps.map capR) (n := (p.caps.map capR).length) rfl rfl capR_len rfl (hp.caps.rw _ (.there (.there (.there (.there (.there .here)))))) (by rw [List.length_map]; simp only [lim]; omega)) ?_
 rintro _ _ ⟨A, hA, hAr, rfl, rfl⟩
 repeat' (first|intro _|refine yS ?_|(apply YB.mk<;>intro hc)|(apply YA.mk;intro cv hv)|(refine yT ?_ ?_<;>(intro e;(try simp only [nbT,nbF] at e);subst e;try contradiction)))
 refine Rg.e (Ef.store1 rfl rfl (A.one 2) (.there (.there (.there Upd.here))) (by have := hlen { p with codeV := C.v 4, constsV := S.v 3 }; omega)) ?_
 rintro _ _ ⟨rfl, rfl⟩
 rw [hset { p with codeV := C.v 4, constsV := S.v 3 } { p with codeV := C.v 4, constsV := S.v 3, capsV := A.v 2 } 5 _ (by omega) rfl]
 repeat' (first|intro _|refine yS ?_|(apply YB.mk<;>intro hc)|(apply YA.mk;intro cv hv)|(refine yT ?_ ?_<;>(intro e;(try simp only [nbT,nbF] at e);subst e;try contradiction)))
 exact ⟨rfl, ⟨rfl, rfl, rfl, rfl, rfl, trivial⟩, { p with codeV := C.v 4, constsV := S.v 3, capsV := A.v 2 }, C, S, A, ⟨rfl, rfl, rfl, rfl, rfl, rfl⟩, ⟨hC, hCr, rfl⟩, ⟨hS, hSr, rfl⟩, ⟨hA, hAr, rfl⟩, rfl⟩
end Go.Proofs.YtlimjjilakldgaaGreat
namespace Go.Proofs.YtlimjjilakldgaaGreat
open Go Go.Abs
attribute [local irreducible] Cmp Rg Dw Cd Lp Ev Rdk CT Upd InK
theorem own39_loop {P X : Chk} {id g n b1 b2 : Nat} {ps : List Proto} {Q : AX → SL → Mem → Prop} (hp : ∀ p, p ∈ ps → RdP P p) (hs : ∀ p, p ∈ ps → p.code.length ≤ 100000 ∧ p.consts.length ≤ 100000 ∧ p.caps.length ≤ 100000) (hn : n = ps.length) (hnl : n ≤ 100000)
  (hend : ∀ l' done Qc, SamePs ps done → (∀ p, p ∈ done → MemP Qc p) → Sub2 [(1, .ptr b1 0 0 5), (2, .ptr b2 0 0 5), (3, .slc id g 0 n n 6)] l' → Q (.ext 0) l' [[(id, .cells (done.map protoR).flatten g g true)], Qc, X, P]) :
  ∀ (f : Nat) (pre done rest : List Proto) (Qc : Chk), rest.length < f → ps = pre ++ rest → SamePs pre done → (∀ p, p ∈ done → MemP Qc p) →
   Lp Try.prog false b39_0 f [(1, .ptr b1 0 0 5), (2, .ptr b2 0 0 5), (3, .slc id g 0 n n 6), (13, .int .i64 (.ofNat n)), (14, .int .i64 (.ofNat done.length))] [[(id, .cells ((done ++ rest).map protoR).flatten g g true)], Qc, X, P] Q := by
 intro f
 induction f with
 | zero => intro pre done rest Qc h1; omega
 | succ f ih =>
  intro pre done rest Qc h1 h2 h3 h4
  have hpl := h3.len
  have hl : n = pre.length + rest.length := by rw [hn, h2, List.length_append]
  refine Lp.round ?_
  cases rest with
  | nil =>
   simp only [List.length_nil] at hl
   have hd : done.length = n := by omega
   rw [hd]
   repeat' (first|intro _|refine yS ?_|(apply YB.mk<;>intro hc)|(apply YA.mk;intro cv hv)|(refine yT ?_ ?_<;>(intro e;(try simp only [nbT,nbF] at e);subst e;try contradiction)))
   rw [List.append_nil] at h2 ⊢
   exact hend _ done Qc (by rw [h2]; exact h3) h4 ⟨rfl, rfl, rfl, trivial⟩
  | cons p rest =>
   simp only [List.length_cons] at hl h1
   have hpm : p ∈ ps := by rw [h2]; simp
   repeat' (first|refine stopAt (c := r39_6) ?_|intro _|refine yS ?_|(apply YB.mk<;>intro hc)|(apply YA.mk;intro cv hv)|(refine yT ?_ ?_<;>(intro e;(try simp only [nbT,nbF] at e);subst e;try contradiction)))
   refine ⟨?_⟩
   refine Cd.weak (l2 := [(1, .ptr b1 0 0 5), (2, .ptr b2 0 0 5), (3, .slc id g 0 n n 6), (4, .int .i64 (.ofNat done.length)), (13, .int .i64 (.ofNat n)), (14, .int .i64 (.ofNat done.length))]) ⟨rfl, rfl, rfl, rfl, rfl, rfl, trivial⟩ (Cd.mono (own39_round (p := p) rfl (hp p hpm) (hs p hpm) (by rw [List.length_append, List.length_cons]; omega) hnl) ?_)
   rintro _ l' _ ⟨rfl, hsub, q, C, S, A, hsame, ⟨c1, c2, c3⟩, ⟨s1, s2, s3⟩, ⟨a1, a2, a3⟩, rfl⟩
   show Cd _ _ _ _ _ _
   refine Cd.weak hsub ?_
   repeat' (first|intro _|refine yS ?_|(apply YB.mk<;>intro hc)|(apply YA.mk;intro cv hv)|(refine yT ?_ ?_<;>(intro e;(try simp only [nbT,nbF] at e);subst e;try contradiction)))
   have e1 : done ++ q :: rest = (done ++ [q]) ++ rest := by simp
   rw [e1]
   have hm : ∀ p, p ∈ done ++ [q] → MemP (A.c ++ (S.c ++ (C.c ++ Qc))) p := fun x hx => by
    rcases List.mem_append.1 hx with hx | hx
    ·obtain ⟨m1, m2, m3⟩ := h4 x hx
     have hsub : ∀ id o, (id, o) ∈ Qc → (id, o) ∈ A.c ++ (S.c ++ (C.c ++ Qc)) := fun id o h => by simp [h]
     exact ⟨m1.mono hsub, m2.mono hsub, m3.mono hsub⟩
    ·rw [List.mem_singleton] at hx
     subst hx
     exact ⟨⟨C, c1, c2, c3, fun id o h => by simp [h]⟩, ⟨S, s1, s2, s3, fun id o h => by simp [h]⟩, ⟨A, a1, a2, a3, fun id o h => by simp [h]⟩⟩
   have := ih (pre ++ [p]) (done ++ [q]) rest (A.c ++ (S.c ++ (C.c ++ Qc))) (by omega) (by rw [h2]; simp) (h3.append (.cons hsame .nil)) hm
   rw [show (done ++ [q]).length = done.length + 1 by simp] at this
   refine Lp.perm (K2 := [[(id, .cells (((done ++ [q]) ++ rest).map protoR).flatten g g true)], A.c ++ (S.c ++ (C.c ++ Qc)), X, P]) ?_ (Lp.weak (by exact ⟨rfl, rfl, rfl, rfl, rfl, trivial⟩) this)
   simp only [List.flatten_cons, List.flatten_nil, List.append_nil, List.append_assoc]
   have := chunk_perm [A.c, S.c, C.c, [(id, .cells (((done ++ [q]) ++ rest).map protoR).flatten g g true)], Qc, X, P] [0, 1, 2, 3, 4, 5, 6] [3, 0, 1, 2, 4, 5, 6] (by decide)
   simpa using this
theorem own39' {P : Chk} {u : Unt} (hu : RdU P u) (hs : Sml u) : CT Try.prog false 39 [.agg (unitR u)] [P] fun w K' => ∃ u' A B C, w = .agg (unitR u') ∧ MemU (A ++ (B ++ C)) u' ∧ SameU u u' ∧ K' = [P, A, B, C] := by
 refine CT.enterS mixed comp39 (Nat.le_of_ble_eq_true rfl) ?_
 repeat' (first|intro _|refine yS ?_|(apply YB.mk<;>intro hc)|(apply YA.mk;intro cv hv)|(refine yT ?_ ?_<;>(intro e;(try simp only [nbT,nbF] at e);subst e;try contradiction)))
 rename_i b1 b2
 refine Rg.e (Ef.appI (rs := u.uses.map useR) (n := (u.uses.map useR).length) rfl rfl useR_len rfl (hu.uses.rw _ (.there (.there .here))) (by rw [List.length_map]; have := hs.uses; simp only [lim]; omega)) ?_
 rintro _ _ ⟨OU, hOU, hOUr, rfl, rfl⟩
 repeat' (first|intro _|refine yS ?_|(apply YB.mk<;>intro hc)|(apply YA.mk;intro cv hv)|(refine yT ?_ ?_<;>(intro e;(try simp only [nbT,nbF] at e);subst e;try contradiction)))
 refine Rg.e (Ef.store1 rfl rfl (OU.one 3) (.there (.there Upd.here)) (Nat.le_of_ble_eq_true rfl)) ?_
 rintro _ _ ⟨rfl, rfl⟩
 repeat' (first|intro _|refine yS ?_|(apply YB.mk<;>intro hc)|(apply YA.mk;intro cv hv)|(refine yT ?_ ?_<;>(intro e;(try simp only [nbT,nbF] at e);subst e;try contradiction)))
 refine Rg.e (Ef.appI (rs := u.protos.map protoR) (n := (u.protos.map protoR).length) rfl rfl protoR_len rfl (hu.protos.rw _ (.there (.there (.there .here)))) (by rw [List.length_map]; have := hs.protos; simp only [lim]; omega)) ?_
 rintro _ _ ⟨OP, hOP, hOPr, rfl, rfl⟩
 have hOPl := hOP.len
 rw [hOPr, List.length_map] at hOPl
 repeat' (first|intro _|refine yS ?_|(apply YB.mk<;>intro hc)|(apply YA.mk;intro cv hv)|(refine yT ?_ ?_<;>(intro e;(try simp only [nbT,nbF] at e);subst e;try contradiction)))
 obtain ⟨o, rows⟩ := OP
 simp only at hOPr
 subst hOPr
 cases o with
 | none =>
  have h0 : u.protos = [] := by
   have := hOP.no rfl
   simpa using this
  refine Cd.perm (K2 := [P, OU.c, [], [], [(b2, .cells [.str [], .int .i64 (.ofNat 0), .nilslc, .int .i64 (.ofNat 0), .nilslc] 0 0 false)], [(b1, .cells [.str u.name, .int .i64 u.version, OU.v 3, .int .i64 u.funs, u.protosV] 0 0 false)]]) ?_ ?_
  ·have := chunk_perm [[], OU.c, [(b2, .cells [.str [], .int .i64 (.ofNat 0), .nilslc, .int .i64 (.ofNat 0), .nilslc] 0 0 false)], [(b1, .cells [.str u.name, .int .i64 u.version, OU.v 3, .int .i64 u.funs, u.protosV] 0 0 false)], P] [0, 1, 2, 3, 4] [4, 1, 0, 2, 3] (by decide)
   show List.Perm (List.flatten ([[], OU.c, [(b2, .cells [.str [], .int .i64 (.ofNat 0), .nilslc, .int .i64 (.ofNat 0), .nilslc] 0 0 false)], [(b1, .cells [.str u.name, .int .i64 u.version, OU.v 3, .int .i64 u.funs, u.protosV] 0 0 false)], P] : Mem)) _
   simpa using this
  have hl0 : u.protos.length = 0 := by rw [h0]; rfl
  refine Cd.loop (k := 1) (Lp.round ?_)
  repeat' (first|intro _|refine yS ?_|(apply YB.mk<;>intro hc)|(apply YA.mk;intro cv hv)|(refine yT ?_ ?_<;>(intro e;(try simp only [nbT,nbF] at e);subst e;try contradiction)))
  refine yX ?_
  refine ⟨_, _, (.cons (.here) (.cons (.here) (.cons (.here) (.cons (.here) (.nil))))), { u with usesV := OU.v 3, protosV := .nilslc, protos := [] }, OU.c, [], [], rfl, ⟨⟨OU, hOU, hOUr, rfl, fun id o h => by simp [h]⟩, ⟨⟨none, []⟩, OS.ok.nil, rfl, rfl, fun id o h => by simp [OS.c] at h⟩, fun p h => by cases h⟩, ⟨rfl, rfl, rfl, rfl, by rw [h0]; exact .nil⟩, rfl⟩
 | some pr =>
  obtain ⟨id, g⟩ := pr
  refine Cd.perm (K2 := [[(id, .cells (u.protos.map protoR).flatten g g true)], [], [], P, OU.c, [(b2, .cells [.str [], .int .i64 (.ofNat 0), .nilslc, .int .i64 (.ofNat 0), .nilslc] 0 0 false)], [(b1, .cells [.str u.name, .int .i64 u.version, OU.v 3, .int .i64 u.funs, u.protosV] 0 0 false)]]) ?_ ?_
  ·have := chunk_perm [[(id, .cells (u.protos.map protoR).flatten g g true)], OU.c, [(b2, .cells [.str [], .int .i64 (.ofNat 0), .nilslc, .int .i64 (.ofNat 0), .nilslc] 0 0 false)], [(b1, .cells [.str u.name, .int .i64 u.version, OU.v 3, .int .i64 u.funs, u.protosV] 0 0 false)], P] [0, 1, 2, 3, 4] [0, 4, 1, 2, 3] (by decide)
   show List.Perm (List.flatten ([[(id, .cells (u.protos.map protoR).flatten g g true)], OU.c, [(b2, .cells [.str [], .int .i64 (.ofNat 0), .nilslc, .int .i64 (.ofNat 0), .nilslc] 0 0 false)], [(b1, .cells [.str u.name, .int .i64 u.version, OU.v 3, .int .i64 u.funs, u.protosV] 0 0 false)], P] : Mem)) _
   simpa using this
  refine Cd.loop (k := u.protos.length + 1) (Lp.fr (m := [[(id, .cells (u.protos.map protoR).flatten g g true)], [], [], P]) (.cons (.here) (.cons (.here) (.cons (.here) (.cons (.here) (.nil))))) (Lp.weak (l2 := [(1, .ptr b1 0 0 5), (2, .ptr b2 0 0 5), (3, .slc id g 0 u.protos.length u.protos.length 6), (13, .int .i64 (.ofNat u.protos.length)), (14, .int .i64 (.ofNat 0))]) ?_ (own39_loop (X := []) hu.ps hs.ps rfl hs.protos ?_ (u.protos.length + 1) [] [] u.protos [] (by omega) rfl .nil (fun p h => by cases h))))
  ·refine ⟨rfl, rfl, ?_, rfl, rfl, trivial⟩
   simp only [OS.v, List.length_map]
   rfl
  ·intro l' done Qc hsame hmem hsub
   show Cd _ _ _ _ _ _
   refine Cd.weak hsub ?_
   repeat' (first|intro _|refine yS ?_|(apply YB.mk<;>intro hc)|(apply YA.mk;intro cv hv)|(refine yT ?_ ?_<;>(intro e;(try simp only [nbT,nbF] at e);subst e;try contradiction)))
   refine yX ?_
   have hl := hsame.len
   refine ⟨_, _, (.cons (.there (.there (.there (.here)))) (.cons (.here) (.cons (.here) (.cons (.there (.here)) (.nil))))), { u with usesV := OU.v 3, protosV := .slc id g 0 u.protos.length u.protos.length 6, protos := done }, [(id, .cells (done.map protoR).flatten g g true)], Qc, OU.c, rfl, ⟨?_, ?_, ?_⟩, ⟨rfl, rfl, rfl, rfl, hsame⟩, rfl⟩
   ·exact ⟨OU, hOU, hOUr, rfl, fun id o h => by simp [h]⟩
   ·refine ⟨⟨some (id, g), done.map protoR⟩, ⟨fun h => (nomatch h), protoR_len⟩, rfl, ?_, fun i o h => ?_⟩
    ·simp only [OS.v, List.length_map, hl]
    ·simp only [OS.c, List.mem_singleton] at h
     simp [h]
   ·intro p hp
    obtain ⟨m1, m2, m3⟩ := hmem p hp
    have hsub : ∀ i o, (i, o) ∈ Qc → (i, o) ∈ [(id, AObj.cells (done.map protoR).flatten g g true)] ++ (Qc ++ OU.c) := fun i o h => by simp [h]
    exact ⟨m1.mono hsub, m2.mono hsub, m3.mono hsub⟩
theorem own39 {P : Chk} {u : Unt} (hu : RdU P u) (hs : Sml u) : CT Try.prog false 39 [.agg (unitR u)] [P] fun w K' => ∃ u' Q, w = .agg (unitR u') ∧ MemU Q u' ∧ SameU u u' ∧ K' = [P, Q] := by
 refine CT.re (own39' hu hs) ?_
 rintro w K' ⟨u', A, B, C, rfl, h1, h2, rfl⟩
 exact ⟨[P, A ++ (B ++ C)], by simp, u', _, rfl, h1, h2, rfl⟩
end Go.Proofs.YtlimjjilakldgaaGreat
