/- The program's Load. -/
import Derived.Test.YtlflpjjmkigepaaPlnG
import Derived.Test.YtlflpjjmkigepaaPlnE
set_option autoImplicit false
set_option maxRecDepth 900000
set_option maxHeartbeats 4000000
set_option linter.unusedVariables false
set_option linter.unusedSimpArgs false
set_option maxRecDepth 100000
namespace Go.Proofs.Ytlflpjjmkigepaa
open Go Go.Abs
attribute [local irreducible] Cmp Rg Dw Cd Lp Ev Rdk CT Upd InK
abbrev bh (i b : Nat) : Chk := [(i, .cells [hP b] 0 0 false)]
def loadR (ih b : Nat) (fs : List OS) (H : MH) (c : Chk) : Prop := H.ok ∧ ∃ c1, HC b H fs c1 ∧ c = (ih, .cells [hP b] 0 0 false) :: c1
section
variable {b ih : Nat} {fs : List OS} {s : List Nat}
theorem table45 {H : MH} {c : Chk} (hX : HC b H fs c) (hok : H.ok) : CT Try.prog false 45 [.ptr ih 0 0 1] [bh ih b, c] fun w K' => w = valA (mTable H).2.1 ∧ ∃ c', HC b (mTable H).1 fs c' ∧ K' = [bh ih b, c'] := by
  have k := tableH hX hok
  refine CT.enterS mixed comp45 (Nat.le_of_ble_eq_true rfl) ?_
  repeat' (first|(refine Rg.callM rfl k (.cons (.there (.there (.here))) (.nil)) ?_; rintro _ _ ⟨rfl, c', hX', rfl⟩)|refine zz ?_|(refine zw ?_;refine And.intro ?_ ?_<;>intro hc)|(refine zv ?_;intro cv hv)|(refine za ?_;intro _)|refine zc ?_|(refine zd ?_;refine And.intro ?_ ?_<;>(intro e;(try simp only [Bool.not_eq_true',Bool.not_eq_false'] at e);subst e;try contradiction)))
  (first|refine ⟨.inr rfl,_,.t rfl .nil,?_⟩|refine ⟨.inr rfl,_,.t rfl (.t rfl .nil),?_⟩|refine ⟨.inr rfl,_,.t rfl (.t rfl (.t rfl .nil)),?_⟩|refine ⟨.inr rfl,_,.nil,?_⟩|refine ⟨.inl rfl,_,.t rfl .nil,?_⟩|refine ⟨.inl rfl,_,.nil,?_⟩|refine ⟨.inr rfl,_,.cn rfl (by exact zN) .nil,?_⟩|refine ⟨.inr rfl,_,.cn rfl (by exact zN) (.t rfl .nil),?_⟩)
  exact ⟨_, _, (.cons (.there (.there (.there (.here)))) (.cons (.there (.here)) (.nil))), rfl, c', hX', rfl⟩
theorem put46 {H : MH} {c : Chk} (hX : HC b H fs c) (hok : H.ok) {t k v : Val} (hk : ScOk k) : CT Try.prog false 46 [valA t, valA k, valA v, .ptr ih 0 0 1] [bh ih b, c] fun w K' => w = .tup [] ∧ ∃ c', HC b (mPut H t k v).1 fs c' ∧ K' = [bh ih b, c'] := by
  have kp := putH hX hok (t := t) (k := k) (v := v) (fun hb => hk.can hb)
  refine CT.enterS mixed comp46 (Nat.le_of_ble_eq_true rfl) ?_
  repeat' (first|(refine Rg.callM rfl kp (.cons (.there (.there (.there (.there (.here))))) (.nil)) ?_; rintro _ _ ⟨rfl, c', hX', rfl⟩)|refine zz ?_|(refine zw ?_;refine And.intro ?_ ?_<;>intro hc)|(refine zv ?_;intro cv hv)|(refine za ?_;intro _)|refine zc ?_|(refine zd ?_;refine And.intro ?_ ?_<;>(intro e;(try simp only [Bool.not_eq_true',Bool.not_eq_false'] at e);subst e;try contradiction)))
  (first|refine ⟨.inr rfl,_,.t rfl .nil,?_⟩|refine ⟨.inr rfl,_,.t rfl (.t rfl .nil),?_⟩|refine ⟨.inr rfl,_,.t rfl (.t rfl (.t rfl .nil)),?_⟩|refine ⟨.inr rfl,_,.nil,?_⟩|refine ⟨.inl rfl,_,.t rfl .nil,?_⟩|refine ⟨.inl rfl,_,.nil,?_⟩|refine ⟨.inr rfl,_,.cn rfl (by exact zN) .nil,?_⟩|refine ⟨.inr rfl,_,.cn rfl (by exact zN) (.t rfl .nil),?_⟩)
  exact ⟨_, _, (.cons (.there (.there (.there (.there (.here))))) (.cons (.here) (.nil))), rfl, c', hX', rfl⟩
theorem loadC : Clo heapB (loadR ih b fs) 45 46 [.ptr ih 0 0 1] [.ptr ih 0 0 1] := by
  refine ⟨?_, ?_⟩
  · rintro H c ⟨hok, c1, hX, rfl⟩
    refine CT.perm (K2 := [bh ih b, c1]) (by simp) (CT.re (table45 hX hok) ?_)
    rintro w K' ⟨rfl, c', hX', rfl⟩
    exact ⟨[(ih, .cells [hP b] 0 0 false) :: c'], by simp, rfl, _, ⟨hok.table, c', hX', rfl⟩, rfl⟩
  · rintro H c t k v ⟨hok, c1, hX, rfl⟩ hk hkb
    refine CT.perm (K2 := [bh ih b, c1]) (by simp) (CT.re (put46 hX hok hk) ?_)
    rintro w K' ⟨rfl, c', hX', rfl⟩
    exact ⟨[(ih, .cells [hP b] 0 0 false) :: c'], by simp, rfl, _, ⟨hok.put (fun hb => hk.can hb) (fun _ => hk.len), c', hX', rfl⟩, rfl⟩
theorem whole42H {H : MH} {c : Chk} {rd : Nat} (hX : HC b H fs c) (hok : H.ok) (hs : ∀ x, x ∈ s → x < 256) (hl : s.length ≤ 900000) {v : Val} {H2 : MH} {l2 m : Nat} (hd : dec heapB s 200 H 0 200 = some (v, H2, s.length, l2, m)) :
    CT Try.prog false 42 [rdP rd] [rdC rd s 0 (.ofNat 200) 0 (.fn 45 [] [.ptr ih 0 0 1]) (.fn 46 [] [.ptr ih 0 0 1]), bh ih b, c] fun w K' => w = .tup [valA v, .bool true] ∧ ∃ rc c', HC b H2 fs c' ∧ K' = [rc, bh ih b, c'] := by
  refine CT.perm (K2 := [rdC rd s 0 (.ofNat 200) 0 (.fn 45 [] [.ptr ih 0 0 1]) (.fn 46 [] [.ptr ih 0 0 1]), (ih, .cells [hP b] 0 0 false) :: c]) (by simp) (CT.re (whole42 (rd := rd) loadC hs hl (x := H) ⟨hok, c, hX, rfl⟩) ?_)
  rintro w K' (⟨v', x', l', m', c', hd', rfl, ⟨hok', c1, hX', rfl⟩, rfl⟩ | ⟨hno, _⟩)
  · rw [hd] at hd'
    cases hd'
    exact ⟨[rdC rd s s.length (.ofNat l2) m (.fn 45 [] [.ptr ih 0 0 1]) (.fn 46 [] [.ptr ih 0 0 1]), bh ih b, c1], by simp, rfl, _, c1, hX', rfl⟩
  · exact absurd hd (hno _ _ _ _)
theorem load21 {H : MH} {c : Chk} (hX : HC b H fs c) (hW : WOk H) (hs : ∀ x, x ∈ s → x < 256) (hl : s.length ≤ 900000) (hu : H.room ≤ 1000) : CT Try.prog false 21 [hP b, .str s] [c] fun w K' => w = .tup [valA (ldA H s (rightB s) (needsN s)).2.1, .int .i64 (.ofNat (ldA H s (rightB s) (needsN s)).2.2)] ∧ ∃ c', HC b (ldA H s (rightB s) (needsN s)).1 fs c' ∧ K' = [c'] := by
  have k14 := right14 hs hl
  have k16 := needs16 hs hl
  have hle := hW.ok.le
  have kl := lenH hX (t := v0)
  have e1 : mLen H v0 = (0, 1) := rfl
  rw [e1] at kl
  have kr := roomH hX
  have ku := usedH hX
  have e0 : abin .sub (.int .i64 (.ofNat H.room)) (.int .i64 (.ofNat H.used)) = some (.int .i64 (.ofNat (H.room - H.used))) := sub_nat hle (by omega)
  refine CT.enterS mixed comp21 (Nat.le_of_ble_eq_true rfl) ?_
  unfold ldA
  cases hr : rightB s with
  | false =>
    rw [hr] at k14
    repeat' (first|(refine Rg.callM rfl kl (.cons (.there (.there (.here))) (.nil)) ?_; rintro _ _ ⟨rfl, rfl⟩)|refine zz ?_|(refine zw ?_;refine And.intro ?_ ?_<;>intro hc)|(refine zv ?_;intro cv hv)|(refine za ?_;intro _)|refine zc ?_|(refine zd ?_;refine And.intro ?_ ?_<;>(intro e;(try simp only [Bool.not_eq_true',Bool.not_eq_false'] at e);subst e;try contradiction)))
    (first|refine ⟨.inr rfl,_,.t rfl .nil,?_⟩|refine ⟨.inr rfl,_,.t rfl (.t rfl .nil),?_⟩|refine ⟨.inr rfl,_,.t rfl (.t rfl (.t rfl .nil)),?_⟩|refine ⟨.inr rfl,_,.nil,?_⟩|refine ⟨.inl rfl,_,.t rfl .nil,?_⟩|refine ⟨.inl rfl,_,.nil,?_⟩|refine ⟨.inr rfl,_,.cn rfl (by exact zN) .nil,?_⟩|refine ⟨.inr rfl,_,.cn rfl (by exact zN) (.t rfl .nil),?_⟩)
    exact ⟨_, _, (.cons (.here) (.nil)), rfl, c, hX, rfl⟩
  | true =>
    rw [hr] at k14
    rw [if_neg (by decide)]
    by_cases hroom : H.room - H.used < needsN s
    · rw [if_pos hroom]
      repeat' (first|(refine Rg.callM rfl kl (.cons (.there (.there (.here))) (.nil)) ?_; rintro _ _ ⟨rfl, rfl⟩)|(refine Dw.callM rfl kr (.cons (.here) (.nil)) ?_; rintro _ _ ⟨rfl, rfl⟩; refine ⟨by repeat (first | exact trivial | refine rdsB rfl ?_ | (refine rdsR ?_ ?_; (focus (first | assumption | (refine Rdk.b1 (cs := ?_) ?_ ?_; rotate_left; (repeat (first | exact InK.here | refine InK.there ?_)); exact rfl) | (refine Rdk.bw ?_ ?_; (repeat (first | exact InK.here | refine InK.there ?_)); first | assumption | exact rfl) | (refine Rdk.bn ?_ ?_; (repeat (first | exact InK.here | refine InK.there ?_)); exact rfl) | (refine Rdk.in ?_; first | assumption | exact rfl) | exact Rdk.i1)))), ?_⟩)|(refine Dw.callM rfl ku (.cons (.here) (.nil)) ?_; rintro _ _ ⟨rfl, rfl⟩; refine ⟨by repeat (first | exact trivial | refine rdsB rfl ?_ | (refine rdsR ?_ ?_; (focus (first | assumption | (refine Rdk.b1 (cs := ?_) ?_ ?_; rotate_left; (repeat (first | exact InK.here | refine InK.there ?_)); exact rfl) | (refine Rdk.bw ?_ ?_; (repeat (first | exact InK.here | refine InK.there ?_)); first | assumption | exact rfl) | (refine Rdk.bn ?_ ?_; (repeat (first | exact InK.here | refine InK.there ?_)); exact rfl) | (refine Rdk.in ?_; first | assumption | exact rfl) | exact Rdk.i1)))), ?_⟩)|refine zz ?_|(refine zw ?_;refine And.intro ?_ ?_<;>intro hc)|(refine zv ?_;intro cv hv)|(refine za ?_;intro _)|refine zc ?_|(refine zd ?_;refine And.intro ?_ ?_<;>(intro e;(try simp only [Bool.not_eq_true',Bool.not_eq_false'] at e);subst e;try contradiction)))
      all_goals (first|refine ⟨.inr rfl,_,.t rfl .nil,?_⟩|refine ⟨.inr rfl,_,.t rfl (.t rfl .nil),?_⟩|refine ⟨.inr rfl,_,.t rfl (.t rfl (.t rfl .nil)),?_⟩|refine ⟨.inr rfl,_,.nil,?_⟩|refine ⟨.inl rfl,_,.t rfl .nil,?_⟩|refine ⟨.inl rfl,_,.nil,?_⟩|refine ⟨.inr rfl,_,.cn rfl (by exact zN) .nil,?_⟩|refine ⟨.inr rfl,_,.cn rfl (by exact zN) (.t rfl .nil),?_⟩)
      all_goals (exact ⟨_, _, (.cons (.here) (.nil)), rfl, c, hX, rfl⟩)
    · rw [if_neg hroom]
      obtain ⟨v, H2, l2, hd, hP⟩ := load_ok hs hW hr hroom hu
      rw [hd]
      repeat' (first|(refine Rg.callM rfl kl (.cons (.there (.there (.here))) (.nil)) ?_; rintro _ _ ⟨rfl, rfl⟩)|(refine Dw.callM rfl kr (.cons (.here) (.nil)) ?_; rintro _ _ ⟨rfl, rfl⟩; refine ⟨by repeat (first | exact trivial | refine rdsB rfl ?_ | (refine rdsR ?_ ?_; (focus (first | assumption | (refine Rdk.b1 (cs := ?_) ?_ ?_; rotate_left; (repeat (first | exact InK.here | refine InK.there ?_)); exact rfl) | (refine Rdk.bw ?_ ?_; (repeat (first | exact InK.here | refine InK.there ?_)); first | assumption | exact rfl) | (refine Rdk.bn ?_ ?_; (repeat (first | exact InK.here | refine InK.there ?_)); exact rfl) | (refine Rdk.in ?_; first | assumption | exact rfl) | exact Rdk.i1)))), ?_⟩)|(refine Dw.callM rfl ku (.cons (.here) (.nil)) ?_; rintro _ _ ⟨rfl, rfl⟩; refine ⟨by repeat (first | exact trivial | refine rdsB rfl ?_ | (refine rdsR ?_ ?_; (focus (first | assumption | (refine Rdk.b1 (cs := ?_) ?_ ?_; rotate_left; (repeat (first | exact InK.here | refine InK.there ?_)); exact rfl) | (refine Rdk.bw ?_ ?_; (repeat (first | exact InK.here | refine InK.there ?_)); first | assumption | exact rfl) | (refine Rdk.bn ?_ ?_; (repeat (first | exact InK.here | refine InK.there ?_)); exact rfl) | (refine Rdk.in ?_; first | assumption | exact rfl) | exact Rdk.i1)))), ?_⟩)|(refine Rg.callM (m := []) rfl open41 .nil ?_; rintro _ _ ⟨rd, rfl, rfl⟩)|refine zz ?_|(refine zw ?_;refine And.intro ?_ ?_<;>intro hc)|(refine zv ?_;intro cv hv)|(refine za ?_;intro _)|refine zc ?_|(refine zd ?_;refine And.intro ?_ ?_<;>(intro e;(try simp only [Bool.not_eq_true',Bool.not_eq_false'] at e);subst e;try contradiction)))
      refine Rg.callM rfl (whole42H hX hW.ok hs hl hd) (.cons (.here) (.cons (.there (.there (.here))) (.cons (.here) (.nil)))) ?_
      rintro _ _ ⟨rfl, rc, c', hX', rfl⟩
      repeat' (first|refine zz ?_|(refine zw ?_;refine And.intro ?_ ?_<;>intro hc)|(refine zv ?_;intro cv hv)|(refine za ?_;intro _)|refine zc ?_|(refine zd ?_;refine And.intro ?_ ?_<;>(intro e;(try simp only [Bool.not_eq_true',Bool.not_eq_false'] at e);subst e;try contradiction)))
      (first|refine ⟨.inr rfl,_,.t rfl .nil,?_⟩|refine ⟨.inr rfl,_,.t rfl (.t rfl .nil),?_⟩|refine ⟨.inr rfl,_,.t rfl (.t rfl (.t rfl .nil)),?_⟩|refine ⟨.inr rfl,_,.nil,?_⟩|refine ⟨.inl rfl,_,.t rfl .nil,?_⟩|refine ⟨.inl rfl,_,.nil,?_⟩|refine ⟨.inr rfl,_,.cn rfl (by exact zN) .nil,?_⟩|refine ⟨.inr rfl,_,.cn rfl (by exact zN) (.t rfl .nil),?_⟩)
      exact ⟨_, _, (.cons (.there (.there (.there (.here)))) (.nil)), rfl, c', hX', rfl⟩
end
end Go.Proofs.Ytlflpjjmkigepaa

namespace Go.Proofs.Ytlflpjjmkigepaa
open Go Go.Abs
theorem ahead_v0' {k : Val} (hk : keyB k = true) : aheadB v0 k = true := by
  simp only [keyB, Bool.or_eq_true, decide_eq_true_eq] at hk
  have h0 : v0.k = 0 := rfl
  rw [aheadB, if_pos (by omega), decide_eq_true (by omega)]
theorem encL_dec {s : List Nat} {g : Val → Nat → ER} {gU : Unit → Nat → Nat → DR Unit} {tU : Val}
    (hg : ∀ v l t l2 m p q, VOk v → g v l = some (t, l2, m) → s = p ++ (t ++ q) → ∃ vU, gU () p.length l = some (vU, (), p.length + t.length, l2, m) ∧ vU.k = v.k) :
    ∀ {L : List KV} {last : Val} {l l2 m : Nat} {t p q : List Nat}, (∀ e, e ∈ L → ScOk e.1 ∧ keyB e.1 = true ∧ VOk e.2 ∧ e.2.k ≠ 0 ∧ aheadB last e.1 = true) → (L.Pairwise fun a b => aheadB a.1 b.1 = true) → encL g L l = some (t, l2, m) → s = p ++ (t ++ q) →
      decL openB s gU tU L.length last () p.length l = some ((), p.length + t.length, l2, m)
  | [], last, l, l2, m, t, p, q, hL, hp, h, hs => by
    simp only [encL, Option.some.injEq, Prod.mk.injEq] at h
    obtain ⟨rfl, rfl, rfl⟩ := h
    simp [decL]
  | e :: L, last, l, l2, m, t, p, q, hL, hp, h, hs => by
    simp only [encL] at h
    split at h
    · cases h
    · rename_i t1 l1 m1 h1
      split at h
      · cases h
      · rename_i t2 l3 m2 h2
        simp only [Option.some.injEq, Prod.mk.injEq] at h
        obtain ⟨rfl, rfl, rfl⟩ := h
        obtain ⟨hk, hkb, hv, hv0, hah⟩ := hL e (by simp)
        have hp2 := List.pairwise_cons.1 hp
        have es1 : s = p ++ (sc e.1 ++ (t1 ++ (t2 ++ q))) := by rw [hs]; simp
        have hrd : rdK s p.length = some (e.1, p.length + (sc e.1).length) := by
          unfold rdK
          rw [es1, sc_rdS hk]
          simp only [hkb, if_true]
        obtain ⟨vU, hgU, hvk⟩ := hg e.2 l t1 l1 m1 (p ++ sc e.1) (t2 ++ q) hv h1 (by rw [es1]; simp)
        have hr := encL_dec hg (L := L) (last := e.1) (p := p ++ sc e.1 ++ t1) (q := q) (tU := tU) (fun x hx => ⟨(hL x (by simp [hx])).1, (hL x (by simp [hx])).2.1, (hL x (by simp [hx])).2.2.1, (hL x (by simp [hx])).2.2.2.1, hp2.1 x hx⟩) hp2.2 h2 (by rw [es1]; simp)
        rw [List.length_append] at hgU
        rw [List.length_append, List.length_append] at hr
        simp only [List.length_cons, decL, hrd, hah, if_true, hgU]
        rw [if_neg (by rw [hvk]; exact hv0), show openB.pt () tU e.1 vU = () from rfl, hr]
        simp only [List.length_append]
        congr 2
        simp only [Prod.mk.injEq, and_true, true_and]
        omega
theorem enc_dec {H : MH} {s : List Nat} (hW : WOk H) : ∀ {f : Nat} {v : Val} {l l2 m : Nat} {t p q : List Nat}, VOk v → enc H f v l = some (t, l2, m) → s = p ++ (t ++ q) → ∃ vU, dec openB s f () p.length l = some (vU, (), p.length + t.length, l2, m) ∧ vU.k = v.k
  | 0, v, l, l2, m, t, p, q, _, h, _ => by simp [enc] at h
  | f + 1, v, 0, l2, m, t, p, q, _, h, _ => by simp [enc] at h
  | f + 1, v, l + 1, l2, m, t, p, q, hv, h, hs => by
    simp only [enc] at h
    split at h
    · rename_i hk3
      split at h
      · cases h
      · rename_i i hi
        split at h
        · cases h
        · rename_i t1 l1 m1 h1
          simp only [Option.some.injEq, Prod.mk.injEq] at h
          obtain ⟨rfl, rfl, rfl⟩ := h
          have hm := tabL_mem (tabI_some hi).2
          have hlen := hW.len _ hm
          have hsrt := hW.ok.srt _ hm
          have hx : s[p.length]? = some 3 := by rw [hs, List.getElem?_append_right (Nat.le_refl _)]; simp
          have hsl : s.length = p.length + (3 + (t1.length + q.length)) := by rw [hs]; simp [leB_len]; omega
          have hseg : sgm s (p.length + 1) (p.length + 3) = leB (tabL H i).length 2 := by
            have := seg_mid (p := p ++ [3]) (t := leB (tabL H i).length 2) (q := t1 ++ q) (a := p.length + 1) (b := p.length + 3) (by simp) (by simp [leB_len])
            rw [hs]
            simpa using this
          have hd : deB (leB (tabL H i).length 2) = (tabL H i).length := by
            have e := deB_leB (w := 2) (n := (tabL H i).length)
            have e2 : ((256 ^ 2 : Nat) : Int) = 65536 := by decide
            rw [e2] at e
            omega
          have hr := encL_dec (s := s) (gU := dec openB s f) (tU := ⟨3, 0, []⟩) (last := v0) (p := p ++ 3 :: leB (tabL H i).length 2) (q := q) (fun v l t l2 m p q hv h hs => enc_dec hW hv h hs)
            (fun e he => ⟨(hW.key _ hm e he).1, (hW.key _ hm e he).2, (hW.val _ hm e he).1, (hW.val _ hm e he).2, ahead_v0' (hW.key _ hm e he).2⟩) hsrt.ord h1 (by rw [hs]; simp)
          have hpl : (p ++ 3 :: leB (tabL H i).length 2).length = p.length + 3 := by simp [leB_len]
          rw [hpl] at hr
          refine ⟨⟨3, 0, []⟩, ?_, hk3.symm⟩
          simp only [dec, hx, if_true]
          rw [if_pos (by omega)]
          simp only [hseg, hd, show openB.tb () = ((), ⟨3, 0, []⟩) from rfl, hr]
          simp only [List.length_cons, List.length_append, leB_len]
          congr 2
          simp only [Prod.mk.injEq, and_true, true_and]
          omega
    · rename_i hk3
      split at h
      · rename_i hk
        simp only [Option.some.injEq, Prod.mk.injEq] at h
        obtain ⟨rfl, rfl, rfl⟩ := h
        have hok : ScOk v := by
          rcases hv with hv | ⟨hv, _⟩
          · exact hv
          · omega
        have hr := sc_rdS hok p q
        rw [← hs] at hr
        have hx : ∃ c, s[p.length]? = some c ∧ c ≠ 3 := by
          rw [hs, List.getElem?_append_right (Nat.le_refl _), Nat.sub_self]
          unfold sc
          split
          · exact ⟨1, by simp, by decide⟩
          · split
            · exact ⟨2, by simp, by decide⟩
            · exact ⟨0, by simp, by decide⟩
        obtain ⟨c, hx, hc⟩ := hx
        refine ⟨v, ?_, rfl⟩
        simp only [dec, hx, if_neg hc, hr]
      · cases h
/-- A table that is loaded is a new one. -/
theorem dec_tab {s : List Nat} {f : Nat} {H : MH} {a l : Nat} {v : Val} {H2 : MH} {a2 l2 m : Nat} (h : s[a]? = some 3) (hd : dec heapB s f H a l = some (v, H2, a2, l2, m)) : v = (mTable H).2.1 := by
  cases f with
  | zero => cases hd
  | succ f =>
    cases l with
    | zero => cases hd
    | succ l =>
      simp only [dec, h, if_true] at hd
      split at hd
      · split at hd
        · cases hd
        · simp only [Option.some.injEq, Prod.mk.injEq] at hd
          exact hd.1.symm
      · cases hd
end Go.Proofs.Ytlflpjjmkigepaa

namespace Go.Proofs.Ytlflpjjmkigepaa
open Go Go.Abs
attribute [local irreducible] Cmp Rg Dw Cd Lp Ev Rdk CT Upd InK
theorem enc_head {H : MH} {f : Nat} {v : Val} {l l2 m : Nat} {s : List Nat} (hk : v.k = 3) (h : enc H f v l = some (s, l2, m)) : s[0]? = some 3 ∧ 1 ≤ m := by
  cases f with
  | zero => simp [enc] at h
  | succ f =>
    cases l with
    | zero => simp [enc] at h
    | succ l =>
      simp only [enc, hk, if_true] at h
      split at h
      · cases h
      · split at h
        · cases h
        · simp only [Option.some.injEq, Prod.mk.injEq] at h
          obtain ⟨rfl, rfl, rfl⟩ := h
          exact ⟨rfl, by omega⟩
/-- What comes of a table that is saved and loaded. -/
theorem back_law {H : MH} {t : Val} {s : List Nat} {l m : Nat} (hW : WOk H) (hr : H.room = 1000) (hu : H.used ≤ 64) (hk : t.k = 3) (hv : VOk t) (h : enc H 200 t 200 = some (s, l, m)) :
    (∀ x, x ∈ s → x < 256) ∧ s.length ≤ 900000 ∧ rightB s = true ∧ needsN s = m ∧ (1 ≤ m ∧ m ≤ 400) ∧ ∃ v H2, ldA H s (rightB s) (needsN s) = (H2, v, 0) ∧ v = ⟨3, (H.tabs.length : Int), []⟩ ∧ WOk H2 ∧ H2.used = H.used + m ∧ enc H2 200 v 200 = some (s, l, m) ∧ enc H2 200 t 200 = some (s, l, m) := by
  have hs := enc_lt hW hv h
  obtain ⟨z1, z2, z3⟩ := enc_size hW hv h
  obtain ⟨h0, hm⟩ := enc_head hk h
  obtain ⟨vU, hd, hvk⟩ := enc_dec (s := s) (p := []) (q := []) hW hv h (by simp)
  simp only [List.length_nil, Nat.zero_add] at hd
  have hrt : rightB s = true := by unfold rightB decU; rw [hd]; simp
  have hn : needsN s = m := by unfold needsN decU; rw [hd]; simp
  have hroom : ¬ H.room - H.used < needsN s := by rw [hn, hr]; omega
  obtain ⟨v, H2, l2, hd2, hP⟩ := load_ok hs hW hrt hroom (by rw [hr]; omega)
  have hv2 := dec_tab h0 hd2
  have hl2 : l2 = l := by
    obtain ⟨v3, H3, g1, g2, g3⟩ := dec_load hs hd hW (by rw [hr]; omega) (by omega)
    rw [g1, hn] at hd2
    cases hd2
    rfl
  subst hl2
  have hT : mTable H = ({ H with used := H.used + 1, tabs := H.tabs ++ [[]] }, ⟨3, H.tabs.length, []⟩, 0) := by
    unfold mTable; rw [if_pos (by rw [hr]; omega)]
  rw [hT] at hv2
  refine ⟨hs, by omega, hrt, hn, ⟨hm, by omega⟩, v, H2, ?_, hv2, hP.wok, by rw [hP.used, hn], ?_, ?_⟩
  · unfold ldA
    rw [hrt, if_neg (by decide), if_neg hroom, hd2]
  · have := hP.enc H2 (fun _ _ _ => rfl)
    rw [hn, show sgm s 0 s.length = s by simp [sgm]] at this
    exact this
  · exact enc_mono (fun i hi => hP.old i hi) h
theorem back6 {at_ : Int} {lv : AV} {ls : List PO} (hL : ASl 9 lv (ls.map poR)) (hO : ∀ o, o ∈ ls → o.ok) (hll : ls.length ≤ 9223372036854775807) (hat : rng at_) : CT Try.prog true 6 [lv, .int .i64 at_] [] fun w _ => w = .bool true := by
  have k9 := (laid9 hL hO hll hL.one).up (nd := true)
  have k11 := known11r.up (nd := true)
  have k18 := (count18 (m := 4) hat (by decide)).up (nd := true)
  have hc4 := cnt_lt (n := at_) (m := 4) (by decide)
  refine CT.enter mixed comp6 (Nat.le_of_ble_eq_true rfl) ?_
  repeat' (first|refine zz ?_|(refine zw ?_;refine And.intro ?_ ?_<;>intro hc)|(refine zv ?_;intro cv hv)|(refine za ?_;intro _)|refine zc ?_|(refine zd ?_;refine And.intro ?_ ?_<;>(intro e;(try simp only [Bool.not_eq_true',Bool.not_eq_false'] at e);subst e;try contradiction)))
  refine Rg.callM (m := []) rfl k9 .nil ?_
  rintro _ _ ⟨b, r, H, c, d, rfl, hX, hY, hJ, rfl⟩
  have hW := hJ.wok
  have ht : VOk ⟨3, (cnt at_ 4 : Nat), []⟩ := .inr ⟨.inl rfl, rfl⟩
  have k12 := save12 hX hW ht
  cases he : enc H 200 ⟨3, (cnt at_ 4 : Nat), []⟩ 200 with
  | none =>
    rw [he] at k12
    simp only [svE] at k12
    repeat' (first|(refine Rg.callM rfl k12 (.cons (.there (.here)) (.nil)) ?_; rintro _ _ ⟨rfl, rfl⟩)|refine zz ?_|(refine zw ?_;refine And.intro ?_ ?_<;>intro hc)|(refine zv ?_;intro cv hv)|(refine za ?_;intro _)|refine zc ?_|(refine zd ?_;refine And.intro ?_ ?_<;>(intro e;(try simp only [Bool.not_eq_true',Bool.not_eq_false'] at e);subst e;try contradiction)))
    all_goals (first|refine ⟨.inr rfl,_,.t rfl .nil,?_⟩|refine ⟨.inr rfl,_,.t rfl (.t rfl .nil),?_⟩|refine ⟨.inr rfl,_,.t rfl (.t rfl (.t rfl .nil)),?_⟩|refine ⟨.inr rfl,_,.nil,?_⟩|refine ⟨.inl rfl,_,.t rfl .nil,?_⟩|refine ⟨.inl rfl,_,.nil,?_⟩|refine ⟨.inr rfl,_,.cn rfl (by exact zN) .nil,?_⟩|refine ⟨.inr rfl,_,.cn rfl (by exact zN) (.t rfl .nil),?_⟩)
    all_goals (subst hv; rfl)
  | some p =>
    obtain ⟨s, l, m⟩ := p
    rw [he] at k12
    simp only [svE] at k12
    obtain ⟨hs, hsl, hrt, hn, ⟨hm, hm4⟩, v, H2, hld, hvv, hW2, hu2, he2, he3⟩ := back_law hW hJ.room (by have := hJ.used; omega) rfl ht he
    have k14 := (right14 hs hsl).up (nd := true)
    have k16 := (needs16 hs hsl).up (nd := true)
    rw [hrt] at k14
    rw [hn] at k16
    have ku := (usedH hX).up (nd := true)
    have kl := (load21 hX hW hs hsl (by rw [hJ.room]; omega)).up (nd := true)
    rw [hld] at kl
    repeat' (first|(refine Rg.callM rfl k12 (.cons (.there (.here)) (.nil)) ?_; rintro _ _ ⟨rfl, rfl⟩)|(refine Rg.callM rfl ku (.cons (.here) (.nil)) ?_; rintro _ _ ⟨rfl, rfl⟩)|(refine Rg.callM rfl kl (.cons (.here) (.nil)) ?_; rintro _ _ ⟨rfl, c2, hX2, rfl⟩)|refine zz ?_|(refine zw ?_;refine And.intro ?_ ?_<;>intro hc)|(refine zv ?_;intro cv hv)|(refine za ?_;intro _)|refine zc ?_|(refine zd ?_;refine And.intro ?_ ?_<;>(intro e;(try simp only [Bool.not_eq_true',Bool.not_eq_false'] at e);subst e;try contradiction)))
    have hvV : VOk v := by rw [hvv]; exact .inr ⟨.inl rfl, rfl⟩
    have kv := save12 hX2 hW2 hvV
    have kt := save12 hX2 hW2 ht
    rw [he2] at kv
    rw [he3] at kt
    simp only [svE] at kv kt
    have ku2 := (usedH hX2).up (nd := true)
    have hul := hJ.used
    rw [hu2] at ku2
    have q : aeq (.flat true [.i, .i, .s]) (.agg (valR v)) (.agg (valR ⟨3, (cnt at_ 4 : Nat), []⟩)) = some false := by
      rw [show (AV.agg (valR v)) = valA v from rfl, show (AV.agg (valR ⟨3, (cnt at_ 4 : Nat), []⟩)) = valA ⟨3, (cnt at_ 4 : Nat), []⟩ from rfl]
      simp only [aeq, flatVal]
      rw [decide_eq_false]
      intro e
      rw [hvv, hJ.tl] at e
      injection e with e1 e2 e3
      omega
    have ea : abin .add (.int .i64 (.ofNat H.used)) (.int .i64 (.ofNat m)) = some (.int .i64 (.ofNat (H.used + m))) := add_nat (by omega)
    subst hvv
    repeat' (first|(refine Rg.callM rfl kv (.cons (.there (.here)) (.nil)) ?_; rintro _ _ ⟨rfl, rfl⟩)|refine zz ?_|(refine zw ?_;refine And.intro ?_ ?_<;>intro hc)|(refine zv ?_;intro cv hv)|(refine za ?_;intro _)|refine zc ?_|(refine zd ?_;refine And.intro ?_ ?_<;>(intro e;(try simp only [Bool.not_eq_true',Bool.not_eq_false'] at e);subst e;try contradiction)))
    refine Rg.callM rfl kt (.cons (.here) (.nil)) ?_
    rintro _ _ ⟨rfl, rfl⟩
    repeat' (first|(refine Rg.callM rfl ku2 (.cons (.here) (.nil)) ?_; rintro _ _ ⟨rfl, rfl⟩)|refine zz ?_|(refine zw ?_;refine And.intro ?_ ?_<;>intro hc)|(refine zv ?_;intro cv hv)|(refine za ?_;intro _)|refine zc ?_|(refine zd ?_;refine And.intro ?_ ?_<;>(intro e;(try simp only [Bool.not_eq_true',Bool.not_eq_false'] at e);subst e;try contradiction)))
    all_goals (first|refine ⟨.inr rfl,_,.t rfl .nil,?_⟩|refine ⟨.inr rfl,_,.t rfl (.t rfl .nil),?_⟩|refine ⟨.inr rfl,_,.t rfl (.t rfl (.t rfl .nil)),?_⟩|refine ⟨.inr rfl,_,.nil,?_⟩|refine ⟨.inl rfl,_,.t rfl .nil,?_⟩|refine ⟨.inl rfl,_,.nil,?_⟩|refine ⟨.inr rfl,_,.cn rfl (by exact zN) .nil,?_⟩|refine ⟨.inr rfl,_,.cn rfl (by exact zN) (.t rfl .nil),?_⟩)
    all_goals (subst_vars; rfl)
end Go.Proofs.Ytlflpjjmkigepaa
