/- Contract: a table's keys, in order. -/
import Derived.Test.YtlflpjjmkigepaaAbsW
import Derived.Test.YtlflpjjmkigepaaPlnA
import Derived.Test.YtlflpjjmkigepaaAbsY
set_option autoImplicit false
set_option maxRecDepth 100000
set_option maxHeartbeats 4000000
set_option linter.unusedVariables false
set_option linter.unusedSimpArgs false
namespace Go.Proofs.Ytlflpjjmkigepaa
open Go Go.Abs
attribute [local irreducible] Cmp Rg Dw Cd Lp Ev Rdk CT Upd InK
theorem insAt_true {k : Val} : ∀ {l : List Val} {i : Nat} {a : Val}, i ≤ insAt k l → l[i]? = some a → aheadB a k = true → i + 1 ≤ insAt k l
  | [], i, a, _, h, _ => by simp at h
  | x :: l, 0, a, _, h, ha => by
    simp at h; subst h
    simp [insAt, List.takeWhile_cons, ha]
  | x :: l, i + 1, a, hi, h, ha => by
    cases e : aheadB x k with
    | true =>
      have e1 : insAt k (x :: l) = insAt k l + 1 := by simp [insAt, List.takeWhile_cons, e]
      rw [e1] at hi ⊢
      have := insAt_true (l := l) (i := i) (by omega) (by simpa using h) ha
      omega
    | false =>
      have e1 : insAt k (x :: l) = 0 := by simp [insAt, List.takeWhile_cons, e]
      omega
theorem insAt_false {k : Val} : ∀ {l : List Val} {i : Nat} {a : Val}, i ≤ insAt k l → l[i]? = some a → aheadB a k = false → insAt k l = i
  | [], i, a, _, h, _ => by simp at h
  | x :: l, 0, a, _, h, ha => by
    simp at h; subst h
    simp [insAt, List.takeWhile_cons, ha]
  | x :: l, i + 1, a, hi, h, ha => by
    cases e : aheadB x k with
    | true =>
      have e1 : insAt k (x :: l) = insAt k l + 1 := by simp [insAt, List.takeWhile_cons, e]
      rw [e1] at hi ⊢
      have := insAt_false (l := l) (i := i) (by omega) (by simpa using h) ha
      omega
    | false =>
      have e1 : insAt k (x :: l) = 0 := by simp [insAt, List.takeWhile_cons, e]
      omega
def selE (seen : List Nat) (es : List Ent) : List Ent := es.filter fun e => seen.contains e.2.2
theorem sel_add {seen : List Nat} {e : Ent} (hs : e.2.2 ∉ seen) : ∀ {es : List Ent}, (es.map fun e => e.2.2).Nodup → e ∈ es → (selE (seen ++ [e.2.2]) es).Perm (e :: selE seen es)
  | [], _, h => by cases h
  | x :: r, hn, h => by
    simp only [List.map_cons, List.nodup_cons] at hn
    by_cases hx : x.2.2 = e.2.2
    · have hxe : x = e := by
        rcases List.mem_cons.1 h with h | h
        · exact h.symm
        · exact absurd (List.mem_map.2 ⟨e, h, hx.symm⟩) hn.1
      subst hxe
      have e1 : selE (seen ++ [x.2.2]) r = selE seen r := by
        unfold selE
        refine List.filter_congr fun y hy => ?_
        have : y.2.2 ≠ x.2.2 := fun he => hn.1 (List.mem_map.2 ⟨y, hy, he⟩)
        simp [this]
      have e2 : selE (seen ++ [x.2.2]) (x :: r) = x :: selE (seen ++ [x.2.2]) r := by simp [selE, List.filter_cons]
      have e3 : selE seen (x :: r) = selE seen r := by simp [selE, List.filter_cons, hs]
      rw [e2, e1, e3]
    · have hr : e ∈ r := by
        rcases List.mem_cons.1 h with h | h
        · exact absurd (by rw [h]) hx
        · exact h
      have ih := sel_add hs hn.2 hr
      by_cases hy : x.2.2 ∈ seen
      · have e2 : selE (seen ++ [e.2.2]) (x :: r) = x :: selE (seen ++ [e.2.2]) r := by simp [selE, List.filter_cons, hy]
        have e3 : selE seen (x :: r) = x :: selE seen r := by simp [selE, List.filter_cons, hy]
        rw [e2, e3]
        exact (List.Perm.cons x ih).trans (List.Perm.swap e x _)
      · have e2 : selE (seen ++ [e.2.2]) (x :: r) = selE (seen ++ [e.2.2]) r := by simp [selE, List.filter_cons, hy, hx]
        have e3 : selE seen (x :: r) = selE seen r := by simp [selE, List.filter_cons, hy]
        rw [e2, e3]; exact ih
theorem key_inj : ∀ {es : List Ent} {x e : Ent}, (keysE es).Nodup → x ∈ es → e ∈ es → x.1 = e.1 → x = e
  | [], _, _, _, h, _, _ => by cases h
  | y :: r, x, e, hn, hx, he, h => by
    simp only [keysE, List.map_cons, List.nodup_cons] at hn
    rcases List.mem_cons.1 hx with h1 | h1
    · rcases List.mem_cons.1 he with h2 | h2
      · rw [h1, h2]
      · subst h1; exact (hn.1 (List.mem_map.2 ⟨e, h2, h.symm⟩)).elim
    · rcases List.mem_cons.1 he with h2 | h2
      · subst h2; exact (hn.1 (List.mem_map.2 ⟨x, h1, h⟩)).elim
      · exact key_inj hn.2 h1 h2 h
structure InvK (es : List Ent) (seen : List Nat) (os : List Val) : Prop where
  perm : os.Perm (keysE (selE seen es))
  sorted : os.Pairwise fun a b => aheadB a b = true
theorem InvK.step {es : List Ent} {ck : Nat} {seen : List Nat} {os : List Val} {e : Ent} (g : Good es ck) (hc : ∀ e, e ∈ es → Can e.1) (h : InvK es seen os) (he : e ∈ es) (hs : e.2.2 ∉ seen) : InvK es (seen ++ [e.2.2]) (insK e.1 os) := by
  have hp := sel_add hs g.stamps he
  refine ⟨(insK_perm e.1 os).trans ((h.perm.cons e.1).trans ?_), insK_sorted h.sorted ?_ (hc e he)⟩
  · exact (hp.map fun e => e.1).symm
  · intro a ha
    obtain ⟨x, hx, rfl⟩ := List.mem_map.1 (h.perm.mem_iff.1 ha)
    obtain ⟨h1, h2⟩ := List.mem_filter.1 hx
    refine ⟨hc x h1, fun e1 => hs ?_⟩
    have := key_inj g.keys h1 he e1
    subst this
    simpa using h2
theorem InvK.all {es : List Ent} {seen : List Nat} {os : List Val} (h : InvK es seen os) (ha : ∀ e, e ∈ es → e.2.2 ∈ seen) : os.Perm (keysE es) := by
  have : selE seen es = es := by
    unfold selE
    rw [List.filter_eq_self]
    intro e he
    simpa using ha e he
  have hp := h.perm
  rwa [this] at hp
section
variable {b8 bi m ck : Nat} {es : List Ent} {O : OS} {os : List Val} {k : Val} {X Y : Chk}
theorem valRows (os : List Val) : ∀ r, r ∈ os.map valR → r.length = 3 := by
  intro r hr
  obtain ⟨v, _, rfl⟩ := List.mem_map.1 hr
  rfl
theorem keys_in {K : Mem} {Q : AX → SL → Mem → Prop} (hO : O.ok 3) (hr : O.rows = os.map valR) (hol : os.length ≤ 1000) (h8 : InK K b8 (.cells (valR k) 0 0 false)) (hK : ∀ id o, (id, o) ∈ O.c → InK K id o)
    (hend : ∀ l', Sub2 [(7, O.v 3), (8, .ptr b8 0 0 3), (9, .int .i64 (.ofNat (insAt k os))), (17, .it bi)] l' → Q (.ext 2) l' K) :
    ∀ (f i : Nat), os.length < i + f → i ≤ insAt k os → Lp Try.prog true b24_0 f [(7, O.v 3), (8, .ptr b8 0 0 3), (9, .int .i64 (.ofNat i)), (17, .it bi)] K Q := by
  have hl := hO.len
  rw [hr, List.length_map] at hl
  have hle := insAt_le k os
  have r8 : Rdk K (.loadn 3) (.ptr b8 0 0 3) (.ptr b8 0 0 3) (valA k) := Rdk.bw h8 rfl
  intro f
  induction f with
  | zero => intro i h1 h2; omega
  | succ f ih =>
    intro i h1 h2
    refine Lp.round ?_
    by_cases hi : i < os.length
    · obtain ⟨a, ha⟩ : ∃ a, os[i]? = some a := ⟨_, List.getElem?_eq_getElem hi⟩
      have hrow := valRows os
      have hri : (os.map valR)[i]? = some (valR a) := by rw [List.getElem?_map, ha]; rfl
      obtain ⟨id, g, e⟩ := hO.at (i := i) (r := valR a) (by rw [hr]; exact hri)
      rw [hr] at e
      subst e
      have hin : InK K id (.cells (os.map valR).flatten g g true) := hK _ _ (by simp [OS.c])
      have q1 := iadr_slc (sz := 3) (b := id) (g := g) (off := 0) (len := (os.map valR).length) (cap := (os.map valR).length) (i := i) (k := .i64) (by rw [List.length_map]; exact hi)
      have r1 : Rdk K (.loadn 3) (.ptr id g (0 + i * 3) 3) (.ptr id g (0 + i * 3) 3) (valA a) := Rdk.row hin hrow hri
      have k37 := ahead37 (a := a) (c := k)
      cases e : aheadB a k with
      | true =>
        rw [e] at k37
        repeat' (first|refine zz ?_|(refine zv ?_;intro cv hv)|(refine za ?_;intro _)|refine zc ?_|(refine zd ?_;refine And.intro ?_ ?_<;>(intro e;(try simp only [Bool.not_eq_true',Bool.not_eq_false'] at e);subst e;try contradiction)))
        refine Lp.weak ?hw (ih (i + 1) (by omega) (insAt_true h2 ha e))
        case hw => exact ⟨rfl, rfl, rfl, rfl, trivial⟩
      | false =>
        rw [e] at k37
        rw [insAt_false h2 ha e] at hend
        repeat' (first|refine zz ?_|(refine zv ?_;intro cv hv)|(refine za ?_;intro _)|refine zc ?_|(refine zd ?_;refine And.intro ?_ ?_<;>(intro e;(try simp only [Bool.not_eq_true',Bool.not_eq_false'] at e);subst e;try contradiction)))
        exact hend _ ⟨rfl, rfl, rfl, rfl, trivial⟩
    · obtain rfl : i = insAt k os := by omega
      repeat' (first|refine zz ?_|(refine zv ?_;intro cv hv)|(refine za ?_;intro _)|refine zc ?_|(refine zd ?_;refine And.intro ?_ ?_<;>(intro e;(try simp only [Bool.not_eq_true',Bool.not_eq_false'] at e);subst e;try contradiction)))
      exact hend _ ⟨rfl, rfl, rfl, rfl, trivial⟩
theorem ins_set {os : List Val} {n : Nat} {k : Val} (h : n < os.length) : ((os ++ [k]).take (n + 1) ++ ((os ++ [k]).drop n).take (os.length + 1 - (n + 1)) ++ (os ++ [k]).drop (n + 1 + (os.length + 1 - (n + 1)))).set n k = os.take n ++ k :: os.drop n := by
  have e1 : (os ++ [k]).take (n + 1) = os.take (n + 1) := List.take_append_of_le_length (by omega)
  have e2 : (os ++ [k]).drop n = os.drop n ++ [k] := List.drop_append_of_le_length (by omega)
  have e3 : (os.drop n ++ [k]).take (os.length + 1 - (n + 1)) = os.drop n := List.take_left' (by rw [List.length_drop]; omega)
  have e4 : (os ++ [k]).drop (n + 1 + (os.length + 1 - (n + 1))) = [] := List.drop_of_length_le (by simp; omega)
  have e5 : os.take (n + 1) = os.take n ++ [os[n]] := by rw [List.take_add_one, List.getElem?_eq_getElem h]; rfl
  rw [e1, e2, e3, e4, List.append_nil, e5, List.append_assoc, List.set_append_right _ _ (by simp; omega), List.length_take, Nat.min_eq_left (Nat.le_of_lt h), Nat.sub_self]
  rfl
abbrev m17 (bi m ck : Nat) (seen : List Nat) (es : List Ent) (X Y : Chk) : Mem := [[(bi, .mit (some m) ck seen ck)], mC m ck es, X, Y]
theorem keys_fin {n : Nat} {seen : List Nat} (hO : O.ok 3) (hr : O.rows = os.map valR) (hol : os.length ≤ 1000) (hn : n ≤ os.length) : Cd Try.prog true (.seq (.reg r24_9) (.seq (.draw r24_10) (.reg r24_11))) [(7, O.v 3), (8, .ptr b8 0 0 3), (9, .int .i64 (.ofNat n)), (17, .it bi)] ([(b8, .cells (valR k) 0 0 false)] :: O.c :: m17 bi m ck seen es X Y)
    fun e l K => e = .nrm ∧ ∃ O' : OS, O'.ok 3 ∧ O'.rows = (os.take n ++ k :: os.drop n).map valR ∧ Sub2 [(7, O'.v 3), (17, .it bi)] l ∧ ∃ r, Sel K (O'.c :: m17 bi m ck seen es X Y) r := by
  repeat' (first|refine zz ?_|(refine zv ?_;intro cv hv)|(refine za ?_;intro _)|refine zc ?_|(refine zd ?_;refine And.intro ?_ ?_<;>(intro e;(try simp only [Bool.not_eq_true',Bool.not_eq_false'] at e);subst e;try contradiction)))
  refine Rg.e (Ef.appO (rs := [valR k]) (n := 1) rfl rfl hO (by intro r hr; simp at hr; subst hr; rfl) (.there (.there .here)) rfl (by decide) (Rw.slc (InK.there InK.here) (Nat.le_refl _) (Nat.le_refl _) rfl) (by rw [hr, List.length_map]; simp only [lim]; omega)) ?_
  rintro _ _ ⟨O', hO', hr2, rfl, rfl⟩
  rw [hr, show [valR k] = [k].map valR from rfl, ← List.map_append] at hr2
  have hrow := valRows (os ++ [k])
  have hlen : ((os ++ [k]).map valR).length = os.length + 1 := by simp
  obtain ⟨r0, hr0⟩ : ∃ r, O'.rows[0]? = some r := ⟨_, List.getElem?_eq_getElem (by rw [hr2, hlen]; omega)⟩
  obtain ⟨id, g, e⟩ := hO'.at hr0
  rw [hr2] at e
  subst e
  have q3 := aslice_from (sz := 3) (id := id) (g := g) (n := ((os ++ [k]).map valR).length) (i := n) (k := .i64) (by rw [hlen]; omega)
  have a1 : abin .add (.int .i64 (.ofNat n)) (.int .i64 (.ofNat 1)) = some (.int .i64 (.ofNat (n + 1))) := add_nat (by omega)
  have q1 : ∀ N, n < N → apure .e (.iadr 3 (.c (.slc id g 0 N N 3)) (.c (.int .i64 (.ofNat n)))) = some (.ptr id g (0 + n * 3) 3) := fun N h => iadr_slc h
  have q2 := q1 ((os ++ [k]).map valR).length (by rw [hlen]; omega)
  clear q1
  by_cases hnn : n = os.length
  · have q4 : aslice 3 (.slc id g 0 ((os ++ [k]).map valR).length ((os ++ [k]).map valR).length 3) (some (.int .i64 (.ofNat (n + 1)))) none none = some .eslc := by
      rw [show n + 1 = ((os ++ [k]).map valR).length by rw [hlen, hnn]]
      exact aslice_end
    repeat' (first|refine zz ?_|(refine zv ?_;intro cv hv)|(refine za ?_;intro _)|refine zc ?_|(refine zd ?_;refine And.intro ?_ ?_<;>(intro e;(try simp only [Bool.not_eq_true',Bool.not_eq_false'] at e);subst e;try contradiction)))
    refine Dw.e (Ef.copy0 rfl rfl hrow (by rw [hlen]; omega) InK.here) ?_
    rintro _ _ ⟨rfl, rfl⟩
    refine ⟨by repeat (first | exact trivial | refine rdsB rfl ?_ | (refine rdsR ?_ ?_; (focus (first | assumption | (refine Rdk.b1 (cs := ?_) ?_ ?_; rotate_left; (repeat (first | exact InK.here | refine InK.there ?_)); exact rfl) | (refine Rdk.bw ?_ ?_; (repeat (first | exact InK.here | refine InK.there ?_)); first | assumption | exact rfl) | (refine Rdk.bn ?_ ?_; (repeat (first | exact InK.here | refine InK.there ?_)); exact rfl) | (refine Rdk.in ?_; first | assumption | exact rfl) | exact Rdk.i1)))), ?_⟩
    repeat' (first|refine zz ?_|(refine zv ?_;intro cv hv)|(refine za ?_;intro _)|refine zc ?_|(refine zd ?_;refine And.intro ?_ ?_<;>(intro e;(try simp only [Bool.not_eq_true',Bool.not_eq_false'] at e);subst e;try contradiction)))
    refine Rg.e (Ef.storeR (i := n) (r0 := valR k) rfl rfl hrow (by rw [hnn]; simp) rfl Upd.here) ?_
    rintro _ _ ⟨rfl, rfl⟩
    repeat' (first|refine zz ?_|(refine zv ?_;intro cv hv)|(refine za ?_;intro _)|refine zc ?_|(refine zd ?_;refine And.intro ?_ ?_<;>(intro e;(try simp only [Bool.not_eq_true',Bool.not_eq_false'] at e);subst e;try contradiction)))
    refine ⟨rfl, ⟨some (id, g), ((os ++ [k]).map valR).set n (valR k)⟩, ⟨fun h => (nomatch h), ?_⟩, ?_, ?_, ?_⟩
    · intro r hr
      rcases List.mem_or_eq_of_mem_set hr with h | rfl
      · exact hrow r h
      · rfl
    · show ((os ++ [k]).map valR).set n (valR k) = _
      rw [← List.map_set, hnn, List.set_append_right _ _ (Nat.le_refl _), Nat.sub_self, List.take_of_length_le (Nat.le_refl _), List.drop_of_length_le (Nat.le_refl _)]
      rfl
    · simp only [OS.v, List.length_set]
      exact ⟨rfl, rfl, trivial⟩
    · exact ⟨_, .cons .here (.cons (.there (.there .here)) (.cons (.there (.there .here)) (.cons (.there (.there .here)) (.cons (.there (.there .here)) .nil))))⟩
  · have q4 := aslice_from (sz := 3) (id := id) (g := g) (n := ((os ++ [k]).map valR).length) (i := n + 1) (k := .i64) (by rw [hlen]; omega)
    repeat' (first|refine zz ?_|(refine zv ?_;intro cv hv)|(refine za ?_;intro _)|refine zc ?_|(refine zd ?_;refine And.intro ?_ ?_<;>(intro e;(try simp only [Bool.not_eq_true',Bool.not_eq_false'] at e);subst e;try contradiction)))
    refine Dw.e (Ef.copyS rfl rfl hrow (by omega) (by rw [hlen]; omega) (by rw [hlen]; omega) (by rw [hlen]; omega) Upd.here) ?_
    rintro _ _ ⟨rfl, rfl⟩
    refine ⟨by repeat (first | exact trivial | refine rdsB rfl ?_ | (refine rdsR ?_ ?_; (focus (first | assumption | (refine Rdk.b1 (cs := ?_) ?_ ?_; rotate_left; (repeat (first | exact InK.here | refine InK.there ?_)); exact rfl) | (refine Rdk.bw ?_ ?_; (repeat (first | exact InK.here | refine InK.there ?_)); first | assumption | exact rfl) | (refine Rdk.bn ?_ ?_; (repeat (first | exact InK.here | refine InK.there ?_)); exact rfl) | (refine Rdk.in ?_; first | assumption | exact rfl) | exact Rdk.i1)))), ?_⟩
    have hR : ((os ++ [k]).map valR).take (n + 1) ++ (((os ++ [k]).map valR).drop n).take (((os ++ [k]).map valR).length - (n + 1)) ++ ((os ++ [k]).map valR).drop (n + 1 + (((os ++ [k]).map valR).length - (n + 1))) = ((os ++ [k]).take (n + 1) ++ ((os ++ [k]).drop n).take (os.length + 1 - (n + 1)) ++ (os ++ [k]).drop (n + 1 + (os.length + 1 - (n + 1)))).map valR := by
      rw [hlen]
      simp only [List.map_append, List.map_take, List.map_drop]
    have hL : ((os ++ [k]).take (n + 1) ++ ((os ++ [k]).drop n).take (os.length + 1 - (n + 1)) ++ (os ++ [k]).drop (n + 1 + (os.length + 1 - (n + 1)))).length = os.length + 1 := by simp; omega
    have hS := ins_set (os := os) (n := n) (k := k) (by omega)
    rw [hR]
    generalize (os ++ [k]).take (n + 1) ++ ((os ++ [k]).drop n).take (os.length + 1 - (n + 1)) ++ (os ++ [k]).drop (n + 1 + (os.length + 1 - (n + 1))) = L at hL hS
    obtain ⟨z, hz⟩ : ∃ z, L[n]? = some z := ⟨_, List.getElem?_eq_getElem (by omega)⟩
    repeat' (first|refine zz ?_|(refine zv ?_;intro cv hv)|(refine za ?_;intro _)|refine zc ?_|(refine zd ?_;refine And.intro ?_ ?_<;>(intro e;(try simp only [Bool.not_eq_true',Bool.not_eq_false'] at e);subst e;try contradiction)))
    refine Rg.e (Ef.storeR (i := n) (r0 := valR z) rfl rfl (valRows L) (by rw [List.getElem?_map, hz]; rfl) rfl Upd.here) ?_
    rintro _ _ ⟨rfl, rfl⟩
    repeat' (first|refine zz ?_|(refine zv ?_;intro cv hv)|(refine za ?_;intro _)|refine zc ?_|(refine zd ?_;refine And.intro ?_ ?_<;>(intro e;(try simp only [Bool.not_eq_true',Bool.not_eq_false'] at e);subst e;try contradiction)))
    refine ⟨rfl, ⟨some (id, g), (L.map valR).set n (valR k)⟩, ⟨fun h => (nomatch h), ?_⟩, ?_, ?_, ?_⟩
    · intro r hr
      rcases List.mem_or_eq_of_mem_set hr with h | rfl
      · exact valRows L r h
      · rfl
    · show (L.map valR).set n (valR k) = _
      rw [← List.map_set, hS]
    · have : ((L.map valR).set n (valR k)).length = ((os ++ [k]).map valR).length := by rw [List.length_set, List.length_map, hL, hlen]
      simp only [OS.v, this]
      exact ⟨rfl, rfl, trivial⟩
    · exact ⟨_, .cons .here (.cons (.there (.there .here)) (.cons (.there (.there .here)) (.cons (.there (.there .here)) (.cons (.there (.there .here)) .nil))))⟩
theorem keys_out {Q : AX → SL → Mem → Prop} (G : Good es ck) (hc : ∀ e, e ∈ es → Can e.1) (hel : es.length ≤ 1000)
    (hend : ∀ (O : OS) (os : List Val) (seen : List Nat) (l' : SL), O.ok 3 → O.rows = os.map valR → os.Perm (keysE es) → (os.Pairwise fun a b => aheadB a b = true) → Sub2 [(7, O.v 3)] l' → Q (.ext 0) l' (O.c :: m17 bi m ck seen es X Y)) :
    ∀ (f : Nat) (O : OS) (os : List Val) (seen : List Nat), es.length < (selE seen es).length + f → O.ok 3 → O.rows = os.map valR → InvK es seen os → Lp Try.prog true b24_1 f [(7, O.v 3), (17, .it bi)] (O.c :: m17 bi m ck seen es X Y) Q := by
  intro f
  induction f with
  | zero =>
    intro O os seen h1
    have : (selE seen es).length ≤ es.length := List.length_filter_le _ _
    omega
  | succ f ih =>
    intro O os seen h1 hO hr I
    have hos : os.length ≤ 1000 := by
      have h2 : (selE seen es).length ≤ es.length := List.length_filter_le _ _
      have h3 := I.perm.length_eq
      rw [keysE, List.length_map] at h3
      omega
    obtain ⟨cs, hcs, hsome, hnone⟩ := cands_at (es := entsA es) (ck := ck) (seen := seen) (by
      intro e he
      obtain ⟨x, hx, rfl⟩ := List.mem_map.1 he
      exact G.lt x hx)
    refine Lp.round ?_
    refine Cd.seq ?_
    refine Cd.reg ?_
    refine Rg.nextF (F := fun n => O.c :: m17 bi m ck (seen ++ [n]) es X Y) rfl (fun n => Upd.there Upd.here) (.there (.there .here)) hcs ?_ ?_
    · intro a v n hmem
      obtain ⟨he, hs⟩ := hsome _ hmem
      obtain ⟨x, hx, he⟩ := List.mem_map.1 he
      cases he
      have hme : ∀ (K : Mem) y, InK K bi (.mit (some m) ck (seen ++ [x.2.2]) ck) → InK K m (.map (entsA es) ck) → Rdk K .ment (.it bi) y (.tup [valA x.1, valA x.2.1]) := fun K y h1 h2 =>
        Rdk.ment h1 h2 (List.mem_map.2 ⟨x, hx, rfl⟩) (by rw [entsA, List.map_map]; exact G.stamps)
      repeat' (first|(refine Rg.r rfl rfl (hme _ _ (.there .here) (.there (.there .here))) ?_)|refine zz ?_|(refine zv ?_;intro cv hv)|(refine za ?_;intro _)|refine zc ?_|(refine zd ?_;refine And.intro ?_ ?_<;>(intro e;(try simp only [Bool.not_eq_true',Bool.not_eq_false'] at e);subst e;try contradiction)))
      refine Cd.weak (l2 := [(7, O.v 3), (8, .ptr _ 0 0 3), (9, .int .i64 (.ofNat 0)), (17, .it bi)]) ⟨rfl, rfl, rfl, rfl, trivial⟩ ?_
      refine Cd.loop (k := os.length + 1) (keys_in (k := x.1) hO hr hos .here (fun id o h => .there (.mem h)) ?_ (os.length + 1) 0 (by omega) (Nat.zero_le _))
      intro l' hs2
      show Cd _ _ _ _ _ _
      refine Cd.weak hs2 ?_
      refine Cd.mono (keys_fin (k := x.1) hO hr hos (insAt_le _ _)) ?_
      rintro _ l1 _ ⟨rfl, O', hO', hr', hs3, r, hsel⟩
      show Lp _ _ _ _ _ _ _
      refine Lp.weak hs3 (Lp.drop hsel ?_)
      refine ih O' (insK x.1 os) (seen ++ [x.2.2]) ?_ hO' hr' (I.step G hc hx hs)
      have := (sel_add hs G.stamps hx).length_eq
      rw [List.length_cons] at this
      omega
    · intro hm
      have hall := hnone hm
      repeat' (first|refine zz ?_|(refine zv ?_;intro cv hv)|(refine za ?_;intro _)|refine zc ?_|(refine zd ?_;refine And.intro ?_ ?_<;>(intro e;(try simp only [Bool.not_eq_true',Bool.not_eq_false'] at e);subst e;try contradiction)))
      refine hend O os seen _ hO hr (I.all fun e he => hall _ (List.mem_map.2 ⟨e, he, rfl⟩)) I.sorted ⟨rfl, trivial⟩
/-- A table's keys are told in order. -/
theorem keys17 {b room used i : Nat} {s : List Nat} {vf vc : AV} {T : OS} (hT : T.ok 1) (hi : T.rows[i]? = some [.map m]) (G : Good es ck) (hc : ∀ e, e ∈ es → Can e.1) (hel : es.length ≤ 1000) : CT Try.prog true 24 [hP b, valA ⟨3, (i : Int), s⟩] [hB b room used (T.v 1) vf vc, T.c, mC m ck es]
    fun w K' => ∃ (O : OS) (os : List Val), O.ok 3 ∧ O.rows = os.map valR ∧ os.Perm (keysE es) ∧ (os.Pairwise fun a b => aheadB a b = true) ∧ w = O.v 3 ∧ K' = [hB b room used (T.v 1) vf vc, T.c, mC m ck es, O.c] := by
  have k36 := (table36 (b := b) (room := room) (used := used) (vf := vf) (vc := vc) (s := s) hT hi).up (nd := true)
  refine CT.enterS mixed comp24 (Nat.le_of_ble_eq_true rfl) ?_
  repeat' (first|(refine Rg.callM rfl k36 (.cons (.there .here) (.cons (.there .here) .nil)) ?_; rintro _ _ ⟨rfl, rfl⟩)|refine zz ?_|(refine zv ?_;intro cv hv)|(refine za ?_;intro _)|refine zc ?_|(refine zd ?_;refine And.intro ?_ ?_<;>(intro e;(try simp only [Bool.not_eq_true',Bool.not_eq_false'] at e);subst e;try contradiction)))
  refine Rg.e (Ef.rngM (es := entsA es) (ck := ck) rfl (.there (.there (.there .here)))) ?_
  rintro _ _ ⟨bi, rfl, rfl⟩
  repeat' (first|refine zz ?_|(refine zv ?_;intro cv hv)|(refine za ?_;intro _)|refine zc ?_|(refine zd ?_;refine And.intro ?_ ?_<;>(intro e;(try simp only [Bool.not_eq_true',Bool.not_eq_false'] at e);subst e;try contradiction)))
  refine Cd.weak (l2 := [(7, .nilslc), (17, .it bi)]) ⟨rfl, rfl, trivial⟩ ?_
  refine Cd.drop (m := m17 bi m ck [] es (hB b room used (T.v 1) vf vc) T.c) (.cons .here (.cons (.there (.there (.there .here))) (.cons .here (.cons .here .nil)))) ?_
  refine Cd.perm (K2 := OS.c ⟨none, []⟩ :: m17 bi m ck [] es (hB b room used (T.v 1) vf vc) T.c) (by simp [OS.c]) ?_
  refine Cd.loop (k := es.length + 1) (keys_out G hc hel ?_ (es.length + 1) ⟨none, []⟩ [] [] (by omega) OS.ok.nil rfl ⟨by simp [selE, keysE], by simp⟩)
  intro O os seen l' hO hr hp hs hsub
  show Cd _ _ _ _ _ _
  refine Cd.weak hsub ?_
  repeat' (first|refine zz ?_|(refine zv ?_;intro cv hv)|(refine za ?_;intro _)|refine zc ?_|(refine zd ?_;refine And.intro ?_ ?_<;>(intro e;(try simp only [Bool.not_eq_true',Bool.not_eq_false'] at e);subst e;try contradiction)))
  (first|refine ⟨.inr rfl,_,.t rfl .nil,?_⟩|refine ⟨.inr rfl,_,.t rfl (.t rfl .nil),?_⟩|refine ⟨.inr rfl,_,.t rfl (.t rfl (.t rfl .nil)),?_⟩|refine ⟨.inr rfl,_,.nil,?_⟩|refine ⟨.inl rfl,_,.t rfl .nil,?_⟩|refine ⟨.inl rfl,_,.nil,?_⟩|refine ⟨.inr rfl,_,.cn rfl (by exact zN) .nil,?_⟩|refine ⟨.inr rfl,_,.cn rfl (by exact zN) (.t rfl .nil),?_⟩)
  exact ⟨_, _, .cons (.there (.there (.there .here))) (.cons (.there (.there (.there .here))) (.cons (.there (.there .here)) (.cons .here .nil))), O, os, hO, hr, hp, hs, rfl, rfl⟩
end
end Go.Proofs.Ytlflpjjmkigepaa

namespace Go.Proofs.Ytlflpjjmkigepaa
open Go Go.Abs
attribute [local irreducible] Cmp Rg Dw Cd Lp Ev Rdk CT Upd InK
theorem nless_drop : ∀ {i : Nat} {x y : List Nat}, x.take i = y.take i → i ≤ x.length → i ≤ y.length → nless x y = nless (x.drop i) (y.drop i)
  | 0, _, _, _, _, _ => rfl
  | i + 1, [], _, _, h, _ => by simp at h
  | i + 1, _ :: _, [], _, _, h => by simp at h
  | i + 1, a :: x, b :: y, h, h1, h2 => by
    simp only [List.take_succ_cons, List.cons.injEq] at h
    obtain ⟨rfl, h⟩ := h
    rw [List.drop_succ_cons, List.drop_succ_cons, ← nless_drop h (by simpa using h1) (by simpa using h2)]
    rw [Bool.eq_iff_iff, nless_cons]
    constructor
    · rintro (h | ⟨_, h⟩)
      · omega
      · exact h
    · exact fun h => .inr ⟨rfl, h⟩
theorem nless_at {i a b : Nat} {x y : List Nat} (h : x.take i = y.take i) (ha : x[i]? = some a) (hb : y[i]? = some b) (hab : a ≠ b) : nless x y = decide (a < b) := by
  have h1 := (List.getElem?_eq_some_iff.1 ha).1
  have h2 := (List.getElem?_eq_some_iff.1 hb).1
  rw [nless_drop h (Nat.le_of_lt h1) (Nat.le_of_lt h2), List.drop_eq_getElem_cons h1, List.drop_eq_getElem_cons h2]
  rw [List.getElem?_eq_getElem h1] at ha
  rw [List.getElem?_eq_getElem h2] at hb
  cases ha; cases hb
  rw [Bool.eq_iff_iff, nless_cons, decide_eq_true_eq]
  constructor
  · rintro (h | ⟨h, _⟩)
    · exact h
    · exact absurd h hab
  · exact .inl
theorem nless_end {i : Nat} {x y : List Nat} (h : x.take i = y.take i) (h1 : i ≤ x.length) (h2 : i ≤ y.length) (he : ¬ (i < x.length ∧ i < y.length)) : nless x y = decide (x.length < y.length) := by
  rw [nless_drop h h1 h2]
  by_cases hx : i < x.length
  · rw [List.drop_of_length_le (show y.length ≤ i by omega), decide_eq_false (by omega)]
    cases x.drop i <;> simp [nless]
  · rw [List.drop_of_length_le (show x.length ≤ i by omega)]
    by_cases hy : i < y.length
    · rw [List.drop_eq_getElem_cons hy, decide_eq_true (by omega)]; rfl
    · rw [List.drop_of_length_le (show y.length ≤ i by omega), decide_eq_false (by omega)]; rfl
theorem less53_loop {x y : List Nat} (hx : x.length ≤ 9223372036854775807) (hy : y.length ≤ 9223372036854775807) {Q : AX → SL → Mem → Prop} (hret : ∀ l' K, lkS l' 4 = some (.bool (nless x y)) → Q .ret l' K)
    (hend : ∀ l' K, nless x y = decide (x.length < y.length) → Sub2 [(0, .str x), (1, .str y)] l' → Q (.ext 0) l' K) :
    ∀ (f i : Nat), x.length < i + f → i ≤ x.length → i ≤ y.length → x.take i = y.take i → Lp Try.prog false b86_0 f [(0, .str x), (1, .str y), (5, .int .i64 (.ofNat i))] [] Q := by
  intro f
  induction f with
  | zero => intro i h1 h2; omega
  | succ f ih =>
    intro i h1 h2 h3 ht
    refine Lp.round ?_
    by_cases hi : i < x.length ∧ i < y.length
    · obtain ⟨hix, hiy⟩ := hi
      obtain ⟨a, ha⟩ : ∃ a, x[i]? = some a := ⟨_, List.getElem?_eq_getElem hix⟩
      obtain ⟨c, hc⟩ : ∃ c, y[i]? = some c := ⟨_, List.getElem?_eq_getElem hiy⟩
      have q1 := idxs_at (s := x) (k := .i64) ha
      have q2 := idxs_at (s := y) (k := .i64) hc
      by_cases e : a = c
      · repeat' (first|refine zz ?_|(refine zv ?_;intro cv hv)|(refine za ?_;intro _)|refine zc ?_|(refine zd ?_;refine And.intro ?_ ?_<;>(intro e;(try simp only [Bool.not_eq_true',Bool.not_eq_false'] at e);subst e;try contradiction)))
        refine Lp.weak ?hw (ih (i + 1) (by omega) (by omega) (by omega) ?_)
        case hw => exact ⟨rfl, rfl, rfl, trivial⟩
        rw [List.take_add_one, List.take_add_one, ht, ha, hc, e]
      · have hn := nless_at ht ha hc e
        rw [hn] at hret
        by_cases h5 : a < c
        · rw [decide_eq_true h5] at hret
          repeat' (first|refine zz ?_|(refine zv ?_;intro cv hv)|(refine za ?_;intro _)|refine zc ?_|(refine zd ?_;refine And.intro ?_ ?_<;>(intro e;(try simp only [Bool.not_eq_true',Bool.not_eq_false'] at e);subst e;try contradiction)))
          exact hret _ _ rfl
        · rw [decide_eq_false h5] at hret
          repeat' (first|refine zz ?_|(refine zv ?_;intro cv hv)|(refine za ?_;intro _)|refine zc ?_|(refine zd ?_;refine And.intro ?_ ?_<;>(intro e;(try simp only [Bool.not_eq_true',Bool.not_eq_false'] at e);subst e;try contradiction)))
          exact hret _ _ rfl
    · have hn := nless_end ht h2 h3 hi
      by_cases hix : i < x.length
      · have : ¬ i < y.length := fun h => hi ⟨hix, h⟩
        repeat' (first|refine zz ?_|(refine zv ?_;intro cv hv)|(refine za ?_;intro _)|refine zc ?_|(refine zd ?_;refine And.intro ?_ ?_<;>(intro e;(try simp only [Bool.not_eq_true',Bool.not_eq_false'] at e);subst e;try contradiction)))
        exact hend _ _ hn ⟨rfl, rfl, trivial⟩
      · repeat' (first|refine zz ?_|(refine zv ?_;intro cv hv)|(refine za ?_;intro _)|refine zc ?_|(refine zd ?_;refine And.intro ?_ ?_<;>(intro e;(try simp only [Bool.not_eq_true',Bool.not_eq_false'] at e);subst e;try contradiction)))
        exact hend _ _ hn ⟨rfl, rfl, trivial⟩
theorem less53 {x y : List Nat} (hx : x.length ≤ 9223372036854775807) (hy : y.length ≤ 9223372036854775807) : PT Try.prog false 86 [.str x, .str y] (.bool (nless x y)) := by
  refine PT.of (CT.enter mixed comp86 (Nat.le_of_ble_eq_true rfl) ?_)
  repeat' (first|refine zz ?_|(refine zv ?_;intro cv hv)|(refine za ?_;intro _)|refine zc ?_|(refine zd ?_;refine And.intro ?_ ?_<;>(intro e;(try simp only [Bool.not_eq_true',Bool.not_eq_false'] at e);subst e;try contradiction)))
  refine Cd.weak (l2 := [(0, _), (1, _), (5, _)]) ⟨rfl, rfl, rfl, trivial⟩ ?_
  refine Cd.loop (k := x.length + 1) (less53_loop hx hy ?_ ?_ (x.length + 1) 0 (by omega) (by omega) (by omega) rfl)
  · intro l' K e
    exact ⟨.inr rfl, _, .t e .nil, rfl⟩
  · intro l' K hn hs
    show Cd _ _ _ _ _ _
    refine Cd.weak hs ?_
    rw [hn]
    by_cases h : x.length < y.length
    · rw [decide_eq_true h]
      repeat' (first|refine zz ?_|(refine zv ?_;intro cv hv)|(refine za ?_;intro _)|refine zc ?_|(refine zd ?_;refine And.intro ?_ ?_<;>(intro e;(try simp only [Bool.not_eq_true',Bool.not_eq_false'] at e);subst e;try contradiction)))
      (first|refine ⟨.inr rfl,_,.t rfl .nil,?_⟩|refine ⟨.inr rfl,_,.t rfl (.t rfl .nil),?_⟩|refine ⟨.inr rfl,_,.t rfl (.t rfl (.t rfl .nil)),?_⟩|refine ⟨.inr rfl,_,.nil,?_⟩|refine ⟨.inl rfl,_,.t rfl .nil,?_⟩|refine ⟨.inl rfl,_,.nil,?_⟩|refine ⟨.inr rfl,_,.cn rfl (by exact zN) .nil,?_⟩|refine ⟨.inr rfl,_,.cn rfl (by exact zN) (.t rfl .nil),?_⟩)
      rfl
    · rw [decide_eq_false h]
      repeat' (first|refine zz ?_|(refine zv ?_;intro cv hv)|(refine za ?_;intro _)|refine zc ?_|(refine zd ?_;refine And.intro ?_ ?_<;>(intro e;(try simp only [Bool.not_eq_true',Bool.not_eq_false'] at e);subst e;try contradiction)))
      (first|refine ⟨.inr rfl,_,.t rfl .nil,?_⟩|refine ⟨.inr rfl,_,.t rfl (.t rfl .nil),?_⟩|refine ⟨.inr rfl,_,.t rfl (.t rfl (.t rfl .nil)),?_⟩|refine ⟨.inr rfl,_,.nil,?_⟩|refine ⟨.inl rfl,_,.t rfl .nil,?_⟩|refine ⟨.inl rfl,_,.nil,?_⟩|refine ⟨.inr rfl,_,.cn rfl (by exact zN) .nil,?_⟩|refine ⟨.inr rfl,_,.cn rfl (by exact zN) (.t rfl .nil),?_⟩)
      rfl
def one (t : Bool) : Int := if t = true then 1 else 0
theorem truth39 {t : Bool} : PT Try.prog false 78 [.bool t] (valA ⟨1, one t, []⟩) := by
  refine PT.of (CT.enter mixed comp78 (Nat.le_of_ble_eq_true rfl) ?_)
  have k0 := int23 (n := Int.ofNat 0)
  have k1 := int23 (n := Int.ofNat 1)
  cases t
  · repeat' (first|refine zz ?_|(refine zv ?_;intro cv hv)|(refine za ?_;intro _)|refine zc ?_|(refine zd ?_;refine And.intro ?_ ?_<;>(intro e;(try simp only [Bool.not_eq_true',Bool.not_eq_false'] at e);subst e;try contradiction)))
    (first|refine ⟨.inr rfl,_,.t rfl .nil,?_⟩|refine ⟨.inr rfl,_,.t rfl (.t rfl .nil),?_⟩|refine ⟨.inr rfl,_,.t rfl (.t rfl (.t rfl .nil)),?_⟩|refine ⟨.inr rfl,_,.nil,?_⟩|refine ⟨.inl rfl,_,.t rfl .nil,?_⟩|refine ⟨.inl rfl,_,.nil,?_⟩|refine ⟨.inr rfl,_,.cn rfl (by exact zN) .nil,?_⟩|refine ⟨.inr rfl,_,.cn rfl (by exact zN) (.t rfl .nil),?_⟩)
    rfl
  · repeat' (first|refine zz ?_|(refine zv ?_;intro cv hv)|(refine za ?_;intro _)|refine zc ?_|(refine zd ?_;refine And.intro ?_ ?_<;>(intro e;(try simp only [Bool.not_eq_true',Bool.not_eq_false'] at e);subst e;try contradiction)))
    (first|refine ⟨.inr rfl,_,.t rfl .nil,?_⟩|refine ⟨.inr rfl,_,.t rfl (.t rfl .nil),?_⟩|refine ⟨.inr rfl,_,.t rfl (.t rfl (.t rfl .nil)),?_⟩|refine ⟨.inr rfl,_,.nil,?_⟩|refine ⟨.inl rfl,_,.t rfl .nil,?_⟩|refine ⟨.inl rfl,_,.nil,?_⟩|refine ⟨.inr rfl,_,.cn rfl (by exact zN) .nil,?_⟩|refine ⟨.inr rfl,_,.cn rfl (by exact zN) (.t rfl .nil),?_⟩)
    rfl
theorem two38 : PT Try.prog false 77 [.str [60]] (.bool true) := PT.run plain0 (by kernel_rfl) rfl rfl
theorem ints40 {a b : Int} : PT Try.prog false 79 [.str [60], .int .i64 a, .int .i64 b] (.tup [valA ⟨1, one (decide (a < b)), []⟩, .int .i64 (.ofNat 0)]) := by
  refine PT.of (CT.enter mixed comp79 (Nat.le_of_ble_eq_true rfl) ?_)
  have k39 := truth39 (t := decide (a < b))
  by_cases h : a < b
  · rw [decide_eq_true h] at k39 ⊢
    repeat' (first|refine zz ?_|(refine zv ?_;intro cv hv)|(refine za ?_;intro _)|refine zc ?_|(refine zd ?_;refine And.intro ?_ ?_<;>(intro e;(try simp only [Bool.not_eq_true',Bool.not_eq_false'] at e);subst e;try contradiction)))
    (first|refine ⟨.inr rfl,_,.t rfl .nil,?_⟩|refine ⟨.inr rfl,_,.t rfl (.t rfl .nil),?_⟩|refine ⟨.inr rfl,_,.t rfl (.t rfl (.t rfl .nil)),?_⟩|refine ⟨.inr rfl,_,.nil,?_⟩|refine ⟨.inl rfl,_,.t rfl .nil,?_⟩|refine ⟨.inl rfl,_,.nil,?_⟩|refine ⟨.inr rfl,_,.cn rfl (by exact zN) .nil,?_⟩|refine ⟨.inr rfl,_,.cn rfl (by exact zN) (.t rfl .nil),?_⟩)
    rfl
  · rw [decide_eq_false h] at k39 ⊢
    repeat' (first|refine zz ?_|(refine zv ?_;intro cv hv)|(refine za ?_;intro _)|refine zc ?_|(refine zd ?_;refine And.intro ?_ ?_<;>(intro e;(try simp only [Bool.not_eq_true',Bool.not_eq_false'] at e);subst e;try contradiction)))
    (first|refine ⟨.inr rfl,_,.t rfl .nil,?_⟩|refine ⟨.inr rfl,_,.t rfl (.t rfl .nil),?_⟩|refine ⟨.inr rfl,_,.t rfl (.t rfl (.t rfl .nil)),?_⟩|refine ⟨.inr rfl,_,.nil,?_⟩|refine ⟨.inl rfl,_,.t rfl .nil,?_⟩|refine ⟨.inl rfl,_,.nil,?_⟩|refine ⟨.inr rfl,_,.cn rfl (by exact zN) .nil,?_⟩|refine ⟨.inr rfl,_,.cn rfl (by exact zN) (.t rfl .nil),?_⟩)
    rfl
theorem texts41 {x y : List Nat} (hx : x.length ≤ 9223372036854775807) (hy : y.length ≤ 9223372036854775807) : PT Try.prog false 80 [.str [60], .str x, .str y] (.tup [valA ⟨1, one (nless x y), []⟩, .int .i64 (.ofNat 0)]) := by
  refine PT.of (CT.enter mixed comp80 (Nat.le_of_ble_eq_true rfl) ?_)
  have k39 := truth39 (t := nless x y)
  have k53 := less53 hx hy
  generalize nless x y = t at *
  repeat' (first|(refine Rg.call rfl k53 ?_)|refine zz ?_|(refine zv ?_;intro cv hv)|(refine za ?_;intro _)|refine zc ?_|(refine zd ?_;refine And.intro ?_ ?_<;>(intro e;(try simp only [Bool.not_eq_true',Bool.not_eq_false'] at e);subst e;try contradiction)))
  all_goals (first|refine ⟨.inr rfl,_,.t rfl .nil,?_⟩|refine ⟨.inr rfl,_,.t rfl (.t rfl .nil),?_⟩|refine ⟨.inr rfl,_,.t rfl (.t rfl (.t rfl .nil)),?_⟩|refine ⟨.inr rfl,_,.nil,?_⟩|refine ⟨.inl rfl,_,.t rfl .nil,?_⟩|refine ⟨.inl rfl,_,.nil,?_⟩|refine ⟨.inr rfl,_,.cn rfl (by exact zN) .nil,?_⟩|refine ⟨.inr rfl,_,.cn rfl (by exact zN) (.t rfl .nil),?_⟩)
  all_goals rfl
theorem two19 {a b : Val} (hk : a.k = 1 ∨ a.k = 2) (hx : a.s.length ≤ 9223372036854775807) (hy : b.s.length ≤ 9223372036854775807) : PT Try.prog false 67 [.str [60], valA a, valA b] (if a.k = b.k then .tup [valA ⟨1, one (aheadB a b), []⟩, .int .i64 (.ofNat 0)] else .tup [valA v0, .int .i64 (.ofNat 1)]) := by
  refine PT.of (CT.enter mixed comp67 (Nat.le_of_ble_eq_true rfl) ?_)
  have k38 := two38
  have k40 := ints40 (a := a.n) (b := b.n)
  have k41 := texts41 hx hy
  by_cases h : a.k = b.k
  · rw [if_pos h]
    rcases hk with h1 | h2
    · rw [show aheadB a b = decide (a.n < b.n) by unfold aheadB; rw [if_neg (fun hn => hn h), if_pos h1]]
      have h3 : b.k = 1 := by omega
      repeat' (first|refine zz ?_|(refine zv ?_;intro cv hv)|(refine za ?_;intro _)|refine zc ?_|(refine zd ?_;refine And.intro ?_ ?_<;>(intro e;(try simp only [Bool.not_eq_true',Bool.not_eq_false'] at e);subst e;try contradiction)))
      (first|refine ⟨.inr rfl,_,.t rfl .nil,?_⟩|refine ⟨.inr rfl,_,.t rfl (.t rfl .nil),?_⟩|refine ⟨.inr rfl,_,.t rfl (.t rfl (.t rfl .nil)),?_⟩|refine ⟨.inr rfl,_,.nil,?_⟩|refine ⟨.inl rfl,_,.t rfl .nil,?_⟩|refine ⟨.inl rfl,_,.nil,?_⟩|refine ⟨.inr rfl,_,.cn rfl (by exact zN) .nil,?_⟩|refine ⟨.inr rfl,_,.cn rfl (by exact zN) (.t rfl .nil),?_⟩)
      rfl
    · rw [show aheadB a b = nless a.s b.s by unfold aheadB; rw [if_neg (fun hn => hn h), if_neg (by omega)]]
      have h3 : b.k = 2 := by omega
      repeat' (first|refine zz ?_|(refine zv ?_;intro cv hv)|(refine za ?_;intro _)|refine zc ?_|(refine zd ?_;refine And.intro ?_ ?_<;>(intro e;(try simp only [Bool.not_eq_true',Bool.not_eq_false'] at e);subst e;try contradiction)))
      (first|refine ⟨.inr rfl,_,.t rfl .nil,?_⟩|refine ⟨.inr rfl,_,.t rfl (.t rfl .nil),?_⟩|refine ⟨.inr rfl,_,.t rfl (.t rfl (.t rfl .nil)),?_⟩|refine ⟨.inr rfl,_,.nil,?_⟩|refine ⟨.inl rfl,_,.t rfl .nil,?_⟩|refine ⟨.inl rfl,_,.nil,?_⟩|refine ⟨.inr rfl,_,.cn rfl (by exact zN) .nil,?_⟩|refine ⟨.inr rfl,_,.cn rfl (by exact zN) (.t rfl .nil),?_⟩)
      rfl
  · rw [if_neg h]
    rcases hk with h1 | h2
    · have h3 : ¬ b.k = 1 := by omega
      repeat' (first|refine zz ?_|(refine zv ?_;intro cv hv)|(refine za ?_;intro _)|refine zc ?_|(refine zd ?_;refine And.intro ?_ ?_<;>(intro e;(try simp only [Bool.not_eq_true',Bool.not_eq_false'] at e);subst e;try contradiction)))
      (first|refine ⟨.inr rfl,_,.t rfl .nil,?_⟩|refine ⟨.inr rfl,_,.t rfl (.t rfl .nil),?_⟩|refine ⟨.inr rfl,_,.t rfl (.t rfl (.t rfl .nil)),?_⟩|refine ⟨.inr rfl,_,.nil,?_⟩|refine ⟨.inl rfl,_,.t rfl .nil,?_⟩|refine ⟨.inl rfl,_,.nil,?_⟩|refine ⟨.inr rfl,_,.cn rfl (by exact zN) .nil,?_⟩|refine ⟨.inr rfl,_,.cn rfl (by exact zN) (.t rfl .nil),?_⟩)
      rfl
    · have h3 : ¬ b.k = 2 := by omega
      repeat' (first|refine zz ?_|(refine zv ?_;intro cv hv)|(refine za ?_;intro _)|refine zc ?_|(refine zd ?_;refine And.intro ?_ ?_<;>(intro e;(try simp only [Bool.not_eq_true',Bool.not_eq_false'] at e);subst e;try contradiction)))
      (first|refine ⟨.inr rfl,_,.t rfl .nil,?_⟩|refine ⟨.inr rfl,_,.t rfl (.t rfl .nil),?_⟩|refine ⟨.inr rfl,_,.t rfl (.t rfl (.t rfl .nil)),?_⟩|refine ⟨.inr rfl,_,.nil,?_⟩|refine ⟨.inl rfl,_,.t rfl .nil,?_⟩|refine ⟨.inl rfl,_,.nil,?_⟩|refine ⟨.inr rfl,_,.cn rfl (by exact zN) .nil,?_⟩|refine ⟨.inr rfl,_,.cn rfl (by exact zN) (.t rfl .nil),?_⟩)
      rfl
end Go.Proofs.Ytlflpjjmkigepaa

namespace Go.Proofs.Ytlflpjjmkigepaa
open Go Go.Abs
abbrev KV := Val × Val
def getL (k : Val) : List KV → Val
  | [] => v0
  | (a, x) :: r => if k = a then x else getL k r
def hasL (k : Val) (L : List KV) : Bool := L.any fun e => decide (e.1 = k)
def setL (k v : Val) (L : List KV) : List KV :=
  if v.k = 0 then L.filter fun e => !decide (e.1 = k) else L.filter (fun e => aheadB e.1 k) ++ (k, v) :: L.filter fun e => aheadB k e.1
structure Srt (L : List KV) : Prop where
  ord : L.Pairwise fun a b => aheadB a.1 b.1 = true
  can : ∀ e, e ∈ L → Can e.1
def kvs (es : List Ent) : List KV := es.map fun e => (e.1, e.2.1)
structure TRel (es : List Ent) (ck : Nat) (L : List KV) : Prop where
  good : Good es ck
  perm : (kvs es).Perm L
  srt : Srt L
theorem ahead_irr (a : Val) : aheadB a a = false := by
  simp [aheadB, nless_irr]
theorem ahead_asym {a b : Val} (h : aheadB a b = true) : aheadB b a = false := by
  cases e : aheadB b a with
  | false => rfl
  | true =>
    have := ahead_trans h e
    rw [ahead_irr] at this
    cases this
theorem ahead_ne {a b : Val} (h : aheadB a b = true) : a ≠ b := by
  rintro rfl
  rw [ahead_irr] at h
  cases h
theorem Srt.tail {a : KV} {L : List KV} (h : Srt (a :: L)) : Srt L := ⟨(List.pairwise_cons.1 h.ord).2, fun e he => h.can e (List.mem_cons_of_mem _ he)⟩
theorem TRel.len {es : List Ent} {ck : Nat} {L : List KV} (h : TRel es ck L) : es.length = L.length := by
  have := h.perm.length_eq
  rwa [kvs, List.length_map] at this
theorem TRel.nil : TRel [] 0 [] := ⟨Good.nil, .nil, ⟨.nil, fun _ h => by cases h⟩⟩
theorem TRel.keys {es : List Ent} {ck : Nat} {L : List KV} (h : TRel es ck L) {os : List Val} (hp : os.Perm (keysE es)) (ho : os.Pairwise fun a b => aheadB a b = true) : os = L.map fun e => e.1 := by
  have h1 : (keysE es).Perm (L.map fun e => e.1) := by
    have := h.perm.map fun e => e.1
    rwa [kvs, List.map_map] at this
  refine List.Perm.eq_of_pairwise (le := fun a b => aheadB a b = true) ?_ ho (List.pairwise_map.2 h.srt.ord) (hp.trans h1)
  intro a b _ _ h2 h3
  rw [ahead_asym h2] at h3
  cases h3
theorem TRel.canE {es : List Ent} {ck : Nat} {L : List KV} (h : TRel es ck L) : ∀ e, e ∈ es → Can e.1 := fun e he =>
  h.srt.can (e.1, e.2.1) (h.perm.mem_iff.1 (List.mem_map.2 ⟨e, he, rfl⟩))
/-- What stands under a key, by membership. -/
theorem getL_of {k v : Val} : ∀ {L : List KV}, Srt L → (k, v) ∈ L → getL k L = v
  | [], _, h => by cases h
  | (a, x) :: r, hs, h => by
    rcases List.mem_cons.1 h with h | h
    · cases h; simp [getL]
    · have := (List.pairwise_cons.1 hs.ord).1 _ h
      simp only [getL]
      rw [if_neg (fun e => ahead_ne this e.symm)]
      exact getL_of hs.tail h
theorem getL_no {k : Val} : ∀ {L : List KV}, hasL k L = false → getL k L = v0
  | [], _ => rfl
  | (a, x) :: r, h => by
    simp only [hasL, List.any_cons, Bool.or_eq_false_iff, decide_eq_false_iff_not] at h
    simp only [getL, if_neg (fun e : k = a => h.1 e.symm)]
    exact getL_no h.2
theorem under_mem {k v : Val} {n : Nat} : ∀ {es : List Ent}, under k es = some (v, n) → (k, v, n) ∈ es
  | [], h => by cases h
  | (a, x, m) :: r, h => by
    simp only [under] at h
    split at h
    · rename_i e; cases h; subst e; simp
    · exact List.mem_cons_of_mem _ (under_mem h)
theorem TRel.has {es : List Ent} {ck : Nat} {L : List KV} (h : TRel es ck L) (k : Val) : (under k es).isSome = hasL k L := by
  rw [Bool.eq_iff_iff]
  simp only [hasL, List.any_eq_true, decide_eq_true_eq]
  constructor
  · intro hs
    obtain ⟨p, hp⟩ := Option.isSome_iff_exists.1 hs
    exact ⟨(k, p.1), h.perm.mem_iff.1 (List.mem_map.2 ⟨_, under_mem hp, rfl⟩), rfl⟩
  · rintro ⟨e, he, rfl⟩
    obtain ⟨x, hx, rfl⟩ := List.mem_map.1 (h.perm.mem_iff.2 he)
    cases hu : under x.1 es with
    | none => exact absurd (List.mem_map.2 ⟨x, hx, rfl⟩) (under_none.1 hu)
    | some p => rfl
theorem TRel.get {es : List Ent} {ck : Nat} {L : List KV} (h : TRel es ck L) (k : Val) : getE k v0 es = getL k L := by
  have hh := h.has k
  simp only [getE]
  cases hu : under k es with
  | none =>
    rw [hu] at hh
    exact (getL_no hh.symm).symm
  | some p => exact (getL_of h.srt (h.perm.mem_iff.1 (List.mem_map.2 ⟨_, under_mem hu, rfl⟩))).symm
theorem kvs_del {k : Val} : ∀ {es : List Ent}, (keysE es).Nodup → kvs (delE k es) = (kvs es).filter fun e => !decide (e.1 = k)
  | [], _ => rfl
  | (a, x, n) :: r, h => by
    simp only [keysE, List.map_cons, List.nodup_cons] at h
    simp only [delE]
    by_cases e : k = a
    · subst e
      rw [if_pos rfl]
      simp only [kvs, List.map_cons, List.filter_cons]
      simp only [decide_true, Bool.not_true, if_neg (show ¬ (false = true) by decide)]
      symm
      rw [List.filter_eq_self]
      intro y hy
      obtain ⟨z, hz, rfl⟩ := List.mem_map.1 hy
      have : z.1 ≠ k := fun e => h.1 (List.mem_map.2 ⟨z, hz, e⟩)
      simp [this]
    · rw [if_neg e]
      have ih := kvs_del (k := k) h.2
      simp only [kvs, List.map_cons, List.filter_cons] at ih ⊢
      rw [ih]
      simp [Ne.symm e]
theorem kvs_put {k v : Val} {ck : Nat} : ∀ {es : List Ent}, (keysE es).Nodup → (kvs (putE k v ck es)).Perm ((k, v) :: (kvs es).filter fun e => !decide (e.1 = k))
  | [], _ => by simp [putE, kvs]
  | (a, x, n) :: r, h => by
    have hd := kvs_del (k := k) h
    simp only [keysE, List.map_cons, List.nodup_cons] at h
    simp only [putE]
    by_cases e : k = a
    · subst e
      rw [if_pos rfl]
      simp only [delE, if_pos] at hd
      rw [← hd]
      simp [kvs]
    · rw [if_neg e]
      have ih := kvs_put (k := k) (v := v) (ck := ck) h.2
      simp only [kvs, List.map_cons, List.filter_cons] at ih ⊢
      simp only [Ne.symm e, decide_false, Bool.not_false, if_true]
      exact (List.Perm.cons _ ih).trans (List.Perm.swap _ _ _)
theorem Srt.parts {k : Val} (hk : Can k) : ∀ {L : List KV}, Srt L → (L.filter (fun e => aheadB e.1 k) ++ L.filter fun e => aheadB k e.1).Perm (L.filter fun e => !decide (e.1 = k))
  | [], _ => by simp
  | (a, x) :: r, h => by
    have ih := Srt.parts hk h.tail
    simp only [List.filter_cons]
    by_cases e : a = k
    · subst e
      simp only [ahead_irr, decide_true, Bool.not_true, Bool.false_eq_true, if_false]
      exact ih
    · simp only [e, decide_false, Bool.not_false, if_true]
      cases e1 : aheadB a k with
      | true =>
        simp only [ahead_asym e1, if_true, Bool.false_eq_true, if_false, List.cons_append]
        exact ih.cons _
      | false =>
        simp only [ahead_tri (h.can _ (List.mem_cons_self)) hk e1 e, if_true, Bool.false_eq_true, if_false]
        exact List.perm_middle.trans (ih.cons _)
theorem Srt.set {k v : Val} {L : List KV} (h : Srt L) (hk : Can k) : Srt (setL k v L) := by
  unfold setL
  split
  · exact ⟨h.ord.filter _, fun e he => h.can e (List.mem_filter.1 he).1⟩
  · refine ⟨?_, ?_⟩
    · rw [List.pairwise_append]
      refine ⟨h.ord.filter _, List.pairwise_cons.2 ⟨fun e he => (List.mem_filter.1 he).2, h.ord.filter _⟩, ?_⟩
      intro a ha b hb
      have h1 := (List.mem_filter.1 ha).2
      rcases List.mem_cons.1 hb with rfl | hb
      · exact h1
      · exact ahead_trans h1 (List.mem_filter.1 hb).2
    · intro e he
      rcases List.mem_append.1 he with he | he
      · exact h.can e (List.mem_filter.1 he).1
      · rcases List.mem_cons.1 he with rfl | he
        · exact hk
        · exact h.can e (List.mem_filter.1 he).1
theorem TRel.put {es : List Ent} {ck : Nat} {L : List KV} {k v : Val} (h : TRel es ck L) (hk : Can k) : TRel (putM k v es ck) (putN k v es ck) (setL k v L) := by
  refine ⟨h.good.putM, ?_, h.srt.set hk⟩
  unfold putM setL
  by_cases hv : v.k = 0
  · rw [if_pos hv, if_pos hv, kvs_del h.good.keys]
    exact h.perm.filter _
  · rw [if_neg hv, if_neg hv]
    refine (kvs_put h.good.keys).trans (((h.perm.filter _).cons _).trans ?_)
    exact (((Srt.parts hk h.srt).symm.cons _)).trans List.perm_middle.symm
theorem setL_len {k v : Val} {L : List KV} (h : Srt L) (hk : Can k) : (setL k v L).length + (if hasL k L = true then 1 else 0) = L.length + (if v.k = 0 then 0 else 1) := by
  have h1 : ∀ {L : List KV}, Srt L → (L.filter fun e => !decide (e.1 = k)).length + (if hasL k L = true then 1 else 0) = L.length := by
    intro L
    induction L with
    | nil => intro _; rfl
    | cons a r ih =>
      intro hs
      have hr := ih hs.tail
      by_cases e : a.1 = k
      · have hno : hasL k r = false := by
          rw [hasL, List.any_eq_false]
          intro x hx
          have := (List.pairwise_cons.1 hs.ord).1 _ hx
          rw [e] at this
          simpa using (ahead_ne this).symm
        rw [hno] at hr
        simp only [hasL, List.any_cons, e, List.filter_cons, decide_true, Bool.not_true, Bool.false_eq_true, if_false, Bool.true_or, if_true, List.length_cons] at hr ⊢
        omega
      · have h3 : hasL k (a :: r) = hasL k r := by simp [hasL, e]
        rw [h3, List.filter_cons, if_pos (by simp [e]), List.length_cons, List.length_cons]
        omega
  have h2 := h1 h
  unfold setL
  by_cases hv : v.k = 0
  · rw [if_pos hv, if_pos hv]
    omega
  · rw [if_neg hv, if_neg hv]
    have h3 := (Srt.parts hk h).length_eq
    have h4 : ∀ (A B : List KV) (x : KV), (A ++ x :: B).length = (A ++ B).length + 1 := fun A B x => by simp [Nat.add_assoc]
    rw [h4, h3]
    omega
end Go.Proofs.Ytlflpjjmkigepaa
