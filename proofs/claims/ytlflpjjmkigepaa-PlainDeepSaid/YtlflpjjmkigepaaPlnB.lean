/- A heap by what it holds: tables as lists in the order of their keys. Plain laws. -/
import Derived.Test.YtlflpjjmkigepaaPlnA
import Derived.Test.YtlflpjjmkigepaaAbsY
set_option autoImplicit false
set_option linter.unusedVariables false
set_option linter.unusedSimpArgs false
set_option maxRecDepth 100000
set_option maxHeartbeats 4000000
namespace Go.Proofs.Ytlflpjjmkigepaa
open Go Go.Abs
abbrev KV := Val × Val
def getL (k : Val) : List KV → Val
  | [] => v0
  | (a, x) :: r => if k = a then x else getL k r
def hasL (k : Val) (L : List KV) : Bool := L.any fun e => decide (e.1 = k)
def setL (k v : Val) (L : List KV) : List KV :=
  if v.k = 0 then L.filter fun e => !decide (e.1 = k) else L.filter (fun e => aheadB e.1 k) ++ (k, v) :: L.filter fun e => aheadB k e.1
structure Srt (L : List KV) : Prop where
  ord : L.Pairwise fun a b => aheadB a.1 b.1 = true
  can : ∀ e, e ∈ L → Can e.1
def kvs (es : List Ent) : List KV := es.map fun e => (e.1, e.2.1)
structure TRel (es : List Ent) (ck : Nat) (L : List KV) : Prop where
  good : Good es ck
  perm : (kvs es).Perm L
  srt : Srt L
theorem ahead_irr (a : Val) : aheadB a a = false := by
  simp [aheadB, nless_irr]
theorem ahead_asym {a b : Val} (h : aheadB a b = true) : aheadB b a = false := by
  cases e : aheadB b a with
  | false => rfl
  | true =>
    have := ahead_trans h e
    rw [ahead_irr] at this
    cases this
theorem ahead_ne {a b : Val} (h : aheadB a b = true) : a ≠ b := by
  rintro rfl
  rw [ahead_irr] at h
  cases h
theorem Srt.tail {a : KV} {L : List KV} (h : Srt (a :: L)) : Srt L := ⟨(List.pairwise_cons.1 h.ord).2, fun e he => h.can e (List.mem_cons_of_mem _ he)⟩
theorem TRel.len {es : List Ent} {ck : Nat} {L : List KV} (h : TRel es ck L) : es.length = L.length := by
  have := h.perm.length_eq
  rwa [kvs, List.length_map] at this
theorem TRel.nil : TRel [] 0 [] := ⟨Good.nil, .nil, ⟨.nil, fun _ h => by cases h⟩⟩
theorem TRel.keys {es : List Ent} {ck : Nat} {L : List KV} (h : TRel es ck L) {os : List Val} (hp : os.Perm (keysE es)) (ho : os.Pairwise fun a b => aheadB a b = true) : os = L.map fun e => e.1 := by
  have h1 : (keysE es).Perm (L.map fun e => e.1) := by
    have := h.perm.map fun e => e.1
    rwa [kvs, List.map_map] at this
  refine List.Perm.eq_of_pairwise (le := fun a b => aheadB a b = true) ?_ ho (List.pairwise_map.2 h.srt.ord) (hp.trans h1)
  intro a b _ _ h2 h3
  rw [ahead_asym h2] at h3
  cases h3
theorem TRel.canE {es : List Ent} {ck : Nat} {L : List KV} (h : TRel es ck L) : ∀ e, e ∈ es → Can e.1 := fun e he =>
  h.srt.can (e.1, e.2.1) (h.perm.mem_iff.1 (List.mem_map.2 ⟨e, he, rfl⟩))
/-- What stands under a key, by membership. -/
theorem getL_of {k v : Val} : ∀ {L : List KV}, Srt L → (k, v) ∈ L → getL k L = v
  | [], _, h => by cases h
  | (a, x) :: r, hs, h => by
    rcases List.mem_cons.1 h with h | h
    · cases h; simp [getL]
    · have := (List.pairwise_cons.1 hs.ord).1 _ h
      simp only [getL]
      rw [if_neg (fun e => ahead_ne this e.symm)]
      exact getL_of hs.tail h
theorem getL_no {k : Val} : ∀ {L : List KV}, hasL k L = false → getL k L = v0
  | [], _ => rfl
  | (a, x) :: r, h => by
    simp only [hasL, List.any_cons, Bool.or_eq_false_iff, decide_eq_false_iff_not] at h
    simp only [getL, if_neg (fun e : k = a => h.1 e.symm)]
    exact getL_no h.2
theorem under_mem {k v : Val} {n : Nat} : ∀ {es : List Ent}, under k es = some (v, n) → (k, v, n) ∈ es
  | [], h => by cases h
  | (a, x, m) :: r, h => by
    simp only [under] at h
    split at h
    · rename_i e; cases h; subst e; simp
    · exact List.mem_cons_of_mem _ (under_mem h)
theorem TRel.has {es : List Ent} {ck : Nat} {L : List KV} (h : TRel es ck L) (k : Val) : (under k es).isSome = hasL k L := by
  rw [Bool.eq_iff_iff]
  simp only [hasL, List.any_eq_true, decide_eq_true_eq]
  constructor
  · intro hs
    obtain ⟨p, hp⟩ := Option.isSome_iff_exists.1 hs
    exact ⟨(k, p.1), h.perm.mem_iff.1 (List.mem_map.2 ⟨_, under_mem hp, rfl⟩), rfl⟩
  · rintro ⟨e, he, rfl⟩
    obtain ⟨x, hx, rfl⟩ := List.mem_map.1 (h.perm.mem_iff.2 he)
    cases hu : under x.1 es with
    | none => exact absurd (List.mem_map.2 ⟨x, hx, rfl⟩) (under_none.1 hu)
    | some p => rfl
theorem TRel.get {es : List Ent} {ck : Nat} {L : List KV} (h : TRel es ck L) (k : Val) : getE k v0 es = getL k L := by
  have hh := h.has k
  simp only [getE]
  cases hu : under k es with
  | none =>
    rw [hu] at hh
    exact (getL_no hh.symm).symm
  | some p => exact (getL_of h.srt (h.perm.mem_iff.1 (List.mem_map.2 ⟨_, under_mem hu, rfl⟩))).symm
theorem kvs_del {k : Val} : ∀ {es : List Ent}, (keysE es).Nodup → kvs (delE k es) = (kvs es).filter fun e => !decide (e.1 = k)
  | [], _ => rfl
  | (a, x, n) :: r, h => by
    simp only [keysE, List.map_cons, List.nodup_cons] at h
    simp only [delE]
    by_cases e : k = a
    · subst e
      rw [if_pos rfl]
      simp only [kvs, List.map_cons, List.filter_cons]
      simp only [decide_true, Bool.not_true, if_neg (show ¬ (false = true) by decide)]
      symm
      rw [List.filter_eq_self]
      intro y hy
      obtain ⟨z, hz, rfl⟩ := List.mem_map.1 hy
      have : z.1 ≠ k := fun e => h.1 (List.mem_map.2 ⟨z, hz, e⟩)
      simp [this]
    · rw [if_neg e]
      have ih := kvs_del (k := k) h.2
      simp only [kvs, List.map_cons, List.filter_cons] at ih ⊢
      rw [ih]
      simp [Ne.symm e]
theorem kvs_put {k v : Val} {ck : Nat} : ∀ {es : List Ent}, (keysE es).Nodup → (kvs (putE k v ck es)).Perm ((k, v) :: (kvs es).filter fun e => !decide (e.1 = k))
  | [], _ => by simp [putE, kvs]
  | (a, x, n) :: r, h => by
    have hd := kvs_del (k := k) h
    simp only [keysE, List.map_cons, List.nodup_cons] at h
    simp only [putE]
    by_cases e : k = a
    · subst e
      rw [if_pos rfl]
      simp only [delE, if_pos] at hd
      rw [← hd]
      simp [kvs]
    · rw [if_neg e]
      have ih := kvs_put (k := k) (v := v) (ck := ck) h.2
      simp only [kvs, List.map_cons, List.filter_cons] at ih ⊢
      simp only [Ne.symm e, decide_false, Bool.not_false, if_true]
      exact (List.Perm.cons _ ih).trans (List.Perm.swap _ _ _)
theorem Srt.parts {k : Val} (hk : Can k) : ∀ {L : List KV}, Srt L → (L.filter (fun e => aheadB e.1 k) ++ L.filter fun e => aheadB k e.1).Perm (L.filter fun e => !decide (e.1 = k))
  | [], _ => by simp
  | (a, x) :: r, h => by
    have ih := Srt.parts hk h.tail
    simp only [List.filter_cons]
    by_cases e : a = k
    · subst e
      simp only [ahead_irr, decide_true, Bool.not_true, Bool.false_eq_true, if_false]
      exact ih
    · simp only [e, decide_false, Bool.not_false, if_true]
      cases e1 : aheadB a k with
      | true =>
        simp only [ahead_asym e1, if_true, Bool.false_eq_true, if_false, List.cons_append]
        exact ih.cons _
      | false =>
        simp only [ahead_tri (h.can _ (List.mem_cons_self)) hk e1 e, if_true, Bool.false_eq_true, if_false]
        exact List.perm_middle.trans (ih.cons _)
theorem Srt.set {k v : Val} {L : List KV} (h : Srt L) (hk : Can k) : Srt (setL k v L) := by
  unfold setL
  split
  · exact ⟨h.ord.filter _, fun e he => h.can e (List.mem_filter.1 he).1⟩
  · refine ⟨?_, ?_⟩
    · rw [List.pairwise_append]
      refine ⟨h.ord.filter _, List.pairwise_cons.2 ⟨fun e he => (List.mem_filter.1 he).2, h.ord.filter _⟩, ?_⟩
      intro a ha b hb
      have h1 := (List.mem_filter.1 ha).2
      rcases List.mem_cons.1 hb with rfl | hb
      · exact h1
      · exact ahead_trans h1 (List.mem_filter.1 hb).2
    · intro e he
      rcases List.mem_append.1 he with he | he
      · exact h.can e (List.mem_filter.1 he).1
      · rcases List.mem_cons.1 he with rfl | he
        · exact hk
        · exact h.can e (List.mem_filter.1 he).1
theorem TRel.put {es : List Ent} {ck : Nat} {L : List KV} {k v : Val} (h : TRel es ck L) (hk : Can k) : TRel (putM k v es ck) (putN k v es ck) (setL k v L) := by
  refine ⟨h.good.putM, ?_, h.srt.set hk⟩
  unfold putM setL
  by_cases hv : v.k = 0
  · rw [if_pos hv, if_pos hv, kvs_del h.good.keys]
    exact h.perm.filter _
  · rw [if_neg hv, if_neg hv]
    refine (kvs_put h.good.keys).trans (((h.perm.filter _).cons _).trans ?_)
    exact (((Srt.parts hk h.srt).symm.cons _)).trans List.perm_middle.symm
theorem setL_len {k v : Val} {L : List KV} (h : Srt L) (hk : Can k) : (setL k v L).length + (if hasL k L = true then 1 else 0) = L.length + (if v.k = 0 then 0 else 1) := by
  have h1 : ∀ {L : List KV}, Srt L → (L.filter fun e => !decide (e.1 = k)).length + (if hasL k L = true then 1 else 0) = L.length := by
    intro L
    induction L with
    | nil => intro _; rfl
    | cons a r ih =>
      intro hs
      have hr := ih hs.tail
      by_cases e : a.1 = k
      · have hno : hasL k r = false := by
          rw [hasL, List.any_eq_false]
          intro x hx
          have := (List.pairwise_cons.1 hs.ord).1 _ hx
          rw [e] at this
          simpa using (ahead_ne this).symm
        rw [hno] at hr
        simp only [hasL, List.any_cons, e, List.filter_cons, decide_true, Bool.not_true, Bool.false_eq_true, if_false, Bool.true_or, if_true, List.length_cons] at hr ⊢
        omega
      · have h3 : hasL k (a :: r) = hasL k r := by simp [hasL, e]
        rw [h3, List.filter_cons, if_pos (by simp [e]), List.length_cons, List.length_cons]
        omega
  have h2 := h1 h
  unfold setL
  by_cases hv : v.k = 0
  · rw [if_pos hv, if_pos hv]
    omega
  · rw [if_neg hv, if_neg hv]
    have h3 := (Srt.parts hk h).length_eq
    have h4 : ∀ (A B : List KV) (x : KV), (A ++ x :: B).length = (A ++ B).length + 1 := fun A B x => by simp [Nat.add_assoc]
    rw [h4, h3]
    omega
end Go.Proofs.Ytlflpjjmkigepaa

namespace Go.Proofs.Ytlflpjjmkigepaa
open Go Go.Abs
attribute [local irreducible] Cmp Rg Dw Cd Lp Ev Rdk CT Upd InK
section
variable {b room used : Nat} {vf vc : AV} {T : OS} {t k v : Val}
def isT (T : OS) (t : Val) : Prop := t.k = 3 ∧ 0 ≤ t.n ∧ t.n < (T.rows.length : Int)
theorem table36F (hT : T.ok 1) (h : ¬ isT T t) : CT Try.prog false 49 [hP b, valA t] [hB b room used (T.v 1) vf vc] fun w K' => w = .tup [.nilmap, .int .i64 (.ofNat 1)] ∧ K' = [hB b room used (T.v 1) vf vc] := by
  refine CT.enterS mixed comp49 (Nat.le_of_ble_eq_true rfl) ?_
  have hl := hT.len
  have h' : t.k ≠ 3 ∨ t.n < 0 ∨ (T.rows.length : Int) ≤ t.n := by unfold isT at h; omega
  repeat' (first|(refine Rg.callM rfl there32 (.cons (.there .here) .nil) ?_; rintro _ _ ⟨rfl, rfl⟩)|refine zz ?_|(refine zw ?_;refine And.intro ?_ ?_<;>intro hc)|(refine zv ?_;intro cv hv)|(refine za ?_;intro _)|refine zc ?_|(refine zd ?_;refine And.intro ?_ ?_<;>(intro e;(try simp only [Bool.not_eq_true',Bool.not_eq_false'] at e);subst e;try contradiction)))
  all_goals first | ((first|refine ⟨.inr rfl,_,.t rfl .nil,?_⟩|refine ⟨.inr rfl,_,.t rfl (.t rfl .nil),?_⟩|refine ⟨.inr rfl,_,.t rfl (.t rfl (.t rfl .nil)),?_⟩|refine ⟨.inr rfl,_,.nil,?_⟩|refine ⟨.inl rfl,_,.t rfl .nil,?_⟩|refine ⟨.inl rfl,_,.nil,?_⟩|refine ⟨.inr rfl,_,.cn rfl (by exact zN) .nil,?_⟩|refine ⟨.inr rfl,_,.cn rfl (by exact zN) (.t rfl .nil),?_⟩); exact ⟨_, _, .cons .here .nil, rfl, rfl⟩) | (exfalso; omega)
theorem at34F (hT : T.ok 1) (h : ¬ isT T t) : CT Try.prog false 52 [hP b, valA t, valA k] [hB b room used (T.v 1) vf vc] fun w K' => w = .tup [.nilmap, .int .i64 (.ofNat 1)] ∧ K' = [hB b room used (T.v 1) vf vc] := by
  have k36 := table36F (b := b) (room := room) (used := used) (vf := vf) (vc := vc) hT h
  refine CT.enterS mixed comp52 (Nat.le_of_ble_eq_true rfl) ?_
  repeat' (first|(refine Rg.callM rfl k36 (.cons (.there (.there .here)) .nil) ?_; rintro _ _ ⟨rfl, rfl⟩)|refine zz ?_|(refine zw ?_;refine And.intro ?_ ?_<;>intro hc)|(refine zv ?_;intro cv hv)|(refine za ?_;intro _)|refine zc ?_|(refine zd ?_;refine And.intro ?_ ?_<;>(intro e;(try simp only [Bool.not_eq_true',Bool.not_eq_false'] at e);subst e;try contradiction)))
  (first|refine ⟨.inr rfl,_,.t rfl .nil,?_⟩|refine ⟨.inr rfl,_,.t rfl (.t rfl .nil),?_⟩|refine ⟨.inr rfl,_,.t rfl (.t rfl (.t rfl .nil)),?_⟩|refine ⟨.inr rfl,_,.nil,?_⟩|refine ⟨.inl rfl,_,.t rfl .nil,?_⟩|refine ⟨.inl rfl,_,.nil,?_⟩|refine ⟨.inr rfl,_,.cn rfl (by exact zN) .nil,?_⟩|refine ⟨.inr rfl,_,.cn rfl (by exact zN) (.t rfl .nil),?_⟩)
  exact ⟨_, _, .cons .here .nil, rfl, rfl⟩
theorem get18F (hT : T.ok 1) (h : ¬ isT T t) : CT Try.prog false 27 [hP b, valA t, valA k] [hB b room used (T.v 1) vf vc] fun w K' => w = .tup [valA v0, .int .i64 (.ofNat 1)] ∧ K' = [hB b room used (T.v 1) vf vc] := by
  have k34 := at34F (b := b) (room := room) (used := used) (vf := vf) (vc := vc) (k := k) hT h
  refine CT.enterS mixed comp27 (Nat.le_of_ble_eq_true rfl) ?_
  repeat' (first|(refine Rg.callM rfl k34 (.cons (.there (.there (.there .here))) .nil) ?_; rintro _ _ ⟨rfl, rfl⟩)|refine zz ?_|(refine zw ?_;refine And.intro ?_ ?_<;>intro hc)|(refine zv ?_;intro cv hv)|(refine za ?_;intro _)|refine zc ?_|(refine zd ?_;refine And.intro ?_ ?_<;>(intro e;(try simp only [Bool.not_eq_true',Bool.not_eq_false'] at e);subst e;try contradiction)))
  (first|refine ⟨.inr rfl,_,.t rfl .nil,?_⟩|refine ⟨.inr rfl,_,.t rfl (.t rfl .nil),?_⟩|refine ⟨.inr rfl,_,.t rfl (.t rfl (.t rfl .nil)),?_⟩|refine ⟨.inr rfl,_,.nil,?_⟩|refine ⟨.inl rfl,_,.t rfl .nil,?_⟩|refine ⟨.inl rfl,_,.nil,?_⟩|refine ⟨.inr rfl,_,.cn rfl (by exact zN) .nil,?_⟩|refine ⟨.inr rfl,_,.cn rfl (by exact zN) (.t rfl .nil),?_⟩)
  exact ⟨_, _, .cons .here .nil, rfl, rfl⟩
theorem put14F (hT : T.ok 1) (h : ¬ isT T t) : CT Try.prog false 30 [hP b, valA t, valA k, valA v] [hB b room used (T.v 1) vf vc] fun w K' => w = .int .i64 (.ofNat 1) ∧ K' = [hB b room used (T.v 1) vf vc] := by
  have k34 := at34F (b := b) (room := room) (used := used) (vf := vf) (vc := vc) (k := k) hT h
  refine CT.enterS mixed comp30 (Nat.le_of_ble_eq_true rfl) ?_
  repeat' (first|(refine Rg.callM rfl k34 (.cons (.there (.there (.there .here))) .nil) ?_; rintro _ _ ⟨rfl, rfl⟩)|refine zz ?_|(refine zw ?_;refine And.intro ?_ ?_<;>intro hc)|(refine zv ?_;intro cv hv)|(refine za ?_;intro _)|refine zc ?_|(refine zd ?_;refine And.intro ?_ ?_<;>(intro e;(try simp only [Bool.not_eq_true',Bool.not_eq_false'] at e);subst e;try contradiction)))
  (first|refine ⟨.inr rfl,_,.t rfl .nil,?_⟩|refine ⟨.inr rfl,_,.t rfl (.t rfl .nil),?_⟩|refine ⟨.inr rfl,_,.t rfl (.t rfl (.t rfl .nil)),?_⟩|refine ⟨.inr rfl,_,.nil,?_⟩|refine ⟨.inl rfl,_,.t rfl .nil,?_⟩|refine ⟨.inl rfl,_,.nil,?_⟩|refine ⟨.inr rfl,_,.cn rfl (by exact zN) .nil,?_⟩|refine ⟨.inr rfl,_,.cn rfl (by exact zN) (.t rfl .nil),?_⟩)
  exact ⟨_, _, .cons .here .nil, rfl, rfl⟩
theorem len20F (hT : T.ok 1) (h : ¬ isT T t) : CT Try.prog false 39 [hP b, valA t] [hB b room used (T.v 1) vf vc] fun w K' => w = .tup [.int .i64 (.ofNat 0), .int .i64 (.ofNat 1)] ∧ K' = [hB b room used (T.v 1) vf vc] := by
  have k36 := table36F (b := b) (room := room) (used := used) (vf := vf) (vc := vc) hT h
  refine CT.enterS mixed comp39 (Nat.le_of_ble_eq_true rfl) ?_
  repeat' (first|(refine Rg.callM rfl k36 (.cons (.there .here) .nil) ?_; rintro _ _ ⟨rfl, rfl⟩)|(refine Rg.r rfl rfl Rdk.mlen0 ?_)|refine zz ?_|(refine zw ?_;refine And.intro ?_ ?_<;>intro hc)|(refine zv ?_;intro cv hv)|(refine za ?_;intro _)|refine zc ?_|(refine zd ?_;refine And.intro ?_ ?_<;>(intro e;(try simp only [Bool.not_eq_true',Bool.not_eq_false'] at e);subst e;try contradiction)))
  (first|refine ⟨.inr rfl,_,.t rfl .nil,?_⟩|refine ⟨.inr rfl,_,.t rfl (.t rfl .nil),?_⟩|refine ⟨.inr rfl,_,.t rfl (.t rfl (.t rfl .nil)),?_⟩|refine ⟨.inr rfl,_,.nil,?_⟩|refine ⟨.inl rfl,_,.t rfl .nil,?_⟩|refine ⟨.inl rfl,_,.nil,?_⟩|refine ⟨.inr rfl,_,.cn rfl (by exact zN) .nil,?_⟩|refine ⟨.inr rfl,_,.cn rfl (by exact zN) (.t rfl .nil),?_⟩)
  exact ⟨_, _, .cons .here .nil, rfl, rfl⟩
theorem keys17F (hT : T.ok 1) (h : ¬ isT T t) : CT Try.prog true 24 [hP b, valA t] [hB b room used (T.v 1) vf vc] fun w K' => w = .nilslc ∧ K' = [hB b room used (T.v 1) vf vc] := by
  have k36 := (table36F (b := b) (room := room) (used := used) (vf := vf) (vc := vc) hT h).up (nd := true)
  refine CT.enterS mixed comp24 (Nat.le_of_ble_eq_true rfl) ?_
  repeat' (first|(refine Rg.callM rfl k36 (.cons (.there .here) .nil) ?_; rintro _ _ ⟨rfl, rfl⟩)|refine zz ?_|(refine zw ?_;refine And.intro ?_ ?_<;>intro hc)|(refine zv ?_;intro cv hv)|(refine za ?_;intro _)|refine zc ?_|(refine zd ?_;refine And.intro ?_ ?_<;>(intro e;(try simp only [Bool.not_eq_true',Bool.not_eq_false'] at e);subst e;try contradiction)))
  refine Rg.e (Ef.rngN rfl) ?_
  rintro _ _ ⟨bi, rfl, rfl⟩
  repeat' (first|refine zz ?_|(refine zw ?_;refine And.intro ?_ ?_<;>intro hc)|(refine zv ?_;intro cv hv)|(refine za ?_;intro _)|refine zc ?_|(refine zd ?_;refine And.intro ?_ ?_<;>(intro e;(try simp only [Bool.not_eq_true',Bool.not_eq_false'] at e);subst e;try contradiction)))
  refine Cd.loop (k := 1) (Lp.round ?_)
  repeat' (first|refine zz ?_|(refine zw ?_;refine And.intro ?_ ?_<;>intro hc)|(refine zv ?_;intro cv hv)|(refine za ?_;intro _)|refine zc ?_|(refine zd ?_;refine And.intro ?_ ?_<;>(intro e;(try simp only [Bool.not_eq_true',Bool.not_eq_false'] at e);subst e;try contradiction)))
  refine Rg.e (Ef.nextN rfl .here) ?_
  rintro _ _ ⟨rfl, rfl⟩
  repeat' (first|refine zz ?_|(refine zw ?_;refine And.intro ?_ ?_<;>intro hc)|(refine zv ?_;intro cv hv)|(refine za ?_;intro _)|refine zc ?_|(refine zd ?_;refine And.intro ?_ ?_<;>(intro e;(try simp only [Bool.not_eq_true',Bool.not_eq_false'] at e);subst e;try contradiction)))
  (first|refine ⟨.inr rfl,_,.t rfl .nil,?_⟩|refine ⟨.inr rfl,_,.t rfl (.t rfl .nil),?_⟩|refine ⟨.inr rfl,_,.t rfl (.t rfl (.t rfl .nil)),?_⟩|refine ⟨.inr rfl,_,.nil,?_⟩|refine ⟨.inl rfl,_,.t rfl .nil,?_⟩|refine ⟨.inl rfl,_,.nil,?_⟩|refine ⟨.inr rfl,_,.cn rfl (by exact zN) .nil,?_⟩|refine ⟨.inr rfl,_,.cn rfl (by exact zN) (.t rfl .nil),?_⟩)
  exact ⟨_, _, .cons (.there .here) .nil, rfl, rfl⟩
theorem table12F {vt : AV} (h : used = room) (hr : room ≤ 1000000) : CT Try.prog false 29 [hP b] [hB b room used vt vf vc] fun w K' => w = .tup [valA v0, .int .i64 (.ofNat 8)] ∧ K' = [hB b room used vt vf vc] := by
  refine CT.enterS mixed comp29 (Nat.le_of_ble_eq_true rfl) ?_
  repeat' (first|(refine Rg.callM rfl (take33F h hr) (.cons (.there .here) .nil) ?_; rintro _ _ ⟨rfl, rfl⟩)|refine zz ?_|(refine zw ?_;refine And.intro ?_ ?_<;>intro hc)|(refine zv ?_;intro cv hv)|(refine za ?_;intro _)|refine zc ?_|(refine zd ?_;refine And.intro ?_ ?_<;>(intro e;(try simp only [Bool.not_eq_true',Bool.not_eq_false'] at e);subst e;try contradiction)))
  (first|refine ⟨.inr rfl,_,.t rfl .nil,?_⟩|refine ⟨.inr rfl,_,.t rfl (.t rfl .nil),?_⟩|refine ⟨.inr rfl,_,.t rfl (.t rfl (.t rfl .nil)),?_⟩|refine ⟨.inr rfl,_,.nil,?_⟩|refine ⟨.inl rfl,_,.t rfl .nil,?_⟩|refine ⟨.inl rfl,_,.nil,?_⟩|refine ⟨.inr rfl,_,.cn rfl (by exact zN) .nil,?_⟩|refine ⟨.inr rfl,_,.cn rfl (by exact zN) (.t rfl .nil),?_⟩)
  exact ⟨_, _, .cons .here .nil, rfl, rfl⟩
end
section
variable {b room used i m ck c : Nat} {s : List Nat} {vf vc : AV} {T : OS} {es : List Ent} {k v : Val}
theorem get18K (hT : T.ok 1) (hi : T.rows[i]? = some [.map m]) (hk : keyB k = false) : CT Try.prog false 27 [hP b, valA ⟨3, (i : Int), s⟩, valA k] [hB b room used (T.v 1) vf vc, T.c] fun w K' => w = .tup [valA v0, .int .i64 (.ofNat 4)] ∧ K' = [hB b room used (T.v 1) vf vc, T.c] := by
  have k34 := at34 (b := b) (room := room) (used := used) (vf := vf) (vc := vc) (s := s) (k := k) hT hi
  rw [if_neg (by simp [hk])] at k34
  refine CT.enterS mixed comp27 (Nat.le_of_ble_eq_true rfl) ?_
  repeat' (first|(refine Rg.callM rfl k34 (.cons (.there (.there (.there .here))) (.cons (.there (.there (.there .here))) .nil)) ?_; rintro _ _ ⟨rfl, rfl⟩)|refine zz ?_|(refine zw ?_;refine And.intro ?_ ?_<;>intro hc)|(refine zv ?_;intro cv hv)|(refine za ?_;intro _)|refine zc ?_|(refine zd ?_;refine And.intro ?_ ?_<;>(intro e;(try simp only [Bool.not_eq_true',Bool.not_eq_false'] at e);subst e;try contradiction)))
  (first|refine ⟨.inr rfl,_,.t rfl .nil,?_⟩|refine ⟨.inr rfl,_,.t rfl (.t rfl .nil),?_⟩|refine ⟨.inr rfl,_,.t rfl (.t rfl (.t rfl .nil)),?_⟩|refine ⟨.inr rfl,_,.nil,?_⟩|refine ⟨.inl rfl,_,.t rfl .nil,?_⟩|refine ⟨.inl rfl,_,.nil,?_⟩|refine ⟨.inr rfl,_,.cn rfl (by exact zN) .nil,?_⟩|refine ⟨.inr rfl,_,.cn rfl (by exact zN) (.t rfl .nil),?_⟩)
  exact ⟨_, _, .cons .here (.cons .here .nil), rfl, rfl⟩
theorem put14K (hT : T.ok 1) (hi : T.rows[i]? = some [.map m]) (hk : keyB k = false) : CT Try.prog false 30 [hP b, valA ⟨3, (i : Int), s⟩, valA k, valA v] [hB b room used (T.v 1) vf vc, T.c] fun w K' => w = .int .i64 (.ofNat 4) ∧ K' = [hB b room used (T.v 1) vf vc, T.c] := by
  have k34 := at34 (b := b) (room := room) (used := used) (vf := vf) (vc := vc) (s := s) (k := k) hT hi
  rw [if_neg (by simp [hk])] at k34
  refine CT.enterS mixed comp30 (Nat.le_of_ble_eq_true rfl) ?_
  repeat' (first|(refine Rg.callM rfl k34 (.cons (.there (.there (.there .here))) (.cons (.there (.there (.there .here))) .nil)) ?_; rintro _ _ ⟨rfl, rfl⟩)|refine zz ?_|(refine zw ?_;refine And.intro ?_ ?_<;>intro hc)|(refine zv ?_;intro cv hv)|(refine za ?_;intro _)|refine zc ?_|(refine zd ?_;refine And.intro ?_ ?_<;>(intro e;(try simp only [Bool.not_eq_true',Bool.not_eq_false'] at e);subst e;try contradiction)))
  (first|refine ⟨.inr rfl,_,.t rfl .nil,?_⟩|refine ⟨.inr rfl,_,.t rfl (.t rfl .nil),?_⟩|refine ⟨.inr rfl,_,.t rfl (.t rfl (.t rfl .nil)),?_⟩|refine ⟨.inr rfl,_,.nil,?_⟩|refine ⟨.inl rfl,_,.t rfl .nil,?_⟩|refine ⟨.inl rfl,_,.nil,?_⟩|refine ⟨.inr rfl,_,.cn rfl (by exact zN) .nil,?_⟩|refine ⟨.inr rfl,_,.cn rfl (by exact zN) (.t rfl .nil),?_⟩)
  exact ⟨_, _, .cons .here (.cons .here .nil), rfl, rfl⟩
/-- No room for a new key. -/
theorem put14R (hT : T.ok 1) (hi : T.rows[i]? = some [.map m]) (hk : keyB k = true) (hv : v.k ≠ 0) (hu : under k es = none) (he : used = room) (hr : room ≤ 1000000) : CT Try.prog false 30 [hP b, valA ⟨3, (i : Int), s⟩, valA k, valA v] [hB b room used (T.v 1) vf vc, T.c, mC m ck es]
    fun w K' => w = .int .i64 (.ofNat 8) ∧ K' = [hB b room used (T.v 1) vf vc, T.c, mC m ck es] := by
  have k34 := at34 (b := b) (room := room) (used := used) (vf := vf) (vc := vc) (s := s) (k := k) hT hi
  rw [if_pos hk] at k34
  refine CT.enterS mixed comp30 (Nat.le_of_ble_eq_true rfl) ?_
  have lk := fun K h => Rdk.lookk (K := K) (m := m) (ck := ck) (es := es) (k := k) (z := v0) h
  simp only [hu, Option.isSome_none] at lk
  repeat' (first|(refine Rg.callM rfl k34 (.cons (.there (.there (.there .here))) (.cons (.there (.there (.there .here))) .nil)) ?_; rintro _ _ ⟨rfl, rfl⟩)|(refine Rg.r rfl rfl (lk _ (.there (.there (.there (.there (.there .here)))))) ?_)|(refine Rg.callM rfl (take33F he hr) (.cons (.there .here) .nil) ?_; rintro _ _ ⟨rfl, rfl⟩)|refine zz ?_|(refine zw ?_;refine And.intro ?_ ?_<;>intro hc)|(refine zv ?_;intro cv hv)|(refine za ?_;intro _)|refine zc ?_|(refine zd ?_;refine And.intro ?_ ?_<;>(intro e;(try simp only [Bool.not_eq_true',Bool.not_eq_false'] at e);subst e;try contradiction)))
  (first|refine ⟨.inr rfl,_,.t rfl .nil,?_⟩|refine ⟨.inr rfl,_,.t rfl (.t rfl .nil),?_⟩|refine ⟨.inr rfl,_,.t rfl (.t rfl (.t rfl .nil)),?_⟩|refine ⟨.inr rfl,_,.nil,?_⟩|refine ⟨.inl rfl,_,.t rfl .nil,?_⟩|refine ⟨.inl rfl,_,.nil,?_⟩|refine ⟨.inr rfl,_,.cn rfl (by exact zN) .nil,?_⟩|refine ⟨.inr rfl,_,.cn rfl (by exact zN) (.t rfl .nil),?_⟩)
  exact ⟨_, _, .cons .here (.cons (.there .here) (.cons (.there (.there (.there (.there .here)))) .nil)), rfl, rfl⟩
/-- A known key is put anew, or a key is taken away: whatever room there is. -/
theorem put14S (hT : T.ok 1) (hi : T.rows[i]? = some [.map m]) (hk : keyB k = true) (hu : v.k = 0 ∨ under k es ≠ none) (hfit : es.length + c ≤ room) (hr : room ≤ 1000000) : CT Try.prog false 30 [hP b, valA ⟨3, (i : Int), s⟩, valA k, valA v] [hB b room (es.length + c) (T.v 1) vf vc, T.c, mC m ck es]
    fun w K' => w = .int .i64 (.ofNat 0) ∧ K' = [hB b room ((putM k v es ck).length + c) (T.v 1) vf vc, T.c, mC m (putN k v es ck) (putM k v es ck)] := by
  have k34 := at34 (b := b) (room := room) (used := es.length + c) (vf := vf) (vc := vc) (s := s) (k := k) hT hi
  rw [if_pos hk] at k34
  refine CT.enterS mixed comp30 (Nat.le_of_ble_eq_true rfl) ?_
  have lk := fun K h => Rdk.lookk (K := K) (m := m) (ck := ck) (es := es) (k := k) (z := v0) h
  have hd := delE_len k es
  have hp := putE_len k v ck es
  by_cases h0 : v.k = 0
  · rw [putM, putN, if_pos h0, if_pos h0]
    cases hu : under k es with
    | none =>
      simp only [hu, Option.isSome_none] at lk
      rw [delE_none hu]
      repeat' (first|(refine Rg.callM rfl k34 (.cons (.there (.there (.there .here))) (.cons (.there (.there (.there .here))) .nil)) ?_; rintro _ _ ⟨rfl, rfl⟩)|(refine Rg.r rfl rfl (lk _ (.there (.there (.there (.there (.there .here)))))) ?_)|refine zz ?_|(refine zw ?_;refine And.intro ?_ ?_<;>intro hc)|(refine zv ?_;intro cv hv)|(refine za ?_;intro _)|refine zc ?_|(refine zd ?_;refine And.intro ?_ ?_<;>(intro e;(try simp only [Bool.not_eq_true',Bool.not_eq_false'] at e);subst e;try contradiction)))
      (first|refine ⟨.inr rfl,_,.t rfl .nil,?_⟩|refine ⟨.inr rfl,_,.t rfl (.t rfl .nil),?_⟩|refine ⟨.inr rfl,_,.t rfl (.t rfl (.t rfl .nil)),?_⟩|refine ⟨.inr rfl,_,.nil,?_⟩|refine ⟨.inl rfl,_,.t rfl .nil,?_⟩|refine ⟨.inl rfl,_,.nil,?_⟩|refine ⟨.inr rfl,_,.cn rfl (by exact zN) .nil,?_⟩|refine ⟨.inr rfl,_,.cn rfl (by exact zN) (.t rfl .nil),?_⟩)
      exact ⟨_, _, .cons (.there .here) (.cons (.there .here) (.cons (.there (.there (.there (.there .here)))) .nil)), rfl, rfl⟩
    | some p =>
      simp only [hu, Option.isSome_some] at lk
      rw [hu] at hd
      simp at hd
      repeat' (first|(refine Rg.callM rfl k34 (.cons (.there (.there (.there .here))) (.cons (.there (.there (.there .here))) .nil)) ?_; rintro _ _ ⟨rfl, rfl⟩)|(refine Rg.r rfl rfl (lk _ (.there (.there (.there (.there (.there .here)))))) ?_)|refine zz ?_|(refine zw ?_;refine And.intro ?_ ?_<;>intro hc)|(refine zv ?_;intro cv hv)|(refine za ?_;intro _)|refine zc ?_|(refine zd ?_;refine And.intro ?_ ?_<;>(intro e;(try simp only [Bool.not_eq_true',Bool.not_eq_false'] at e);subst e;try contradiction)))
      refine Rg.e (Ef.mdel (k := k) (es := es) rfl rfl (.there (.there (.there (.there (.there (.there Upd.here))))))) ?_
      rintro _ _ ⟨rfl, rfl⟩
      repeat' (first|refine zz ?_|(refine zw ?_;refine And.intro ?_ ?_<;>intro hc)|(refine zv ?_;intro cv hv)|(refine za ?_;intro _)|refine zc ?_|(refine zd ?_;refine And.intro ?_ ?_<;>(intro e;(try simp only [Bool.not_eq_true',Bool.not_eq_false'] at e);subst e;try contradiction)))
      (first|refine ⟨.inr rfl,_,.t rfl .nil,?_⟩|refine ⟨.inr rfl,_,.t rfl (.t rfl .nil),?_⟩|refine ⟨.inr rfl,_,.t rfl (.t rfl (.t rfl .nil)),?_⟩|refine ⟨.inr rfl,_,.nil,?_⟩|refine ⟨.inl rfl,_,.t rfl .nil,?_⟩|refine ⟨.inl rfl,_,.nil,?_⟩|refine ⟨.inr rfl,_,.cn rfl (by exact zN) .nil,?_⟩|refine ⟨.inr rfl,_,.cn rfl (by exact zN) (.t rfl .nil),?_⟩)
      rw [show (delE k es).length + c = es.length + c - 1 by omega]
      exact ⟨_, _, .cons (.there .here) (.cons (.there .here) (.cons (.there (.there (.there (.there .here)))) .nil)), rfl, rfl⟩
  · rw [putM, putN, if_neg h0, if_neg h0]
    cases hu2 : under k es with
    | none => exact absurd hu2 (hu.resolve_left h0)
    | some p =>
      simp only [hu2, Option.isSome_some] at lk
      rw [hu2] at hp
      simp at hp
      repeat' (first|(refine Rg.callM rfl k34 (.cons (.there (.there (.there .here))) (.cons (.there (.there (.there .here))) .nil)) ?_; rintro _ _ ⟨rfl, rfl⟩)|(refine Rg.r rfl rfl (lk _ (.there (.there (.there (.there (.there .here)))))) ?_)|refine zz ?_|(refine zw ?_;refine And.intro ?_ ?_<;>intro hc)|(refine zv ?_;intro cv hv)|(refine za ?_;intro _)|refine zc ?_|(refine zd ?_;refine And.intro ?_ ?_<;>(intro e;(try simp only [Bool.not_eq_true',Bool.not_eq_false'] at e);subst e;try contradiction)))
      refine Rg.e (Ef.mupd (k := k) (v := v) (es := es) rfl rfl rfl (.there (.there (.there (.there (.there (.there Upd.here))))))) ?_
      rintro _ _ ⟨rfl, rfl⟩
      repeat' (first|refine zz ?_|(refine zw ?_;refine And.intro ?_ ?_<;>intro hc)|(refine zv ?_;intro cv hv)|(refine za ?_;intro _)|refine zc ?_|(refine zd ?_;refine And.intro ?_ ?_<;>(intro e;(try simp only [Bool.not_eq_true',Bool.not_eq_false'] at e);subst e;try contradiction)))
      (first|refine ⟨.inr rfl,_,.t rfl .nil,?_⟩|refine ⟨.inr rfl,_,.t rfl (.t rfl .nil),?_⟩|refine ⟨.inr rfl,_,.t rfl (.t rfl (.t rfl .nil)),?_⟩|refine ⟨.inr rfl,_,.nil,?_⟩|refine ⟨.inl rfl,_,.t rfl .nil,?_⟩|refine ⟨.inl rfl,_,.nil,?_⟩|refine ⟨.inr rfl,_,.cn rfl (by exact zN) .nil,?_⟩|refine ⟨.inr rfl,_,.cn rfl (by exact zN) (.t rfl .nil),?_⟩)
      rw [hp]
      exact ⟨_, _, .cons (.there .here) (.cons (.there .here) (.cons (.there (.there (.there (.there .here)))) .nil)), rfl, rfl⟩
end
end Go.Proofs.Ytlflpjjmkigepaa

namespace Go.Proofs.Ytlflpjjmkigepaa
open Go Go.Abs
structure Cl where
  u : Int
  p : Int
  cells : List Int
structure MH where
  room : Nat
  used : Nat
  tabs : List (List KV)
  fns : List Cl
  cells : List Val
structure MH.ok (H : MH) : Prop where
  room : H.room ≤ 1000000
  used : H.used = H.tabs.length + H.fns.length + (H.tabs.map List.length).sum
  le : H.used ≤ H.room
  srt : ∀ L, L ∈ H.tabs → Srt L
  kl : ∀ L, L ∈ H.tabs → ∀ e, e ∈ L → e.1.s.length ≤ 1024
/-- Which table a value is. -/
def tabI (H : MH) (t : Val) : Option Nat := if t.k = 3 ∧ 0 ≤ t.n ∧ t.n < (H.tabs.length : Int) then some t.n.toNat else none
def tabL (H : MH) (i : Nat) : List KV := (H.tabs[i]?).getD []
def mGet (H : MH) (t k : Val) : Val × Nat := match tabI H t with
  | none => (v0, 1)
  | some i => if keyB k = true then (getL k (tabL H i), 0) else (v0, 4)
def mPut (H : MH) (t k v : Val) : MH × Nat := match tabI H t with
  | none => (H, 1)
  | some i => if keyB k = true then
      if v.k ≠ 0 ∧ hasL k (tabL H i) = false ∧ H.used = H.room then (H, 8)
      else ({ H with used := H.used - (tabL H i).length + (setL k v (tabL H i)).length, tabs := H.tabs.set i (setL k v (tabL H i)) }, 0)
    else (H, 4)
def mLen (H : MH) (t : Val) : Nat × Nat := match tabI H t with
  | none => (0, 1)
  | some i => ((tabL H i).length, 0)
def mKeys (H : MH) (t : Val) : List Val := match tabI H t with
  | none => []
  | some i => (tabL H i).map fun e => e.1
def mTable (H : MH) : MH × Val × Nat := if H.used < H.room then ({ H with used := H.used + 1, tabs := H.tabs ++ [[]] }, ⟨3, H.tabs.length, []⟩, 0) else (H, v0, 8)
def mFn (H : MH) (c : Cl) : MH × Val × Nat := if H.used < H.room then ({ H with used := H.used + 1, fns := H.fns ++ [c] }, ⟨4, H.fns.length, []⟩, 0) else (H, v0, 8)
theorem tabI_none {H : MH} {t : Val} (h : tabI H t = none) : ¬ (t.k = 3 ∧ 0 ≤ t.n ∧ t.n < (H.tabs.length : Int)) := by
  unfold tabI at h
  split at h
  · cases h
  · assumption
theorem tabI_some {H : MH} {t : Val} {i : Nat} (h : tabI H t = some i) : t = ⟨3, (i : Int), t.s⟩ ∧ i < H.tabs.length := by
  unfold tabI at h
  split at h
  · rename_i e
    cases h
    refine ⟨?_, by omega⟩
    cases t with | mk tk tn ts =>
    simp only [Val.mk.injEq, and_true] at e ⊢
    exact ⟨e.1, by omega⟩
  · cases h
theorem sum_set {l : List Nat} : ∀ {i x : Nat}, i < l.length → (l.set i x).sum + (l[i]?).getD 0 = l.sum + x := by
  induction l with
  | nil => intro i x h; simp at h
  | cons a l ih =>
    intro i x h
    cases i with
    | zero => simp; omega
    | succ i =>
      have := ih (i := i) (x := x) (by simpa using h)
      simp only [List.set_cons_succ, List.sum_cons, List.getElem?_cons_succ] at this ⊢
      omega
theorem len_le {H : MH} {i : Nat} (h : i < H.tabs.length) : (tabL H i).length ≤ (H.tabs.map List.length).sum := by
  have := sum_set (l := H.tabs.map List.length) (i := i) (x := 0) (by simpa using h)
  rw [List.getElem?_map, List.getElem?_eq_getElem h] at this
  rw [tabL, List.getElem?_eq_getElem h]
  simp only [Option.map_some, Option.getD_some] at this ⊢
  omega
/-! The heap in memory. -/
def cloW (c : Cl) (o : OS) : List AV := [.int .i64 c.u, .int .i64 c.p, o.v 1]
structure PH where
  T : OS
  F : OS
  C : OS
  ms : List Nat
  ts : List (List Ent × Nat)
def tabC (ms : List Nat) (ts : List (List Ent × Nat)) : Chk := List.zipWith (fun m t => (m, AObj.map (entsA t.1) t.2)) ms ts
abbrev PH.mem (X : PH) (b : Nat) (H : MH) : Mem := [hB b H.room H.used (X.T.v 1) (X.F.v 3) (X.C.v 3), X.T.c, X.F.c, X.C.c, tabC X.ms X.ts]
structure PH.ok (X : PH) (H : MH) (fs : List OS) : Prop where
  T1 : X.T.ok 1
  T2 : X.T.rows = X.ms.map fun m => [AV.map m]
  m1 : X.ms.length = H.tabs.length
  t1 : X.ts.length = H.tabs.length
  tr : ∀ (i : Nat) (t : List Ent × Nat) (L : List KV), X.ts[i]? = some t → H.tabs[i]? = some L → TRel t.1 t.2 L
  F1 : X.F.ok 3
  F2 : X.F.rows = List.zipWith cloW H.fns fs
  f1 : fs.length = H.fns.length
  fr : ∀ (i : Nat) (c : Cl) (o : OS), H.fns[i]? = some c → fs[i]? = some o → o.ok 1 ∧ o.rows = c.cells.map rowI
  C1 : X.C.ok 3
  C2 : X.C.rows = H.cells.map valR
/-- A chunk holds a heap; its closures' cells stand elsewhere. -/
def HC (b : Nat) (H : MH) (fs : List OS) (c : Chk) : Prop := ∃ X : PH, X.ok H fs ∧ c = (X.mem b H).flatten
theorem tabC_at {m : Nat} {t : List Ent × Nat} : ∀ {i : Nat} {ms : List Nat} {ts : List (List Ent × Nat)}, ms[i]? = some m → ts[i]? = some t → (tabC ms ts).Perm ((m, AObj.map (entsA t.1) t.2) :: tabC (ms.eraseIdx i) (ts.eraseIdx i))
  | 0, a :: ms, x :: ts, h1, h2 => by
    simp at h1 h2; subst h1; subst h2
    exact .refl _
  | i + 1, a :: ms, x :: ts, h1, h2 => by
    have := tabC_at (i := i) (ms := ms) (ts := ts) (by simpa using h1) (by simpa using h2)
    simp only [tabC, List.zipWith_cons_cons, List.eraseIdx_cons_succ] at this ⊢
    exact (this.cons _).trans (List.Perm.swap _ _ _)
  | 0, [], _, h1, _ => by simp at h1
  | i + 1, [], _, h1, _ => by simp at h1
  | 0, _ :: _, [], _, h2 => by simp at h2
  | i + 1, _ :: _, [], _, h2 => by simp at h2
theorem era_set {α : Type} {x : α} : ∀ {i : Nat} {l : List α}, (l.set i x).eraseIdx i = l.eraseIdx i
  | _, [] => rfl
  | 0, _ :: _ => rfl
  | i + 1, a :: l => by simp [era_set (i := i) (l := l)]
theorem perm5 (a h f c : Chk) {d d' : Chk} {x : Nat × AObj} (hd : d.Perm (x :: d')) : (a ++ (h ++ (f ++ (c ++ d)))).Perm (a ++ (h ++ ([x] ++ (f ++ (c ++ d'))))) := by
  refine List.Perm.append_left _ (List.Perm.append_left _ ?_)
  have h1 : (f ++ (c ++ d)).Perm (f ++ (c ++ ([x] ++ d'))) := List.Perm.append_left _ (List.Perm.append_left _ hd)
  exact h1.trans ((List.Perm.append_left _ (List.perm_append_comm_assoc _ _ _)).trans (List.perm_append_comm_assoc _ _ _))
section
variable {b : Nat} {H : MH} {fs : List OS} {X : PH}
theorem PH.ok.at (hX : X.ok H fs) {i : Nat} (hi : i < H.tabs.length) : ∃ m t, X.ms[i]? = some m ∧ X.ts[i]? = some t ∧ X.T.rows[i]? = some [.map m] ∧ TRel t.1 t.2 (tabL H i) := by
  have h1 : i < X.ms.length := by rw [hX.m1]; exact hi
  have h2 : i < X.ts.length := by rw [hX.t1]; exact hi
  refine ⟨X.ms[i], X.ts[i], List.getElem?_eq_getElem h1, List.getElem?_eq_getElem h2, ?_, ?_⟩
  · rw [hX.T2, List.getElem?_map, List.getElem?_eq_getElem h1]; rfl
  · have := hX.tr i _ _ (List.getElem?_eq_getElem h2) (List.getElem?_eq_getElem hi)
    rwa [tabL, List.getElem?_eq_getElem hi]
theorem PH.ok.not (hX : X.ok H fs) {t : Val} (h : tabI H t = none) : ¬ isT X.T t := by
  have := tabI_none h
  rw [isT, hX.T2, List.length_map, hX.m1]
  exact this
/-- The memory of a heap, one table and its slice ahead. -/
theorem PH.perm {i m : Nat} {t : List Ent × Nat} (h1 : X.ms[i]? = some m) (h2 : X.ts[i]? = some t) : (X.mem b H).flatten.Perm ([hB b H.room H.used (X.T.v 1) (X.F.v 3) (X.C.v 3), X.T.c, mC m t.2 t.1] ++ [X.F.c, X.C.c, tabC (X.ms.eraseIdx i) (X.ts.eraseIdx i)]).flatten := by
  have := perm5 (hB b H.room H.used (X.T.v 1) (X.F.v 3) (X.C.v 3)) X.T.c X.F.c X.C.c (tabC_at h1 h2)
  simpa using this
variable {c : Chk}
theorem getH (hX : HC b H fs c) {t k : Val} : CT Try.prog false 27 [hP b, valA t, valA k] [c] fun w K' => w = .tup [valA (mGet H t k).1, .int .i64 (.ofNat (mGet H t k).2)] ∧ K' = [c] := by
  obtain ⟨X, hX, rfl⟩ := hX
  cases ht : tabI H t with
  | none =>
    refine CT.over (m := [hB b H.room H.used (X.T.v 1) (X.F.v 3) (X.C.v 3)]) (r := [X.T.c, X.F.c, X.C.c, tabC X.ms X.ts]) (by simp) (get18F hX.T1 (hX.not ht)) ?_
    rintro v m' ⟨rfl, rfl⟩
    exact ⟨_, by simp, by simp only [mGet, ht], rfl⟩
  | some i =>
    obtain ⟨e, hi⟩ := tabI_some ht
    obtain ⟨m, x, h1, h2, h3, h4⟩ := hX.at hi
    rw [e] at ht ⊢
    cases hk : keyB k with
    | false =>
      refine CT.over (m := [hB b H.room H.used (X.T.v 1) (X.F.v 3) (X.C.v 3), X.T.c]) (r := [X.F.c, X.C.c, tabC X.ms X.ts]) (by simp) (get18K hX.T1 h3 hk) ?_
      rintro v m' ⟨rfl, rfl⟩
      exact ⟨_, by simp, by simp [mGet, ht, hk], rfl⟩
    | true =>
      have hp := PH.perm (b := b) (H := H) h1 h2
      refine CT.over (m := [hB b H.room H.used (X.T.v 1) (X.F.v 3) (X.C.v 3), X.T.c, mC m x.2 x.1]) (r := [X.F.c, X.C.c, tabC (X.ms.eraseIdx i) (X.ts.eraseIdx i)]) (by simpa using hp) (get18 hX.T1 h3 hk) ?_
      rintro v m' ⟨rfl, rfl⟩
      exact ⟨[(X.mem b H).flatten], by simpa using hp.symm, by simp [mGet, ht, hk, h4.get], rfl⟩
theorem lenH (hX : HC b H fs c) {t : Val} : CT Try.prog false 39 [hP b, valA t] [c] fun w K' => w = .tup [.int .i64 (.ofNat (mLen H t).1), .int .i64 (.ofNat (mLen H t).2)] ∧ K' = [c] := by
  obtain ⟨X, hX, rfl⟩ := hX
  cases ht : tabI H t with
  | none =>
    refine CT.over (m := [hB b H.room H.used (X.T.v 1) (X.F.v 3) (X.C.v 3)]) (r := [X.T.c, X.F.c, X.C.c, tabC X.ms X.ts]) (by simp) (len20F hX.T1 (hX.not ht)) ?_
    rintro v m' ⟨rfl, rfl⟩
    exact ⟨_, by simp, by simp only [mLen, ht], rfl⟩
  | some i =>
    obtain ⟨e, hi⟩ := tabI_some ht
    obtain ⟨m, x, h1, h2, h3, h4⟩ := hX.at hi
    rw [e] at ht ⊢
    have hp := PH.perm (b := b) (H := H) h1 h2
    refine CT.over (m := [hB b H.room H.used (X.T.v 1) (X.F.v 3) (X.C.v 3), X.T.c, mC m x.2 x.1]) (r := [X.F.c, X.C.c, tabC (X.ms.eraseIdx i) (X.ts.eraseIdx i)]) (by simpa using hp) (len20 hX.T1 h3) ?_
    rintro v m' ⟨rfl, rfl⟩
    exact ⟨[(X.mem b H).flatten], by simpa using hp.symm, by simp [mLen, ht, h4.len], rfl⟩
theorem keysH (hX : HC b H fs c) {t : Val} (hl : ∀ L, L ∈ H.tabs → L.length ≤ 1000) : CT Try.prog true 24 [hP b, valA t] [c] fun w K' => ∃ O : OS, O.ok 3 ∧ O.rows = (mKeys H t).map valR ∧ w = O.v 3 ∧ K' = [c, O.c] := by
  obtain ⟨X, hX, rfl⟩ := hX
  cases ht : tabI H t with
  | none =>
    refine CT.over (m := [hB b H.room H.used (X.T.v 1) (X.F.v 3) (X.C.v 3)]) (r := [X.T.c, X.F.c, X.C.c, tabC X.ms X.ts]) (by simp) (keys17F hX.T1 (hX.not ht)) ?_
    rintro v m' ⟨rfl, rfl⟩
    exact ⟨_, by simp [OS.c], ⟨none, []⟩, OS.ok.nil, by simp [mKeys, ht], rfl, rfl⟩
  | some i =>
    obtain ⟨e, hi⟩ := tabI_some ht
    obtain ⟨m, x, h1, h2, h3, h4⟩ := hX.at hi
    rw [e] at ht ⊢
    have hp := PH.perm (b := b) (H := H) h1 h2
    have hL : (tabL H i).length ≤ 1000 := hl _ (by rw [tabL, List.getElem?_eq_getElem hi]; exact List.getElem_mem hi)
    refine CT.over (m := [hB b H.room H.used (X.T.v 1) (X.F.v 3) (X.C.v 3), X.T.c, mC m x.2 x.1]) (r := [X.F.c, X.C.c, tabC (X.ms.eraseIdx i) (X.ts.eraseIdx i)]) (by simpa using hp) (keys17 hX.T1 h3 h4.good h4.canE (by rw [h4.len]; exact hL)) ?_
    rintro v m' ⟨O, os, hO, hr, hpm, hs, rfl, rfl⟩
    refine ⟨[(X.mem b H).flatten, O.c], ?_, O, hO, by rw [hr, h4.keys hpm hs]; simp [mKeys, ht], rfl, rfl⟩
    have h5 := (List.Perm.append_right O.c hp).symm
    have h6 : (O.c ++ (X.F.c ++ (X.C.c ++ tabC (X.ms.eraseIdx i) (X.ts.eraseIdx i)))).Perm (X.F.c ++ (X.C.c ++ (tabC (X.ms.eraseIdx i) (X.ts.eraseIdx i) ++ O.c))) := by
      refine List.perm_append_comm.trans ?_
      simp
    refine List.Perm.trans ?_ (List.Perm.trans h5 (by simp))
    simpa using List.Perm.append_left X.T.c (List.Perm.cons (m, AObj.map (entsA x.1) x.2) h6)
end
end Go.Proofs.Ytlflpjjmkigepaa

namespace Go.Proofs.Ytlflpjjmkigepaa
open Go Go.Abs
theorem tabL_mem {H : MH} {i : Nat} (h : i < H.tabs.length) : tabL H i ∈ H.tabs := by
  rw [tabL, List.getElem?_eq_getElem h]; exact List.getElem_mem h
theorem mem_setL {k v : Val} {L : List KV} {e : KV} (h : e ∈ setL k v L) : e ∈ L ∨ e = (k, v) := by
  unfold setL at h
  split at h
  · exact .inl (List.mem_filter.1 h).1
  · rcases List.mem_append.1 h with h | h
    · exact .inl (List.mem_filter.1 h).1
    · rcases List.mem_cons.1 h with h | h
      · exact .inr h
      · exact .inl (List.mem_filter.1 h).1
theorem MH.ok.put {H : MH} {t k v : Val} (h : H.ok) (hk : keyB k = true → Can k) (hkl : keyB k = true → k.s.length ≤ 1024) : (mPut H t k v).1.ok := by
  unfold mPut
  split
  · exact h
  · rename_i i hi
    obtain ⟨_, hi⟩ := tabI_some hi
    split
    · rename_i hkb
      split
      · exact h
      · rename_i hno
        have hs := h.srt _ (tabL_mem hi)
        have hlen := setL_len (v := v) hs (hk hkb)
        have hle := len_le hi
        have hsum := sum_set (l := H.tabs.map List.length) (i := i) (x := (setL k v (tabL H i)).length) (by simpa using hi)
        rw [List.getElem?_map, List.getElem?_eq_getElem hi] at hsum
        have e : tabL H i = H.tabs[i] := by rw [tabL, List.getElem?_eq_getElem hi]; rfl
        simp only [Option.map_some, Option.getD_some, ← e] at hsum
        have hu := h.used
        have hl := h.le
        refine ⟨h.room, ?_, ?_, ?_, ?_⟩
        · simp only [List.length_set, List.map_set]
          omega
        · show H.used - (tabL H i).length + (setL k v (tabL H i)).length ≤ H.room
          by_cases h0 : v.k = 0
          · simp only [h0, if_true] at hlen
            omega
          · simp only [h0, if_false] at hlen
            cases hh : hasL k (tabL H i) with
            | true => simp only [hh, if_true] at hlen; omega
            | false =>
              simp only [hh, Bool.false_eq_true, if_false] at hlen
              have : H.used ≠ H.room := fun e => hno ⟨h0, hh, e⟩
              omega
        · intro L hL
          rcases List.mem_or_eq_of_mem_set hL with hL | rfl
          · exact h.srt L hL
          · exact hs.set (hk hkb)
        · intro L hL e he
          rcases List.mem_or_eq_of_mem_set hL with hL | rfl
          · exact h.kl L hL e he
          · rcases mem_setL he with he | rfl
            · exact h.kl _ (tabL_mem hi) e he
            · exact hkl hkb
    · exact h
theorem MH.ok.table {H : MH} (h : H.ok) : (mTable H).1.ok := by
  unfold mTable
  split
  · have hu := h.used
    refine ⟨h.room, ?_, ?_, ?_, ?_⟩
    · simp only [List.length_append, List.length_singleton, List.map_append, List.map_cons, List.map_nil, List.sum_append, List.sum_cons, List.sum_nil, List.length_nil]
      omega
    · show H.used + 1 ≤ H.room; omega
    · intro L hL
      rcases List.mem_append.1 hL with hL | hL
      · exact h.srt L hL
      · rw [List.mem_singleton] at hL; subst hL; exact ⟨.nil, fun _ h => by cases h⟩
    · intro L hL e he
      rcases List.mem_append.1 hL with hL | hL
      · exact h.kl L hL e he
      · rw [List.mem_singleton] at hL; subst hL; cases he
  · exact h
theorem MH.ok.fn {H : MH} {q : Cl} (h : H.ok) : (mFn H q).1.ok := by
  unfold mFn
  split
  · have hu := h.used
    exact ⟨h.room, by simp only [List.length_append, List.length_singleton]; omega, by show H.used + 1 ≤ H.room; omega, h.srt, h.kl⟩
  · exact h
section
variable {b : Nat} {H : MH} {fs : List OS} {X : PH} {c : Chk}
theorem PH.ok.put (hX : X.ok H fs) {i u : Nat} {es : List Ent} {ck : Nat} {L : List KV} (hi : i < H.tabs.length) (h : TRel es ck L) : PH.ok { X with ts := X.ts.set i (es, ck) } { H with used := u, tabs := H.tabs.set i L } fs where
  T1 := hX.T1
  T2 := hX.T2
  m1 := by rw [List.length_set]; exact hX.m1
  t1 := by rw [List.length_set, List.length_set]; exact hX.t1
  tr := fun j t M h1 h2 => by
    by_cases e : i = j
    · subst e
      rw [List.getElem?_set_self (by rw [hX.t1]; exact hi)] at h1
      rw [List.getElem?_set_self hi] at h2
      cases h1; cases h2
      exact h
    · rw [List.getElem?_set_ne e] at h1 h2
      exact hX.tr j t M h1 h2
  F1 := hX.F1
  F2 := hX.F2
  f1 := hX.f1
  fr := hX.fr
  C1 := hX.C1
  C2 := hX.C2
theorem putH (hX : HC b H fs c) (hok : H.ok) {t k v : Val} (hk : keyB k = true → Can k) : CT Try.prog false 30 [hP b, valA t, valA k, valA v] [c] fun w K' => w = .int .i64 (.ofNat (mPut H t k v).2) ∧ ∃ c', HC b (mPut H t k v).1 fs c' ∧ K' = [c'] := by
  obtain ⟨X, hX, rfl⟩ := hX
  cases ht : tabI H t with
  | none =>
    refine CT.over (m := [hB b H.room H.used (X.T.v 1) (X.F.v 3) (X.C.v 3)]) (r := [X.T.c, X.F.c, X.C.c, tabC X.ms X.ts]) (by simp) (put14F hX.T1 (hX.not ht)) ?_
    rintro v m' ⟨rfl, rfl⟩
    exact ⟨[(X.mem b H).flatten], by simp, by simp only [mPut, ht], _, ⟨X, by simp only [mPut, ht]; exact hX, by simp only [mPut, ht]⟩, rfl⟩
  | some i =>
    obtain ⟨e, hi⟩ := tabI_some ht
    obtain ⟨m, x, h1, h2, h3, h4⟩ := hX.at hi
    simp only [mPut, ht]
    rw [e]
    cases hkb : keyB k with
    | false =>
      refine CT.over (m := [hB b H.room H.used (X.T.v 1) (X.F.v 3) (X.C.v 3), X.T.c]) (r := [X.F.c, X.C.c, tabC X.ms X.ts]) (by simp) (put14K hX.T1 h3 hkb) ?_
      rintro v m' ⟨rfl, rfl⟩
      exact ⟨[(X.mem b H).flatten], by simp, by simp, _, ⟨X, hX, rfl⟩, rfl⟩
    | true =>
      rw [if_pos rfl]
      have hp := PH.perm (b := b) (H := H) h1 h2
      have hh := h4.has k
      have hlen := h4.len
      have hle := len_le hi
      have hu := hok.used
      have hl := hok.le
      by_cases hA : v.k ≠ 0 ∧ hasL k (tabL H i) = false ∧ H.used = H.room
      · rw [if_pos hA]
        have hn : under k x.1 = none := by
          rw [hA.2.1] at hh
          cases hu : under k x.1 with
          | none => rfl
          | some p => rw [hu] at hh; cases hh
        refine CT.over (m := [hB b H.room H.used (X.T.v 1) (X.F.v 3) (X.C.v 3), X.T.c, mC m x.2 x.1]) (r := [X.F.c, X.C.c, tabC (X.ms.eraseIdx i) (X.ts.eraseIdx i)]) (by simpa using hp) (put14R hX.T1 h3 hkb hA.1 hn hA.2.2 hok.room) ?_
        rintro v m' ⟨rfl, rfl⟩
        exact ⟨[(X.mem b H).flatten], by simpa using hp.symm, rfl, _, ⟨X, hX, rfl⟩, rfl⟩
      · rw [if_neg hA]
        have hput := h4.put (v := v) (hk hkb)
        have eu : x.1.length + (H.used - (tabL H i).length) = H.used := by omega
        have hc : CT Try.prog false 30 [hP b, valA ⟨3, (i : Int), t.s⟩, valA k, valA v] [hB b H.room H.used (X.T.v 1) (X.F.v 3) (X.C.v 3), X.T.c, mC m x.2 x.1]
            fun w K' => w = .int .i64 (.ofNat 0) ∧ K' = [hB b H.room ((putM k v x.1 x.2).length + (H.used - (tabL H i).length)) (X.T.v 1) (X.F.v 3) (X.C.v 3), X.T.c, mC m (putN k v x.1 x.2) (putM k v x.1 x.2)] := by
          by_cases h0 : v.k = 0 ∨ under k x.1 ≠ none
          · have := put14S (b := b) (vf := X.F.v 3) (vc := X.C.v 3) (s := t.s) (c := H.used - (tabL H i).length) (ck := x.2) (v := v) hX.T1 h3 hkb h0 (by rw [eu]; exact hl) hok.room
            rwa [eu] at this
          · have h0' : v.k ≠ 0 ∧ under k x.1 = none := by
              refine ⟨fun e => h0 (.inl e), ?_⟩
              cases hu : under k x.1 with
              | none => rfl
              | some p => exact absurd (.inr (by rw [hu]; simp)) h0
            have hne : H.used ≠ H.room := fun e => hA ⟨h0'.1, by rw [← hh, h0'.2]; rfl, e⟩
            have := put14 (b := b) (vf := X.F.v 3) (vc := X.C.v 3) (s := t.s) (c := H.used - (tabL H i).length) (ck := x.2) (v := v) hX.T1 h3 hkb (by rw [eu]; omega) hok.room
            rwa [eu] at this
        refine CT.over (r := [X.F.c, X.C.c, tabC (X.ms.eraseIdx i) (X.ts.eraseIdx i)]) (by simpa using hp) hc ?_
        rintro v' m' ⟨rfl, rfl⟩
        have hX' := hX.put (u := H.used - (tabL H i).length + (setL k v (tabL H i)).length) hi hput
        have hp' := PH.perm (b := b) (H := { H with used := H.used - (tabL H i).length + (setL k v (tabL H i)).length, tabs := H.tabs.set i (setL k v (tabL H i)) }) (X := { X with ts := X.ts.set i (putM k v x.1 x.2, putN k v x.1 x.2) }) h1 (List.getElem?_set_self (by rw [hX.t1]; exact hi))
        refine ⟨[_], ?_, rfl, _, ⟨_, hX', rfl⟩, rfl⟩
        rw [hput.len, Nat.add_comm (setL k v (tabL H i)).length]
        rw [era_set] at hp'
        simpa using hp'.symm
theorem tableH (hX : HC b H fs c) (hok : H.ok) : CT Try.prog false 29 [hP b] [c] fun w K' => w = .tup [valA (mTable H).2.1, .int .i64 (.ofNat (mTable H).2.2)] ∧ ∃ c', HC b (mTable H).1 fs c' ∧ K' = [c'] := by
  obtain ⟨X, hX, rfl⟩ := hX
  have hu := hok.used
  have hl := hok.le
  have hr := hok.room
  unfold mTable
  split
  · rename_i h
    refine CT.over (m := [hB b H.room H.used (X.T.v 1) (X.F.v 3) (X.C.v 3), X.T.c]) (r := [X.F.c, X.C.c, tabC X.ms X.ts]) (by simp) (table12 h hr hX.T1 (by rw [hX.T2, List.length_map, hX.m1]; omega)) ?_
    rintro v m' ⟨rfl, T', m, hT', hT2, rfl⟩
    refine ⟨[_], ?_, by rw [hX.T2, List.length_map, hX.m1], _, ⟨⟨T', X.F, X.C, X.ms ++ [m], X.ts ++ [([], 0)]⟩, ⟨hT', by rw [hT2, hX.T2]; simp, ?_, ?_, ?_, hX.F1, hX.F2, hX.f1, hX.fr, hX.C1, hX.C2⟩, rfl⟩, rfl⟩
    · have : tabC (X.ms ++ [m]) (X.ts ++ [([], 0)]) = tabC X.ms X.ts ++ mC m 0 [] := by
        unfold tabC
        rw [List.zipWith_append (by rw [hX.m1, hX.t1])]
        rfl
      simp only [PH.mem, this]
      simp only [List.flatten_cons, List.flatten_append, List.flatten_nil, List.append_nil, List.append_assoc, List.cons_append, List.nil_append]
      refine List.Perm.cons _ (List.Perm.append_left _ ?_)
      refine (List.perm_append_comm (l₁ := mC m 0 [])).trans ?_
      simp
    · simp [hX.m1]
    · simp [hX.t1]
    · intro i t L h1 h2
      by_cases hi : i < H.tabs.length
      · rw [List.getElem?_append_left (by rw [hX.t1]; exact hi)] at h1
        rw [List.getElem?_append_left hi] at h2
        exact hX.tr i t L h1 h2
      · rw [List.getElem?_append_right (by rw [hX.t1]; omega), hX.t1] at h1
        rw [List.getElem?_append_right (by omega)] at h2
        have : i - H.tabs.length = 0 := by
          rcases Nat.eq_zero_or_pos (i - H.tabs.length) with h | h
          · exact h
          · rw [List.getElem?_eq_none (by simp; omega)] at h2; cases h2
        rw [this] at h1 h2
        cases h1; cases h2
        exact TRel.nil
  · rename_i h
    refine CT.over (m := [hB b H.room H.used (X.T.v 1) (X.F.v 3) (X.C.v 3)]) (r := [X.T.c, X.F.c, X.C.c, tabC X.ms X.ts]) (by simp) (table12F (by omega) hr) ?_
    rintro v m' ⟨rfl, rfl⟩
    exact ⟨[(X.mem b H).flatten], by simp, rfl, _, ⟨X, hX, rfl⟩, rfl⟩
end
end Go.Proofs.Ytlflpjjmkigepaa

namespace Go.Proofs.Ytlflpjjmkigepaa
open Go Go.Abs
attribute [local irreducible] Cmp Rg Dw Cd Lp Ev Rdk CT Upd InK
section
variable {b room used : Nat} {vt vc : AV} {F : OS}
end
section
variable {b : Nat} {H : MH} {fs : List OS} {X : PH} {c : Chk}
theorem PH.ok.fn (hX : X.ok H fs) {F' o : OS} {q : Cl} (hF : F'.ok 3) (ho : o.ok 1) (hor : o.rows = q.cells.map rowI) (hF2 : F'.rows = X.F.rows ++ [[.int .i64 q.u, .int .i64 q.p, o.v 1]]) : PH.ok { X with F := F' } { H with used := H.used + 1, fns := H.fns ++ [q] } (fs ++ [o]) where
  T1 := hX.T1
  T2 := hX.T2
  m1 := hX.m1
  t1 := hX.t1
  tr := hX.tr
  F1 := hF
  F2 := by
    show F'.rows = List.zipWith cloW (H.fns ++ [q]) (fs ++ [o])
    rw [hF2, hX.F2, List.zipWith_append hX.f1.symm]
    rfl
  f1 := by simp [hX.f1]
  fr := fun i c' o' h1 h2 => by
    by_cases hi : i < H.fns.length
    · rw [List.getElem?_append_left hi] at h1
      rw [List.getElem?_append_left (by rw [hX.f1]; exact hi)] at h2
      exact hX.fr i c' o' h1 h2
    · rw [List.getElem?_append_right (by omega)] at h1
      rw [List.getElem?_append_right (by rw [hX.f1]; omega), hX.f1] at h2
      have : i - H.fns.length = 0 := by
        rcases Nat.eq_zero_or_pos (i - H.fns.length) with h | h
        · exact h
        · rw [List.getElem?_eq_none (by simp; omega)] at h2; cases h2
      rw [this] at h1 h2
      cases h1; cases h2
      exact ⟨ho, hor⟩
  C1 := hX.C1
  C2 := hX.C2
def mNew (room : Nat) : MH := ⟨room, 0, [], [], []⟩
theorem MH.ok.new {room : Nat} (h : room ≤ 1000000) : (mNew room).ok := ⟨h, rfl, Nat.zero_le _, (fun L hL => by cases hL), (fun L hL => by cases hL)⟩
theorem newH {n : Int} : CT Try.prog false 19 [.int .i64 n] [] fun v K' => ((n < 0 ∨ 1000000 < n) ∧ v = .tup [.nilptr, .int .i64 (.ofNat 1)]) ∨ ∃ room b c, n = Int.ofNat room ∧ room ≤ 1000000 ∧ v = .tup [hP b, .int .i64 (.ofNat 0)] ∧ HC b (mNew room) [] c ∧ K' = [c] := by
  refine CT.re new9 ?_
  rintro v K' (h | ⟨room, b, h1, h2, h3, rfl⟩)
  · exact ⟨K', .refl _, .inl h⟩
  · refine ⟨_, ?_, .inr ⟨room, b, _, h1, h2, h3, ⟨⟨⟨none, []⟩, ⟨none, []⟩, ⟨none, []⟩, [], []⟩, ⟨OS.ok.nil, rfl, rfl, rfl, fun i t L h => (by cases h), OS.ok.nil, rfl, rfl, fun i c o h => (by cases h), OS.ok.nil, rfl⟩, rfl⟩, rfl⟩⟩
    simp [tabC, OS.c, OS.v, mNew]
end
end Go.Proofs.Ytlflpjjmkigepaa

namespace Go.Proofs.Ytlflpjjmkigepaa
open Go Go.Abs
attribute [local irreducible] Cmp Rg Dw Cd Lp Ev Rdk CT Upd InK
theorem _root_.Go.Abs.row_part {sz i o n : Nat} {rows : List (List AV)} {r cs : List AV} (h : ∀ r, r ∈ rows → r.length = sz) (hi : rows[i]? = some r) (hs : seg r o n = some cs) : seg rows.flatten (0 + i * sz + o) n = some cs := by
  obtain ⟨h1, h2⟩ := flatten_at h hi
  have hr : r.length = sz := h r (List.mem_of_getElem? hi)
  simp only [seg] at hs ⊢
  cases hb : Nat.ble (o + n) r.length with
  | false => rw [hb] at hs; cases hs
  | true =>
    rw [hb, cond_true] at hs
    have hle := Nat.le_of_ble_eq_true hb
    rw [Nat.zero_add, Nat.ble_eq_true_of_le (by rw [Nat.add_mul] at h2; omega), cond_true, ← hs, ← h1, ← List.drop_drop, List.drop_take, List.take_take, Nat.min_eq_left (by omega)]
theorem _root_.Go.Abs.Rdk.part {K : Mem} {id g i o n sz : Nat} {gr : Bool} {rows : List (List AV)} {r cs : List AV} {y : AV} (h : InK K id (.cells rows.flatten g g gr)) (hr : ∀ r, r ∈ rows → r.length = sz) (hi : rows[i]? = some r) (hs : seg r o n = some cs) : Rdk K (.loadn n) (.ptr id g (0 + i * sz + o) n) y (.agg cs) :=
  Rdk.ldn h (Nat.le_refl _) (Nat.le_refl _) (Nat.le_refl _) (row_part hr hi hs)
abbrev rB (r : Nat) (vt vf vc : AV) (n room : Nat) : Chk := [(r, .cells [vt, vf, vc, .int .i64 (.ofNat n), .int .i64 (.ofNat room)] 0 0 false)]
abbrev tP (m : Nat) : AV := .ptr m 0 0 1
abbrev tO (m : Nat) (v : AV) : Chk := [(m, .cells [v] 0 0 false)]
def pairR (e : KV) : List AV := valR e.1 ++ valR e.2
section
variable {r n room : Nat} {vf vc : AV} {T : OS} {t k v : Val}
end
section
variable {r n room i m : Nat} {s : List Nat} {vf vc : AV} {T l : OS} {L : List KV} {k v : Val}
end
end Go.Proofs.Ytlflpjjmkigepaa
