/- Contracts: what is asked of a table that is none, of a key that is none, of a heap without room. -/
import Derived.Test.YtlflpjjmkigepaaPlnB
set_option autoImplicit false
set_option maxRecDepth 100000
set_option maxHeartbeats 4000000
set_option linter.unusedVariables false
set_option linter.unusedSimpArgs false
namespace Go.Proofs.Ytlflpjjmkigepaa
open Go Go.Abs
attribute [local irreducible] Cmp Rg Dw Cd Lp Ev Rdk CT Upd InK
section
variable {b room used : Nat} {vf vc : AV} {T : OS} {t k v : Val}
def isT (T : OS) (t : Val) : Prop := t.k = 3 ∧ 0 ≤ t.n ∧ t.n < (T.rows.length : Int)
end
section
variable {b room used i m ck c : Nat} {s : List Nat} {vf vc : AV} {T : OS} {es : List Ent} {k v : Val}
end
end Go.Proofs.Ytlflpjjmkigepaa

namespace Go.Proofs.Ytlflpjjmkigepaa
open Go Go.Abs
structure Cl where
  u : Int
  p : Int
  cells : List Int
structure MH where
  room : Nat
  used : Nat
  tabs : List (List KV)
  fns : List Cl
  cells : List Val
structure MH.ok (H : MH) : Prop where
  room : H.room ≤ 1000000
  used : H.used = H.tabs.length + H.fns.length + (H.tabs.map List.length).sum
  le : H.used ≤ H.room
  srt : ∀ L, L ∈ H.tabs → Srt L
  kl : ∀ L, L ∈ H.tabs → ∀ e, e ∈ L → e.1.s.length ≤ 1024
/-- Which table a value is. -/
def tabI (H : MH) (t : Val) : Option Nat := if t.k = 3 ∧ 0 ≤ t.n ∧ t.n < (H.tabs.length : Int) then some t.n.toNat else none
def tabL (H : MH) (i : Nat) : List KV := (H.tabs[i]?).getD []
def mPut (H : MH) (t k v : Val) : MH × Nat := match tabI H t with
  | none => (H, 1)
  | some i => if keyB k = true then
      if v.k ≠ 0 ∧ hasL k (tabL H i) = false ∧ H.used = H.room then (H, 8)
      else ({ H with used := H.used - (tabL H i).length + (setL k v (tabL H i)).length, tabs := H.tabs.set i (setL k v (tabL H i)) }, 0)
    else (H, 4)
def mTable (H : MH) : MH × Val × Nat := if H.used < H.room then ({ H with used := H.used + 1, tabs := H.tabs ++ [[]] }, ⟨3, H.tabs.length, []⟩, 0) else (H, v0, 8)
def mFn (H : MH) (c : Cl) : MH × Val × Nat := if H.used < H.room then ({ H with used := H.used + 1, fns := H.fns ++ [c] }, ⟨4, H.fns.length, []⟩, 0) else (H, v0, 8)
theorem tabI_none {H : MH} {t : Val} (h : tabI H t = none) : ¬ (t.k = 3 ∧ 0 ≤ t.n ∧ t.n < (H.tabs.length : Int)) := by
  unfold tabI at h
  split at h
  · cases h
  · assumption
theorem tabI_some {H : MH} {t : Val} {i : Nat} (h : tabI H t = some i) : t = ⟨3, (i : Int), t.s⟩ ∧ i < H.tabs.length := by
  unfold tabI at h
  split at h
  · rename_i e
    cases h
    refine ⟨?_, by omega⟩
    cases t with | mk tk tn ts =>
    simp only [Val.mk.injEq, and_true] at e ⊢
    exact ⟨e.1, by omega⟩
  · cases h
theorem sum_set {l : List Nat} : ∀ {i x : Nat}, i < l.length → (l.set i x).sum + (l[i]?).getD 0 = l.sum + x := by
  induction l with
  | nil => intro i x h; simp at h
  | cons a l ih =>
    intro i x h
    cases i with
    | zero => simp; omega
    | succ i =>
      have := ih (i := i) (x := x) (by simpa using h)
      simp only [List.set_cons_succ, List.sum_cons, List.getElem?_cons_succ] at this ⊢
      omega
theorem len_le {H : MH} {i : Nat} (h : i < H.tabs.length) : (tabL H i).length ≤ (H.tabs.map List.length).sum := by
  have := sum_set (l := H.tabs.map List.length) (i := i) (x := 0) (by simpa using h)
  rw [List.getElem?_map, List.getElem?_eq_getElem h] at this
  rw [tabL, List.getElem?_eq_getElem h]
  simp only [Option.map_some, Option.getD_some] at this ⊢
  omega
/-! The heap in memory. -/
def cloW (c : Cl) (o : OS) : List AV := [.int .i64 c.u, .int .i64 c.p, o.v 1]
structure PH where
  T : OS
  F : OS
  C : OS
  ms : List Nat
  ts : List (List Ent × Nat)
def tabC (ms : List Nat) (ts : List (List Ent × Nat)) : Chk := List.zipWith (fun m t => (m, AObj.map (entsA t.1) t.2)) ms ts
abbrev PH.mem (X : PH) (b : Nat) (H : MH) : Mem := [hB b H.room H.used (X.T.v 1) (X.F.v 3) (X.C.v 3), X.T.c, X.F.c, X.C.c, tabC X.ms X.ts]
structure PH.ok (X : PH) (H : MH) (fs : List OS) : Prop where
  T1 : X.T.ok 1
  T2 : X.T.rows = X.ms.map fun m => [AV.map m]
  m1 : X.ms.length = H.tabs.length
  t1 : X.ts.length = H.tabs.length
  tr : ∀ (i : Nat) (t : List Ent × Nat) (L : List KV), X.ts[i]? = some t → H.tabs[i]? = some L → TRel t.1 t.2 L
  F1 : X.F.ok 3
  F2 : X.F.rows = List.zipWith cloW H.fns fs
  f1 : fs.length = H.fns.length
  fr : ∀ (i : Nat) (c : Cl) (o : OS), H.fns[i]? = some c → fs[i]? = some o → o.ok 1 ∧ o.rows = c.cells.map rowI
  C1 : X.C.ok 3
  C2 : X.C.rows = H.cells.map valR
theorem tabC_at {m : Nat} {t : List Ent × Nat} : ∀ {i : Nat} {ms : List Nat} {ts : List (List Ent × Nat)}, ms[i]? = some m → ts[i]? = some t → (tabC ms ts).Perm ((m, AObj.map (entsA t.1) t.2) :: tabC (ms.eraseIdx i) (ts.eraseIdx i))
  | 0, a :: ms, x :: ts, h1, h2 => by
    simp at h1 h2; subst h1; subst h2
    exact .refl _
  | i + 1, a :: ms, x :: ts, h1, h2 => by
    have := tabC_at (i := i) (ms := ms) (ts := ts) (by simpa using h1) (by simpa using h2)
    simp only [tabC, List.zipWith_cons_cons, List.eraseIdx_cons_succ] at this ⊢
    exact (this.cons _).trans (List.Perm.swap _ _ _)
  | 0, [], _, h1, _ => by simp at h1
  | i + 1, [], _, h1, _ => by simp at h1
  | 0, _ :: _, [], _, h2 => by simp at h2
  | i + 1, _ :: _, [], _, h2 => by simp at h2
theorem perm5 (a h f c : Chk) {d d' : Chk} {x : Nat × AObj} (hd : d.Perm (x :: d')) : (a ++ (h ++ (f ++ (c ++ d)))).Perm (a ++ (h ++ ([x] ++ (f ++ (c ++ d'))))) := by
  refine List.Perm.append_left _ (List.Perm.append_left _ ?_)
  have h1 : (f ++ (c ++ d)).Perm (f ++ (c ++ ([x] ++ d'))) := List.Perm.append_left _ (List.Perm.append_left _ hd)
  exact h1.trans ((List.Perm.append_left _ (List.perm_append_comm_assoc _ _ _)).trans (List.perm_append_comm_assoc _ _ _))
section
variable {b : Nat} {H : MH} {fs : List OS} {X : PH}
theorem PH.ok.at (hX : X.ok H fs) {i : Nat} (hi : i < H.tabs.length) : ∃ m t, X.ms[i]? = some m ∧ X.ts[i]? = some t ∧ X.T.rows[i]? = some [.map m] ∧ TRel t.1 t.2 (tabL H i) := by
  have h1 : i < X.ms.length := by rw [hX.m1]; exact hi
  have h2 : i < X.ts.length := by rw [hX.t1]; exact hi
  refine ⟨X.ms[i], X.ts[i], List.getElem?_eq_getElem h1, List.getElem?_eq_getElem h2, ?_, ?_⟩
  · rw [hX.T2, List.getElem?_map, List.getElem?_eq_getElem h1]; rfl
  · have := hX.tr i _ _ (List.getElem?_eq_getElem h2) (List.getElem?_eq_getElem hi)
    rwa [tabL, List.getElem?_eq_getElem hi]
theorem PH.ok.not (hX : X.ok H fs) {t : Val} (h : tabI H t = none) : ¬ isT X.T t := by
  have := tabI_none h
  rw [isT, hX.T2, List.length_map, hX.m1]
  exact this
/-- The memory of a heap, one table and its slice ahead. -/
theorem PH.perm {i m : Nat} {t : List Ent × Nat} (h1 : X.ms[i]? = some m) (h2 : X.ts[i]? = some t) : (X.mem b H).flatten.Perm ([hB b H.room H.used (X.T.v 1) (X.F.v 3) (X.C.v 3), X.T.c, mC m t.2 t.1] ++ [X.F.c, X.C.c, tabC (X.ms.eraseIdx i) (X.ts.eraseIdx i)]).flatten := by
  have := perm5 (hB b H.room H.used (X.T.v 1) (X.F.v 3) (X.C.v 3)) X.T.c X.F.c X.C.c (tabC_at h1 h2)
  simpa using this
variable {c : Chk}
end
end Go.Proofs.Ytlflpjjmkigepaa

namespace Go.Proofs.Ytlflpjjmkigepaa
open Go Go.Abs
theorem tabL_mem {H : MH} {i : Nat} (h : i < H.tabs.length) : tabL H i ∈ H.tabs := by
  rw [tabL, List.getElem?_eq_getElem h]; exact List.getElem_mem h
theorem mem_setL {k v : Val} {L : List KV} {e : KV} (h : e ∈ setL k v L) : e ∈ L ∨ e = (k, v) := by
  unfold setL at h
  split at h
  · exact .inl (List.mem_filter.1 h).1
  · rcases List.mem_append.1 h with h | h
    · exact .inl (List.mem_filter.1 h).1
    · rcases List.mem_cons.1 h with h | h
      · exact .inr h
      · exact .inl (List.mem_filter.1 h).1
theorem MH.ok.put {H : MH} {t k v : Val} (h : H.ok) (hk : keyB k = true → Can k) (hkl : keyB k = true → k.s.length ≤ 1024) : (mPut H t k v).1.ok := by
  unfold mPut
  split
  · exact h
  · rename_i i hi
    obtain ⟨_, hi⟩ := tabI_some hi
    split
    · rename_i hkb
      split
      · exact h
      · rename_i hno
        have hs := h.srt _ (tabL_mem hi)
        have hlen := setL_len (v := v) hs (hk hkb)
        have hle := len_le hi
        have hsum := sum_set (l := H.tabs.map List.length) (i := i) (x := (setL k v (tabL H i)).length) (by simpa using hi)
        rw [List.getElem?_map, List.getElem?_eq_getElem hi] at hsum
        have e : tabL H i = H.tabs[i] := by rw [tabL, List.getElem?_eq_getElem hi]; rfl
        simp only [Option.map_some, Option.getD_some, ← e] at hsum
        have hu := h.used
        have hl := h.le
        refine ⟨h.room, ?_, ?_, ?_, ?_⟩
        · simp only [List.length_set, List.map_set]
          omega
        · show H.used - (tabL H i).length + (setL k v (tabL H i)).length ≤ H.room
          by_cases h0 : v.k = 0
          · simp only [h0, if_true] at hlen
            omega
          · simp only [h0, if_false] at hlen
            cases hh : hasL k (tabL H i) with
            | true => simp only [hh, if_true] at hlen; omega
            | false =>
              simp only [hh, Bool.false_eq_true, if_false] at hlen
              have : H.used ≠ H.room := fun e => hno ⟨h0, hh, e⟩
              omega
        · intro L hL
          rcases List.mem_or_eq_of_mem_set hL with hL | rfl
          · exact h.srt L hL
          · exact hs.set (hk hkb)
        · intro L hL e he
          rcases List.mem_or_eq_of_mem_set hL with hL | rfl
          · exact h.kl L hL e he
          · rcases mem_setL he with he | rfl
            · exact h.kl _ (tabL_mem hi) e he
            · exact hkl hkb
    · exact h
theorem MH.ok.table {H : MH} (h : H.ok) : (mTable H).1.ok := by
  unfold mTable
  split
  · have hu := h.used
    refine ⟨h.room, ?_, ?_, ?_, ?_⟩
    · simp only [List.length_append, List.length_singleton, List.map_append, List.map_cons, List.map_nil, List.sum_append, List.sum_cons, List.sum_nil, List.length_nil]
      omega
    · show H.used + 1 ≤ H.room; omega
    · intro L hL
      rcases List.mem_append.1 hL with hL | hL
      · exact h.srt L hL
      · rw [List.mem_singleton] at hL; subst hL; exact ⟨.nil, fun _ h => by cases h⟩
    · intro L hL e he
      rcases List.mem_append.1 hL with hL | hL
      · exact h.kl L hL e he
      · rw [List.mem_singleton] at hL; subst hL; cases he
  · exact h
theorem MH.ok.fn {H : MH} {q : Cl} (h : H.ok) : (mFn H q).1.ok := by
  unfold mFn
  split
  · have hu := h.used
    exact ⟨h.room, by simp only [List.length_append, List.length_singleton]; omega, by show H.used + 1 ≤ H.room; omega, h.srt, h.kl⟩
  · exact h
section
variable {b : Nat} {H : MH} {fs : List OS} {X : PH} {c : Chk}
theorem PH.ok.put (hX : X.ok H fs) {i u : Nat} {es : List Ent} {ck : Nat} {L : List KV} (hi : i < H.tabs.length) (h : TRel es ck L) : PH.ok { X with ts := X.ts.set i (es, ck) } { H with used := u, tabs := H.tabs.set i L } fs where
  T1 := hX.T1
  T2 := hX.T2
  m1 := by rw [List.length_set]; exact hX.m1
  t1 := by rw [List.length_set, List.length_set]; exact hX.t1
  tr := fun j t M h1 h2 => by
    by_cases e : i = j
    · subst e
      rw [List.getElem?_set_self (by rw [hX.t1]; exact hi)] at h1
      rw [List.getElem?_set_self hi] at h2
      cases h1; cases h2
      exact h
    · rw [List.getElem?_set_ne e] at h1 h2
      exact hX.tr j t M h1 h2
  F1 := hX.F1
  F2 := hX.F2
  f1 := hX.f1
  fr := hX.fr
  C1 := hX.C1
  C2 := hX.C2
end
end Go.Proofs.Ytlflpjjmkigepaa

namespace Go.Proofs.Ytlflpjjmkigepaa
open Go Go.Abs
attribute [local irreducible] Cmp Rg Dw Cd Lp Ev Rdk CT Upd InK
section
variable {b room used : Nat} {vt vc : AV} {F : OS}
end
section
variable {b : Nat} {H : MH} {fs : List OS} {X : PH} {c : Chk}
theorem PH.ok.fn (hX : X.ok H fs) {F' o : OS} {q : Cl} (hF : F'.ok 3) (ho : o.ok 1) (hor : o.rows = q.cells.map rowI) (hF2 : F'.rows = X.F.rows ++ [[.int .i64 q.u, .int .i64 q.p, o.v 1]]) : PH.ok { X with F := F' } { H with used := H.used + 1, fns := H.fns ++ [q] } (fs ++ [o]) where
  T1 := hX.T1
  T2 := hX.T2
  m1 := hX.m1
  t1 := hX.t1
  tr := hX.tr
  F1 := hF
  F2 := by
    show F'.rows = List.zipWith cloW (H.fns ++ [q]) (fs ++ [o])
    rw [hF2, hX.F2, List.zipWith_append hX.f1.symm]
    rfl
  f1 := by simp [hX.f1]
  fr := fun i c' o' h1 h2 => by
    by_cases hi : i < H.fns.length
    · rw [List.getElem?_append_left hi] at h1
      rw [List.getElem?_append_left (by rw [hX.f1]; exact hi)] at h2
      exact hX.fr i c' o' h1 h2
    · rw [List.getElem?_append_right (by omega)] at h1
      rw [List.getElem?_append_right (by rw [hX.f1]; omega), hX.f1] at h2
      have : i - H.fns.length = 0 := by
        rcases Nat.eq_zero_or_pos (i - H.fns.length) with h | h
        · exact h
        · rw [List.getElem?_eq_none (by simp; omega)] at h2; cases h2
      rw [this] at h1 h2
      cases h1; cases h2
      exact ⟨ho, hor⟩
  C1 := hX.C1
  C2 := hX.C2
def mNew (room : Nat) : MH := ⟨room, 0, [], [], []⟩
theorem MH.ok.new {room : Nat} (h : room ≤ 1000000) : (mNew room).ok := ⟨h, rfl, Nat.zero_le _, (fun L hL => by cases hL), (fun L hL => by cases hL)⟩
end
end Go.Proofs.Ytlflpjjmkigepaa
