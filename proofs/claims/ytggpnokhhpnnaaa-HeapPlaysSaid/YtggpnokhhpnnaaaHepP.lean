/- The document's heap in memory stands for what it holds. -/
import Derived.Test.YtggpnokhhpnnaaaHepN
set_option autoImplicit false
set_option maxRecDepth 100000
set_option maxHeartbeats 4000000
set_option linter.unusedVariables false
set_option linter.unusedSimpArgs false
namespace Go.Proofs.Ytggpnokhhpnnaaa
open Go Go.Abs
structure RH where
  T : OS
  F : OS
  C : OS
  ms : List Nat
  ls : List OS
def tabRC (ms : List Nat) (ls : List OS) : Chk := (List.zipWith (fun m l => tO m (OS.v l 6) ++ l.c) ms ls).flatten
abbrev RH.mem (X : RH) (r : Nat) (H : MH) : Mem := [rB r (X.T.v 1) (X.F.v 3) (X.C.v 3) H.used H.room, X.T.c, X.F.c, X.C.c, tabRC X.ms X.ls]
structure RH.ok (X : RH) (H : MH) (fs : List OS) : Prop where
  T1 : X.T.ok 1
  T2 : X.T.rows = X.ms.map fun m => [tP m]
  m1 : X.ms.length = H.tabs.length
  l1 : X.ls.length = H.tabs.length
  tr : ∀ (i : Nat) (l : OS) (L : List KV), X.ls[i]? = some l → H.tabs[i]? = some L → l.ok 6 ∧ l.rows = L.map pairR
  F1 : X.F.ok 3
  F2 : X.F.rows = List.zipWith cloW H.fns fs
  f1 : fs.length = H.fns.length
  fr : ∀ (i : Nat) (c : Cl) (o : OS), H.fns[i]? = some c → fs[i]? = some o → o.ok 1 ∧ o.rows = c.cells.map rowI
  C1 : X.C.ok 3
  C2 : X.C.rows = H.cells.map valR
def RC (r : Nat) (H : MH) (fs : List OS) (c : Chk) : Prop := ∃ X : RH, X.ok H fs ∧ c = (X.mem r H).flatten
theorem tabRC_at {m : Nat} {l : OS} : ∀ {i : Nat} {ms : List Nat} {ls : List OS}, ms[i]? = some m → ls[i]? = some l → (tabRC ms ls).Perm ([tO m (l.v 6), l.c, tabRC (ms.eraseIdx i) (ls.eraseIdx i)] : Mem).flatten
  | 0, a :: ms, x :: ls, h1, h2 => by
    simp at h1 h2; subst h1; subst h2
    simp [tabRC]
  | i + 1, a :: ms, x :: ls, h1, h2 => by
    have := tabRC_at (i := i) (ms := ms) (ls := ls) (by simpa using h1) (by simpa using h2)
    simp only [tabRC, List.zipWith_cons_cons, List.eraseIdx_cons_succ, List.flatten_cons] at this ⊢
    refine (List.Perm.append_left _ this).trans ?_
    exact chunk_perm [tO a (x.v 6) ++ x.c, tO m (l.v 6), l.c, _] [0, 1, 2, 3] [1, 2, 0, 3] (by decide) |>.trans (by simp)
  | 0, [], _, h1, _ => by simp at h1
  | i + 1, [], _, h1, _ => by simp at h1
  | 0, _ :: _, [], _, h2 => by simp at h2
  | i + 1, _ :: _, [], _, h2 => by simp at h2
theorem last_perm (A D : Mem) {d : Chk} (h : d.Perm D.flatten) : (A ++ [d]).flatten.Perm (A ++ D).flatten := by
  rw [List.flatten_append, List.flatten_append, List.flatten_singleton]
  exact List.Perm.append_left _ h
section
variable {r : Nat} {H : MH} {fs : List OS} {X : RH}
theorem RH.ok.at (hX : X.ok H fs) {i : Nat} (hi : i < H.tabs.length) : ∃ m l, X.ms[i]? = some m ∧ X.ls[i]? = some l ∧ X.T.rows[i]? = some [tP m] ∧ l.ok 6 ∧ l.rows = (tabL H i).map pairR := by
  have h1 : i < X.ms.length := by rw [hX.m1]; exact hi
  have h2 : i < X.ls.length := by rw [hX.l1]; exact hi
  obtain ⟨h3, h4⟩ := hX.tr i _ _ (List.getElem?_eq_getElem h2) (List.getElem?_eq_getElem hi)
  refine ⟨X.ms[i], X.ls[i], List.getElem?_eq_getElem h1, List.getElem?_eq_getElem h2, ?_, h3, ?_⟩
  · rw [hX.T2, List.getElem?_map, List.getElem?_eq_getElem h1]; rfl
  · rw [h4, tabL, List.getElem?_eq_getElem hi]; rfl
theorem RH.ok.not (hX : X.ok H fs) {t : Val} (h : tabI H t = none) : ¬ isT X.T t := by
  have := tabI_none h
  rw [isT, hX.T2, List.length_map, hX.m1]
  exact this
theorem RH.perm {i m : Nat} {l : OS} (h1 : X.ms[i]? = some m) (h2 : X.ls[i]? = some l) : (X.mem r H).flatten.Perm ([rB r (X.T.v 1) (X.F.v 3) (X.C.v 3) H.used H.room, X.T.c, tO m (l.v 6), l.c] ++ [X.F.c, X.C.c, tabRC (X.ms.eraseIdx i) (X.ls.eraseIdx i)]).flatten :=
  (last_perm [rB r (X.T.v 1) (X.F.v 3) (X.C.v 3) H.used H.room, X.T.c, X.F.c, X.C.c] _ (tabRC_at h1 h2)).trans
    (chunk_perm [rB r (X.T.v 1) (X.F.v 3) (X.C.v 3) H.used H.room, X.T.c, X.F.c, X.C.c, tO m (l.v 6), l.c, tabRC (X.ms.eraseIdx i) (X.ls.eraseIdx i)] [0, 1, 2, 3, 4, 5, 6] [0, 1, 4, 5, 2, 3, 6] (by decide))
theorem RH.ok.fnl (hX : X.ok H fs) : X.F.rows.length = H.fns.length := by rw [hX.F2, List.length_zipWith, hX.f1, Nat.min_self]
variable {c : Chk}
theorem getR (hX : RC r H fs c) (hok : H.ok) {t k : Val} : CT Try.prog false 45 [rP r, valA t, valA k] [c] fun w K' => w = .tup [valA (mGet H t k).1, .int .i64 (.ofNat (mGet H t k).2)] ∧ K' = [c] := by
  obtain ⟨X, hX, rfl⟩ := hX
  cases ht : tabI H t with
  | none =>
    refine CT.over (m := [rB r (X.T.v 1) (X.F.v 3) (X.C.v 3) H.used H.room]) (r := [X.T.c, X.F.c, X.C.c, tabRC X.ms X.ls]) (by simp) (get45F hX.T1 (hX.not ht)) ?_
    rintro v m' ⟨rfl, rfl⟩
    exact ⟨_, by simp, by simp only [mGet, ht], rfl⟩
  | some i =>
    obtain ⟨e, hi⟩ := tabI_some ht
    obtain ⟨m, l, h1, h2, h3, h4, h5⟩ := hX.at hi
    have hle := len_le hi
    have hu := hok.used
    have hl := hok.le
    have hr := hok.room
    rw [e] at ht ⊢
    cases hk : keyB k with
    | false =>
      refine CT.over (m := [rB r (X.T.v 1) (X.F.v 3) (X.C.v 3) H.used H.room, X.T.c]) (r := [X.F.c, X.C.c, tabRC X.ms X.ls]) (by simp) (get45K hX.T1 h3 hk) ?_
      rintro v m' ⟨rfl, rfl⟩
      exact ⟨_, by simp, by simp [mGet, ht, hk], rfl⟩
    | true =>
      have hp := RH.perm (r := r) (H := H) h1 h2
      refine CT.over (r := [X.F.c, X.C.c, tabRC (X.ms.eraseIdx i) (X.ls.eraseIdx i)]) (by rw [List.flatten_singleton]; exact hp) (get45 hX.T1 h3 h4 h5 (by omega) hk) ?_
      rintro v m' ⟨rfl, rfl⟩
      exact ⟨[(X.mem r H).flatten], by rw [List.flatten_singleton]; exact hp.symm, by simp [mGet, ht, hk], rfl⟩
theorem lenR (hX : RC r H fs c) {t : Val} : CT Try.prog false 46 [rP r, valA t] [c] fun w K' => w = .tup [.int .i64 (.ofNat (mLen H t).1), .int .i64 (.ofNat (mLen H t).2)] ∧ K' = [c] := by
  obtain ⟨X, hX, rfl⟩ := hX
  cases ht : tabI H t with
  | none =>
    refine CT.over (m := [rB r (X.T.v 1) (X.F.v 3) (X.C.v 3) H.used H.room]) (r := [X.T.c, X.F.c, X.C.c, tabRC X.ms X.ls]) (by simp) (len46F hX.T1 (hX.not ht)) ?_
    rintro v m' ⟨rfl, rfl⟩
    exact ⟨_, by simp, by simp only [mLen, ht], rfl⟩
  | some i =>
    obtain ⟨e, hi⟩ := tabI_some ht
    obtain ⟨m, l, h1, h2, h3, h4, h5⟩ := hX.at hi
    rw [e] at ht ⊢
    have hp := RH.perm (r := r) (H := H) h1 h2
    refine CT.over (m := [rB r (X.T.v 1) (X.F.v 3) (X.C.v 3) H.used H.room, X.T.c, tO m (l.v 6)]) (r := [l.c, X.F.c, X.C.c, tabRC (X.ms.eraseIdx i) (X.ls.eraseIdx i)]) (by rw [List.flatten_singleton]; exact hp) (len46 hX.T1 h3 h4 h5) ?_
    rintro v m' ⟨rfl, rfl⟩
    exact ⟨[(X.mem r H).flatten], by rw [List.flatten_singleton]; exact hp.symm, by simp [mLen, ht], rfl⟩
theorem keysR (hX : RC r H fs c) (hok : H.ok) {t : Val} : CT Try.prog false 48 [rP r, valA t] [c] fun w K' => ∃ O : OS, O.ok 3 ∧ O.rows = (mKeys H t).map valR ∧ w = O.v 3 ∧ K' = [c, O.c] := by
  obtain ⟨X, hX, rfl⟩ := hX
  cases ht : tabI H t with
  | none =>
    refine CT.over (m := [rB r (X.T.v 1) (X.F.v 3) (X.C.v 3) H.used H.room]) (r := [X.T.c, X.F.c, X.C.c, tabRC X.ms X.ls]) (by simp) (keys48F hX.T1 (hX.not ht)) ?_
    rintro v m' ⟨rfl, rfl⟩
    exact ⟨[(X.mem r H).flatten, OS.c ⟨none, []⟩], by simp [OS.c], ⟨none, []⟩, OS.ok.nil, by simp [mKeys, ht], rfl, rfl⟩
  | some i =>
    obtain ⟨e, hi⟩ := tabI_some ht
    obtain ⟨m, l, h1, h2, h3, h4, h5⟩ := hX.at hi
    have hle := len_le hi
    have hu := hok.used
    have hl := hok.le
    have hr := hok.room
    rw [e] at ht ⊢
    have hp := RH.perm (r := r) (H := H) h1 h2
    refine CT.over (r := [X.F.c, X.C.c, tabRC (X.ms.eraseIdx i) (X.ls.eraseIdx i)]) (by rw [List.flatten_singleton]; exact hp) (keys48 hX.T1 h3 h4 h5 (by omega)) ?_
    rintro v m' ⟨O, hO, hr, rfl, rfl⟩
    refine ⟨[(X.mem r H).flatten, O.c], ?_, O, hO, by rw [hr]; simp [mKeys, ht], rfl, rfl⟩
    refine (chunk_perm [rB r (X.T.v 1) (X.F.v 3) (X.C.v 3) H.used H.room, X.T.c, tO m (l.v 6), l.c, O.c, X.F.c, X.C.c, tabRC (X.ms.eraseIdx i) (X.ls.eraseIdx i)] [0, 1, 2, 3, 4, 5, 6, 7] [0, 1, 2, 3, 5, 6, 7, 4] (by decide)).trans ?_
    have := List.Perm.append_right O.c hp.symm
    simpa using this
theorem RH.ok.put (hX : X.ok H fs) {i u : Nat} {l : OS} {L : List KV} (hi : i < H.tabs.length) (h : l.ok 6) (h2 : l.rows = L.map pairR) : RH.ok { X with ls := X.ls.set i l } { H with used := u, tabs := H.tabs.set i L } fs where
  T1 := hX.T1
  T2 := hX.T2
  m1 := by rw [List.length_set]; exact hX.m1
  l1 := by rw [List.length_set, List.length_set]; exact hX.l1
  tr := fun j t M h1 h3 => by
    by_cases e : i = j
    · subst e
      rw [List.getElem?_set_self (by rw [hX.l1]; exact hi)] at h1
      rw [List.getElem?_set_self hi] at h3
      cases h1; cases h3
      exact ⟨h, h2⟩
    · rw [List.getElem?_set_ne e] at h1 h3
      exact hX.tr j t M h1 h3
  F1 := hX.F1
  F2 := hX.F2
  f1 := hX.f1
  fr := hX.fr
  C1 := hX.C1
  C2 := hX.C2
theorem putR (hX : RC r H fs c) (hok : H.ok) {t k v : Val} (hk : keyB k = true → Can k) (hkl : keyB k = true → k.s.length ≤ 1024) : CT Try.prog false 44 [rP r, valA t, valA k, valA v] [c] fun w K' => w = .int .i64 (.ofNat (mPut H t k v).2) ∧ ∃ c', RC r (mPut H t k v).1 fs c' ∧ K' = [c'] := by
  obtain ⟨X, hX, rfl⟩ := hX
  cases ht : tabI H t with
  | none =>
    refine CT.over (m := [rB r (X.T.v 1) (X.F.v 3) (X.C.v 3) H.used H.room]) (r := [X.T.c, X.F.c, X.C.c, tabRC X.ms X.ls]) (by simp) (put44F hX.T1 (hX.not ht)) ?_
    rintro v m' ⟨rfl, rfl⟩
    exact ⟨[(X.mem r H).flatten], by simp, by simp only [mPut, ht], _, ⟨X, by simp only [mPut, ht]; exact hX, by simp only [mPut, ht]⟩, rfl⟩
  | some i =>
    obtain ⟨e, hi⟩ := tabI_some ht
    obtain ⟨m, l, h1, h2, h3, h4, h5⟩ := hX.at hi
    have hle := len_le hi
    have hu := hok.used
    have hl := hok.le
    have hr := hok.room
    simp only [mPut, ht]
    rw [e]
    cases hkb : keyB k with
    | false =>
      refine CT.over (m := [rB r (X.T.v 1) (X.F.v 3) (X.C.v 3) H.used H.room, X.T.c]) (r := [X.F.c, X.C.c, tabRC X.ms X.ls]) (by simp) (put44K hX.T1 h3 hkb) ?_
      rintro v m' ⟨rfl, rfl⟩
      exact ⟨[(X.mem r H).flatten], by simp, by simp, _, ⟨X, hX, rfl⟩, rfl⟩
    | true =>
      rw [if_pos rfl]
      have hp := RH.perm (r := r) (H := H) h1 h2
      have hs := hok.srt _ (tabL_mem hi)
      refine CT.over (r := [X.F.c, X.C.c, tabRC (X.ms.eraseIdx i) (X.ls.eraseIdx i)]) (by rw [List.flatten_singleton]; exact hp) (put44 hX.T1 h3 h4 h5 (by omega) (by omega) hkb hs (hok.kl _ (tabL_mem hi)) (hk hkb) (hkl hkb)) ?_
      intro w m' hw
      by_cases hA : v.k ≠ 0 ∧ hasL k (tabL H i) = false ∧ H.used = H.room
      · rw [if_pos ⟨hA.1, hA.2.1, by omega⟩] at hw
        obtain ⟨rfl, rfl⟩ := hw
        rw [if_pos hA]
        exact ⟨[(X.mem r H).flatten], by rw [List.flatten_singleton]; exact hp.symm, rfl, _, ⟨X, hX, rfl⟩, rfl⟩
      · rw [if_neg (fun h => hA ⟨h.1, h.2.1, by omega⟩)] at hw
        obtain ⟨l', hl', hr', rfl, rfl⟩ := hw
        rw [if_neg hA]
        have hX' := hX.put (u := H.used - (tabL H i).length + (setL k v (tabL H i)).length) hi hl' hr'
        have hp' := RH.perm (r := r) (H := { H with used := H.used - (tabL H i).length + (setL k v (tabL H i)).length, tabs := H.tabs.set i (setL k v (tabL H i)) }) (X := { X with ls := X.ls.set i l' }) h1 (List.getElem?_set_self (by rw [hX.l1]; exact hi))
        refine ⟨[_], ?_, rfl, _, ⟨_, hX', rfl⟩, rfl⟩
        rw [era_set] at hp'
        rw [show H.used + (setL k v (tabL H i)).length - (tabL H i).length = H.used - (tabL H i).length + (setL k v (tabL H i)).length by omega, List.flatten_singleton]
        exact hp'.symm
theorem tableR (hX : RC r H fs c) (hok : H.ok) : CT Try.prog false 54 [rP r] [c] fun w K' => w = .tup [valA (mTable H).2.1, .int .i64 (.ofNat (mTable H).2.2)] ∧ ∃ c', RC r (mTable H).1 fs c' ∧ K' = [c'] := by
  obtain ⟨X, hX, rfl⟩ := hX
  have hu := hok.used
  have hl := hok.le
  have hr := hok.room
  unfold mTable
  split
  · rename_i h
    refine CT.over (m := [rB r (X.T.v 1) (X.F.v 3) (X.C.v 3) H.used H.room, X.T.c]) (r := [X.F.c, X.C.c, tabRC X.ms X.ls]) (by simp) (table54 h hr hX.T1 (by rw [hX.T2, List.length_map, hX.m1]; omega)) ?_
    rintro v m' ⟨rfl, T', m, hT', hT2, rfl⟩
    refine ⟨[_], ?_, by rw [hX.T2, List.length_map, hX.m1], _, ⟨⟨T', X.F, X.C, X.ms ++ [m], X.ls ++ [⟨none, []⟩]⟩, ⟨hT', by rw [hT2, hX.T2]; simp, ?_, ?_, ?_, hX.F1, hX.F2, hX.f1, hX.fr, hX.C1, hX.C2⟩, rfl⟩, rfl⟩
    · have : tabRC (X.ms ++ [m]) (X.ls ++ [⟨none, []⟩]) = tabRC X.ms X.ls ++ tO m .nilslc := by
        unfold tabRC
        rw [List.zipWith_append (by rw [hX.m1, hX.l1]), List.flatten_append]
        simp [OS.v, OS.c]
      simp only [RH.mem, this]
      rw [List.flatten_singleton]
      refine (chunk_perm [rB r (T'.v 1) (X.F.v 3) (X.C.v 3) (H.used + 1) H.room, T'.c, tO m .nilslc, X.F.c, X.C.c, tabRC X.ms X.ls] [0, 1, 2, 3, 4, 5] [0, 1, 3, 4, 5, 2] (by decide)).trans ?_
      simp
    · simp [hX.m1]
    · simp [hX.l1]
    · intro i t L h1 h2
      by_cases hi : i < H.tabs.length
      · rw [List.getElem?_append_left (by rw [hX.l1]; exact hi)] at h1
        rw [List.getElem?_append_left hi] at h2
        exact hX.tr i t L h1 h2
      · rw [List.getElem?_append_right (by rw [hX.l1]; omega), hX.l1] at h1
        rw [List.getElem?_append_right (by omega)] at h2
        have : i - H.tabs.length = 0 := by
          rcases Nat.eq_zero_or_pos (i - H.tabs.length) with h | h
          · exact h
          · rw [List.getElem?_eq_none (by simp; omega)] at h2; cases h2
        rw [this] at h1 h2
        cases h1; cases h2
        exact ⟨OS.ok.nil, rfl⟩
  · rename_i h
    refine CT.over (m := [rB r (X.T.v 1) (X.F.v 3) (X.C.v 3) H.used H.room]) (r := [X.T.c, X.F.c, X.C.c, tabRC X.ms X.ls]) (by simp) (table54F (by omega)) ?_
    rintro v m' ⟨rfl, rfl⟩
    exact ⟨[(X.mem r H).flatten], by simp, rfl, _, ⟨X, hX, rfl⟩, rfl⟩
end
end Go.Proofs.Ytggpnokhhpnnaaa

namespace Go.Proofs.Ytggpnokhhpnnaaa
open Go Go.Abs
attribute [local irreducible] Cmp Rg Dw Cd Lp Ev Rdk CT Upd InK
section
variable {r : Nat} {H : MH} {fs : List OS} {X : RH} {c : Chk}
theorem RH.ok.fn (hX : X.ok H fs) {F' o : OS} {q : Cl} (hF : F'.ok 3) (ho : o.ok 1) (hor : o.rows = q.cells.map rowI) (hF2 : F'.rows = X.F.rows ++ [[.int .i64 q.u, .int .i64 q.p, o.v 1]]) : RH.ok { X with F := F' } { H with used := H.used + 1, fns := H.fns ++ [q] } (fs ++ [o]) where
  T1 := hX.T1
  T2 := hX.T2
  m1 := hX.m1
  l1 := hX.l1
  tr := hX.tr
  F1 := hF
  F2 := by
    show F'.rows = List.zipWith cloW (H.fns ++ [q]) (fs ++ [o])
    rw [hF2, hX.F2, List.zipWith_append hX.f1.symm]
    rfl
  f1 := by simp [hX.f1]
  fr := fun i c' o' h1 h2 => by
    by_cases hi : i < H.fns.length
    · rw [List.getElem?_append_left hi] at h1
      rw [List.getElem?_append_left (by rw [hX.f1]; exact hi)] at h2
      exact hX.fr i c' o' h1 h2
    · rw [List.getElem?_append_right (by omega)] at h1
      rw [List.getElem?_append_right (by rw [hX.f1]; omega), hX.f1] at h2
      have : i - H.fns.length = 0 := by
        rcases Nat.eq_zero_or_pos (i - H.fns.length) with h | h
        · exact h
        · rw [List.getElem?_eq_none (by simp; omega)] at h2; cases h2
      rw [this] at h1 h2
      cases h1; cases h2
      exact ⟨ho, hor⟩
  C1 := hX.C1
  C2 := hX.C2
theorem fnRH (hX : RC r H fs c) (hok : H.ok) {q : Cl} {cv : AV} (hcv : ASl 1 cv (q.cells.map rowI)) (hl : q.cells.length ≤ 100000) : CT Try.prog false 55 [rP r, .agg [.int .i64 q.u, .int .i64 q.p, cv]] [c]
    fun w K' => w = .tup [valA (mFn H q).2.1, .int .i64 (.ofNat (mFn H q).2.2)] ∧ ∃ c' fs' x, RC r (mFn H q).1 fs' c' ∧ fsC fs' = fsC fs ++ x ∧ K' = [c', x] := by
  obtain ⟨X, hX, rfl⟩ := hX
  have hu := hok.used
  have hle := hok.le
  have hr := hok.room
  have hfl := hX.fnl
  unfold mFn
  split
  · rename_i h
    refine CT.over (m := [rB r (X.T.v 1) (X.F.v 3) (X.C.v 3) H.used H.room, X.F.c]) (r := [X.T.c, X.C.c, tabRC X.ms X.ls]) ?_ (fnR55 h hr hcv (by rw [List.length_map]; exact hl) hX.F1 (by omega)) ?_
    · rw [List.flatten_singleton]; exact chunk_perm [rB r (X.T.v 1) (X.F.v 3) (X.C.v 3) H.used H.room, X.T.c, X.F.c, X.C.c, tabRC X.ms X.ls] [0, 1, 2, 3, 4] [0, 2, 1, 3, 4] (by decide)
    · rintro w m' ⟨rfl, F', o, hF', ho, hor, hF2, rfl⟩
      refine ⟨[_, _], ?_, by rw [hfl], _, fs ++ [o], o.c, ⟨_, hX.fn hF' ho hor hF2, rfl⟩, by simp [fsC], rfl⟩
      rw [fl1]; exact chunk_perm [rB r (X.T.v 1) (F'.v 3) (X.C.v 3) (H.used + 1) H.room, X.T.c, F'.c, X.C.c, tabRC X.ms X.ls, o.c] [0, 2, 5, 1, 3, 4] [0, 1, 2, 3, 4, 5] (by decide)
  · rename_i h
    refine CT.over (m := [rB r (X.T.v 1) (X.F.v 3) (X.C.v 3) H.used H.room]) (r := [X.T.c, X.F.c, X.C.c, tabRC X.ms X.ls]) (by simp) (fn55F (by omega) hcv.one) ?_
    rintro v m' ⟨rfl, rfl⟩
    exact ⟨[(X.mem r H).flatten, []], by simp, rfl, _, fs, [], ⟨X, hX, rfl⟩, by simp, rfl⟩
theorem cloR (hX : RC r H fs c) {v : Val} : CT Try.prog false 49 [rP r, valA v] [c] fun w K' => K' = [c] ∧ match mClo H v with
    | none => w = .tup [.agg [.int .i64 (.ofNat 0), .int .i64 (.ofNat 0), .nilslc], .bool false]
    | some q => ∃ o : OS, o ∈ fs ∧ o.ok 1 ∧ o.rows = q.cells.map rowI ∧ w = .tup [.agg [.int .i64 q.u, .int .i64 q.p, o.v 1], .bool true] := by
  obtain ⟨X, hX, rfl⟩ := hX
  have hfl := hX.fnl
  by_cases h : v.k = 4 ∧ 0 ≤ v.n ∧ v.n < (H.fns.length : Int)
  · have hi : v.n.toNat < H.fns.length := by omega
    have hio : v.n.toNat < fs.length := by rw [hX.f1]; exact hi
    have e : mClo H v = some H.fns[v.n.toNat] := by rw [mClo, if_pos h, List.getElem?_eq_getElem hi]
    have ev : v = ⟨4, ((v.n.toNat : Nat) : Int), v.s⟩ := by
      cases v with | mk vk vn vs =>
      simp only [Val.mk.injEq, and_true] at h ⊢
      exact ⟨h.1, by omega⟩
    obtain ⟨ho, hor⟩ := hX.fr _ _ _ (List.getElem?_eq_getElem hi) (List.getElem?_eq_getElem hio)
    have hrow : X.F.rows[v.n.toNat]? = some (cloW H.fns[v.n.toNat] fs[v.n.toNat]) := by
      rw [hX.F2, List.getElem?_zipWith, List.getElem?_eq_getElem hi, List.getElem?_eq_getElem hio]
    have hmem := List.getElem_mem hio
    simp only [e]
    generalize H.fns[v.n.toNat] = q at *
    generalize fs[v.n.toNat] = o0 at *
    rw [ev]
    refine CT.over (m := [rB r (X.T.v 1) (X.F.v 3) (X.C.v 3) H.used H.room, X.F.c]) (r := [X.T.c, X.C.c, tabRC X.ms X.ls]) ?_ (closure49 hX.F1 hrow) ?_
    · rw [List.flatten_singleton]; exact chunk_perm [rB r (X.T.v 1) (X.F.v 3) (X.C.v 3) H.used H.room, X.T.c, X.F.c, X.C.c, tabRC X.ms X.ls] [0, 1, 2, 3, 4] [0, 2, 1, 3, 4] (by decide)
    · rintro w m' ⟨rfl, rfl⟩
      refine ⟨[(X.mem r H).flatten], ?_, rfl, o0, hmem, ho, hor, rfl⟩
      rw [List.flatten_singleton]; exact chunk_perm [rB r (X.T.v 1) (X.F.v 3) (X.C.v 3) H.used H.room, X.T.c, X.F.c, X.C.c, tabRC X.ms X.ls] [0, 2, 1, 3, 4] [0, 1, 2, 3, 4] (by decide)
  · have e : mClo H v = none := by rw [mClo, if_neg h]
    simp only [e]
    refine CT.over (m := [rB r (X.T.v 1) (X.F.v 3) (X.C.v 3) H.used H.room]) (r := [X.T.c, X.F.c, X.C.c, tabRC X.ms X.ls]) (by simp) (closure49F hX.F1 (by rw [hfl]; exact h)) ?_
    rintro v m' ⟨rfl, rfl⟩
    exact ⟨[(X.mem r H).flatten], by simp, rfl, rfl⟩
theorem cellR (hX : RC r H fs c) (hl : H.cells.length < 100000) {v : Val} : CT Try.prog false 56 [rP r, valA v] [c] fun w K' => w = .int .i64 (.ofNat H.cells.length) ∧ ∃ c', RC r (mCell H v) fs c' ∧ K' = [c'] := by
  obtain ⟨X, hX, rfl⟩ := hX
  have hcl : X.C.rows.length = H.cells.length := by rw [hX.C2, List.length_map]
  refine CT.over (m := [rB r (X.T.v 1) (X.F.v 3) (X.C.v 3) H.used H.room, X.C.c]) (r := [X.T.c, X.F.c, tabRC X.ms X.ls]) ?_ (cell56 hX.C1 (by rw [hcl]; exact hl)) ?_
  · rw [List.flatten_singleton]; exact chunk_perm [rB r (X.T.v 1) (X.F.v 3) (X.C.v 3) H.used H.room, X.T.c, X.F.c, X.C.c, tabRC X.ms X.ls] [0, 1, 2, 3, 4] [0, 3, 1, 2, 4] (by decide)
  · rintro w m' ⟨rfl, C', hC', hC2, rfl⟩
    refine ⟨[_], ?_, by rw [hcl], _, ⟨⟨X.T, X.F, C', X.ms, X.ls⟩, ⟨hX.T1, hX.T2, hX.m1, hX.l1, hX.tr, hX.F1, hX.F2, hX.f1, hX.fr, hC', by rw [hC2, hX.C2]; simp [mCell]⟩, rfl⟩, rfl⟩
    rw [List.flatten_singleton]; exact chunk_perm [rB r (X.T.v 1) (X.F.v 3) (C'.v 3) H.used H.room, X.T.c, X.F.c, C'.c, tabRC X.ms X.ls] [0, 3, 1, 2, 4] [0, 1, 2, 3, 4] (by decide)
theorem setR (hX : RC r H fs c) {n : Int} {v : Val} : CT Try.prog false 50 [rP r, .int .i64 n, valA v] [c] fun w K' => w = .bool (decide (0 ≤ n) && decide (n < (H.cells.length : Int))) ∧ ∃ c', RC r (mSet H n v) fs c' ∧ K' = [c'] := by
  obtain ⟨X, hX, rfl⟩ := hX
  have hcl : X.C.rows.length = H.cells.length := by rw [hX.C2, List.length_map]
  by_cases h : 0 ≤ n ∧ n < (H.cells.length : Int)
  · obtain ⟨i, rfl⟩ : ∃ i : Nat, n = Int.ofNat i := ⟨n.toNat, by simp; omega⟩
    have hi : i < X.C.rows.length := by rw [hcl]; have := h.2; simp at this; omega
    rw [decide_eq_true h.1, decide_eq_true h.2]
    refine CT.over (m := [rB r (X.T.v 1) (X.F.v 3) (X.C.v 3) H.used H.room, X.C.c]) (r := [X.T.c, X.F.c, tabRC X.ms X.ls]) ?_ (set50 hX.C1 (List.getElem?_eq_getElem hi)) ?_
    · rw [List.flatten_singleton]; exact chunk_perm [rB r (X.T.v 1) (X.F.v 3) (X.C.v 3) H.used H.room, X.T.c, X.F.c, X.C.c, tabRC X.ms X.ls] [0, 1, 2, 3, 4] [0, 3, 1, 2, 4] (by decide)
    · rintro w m' ⟨rfl, C', hC', hC2, rfl⟩
      have e : (mSet H (Int.ofNat i) v) = { H with cells := H.cells.set i v } := by rw [mSet, if_pos h.1]; rfl
      refine ⟨[_], ?_, rfl, _, ⟨⟨X.T, X.F, C', X.ms, X.ls⟩, by rw [e]; exact ⟨hX.T1, hX.T2, hX.m1, hX.l1, hX.tr, hX.F1, hX.F2, hX.f1, hX.fr, hC', by rw [hC2, hX.C2]; simp [List.map_set]⟩, rfl⟩, rfl⟩
      rw [e, List.flatten_singleton]; exact chunk_perm [rB r (X.T.v 1) (X.F.v 3) (C'.v 3) H.used H.room, X.T.c, X.F.c, C'.c, tabRC X.ms X.ls] [0, 3, 1, 2, 4] [0, 1, 2, 3, 4] (by decide)
  · have e1 : (decide (0 ≤ n) && decide (n < (H.cells.length : Int))) = false := by
      rw [Bool.and_eq_false_iff]
      by_cases h0 : 0 ≤ n
      · exact .inr (decide_eq_false fun h2 => h ⟨h0, h2⟩)
      · exact .inl (decide_eq_false h0)
    have e : mSet H n v = H := by
      unfold mSet
      split
      · rw [List.set_eq_of_length_le (by omega)]
      · rfl
    rw [e1, e]
    refine CT.over (m := [rB r (X.T.v 1) (X.F.v 3) (X.C.v 3) H.used H.room]) (r := [X.T.c, X.F.c, X.C.c, tabRC X.ms X.ls]) (by simp) (set50F hX.C1 (by rw [hcl]; exact h)) ?_
    rintro v m' ⟨rfl, rfl⟩
    exact ⟨[(X.mem r H).flatten], by simp, rfl, _, ⟨X, hX, rfl⟩, rfl⟩
theorem readR (hX : RC r H fs c) {n : Int} : CT Try.prog false 51 [rP r, .int .i64 n] [c] fun w K' => w = .tup [valA ((mRead H n).getD v0), .bool (mRead H n).isSome] ∧ K' = [c] := by
  obtain ⟨X, hX, rfl⟩ := hX
  have hcl : X.C.rows.length = H.cells.length := by rw [hX.C2, List.length_map]
  by_cases h : 0 ≤ n ∧ n < (H.cells.length : Int)
  · obtain ⟨i, rfl⟩ : ∃ i : Nat, n = Int.ofNat i := ⟨n.toNat, by simp; omega⟩
    have hi : i < H.cells.length := by have := h.2; simp at this; omega
    have e : mRead H (Int.ofNat i) = some H.cells[i] := by rw [mRead, if_pos h.1]; exact List.getElem?_eq_getElem hi
    rw [e]
    refine CT.over (m := [rB r (X.T.v 1) (X.F.v 3) (X.C.v 3) H.used H.room, X.C.c]) (r := [X.T.c, X.F.c, tabRC X.ms X.ls]) ?_ (read51 (i := i) (row := valR H.cells[i]) hX.C1 (by rw [hX.C2, List.getElem?_map, List.getElem?_eq_getElem hi]; rfl)) ?_
    · rw [List.flatten_singleton]; exact chunk_perm [rB r (X.T.v 1) (X.F.v 3) (X.C.v 3) H.used H.room, X.T.c, X.F.c, X.C.c, tabRC X.ms X.ls] [0, 1, 2, 3, 4] [0, 3, 1, 2, 4] (by decide)
    · rintro w m' ⟨rfl, rfl⟩
      refine ⟨[(X.mem r H).flatten], ?_, rfl, rfl⟩
      rw [List.flatten_singleton]; exact chunk_perm [rB r (X.T.v 1) (X.F.v 3) (X.C.v 3) H.used H.room, X.T.c, X.F.c, X.C.c, tabRC X.ms X.ls] [0, 3, 1, 2, 4] [0, 1, 2, 3, 4] (by decide)
  · have e : mRead H n = none := by
      unfold mRead
      split
      · rw [List.getElem?_eq_none]; omega
      · rfl
    rw [e]
    refine CT.over (m := [rB r (X.T.v 1) (X.F.v 3) (X.C.v 3) H.used H.room]) (r := [X.T.c, X.F.c, X.C.c, tabRC X.ms X.ls]) (by simp) (read51F hX.C1 (by rw [hcl]; exact h)) ?_
    rintro v m' ⟨rfl, rfl⟩
    exact ⟨[(X.mem r H).flatten], by simp, rfl, rfl⟩
theorem newR {n : Int} : CT Try.prog false 28 [.int .i64 n] [] fun v K' => ((n < 0 ∨ 1000000 < n) ∧ ∃ b, v = .tup [rP b, .int .i64 (.ofNat 1)]) ∨ ∃ room b c, n = Int.ofNat room ∧ room ≤ 1000000 ∧ v = .tup [rP b, .int .i64 (.ofNat 0)] ∧ RC b (mNew room) [] c ∧ K' = [c] := by
  refine CT.re new28 ?_
  rintro v K' (h | ⟨room, b, h1, h2, h3, rfl⟩)
  · exact ⟨K', .refl _, .inl h⟩
  · refine ⟨_, ?_, .inr ⟨room, b, _, h1, h2, h3, ⟨⟨⟨none, []⟩, ⟨none, []⟩, ⟨none, []⟩, [], []⟩, ⟨OS.ok.nil, rfl, rfl, rfl, fun i t L h => (by cases h), OS.ok.nil, rfl, rfl, fun i c o h => (by cases h), OS.ok.nil, rfl⟩, rfl⟩, rfl⟩⟩
    simp [tabRC, OS.c, OS.v, mNew]
end
/-! Lists of values. -/
section
variable {A B : OS} {xs ys : List Val}
theorem values47_loop {K : Mem} {Q : AX → SL → Mem → Prop} (hA : A.ok 3) (hAr : A.rows = xs.map valR) (hB : B.ok 3) (hBr : B.rows = ys.map valR) (hl : xs.length = ys.length) (hll : xs.length ≤ 1000000) (hiA : ∀ id o, (id, o) ∈ A.c → InK K id o) (hiB : ∀ id o, (id, o) ∈ B.c → InK K id o)
    (hret : ∀ l', xs ≠ ys → lkS l' 4 = some (.bool false) → Q .ret l' K) (hend : ∀ l', xs = ys → Q (.ext 0) l' K) :
    ∀ (f i : Nat), xs.length < i + f → i ≤ xs.length → xs.take i = ys.take i → Lp Try.prog false b47_0 f [(0, A.v 3), (1, B.v 3), (5, .int .i64 (.ofNat i))] K Q := by
  have hAl := hA.len
  have hBl := hB.len
  rw [hAr, List.length_map] at hAl
  rw [hBr, List.length_map] at hBl
  intro f
  induction f with
  | zero => intro i h1 h2; omega
  | succ f ih =>
    intro i h1 h2 ht
    refine Lp.round ?_
    by_cases hi : i < xs.length
    · have hib : i < ys.length := by omega
      have ra : (xs.map valR)[i]? = some (valR xs[i]) := by rw [List.getElem?_map, List.getElem?_eq_getElem hi]; rfl
      have rb : (ys.map valR)[i]? = some (valR ys[i]) := by rw [List.getElem?_map, List.getElem?_eq_getElem hib]; rfl
      obtain ⟨ia, ga, ea⟩ := hA.at (by rw [hAr]; exact ra)
      obtain ⟨ib, gb, eb⟩ := hB.at (by rw [hBr]; exact rb)
      rw [hAr] at ea
      rw [hBr] at eb
      subst ea
      subst eb
      have q1 := iadr_slc (sz := 3) (b := ia) (g := ga) (off := 0) (len := (xs.map valR).length) (cap := (xs.map valR).length) (i := i) (k := .i64) (by rw [List.length_map]; exact hi)
      have q2 := iadr_slc (sz := 3) (b := ib) (g := gb) (off := 0) (len := (ys.map valR).length) (cap := (ys.map valR).length) (i := i) (k := .i64) (by rw [List.length_map]; exact hib)
      have p1 := Rdk.row (K := K) (id := ia) (g := ga) (gr := true) (y := .ptr ia ga (0 + i * 3) 3) (i := i) (r := valR xs[i]) (hiA _ _ (by simp [OS.c])) (valRows xs) ra
      have p2 := Rdk.row (K := K) (id := ib) (g := gb) (gr := true) (y := .ptr ib gb (0 + i * 3) 3) (i := i) (r := valR ys[i]) (hiB _ _ (by simp [OS.c])) (valRows ys) rb
      by_cases he : xs[i] = ys[i]
      · have q3 : aeq (.flat true [.i, .i, .s]) (.agg (valR xs[i])) (.agg (valR ys[i])) = some true := by
          rw [show (AV.agg (valR xs[i])) = valA xs[i] from rfl, show (AV.agg (valR ys[i])) = valA ys[i] from rfl]
          simp only [aeq, flatVal, he, decide_true]
        repeat' (first|(refine Dw.r rfl rfl p1 (by repeat (first | exact trivial | refine And.intro (Or.inl rfl) ?_ | (refine And.intro (Or.inr ?_) ?_; (focus (first | exact Rdk.i1 | assumption | (refine Rdk.in ?_; first | assumption | exact rfl) | (refine Rdk.b1 (cs := ?_) ?_ ?_; rotate_left; (repeat (first | exact InK.here | refine InK.there ?_)); exact rfl) | (refine Rdk.bw ?_ ?_; (repeat (first | exact InK.here | refine InK.there ?_)); first | assumption | exact rfl) | (refine Rdk.bw (cs := ?_) ?_ ?_; rotate_left; (repeat (first | exact InK.here | refine InK.there ?_)); first | assumption | exact rfl) | (refine Rdk.bn ?_ ?_; (repeat (first | exact InK.here | refine InK.there ?_)); exact rfl) | (refine Rdk.bn (cs := ?_) ?_ ?_; rotate_left; (repeat (first | exact InK.here | refine InK.there ?_)); exact rfl)))))) ?_)|(refine Dw.r rfl rfl p2 (by repeat (first | exact trivial | refine And.intro (Or.inl rfl) ?_ | (refine And.intro (Or.inr ?_) ?_; (focus (first | exact Rdk.i1 | assumption | (refine Rdk.in ?_; first | assumption | exact rfl) | (refine Rdk.b1 (cs := ?_) ?_ ?_; rotate_left; (repeat (first | exact InK.here | refine InK.there ?_)); exact rfl) | (refine Rdk.bw ?_ ?_; (repeat (first | exact InK.here | refine InK.there ?_)); first | assumption | exact rfl) | (refine Rdk.bw (cs := ?_) ?_ ?_; rotate_left; (repeat (first | exact InK.here | refine InK.there ?_)); first | assumption | exact rfl) | (refine Rdk.bn ?_ ?_; (repeat (first | exact InK.here | refine InK.there ?_)); exact rfl) | (refine Rdk.bn (cs := ?_) ?_ ?_; rotate_left; (repeat (first | exact InK.here | refine InK.there ?_)); exact rfl)))))) ?_)|refine zz ?_|(refine zw ?_;refine And.intro ?_ ?_<;>intro hc)|(refine zv ?_;intro cv hv)|(refine za ?_;intro _)|refine zc ?_|(refine zd ?_;refine And.intro ?_ ?_<;>(intro e;(try simp only [Bool.not_eq_true',Bool.not_eq_false'] at e);subst e;try contradiction)))
        refine Lp.weak ?hw (ih (i + 1) (by omega) hi ?_)
        case hw => exact ⟨rfl, rfl, rfl, trivial⟩
        rw [List.take_add_one, List.take_add_one, ht, List.getElem?_eq_getElem hi, List.getElem?_eq_getElem hib, he]
      · have q3 : aeq (.flat true [.i, .i, .s]) (.agg (valR xs[i])) (.agg (valR ys[i])) = some false := by
          rw [show (AV.agg (valR xs[i])) = valA xs[i] from rfl, show (AV.agg (valR ys[i])) = valA ys[i] from rfl]
          simp only [aeq, flatVal, he, decide_false]
        repeat' (first|(refine Dw.r rfl rfl p1 (by repeat (first | exact trivial | refine And.intro (Or.inl rfl) ?_ | (refine And.intro (Or.inr ?_) ?_; (focus (first | exact Rdk.i1 | assumption | (refine Rdk.in ?_; first | assumption | exact rfl) | (refine Rdk.b1 (cs := ?_) ?_ ?_; rotate_left; (repeat (first | exact InK.here | refine InK.there ?_)); exact rfl) | (refine Rdk.bw ?_ ?_; (repeat (first | exact InK.here | refine InK.there ?_)); first | assumption | exact rfl) | (refine Rdk.bw (cs := ?_) ?_ ?_; rotate_left; (repeat (first | exact InK.here | refine InK.there ?_)); first | assumption | exact rfl) | (refine Rdk.bn ?_ ?_; (repeat (first | exact InK.here | refine InK.there ?_)); exact rfl) | (refine Rdk.bn (cs := ?_) ?_ ?_; rotate_left; (repeat (first | exact InK.here | refine InK.there ?_)); exact rfl)))))) ?_)|(refine Dw.r rfl rfl p2 (by repeat (first | exact trivial | refine And.intro (Or.inl rfl) ?_ | (refine And.intro (Or.inr ?_) ?_; (focus (first | exact Rdk.i1 | assumption | (refine Rdk.in ?_; first | assumption | exact rfl) | (refine Rdk.b1 (cs := ?_) ?_ ?_; rotate_left; (repeat (first | exact InK.here | refine InK.there ?_)); exact rfl) | (refine Rdk.bw ?_ ?_; (repeat (first | exact InK.here | refine InK.there ?_)); first | assumption | exact rfl) | (refine Rdk.bw (cs := ?_) ?_ ?_; rotate_left; (repeat (first | exact InK.here | refine InK.there ?_)); first | assumption | exact rfl) | (refine Rdk.bn ?_ ?_; (repeat (first | exact InK.here | refine InK.there ?_)); exact rfl) | (refine Rdk.bn (cs := ?_) ?_ ?_; rotate_left; (repeat (first | exact InK.here | refine InK.there ?_)); exact rfl)))))) ?_)|refine zz ?_|(refine zw ?_;refine And.intro ?_ ?_<;>intro hc)|(refine zv ?_;intro cv hv)|(refine za ?_;intro _)|refine zc ?_|(refine zd ?_;refine And.intro ?_ ?_<;>(intro e;(try simp only [Bool.not_eq_true',Bool.not_eq_false'] at e);subst e;try contradiction)))
        refine hret _ (fun e => he ?_) rfl
        subst e
        rfl
    · rw [List.take_of_length_le (by omega), List.take_of_length_le (by omega)] at ht
      repeat' (first|refine zz ?_|(refine zw ?_;refine And.intro ?_ ?_<;>intro hc)|(refine zv ?_;intro cv hv)|(refine za ?_;intro _)|refine zc ?_|(refine zd ?_;refine And.intro ?_ ?_<;>(intro e;(try simp only [Bool.not_eq_true',Bool.not_eq_false'] at e);subst e;try contradiction)))
      exact hend _ ht
theorem values47 {X : Mem} (hA : A.ok 3) (hAr : A.rows = xs.map valR) (hB : B.ok 3) (hBr : B.rows = ys.map valR) (hll : xs.length ≤ 1000000) : CT Try.prog false 47 [A.v 3, B.v 3] [A.c, B.c] fun w K' => w = .bool (decide (xs = ys)) ∧ K' = [A.c, B.c] := by
  have hAl := hA.len
  have hBl := hB.len
  rw [hAr, List.length_map] at hAl
  rw [hBr, List.length_map] at hBl
  refine CT.enter mixed comp47 (Nat.le_of_ble_eq_true rfl) ?_
  by_cases hl : xs.length = ys.length
  · have hl' : ys.length = xs.length := hl.symm
    repeat' (first|refine zz ?_|(refine zw ?_;refine And.intro ?_ ?_<;>intro hc)|(refine zv ?_;intro cv hv)|(refine za ?_;intro _)|refine zc ?_|(refine zd ?_;refine And.intro ?_ ?_<;>(intro e;(try simp only [Bool.not_eq_true',Bool.not_eq_false'] at e);subst e;try contradiction)))
    refine Cd.loop (k := xs.length + 1) (Lp.weak (l2 := [(0, A.v 3), (1, B.v 3), (5, .int .i64 (.ofNat 0))]) ⟨rfl, rfl, rfl, trivial⟩ (values47_loop hA hAr hB hBr hl hll (fun id o h => .mem h) (fun id o h => .there (.mem h)) ?_ ?_ (xs.length + 1) 0 (by omega) (by omega) rfl))
    · intro l' hne h4
      refine ⟨.inr rfl, _, .t h4 .nil, ?_⟩
      rw [decide_eq_false hne]
      exact ⟨rfl, rfl⟩
    · intro l' he
      show Cd _ _ _ _ _ _
      repeat' (first|refine zz ?_|(refine zw ?_;refine And.intro ?_ ?_<;>intro hc)|(refine zv ?_;intro cv hv)|(refine za ?_;intro _)|refine zc ?_|(refine zd ?_;refine And.intro ?_ ?_<;>(intro e;(try simp only [Bool.not_eq_true',Bool.not_eq_false'] at e);subst e;try contradiction)))
      (first|refine ⟨.inr rfl,_,.t rfl .nil,?_⟩|refine ⟨.inr rfl,_,.t rfl (.t rfl .nil),?_⟩|refine ⟨.inr rfl,_,.t rfl (.t rfl (.t rfl .nil)),?_⟩|refine ⟨.inr rfl,_,.nil,?_⟩|refine ⟨.inl rfl,_,.t rfl .nil,?_⟩|refine ⟨.inl rfl,_,.nil,?_⟩|refine ⟨.inr rfl,_,.cn rfl (by exact zN) .nil,?_⟩|refine ⟨.inr rfl,_,.cn rfl (by exact zN) (.t rfl .nil),?_⟩)
      rw [decide_eq_true he]
      exact ⟨rfl, rfl⟩
  · rw [decide_eq_false (fun e => hl (by rw [e]))]
    repeat' (first|refine zz ?_|(refine zw ?_;refine And.intro ?_ ?_<;>intro hc)|(refine zv ?_;intro cv hv)|(refine za ?_;intro _)|refine zc ?_|(refine zd ?_;refine And.intro ?_ ?_<;>(intro e;(try simp only [Bool.not_eq_true',Bool.not_eq_false'] at e);subst e;try contradiction)))
    (first|refine ⟨.inr rfl,_,.t rfl .nil,?_⟩|refine ⟨.inr rfl,_,.t rfl (.t rfl .nil),?_⟩|refine ⟨.inr rfl,_,.t rfl (.t rfl (.t rfl .nil)),?_⟩|refine ⟨.inr rfl,_,.nil,?_⟩|refine ⟨.inl rfl,_,.t rfl .nil,?_⟩|refine ⟨.inl rfl,_,.nil,?_⟩|refine ⟨.inr rfl,_,.cn rfl (by exact zN) .nil,?_⟩|refine ⟨.inr rfl,_,.cn rfl (by exact zN) (.t rfl .nil),?_⟩)
    exact ⟨rfl, rfl⟩
end
end Go.Proofs.Ytggpnokhhpnnaaa

namespace Go.Proofs.Ytggpnokhhpnnaaa
open Go Go.Abs
attribute [local irreducible] Cmp Rg Dw Cd Lp Ev Rdk CT Upd InK
theorem kvs_new {k v : Val} {ck : Nat} {es : List Ent} (h : k ∉ keysE es) : kvs (putE k v ck es) = kvs es ++ [(k, v)] := by
  induction es with
  | nil => rfl
  | cons e r ih =>
    simp only [keysE, List.map_cons, List.mem_cons, not_or] at h
    obtain ⟨a, x, n⟩ := e
    simp only [putE, if_neg h.1]
    have := ih h.2
    simp only [kvs, List.map_cons, List.cons_append] at this ⊢
    rw [this]
section
variable {b b2 bi m m2 ck room used : Nat} {es : List Ent} {z0 z3 z25 z26 z27 : AV}
abbrev s31 (z0 z3 z25 z26 z27 : AV) (m2 bi : Nat) : SL := [(0, z0), (3, z3), (6, .map m2), (25, z25), (26, z26), (27, z27), (33, .it bi)]
theorem copy_in {Q : AX → SL → Mem → Prop} (G : Good es ck) (hend : ∀ (es2 : List Ent) (ck2 : Nat) (seen : List Nat) (l' : SL), Good es2 ck2 → (kvs es2).Perm (kvs es) → Sub2 (s31 z0 z3 z25 z26 z27 m2 bi) l' → Q (.ext 2) l' [[(bi, .mit (some m) ck seen ck)], mC m ck es, mC m2 ck2 es2]) :
    ∀ (f : Nat) (es2 : List Ent) (ck2 : Nat) (seen : List Nat), es.length < (selE seen es).length + f → Good es2 ck2 → (kvs es2).Perm (kvs (selE seen es)) → Lp Try.prog true b31_0 f (s31 z0 z3 z25 z26 z27 m2 bi) [[(bi, .mit (some m) ck seen ck)], mC m ck es, mC m2 ck2 es2] Q := by
  intro f
  induction f with
  | zero =>
    intro es2 ck2 seen h1
    have : (selE seen es).length ≤ es.length := List.length_filter_le _ _
    omega
  | succ f ih =>
    intro es2 ck2 seen h1 G2 hp
    obtain ⟨cs, hcs, hsome, hnone⟩ := cands_at (es := entsA es) (ck := ck) (seen := seen) (by
      intro e he
      obtain ⟨x, hx, rfl⟩ := List.mem_map.1 he
      exact G.lt x hx)
    refine Lp.round ?_
    refine Cd.seq ?_
    refine Cd.reg ?_
    refine Rg.nextF (F := fun n => [[(bi, .mit (some m) ck (seen ++ [n]) ck)], mC m ck es, mC m2 ck2 es2]) rfl (fun n => Upd.here) (.there .here) hcs ?_ ?_
    · intro a v n hmem
      obtain ⟨he, hs⟩ := hsome _ hmem
      obtain ⟨x, hx, he⟩ := List.mem_map.1 he
      cases he
      have hme : ∀ (K : Mem) y, InK K bi (.mit (some m) ck (seen ++ [x.2.2]) ck) → InK K m (.map (entsA es) ck) → Rdk K .ment (.it bi) y (.tup [valA x.1, valA x.2.1]) := fun K y h1 h2 =>
        Rdk.ment h1 h2 (List.mem_map.2 ⟨x, hx, rfl⟩) (by rw [entsA, List.map_map]; exact G.stamps)
      have hk : x.1 ∉ keysE es2 := by
        intro hm
        obtain ⟨y, hy, e⟩ := List.mem_map.1 hm
        have : (y.1, y.2.1) ∈ kvs (selE seen es) := hp.mem_iff.1 (List.mem_map.2 ⟨y, hy, rfl⟩)
        obtain ⟨w, hw, e2⟩ := List.mem_map.1 this
        obtain ⟨hw1, hw2⟩ := List.mem_filter.1 hw
        have e3 : w.1 = x.1 := by rw [← e]; exact (Prod.mk.inj e2).1
        have := key_inj G.keys hw1 hx e3
        subst this
        exact hs (by simpa using hw2)
      repeat' (first|(refine Rg.r rfl rfl (hme _ _ .here (.there .here)) ?_)|refine zz ?_|(refine zw ?_;refine And.intro ?_ ?_<;>intro hc)|(refine zv ?_;intro cv hv)|(refine za ?_;intro _)|refine zc ?_|(refine zd ?_;refine And.intro ?_ ?_<;>(intro e;(try simp only [Bool.not_eq_true',Bool.not_eq_false'] at e);subst e;try contradiction)))
      refine Rg.e (Ef.mupd (k := x.1) (v := x.2.1) (es := es2) (ck := ck2) rfl rfl rfl (.there (.there (.there (.there (Upd.here)))))) ?_
      rintro _ _ ⟨rfl, rfl⟩
      repeat' (first|refine zz ?_|(refine zw ?_;refine And.intro ?_ ?_<;>intro hc)|(refine zv ?_;intro cv hv)|(refine za ?_;intro _)|refine zc ?_|(refine zd ?_;refine And.intro ?_ ?_<;>(intro e;(try simp only [Bool.not_eq_true',Bool.not_eq_false'] at e);subst e;try contradiction)))
      refine Lp.drop (m := [[(bi, .mit (some m) ck (seen ++ [x.2.2]) ck)], mC m ck es, mC m2 (putC x.1 ck2 es2) (putE x.1 x.2.1 ck2 es2)]) (.cons (.there (.there (.here))) (.cons (.there (.there (.here))) (.cons (.there (.there (.here))) (.nil)))) (Lp.weak ?hw (ih _ _ (seen ++ [x.2.2]) ?_ G2.put ?_))
      case hw => exact ⟨rfl, rfl, rfl, rfl, rfl, rfl, rfl, trivial⟩
      · have := (sel_add hs G.stamps hx).length_eq
        rw [List.length_cons] at this
        omega
      · rw [kvs_new hk]
        have h5 := (sel_add hs G.stamps hx).map fun e : Ent => (e.1, e.2.1)
        refine List.Perm.trans ?_ h5.symm
        refine List.perm_append_comm.trans ?_
        exact hp.cons _
    · intro hm
      have hall := hnone hm
      have hsel : selE seen es = es := by
        unfold selE
        rw [List.filter_eq_self]
        intro e he
        have := hall _ (List.mem_map.2 ⟨e, he, rfl⟩)
        simpa using this
      rw [hsel] at hp
      repeat' (first|refine zz ?_|(refine zw ?_;refine And.intro ?_ ?_<;>intro hc)|(refine zv ?_;intro cv hv)|(refine za ?_;intro _)|refine zc ?_|(refine zd ?_;refine And.intro ?_ ?_<;>(intro e;(try simp only [Bool.not_eq_true',Bool.not_eq_false'] at e);subst e;try contradiction)))
      exact hend es2 ck2 seen _ G2 hp ⟨rfl, rfl, rfl, rfl, rfl, rfl, rfl, trivial⟩
abbrev hN (b room used : Nat) (T : OS) : Chk := hB b room used (T.v 1) .nilslc .nilslc
theorem copy_tab {T T2 : OS} {X : Mem} {i n : Nat} (hT : T.ok 1) (hi : T.rows[i]? = some [.map m]) (G : Good es ck) (hT2 : T2.ok 1) (hl : T2.rows.length < 10000000) :
    Cd Try.prog true (.seq (.reg r31_6) (.seq (.reg r31_7) (.seq (.seq (.reg r31_8) (.blk 2 (.loop b31_0))) (.reg r31_12)))) [(0, z0), (3, hP b2), (25, T.v 1), (26, z26), (27, .int .i64 (.ofNat i))] [T.c, mC m ck es, hN b2 room used T2, T2.c]
    fun x l' K => x = .nrm ∧ ∃ (T3 : OS) (m2 : Nat) (es2 : List Ent) (ck2 : Nat), T3.ok 1 ∧ T3.rows = T2.rows ++ [[.map m2]] ∧ Good es2 ck2 ∧ (kvs es2).Perm (kvs es) ∧ Sub2 [(0, z0), (3, hP b2), (25, T.v 1), (26, z26), (27, .int .i64 (.ofNat i))] l' ∧ ∃ r, Sel K [T.c, mC m ck es, hN b2 room used T3, T3.c, mC m2 ck2 es2] r := by
  obtain ⟨id, g, e⟩ := hT.at hi
  have hrow := hT.row
  have hil := (List.getElem?_eq_some_iff.1 hi).1
  generalize T.rows = rows at *
  subst e
  have q1 := iadr_slc (sz := 1) (b := id) (g := g) (off := 0) (len := rows.length) (cap := rows.length) (i := i) (k := .i64) hil
  have hp := fun K h => Rdk.cel0 (K := K) (id := id) (g := g) (gr := true) (y := .ptr id g (0 + i * 1) 1) (lm := 0) (i := i) (rows := rows) (v := .map m) h hrow hi rfl
  repeat' (first|(refine Rg.r rfl rfl (hp _ (by repeat (first | exact InK.here | refine InK.there ?_))) ?_)|(refine Rg.a Mk.mkmap fun m2 => ?_)|refine zz ?_|(refine zw ?_;refine And.intro ?_ ?_<;>intro hc)|(refine zv ?_;intro cv hv)|(refine za ?_;intro _)|refine zc ?_|(refine zd ?_;refine And.intro ?_ ?_<;>(intro e;(try simp only [Bool.not_eq_true',Bool.not_eq_false'] at e);subst e;try contradiction)))
  refine Rg.e (Ef.rngM (es := entsA es) (ck := ck) rfl (.there (.there .here))) ?_
  rintro _ _ ⟨bi, rfl, rfl⟩
  repeat' (first|refine zz ?_|(refine zw ?_;refine And.intro ?_ ?_<;>intro hc)|(refine zv ?_;intro cv hv)|(refine za ?_;intro _)|refine zc ?_|(refine zd ?_;refine And.intro ?_ ?_<;>(intro e;(try simp only [Bool.not_eq_true',Bool.not_eq_false'] at e);subst e;try contradiction)))
  refine Cd.loop (k := es.length + 1) (Lp.weak (l2 := s31 z0 (hP b2) (.slc id g 0 rows.length rows.length 1) z26 (.int .i64 (.ofNat i)) m2 bi) ⟨rfl, rfl, rfl, rfl, rfl, rfl, rfl, trivial⟩ ?_)
  refine Lp.fr (m := [[(bi, .mit (some m) ck [] ck)], mC m ck es, mC m2 0 []]) (.cons (.here) (.cons (.there (.there (.here))) (.cons (.here) (.nil)))) (copy_in G ?_ (es.length + 1) [] 0 [] (by omega) Good.nil (by simp [selE, kvs]))
  intro es2 ck2 seen l1 G2 hp2 hs1
  show Cd _ _ _ _ _ _
  refine Cd.weak hs1 ?_
  repeat' (first|refine zz ?_|(refine zw ?_;refine And.intro ?_ ?_<;>intro hc)|(refine zv ?_;intro cv hv)|(refine za ?_;intro _)|refine zc ?_|(refine zd ?_;refine And.intro ?_ ?_<;>(intro e;(try simp only [Bool.not_eq_true',Bool.not_eq_false'] at e);subst e;try contradiction)))
  refine Rg.e (Ef.appO (rs := [[.map m2]]) (n := 1) rfl rfl hT2 (by intro r hr; simp at hr; subst hr; rfl) (.there (.there (.there (.there (.there (.there (.here))))))) rfl (by decide) (Rw.slc (InK.there InK.here) (Nat.le_refl _) (Nat.le_refl _) rfl) (by simp only [lim]; omega)) ?_
  rintro _ _ ⟨T3, hT3, hr2, rfl, rfl⟩
  repeat' (first|refine zz ?_|(refine zw ?_;refine And.intro ?_ ?_<;>intro hc)|(refine zv ?_;intro cv hv)|(refine za ?_;intro _)|refine zc ?_|(refine zd ?_;refine And.intro ?_ ?_<;>(intro e;(try simp only [Bool.not_eq_true',Bool.not_eq_false'] at e);subst e;try contradiction)))
  refine Rg.e (Ef.store1 rfl rfl (T3.one 1) (.there (.there (.there (.there (.there (.there (Upd.here))))))) (Nat.le_of_ble_eq_true rfl)) ?_
  rintro _ _ ⟨rfl, rfl⟩
  repeat' (first|refine zz ?_|(refine zw ?_;refine And.intro ?_ ?_<;>intro hc)|(refine zv ?_;intro cv hv)|(refine za ?_;intro _)|refine zc ?_|(refine zd ?_;refine And.intro ?_ ?_<;>(intro e;(try simp only [Bool.not_eq_true',Bool.not_eq_false'] at e);subst e;try contradiction)))
  exact ⟨rfl, T3, m2, es2, ck2, hT3, hr2, G2, hp2, ⟨rfl, rfl, rfl, rfl, rfl, trivial⟩, _, (.cons (.there (.there (.there (.there (.there (.here)))))) (.cons (.there (.there (.there (.here)))) (.cons (.there (.there (.there (.there (.here))))) (.cons (.here) (.cons (.there (.there (.here))) (.nil))))))⟩
end
end Go.Proofs.Ytggpnokhhpnnaaa

namespace Go.Proofs.Ytggpnokhhpnnaaa
open Go Go.Abs
attribute [local irreducible] Cmp Rg Dw Cd Lp Ev Rdk CT Upd InK
structure CInv (H : MH) (i : Nat) (T2 : OS) (ms2 : List Nat) (ts2 : List (List Ent × Nat)) : Prop where
  t : T2.ok 1
  r : T2.rows = ms2.map fun m => [AV.map m]
  m : ms2.length = i
  l : ts2.length = i
  tr : ∀ (j : Nat) (t : List Ent × Nat) (L : List KV), ts2[j]? = some t → H.tabs[j]? = some L → TRel t.1 t.2 L
section
variable {b b2 : Nat} {H : MH} {fs : List OS} {X : PH}
abbrev m31 (b b2 : Nat) (H : MH) (X : PH) (T2 : OS) (ms2 : List Nat) (ts2 : List (List Ent × Nat)) : Mem := X.mem b H ++ [hN b2 H.room H.used T2, T2.c, tabC ms2 ts2]
theorem copy_out {Q : AX → SL → Mem → Prop} (hX : X.ok H fs) (hlt : H.tabs.length ≤ 1000000)
    (hend : ∀ (T2 : OS) (ms2 : List Nat) (ts2 : List (List Ent × Nat)) (l' : SL), CInv H H.tabs.length T2 ms2 ts2 → Sub2 [(0, hP b), (3, hP b2)] l' → Q (.ext 0) l' (m31 b b2 H X T2 ms2 ts2)) :
    ∀ (f i : Nat) (T2 : OS) (ms2 : List Nat) (ts2 : List (List Ent × Nat)), H.tabs.length < i + f → i ≤ H.tabs.length → CInv H i T2 ms2 ts2 → Lp Try.prog true b31_1 f [(0, hP b), (3, hP b2), (25, X.T.v 1), (26, .int .i64 (.ofNat H.tabs.length)), (27, .int .i64 (.ofNat i))] (m31 b b2 H X T2 ms2 ts2) Q := by
  intro f
  induction f with
  | zero => intro i T2 ms2 ts2 h1 h2; omega
  | succ f ih =>
    intro i T2 ms2 ts2 h1 h2 I
    refine Lp.round ?_
    by_cases hi : i < H.tabs.length
    · obtain ⟨m, x, g1, g2, g3, g4⟩ := hX.at hi
      refine Cd.seq (Cd.mono (P := Try.prog) (nd := true) (c := .reg r31_5) (Q := fun y l' K => y = .nrm ∧ Sub2 ((28, .bool true) :: [(0, hP b), (3, hP b2), (25, X.T.v 1), (26, .int .i64 (.ofNat H.tabs.length)), (27, .int .i64 (.ofNat i))]) l' ∧ K = m31 b b2 H X T2 ms2 ts2) ?_ ?_)
      · repeat' (first|refine zz ?_|(refine zw ?_;refine And.intro ?_ ?_<;>intro hc)|(refine zv ?_;intro cv hv)|(refine za ?_;intro _)|refine zc ?_|(refine zd ?_;refine And.intro ?_ ?_<;>(intro e;(try simp only [Bool.not_eq_true',Bool.not_eq_false'] at e);subst e;try contradiction)))
        exact ⟨rfl, ⟨rfl, rfl, rfl, rfl, rfl, rfl, trivial⟩, rfl⟩
      rintro _ l1 _ ⟨rfl, hs1, rfl⟩
      show Cd _ _ _ _ _ _
      refine Cd.weak hs1 (Cd.seq (Cd.condT rfl (Cd.skip ?_)))
      show Cd _ _ _ _ _ _
      have hp := PH.perm (b := b) (H := H) g1 g2
      have hp1 : (m31 b b2 H X T2 ms2 ts2).flatten.Perm ([X.T.c, mC m x.2 x.1, hN b2 H.room H.used T2, T2.c] ++ [hB b H.room H.used (X.T.v 1) (X.F.v 3) (X.C.v 3), X.F.c, X.C.c, tabC (X.ms.eraseIdx i) (X.ts.eraseIdx i), tabC ms2 ts2]).flatten := by
        rw [m31, List.flatten_append]
        refine (List.Perm.append_right _ hp).trans ?_
        rw [← List.flatten_append]
        exact chunk_perm [hB b H.room H.used (X.T.v 1) (X.F.v 3) (X.C.v 3), X.T.c, mC m x.2 x.1, X.F.c, X.C.c, tabC (X.ms.eraseIdx i) (X.ts.eraseIdx i), hN b2 H.room H.used T2, T2.c, tabC ms2 ts2] [0, 1, 2, 3, 4, 5, 6, 7, 8] [1, 2, 6, 7, 0, 3, 4, 5, 8] (by decide)
      refine Cd.perm hp1 (Cd.weak (l2 := [(0, hP b), (3, hP b2), (25, X.T.v 1), (26, .int .i64 (.ofNat H.tabs.length)), (27, .int .i64 (.ofNat i))]) ⟨rfl, rfl, rfl, rfl, rfl, trivial⟩ (Cd.seq (Cd.blk ?_)))
      refine Cd.framed (Sel.left _ _) (copy_tab (n := 0) (X := []) hX.T1 g3 g4.good I.t (by rw [I.r, List.length_map, I.m]; omega)) ?_
      rintro _ l2 K2 ⟨rfl, T3, m2, es2, ck2, hT3, hr3, G2, hp2, hs2, r2, hsel⟩
      show Cd _ _ _ _ _ _
      refine Cd.weak hs2 (Cd.drop (Sel.app_left hsel) ?_)
      have hp3 : ([X.T.c, mC m x.2 x.1, hN b2 H.room H.used T3, T3.c, mC m2 ck2 es2] ++ [hB b H.room H.used (X.T.v 1) (X.F.v 3) (X.C.v 3), X.F.c, X.C.c, tabC (X.ms.eraseIdx i) (X.ts.eraseIdx i), tabC ms2 ts2]).flatten.Perm (m31 b b2 H X T3 (ms2 ++ [m2]) (ts2 ++ [(es2, ck2)])).flatten := by
        have e : tabC (ms2 ++ [m2]) (ts2 ++ [(es2, ck2)]) = tabC ms2 ts2 ++ mC m2 ck2 es2 := by
          unfold tabC
          rw [List.zipWith_append (by rw [I.m, I.l])]
          rfl
        rw [m31, e, List.flatten_append (L₁ := X.mem b H)]
        refine List.Perm.trans ?_ (List.Perm.append_right _ hp.symm)
        rw [← List.flatten_append]
        refine (chunk_perm [X.T.c, mC m x.2 x.1, hN b2 H.room H.used T3, T3.c, mC m2 ck2 es2, hB b H.room H.used (X.T.v 1) (X.F.v 3) (X.C.v 3), X.F.c, X.C.c, tabC (X.ms.eraseIdx i) (X.ts.eraseIdx i), tabC ms2 ts2] [0, 1, 2, 3, 4, 5, 6, 7, 8, 9] [5, 0, 1, 6, 7, 8, 2, 3, 9, 4] (by decide)).trans ?_
        simp
      refine Cd.perm hp3 ?_
      repeat' (first|refine zz ?_|(refine zw ?_;refine And.intro ?_ ?_<;>intro hc)|(refine zv ?_;intro cv hv)|(refine za ?_;intro _)|refine zc ?_|(refine zd ?_;refine And.intro ?_ ?_<;>(intro e;(try simp only [Bool.not_eq_true',Bool.not_eq_false'] at e);subst e;try contradiction)))
      refine Lp.weak ?hw (ih (i + 1) T3 (ms2 ++ [m2]) (ts2 ++ [(es2, ck2)]) (by omega) hi ⟨hT3, by rw [hr3, I.r]; simp, by simp [I.m], by simp [I.l], ?_⟩)
      case hw => exact ⟨rfl, rfl, rfl, rfl, rfl, trivial⟩
      intro j t L e1 e2
      by_cases hj : j < i
      · rw [List.getElem?_append_left (by rw [I.l]; exact hj)] at e1
        exact I.tr j t L e1 e2
      · rw [List.getElem?_append_right (by rw [I.l]; omega), I.l] at e1
        have hji : j - i = 0 := by
          rcases Nat.eq_zero_or_pos (j - i) with h | h
          · exact h
          · rw [List.getElem?_eq_none (by simp; omega)] at e1; cases e1
        rw [hji] at e1
        cases e1
        obtain rfl : j = i := by omega
        have e3 : tabL H j = L := by rw [tabL, e2]; rfl
        rw [e3] at g4
        exact ⟨G2, hp2.trans g4.perm, g4.srt⟩
    · have hil : i = H.tabs.length := by omega
      subst hil
      repeat' (first|refine zz ?_|(refine zw ?_;refine And.intro ?_ ?_<;>intro hc)|(refine zv ?_;intro cv hv)|(refine za ?_;intro _)|refine zc ?_|(refine zd ?_;refine And.intro ?_ ?_<;>(intro e;(try simp only [Bool.not_eq_true',Bool.not_eq_false'] at e);subst e;try contradiction)))
      exact hend T2 ms2 ts2 _ I ⟨rfl, rfl, trivial⟩
theorem copyH {c : Chk} (hX : HC b H fs c) (hok : H.ok) (hcl : H.cells.length < 100000) : CT Try.prog true 31 [hP b] [c] fun w K' => ∃ (b2 : Nat) (c2 : Chk), w = hP b2 ∧ HC b2 H fs c2 ∧ K' = [c, c2] := by
  obtain ⟨X, hX, rfl⟩ := hX
  have hu := hok.used
  have hle := hok.le
  have hr := hok.room
  have hfl := hX.fnl
  have hTl := hX.T1.len
  rw [hX.T2, List.length_map, hX.m1] at hTl
  have hC2 : X.C.rows.length = H.cells.length := by rw [hX.C2, List.length_map]
  refine CT.perm (K2 := X.mem b H) (by simp) ?_
  refine CT.re (Q := fun w K' => ∃ (b2 : Nat) (X2 : PH), w = hP b2 ∧ X2.ok H fs ∧ K' = X.mem b H ++ X2.mem b2 H) ?_ ?_
  · refine CT.enterS mixed comp31 (Nat.le_of_ble_eq_true rfl) ?_
    repeat' (first|(refine Rg.callM rfl there32.up (.cons .here .nil) ?_; rintro _ _ ⟨rfl, rfl⟩)|(refine Dw.a (Mk.box rfl rfl) fun b2 => ?_)|refine zz ?_|(refine zw ?_;refine And.intro ?_ ?_<;>intro hc)|(refine zv ?_;intro cv hv)|(refine za ?_;intro _)|refine zc ?_|(refine zd ?_;refine And.intro ?_ ?_<;>(intro e;(try simp only [Bool.not_eq_true',Bool.not_eq_false'] at e);subst e;try contradiction)))
    refine Cd.perm (K2 := m31 b b2 H X ⟨none, []⟩ [] []) (chunk_perm [hN b2 H.room H.used ⟨none, []⟩, hB b H.room H.used (X.T.v 1) (X.F.v 3) (X.C.v 3), X.T.c, X.F.c, X.C.c, tabC X.ms X.ts] [0, 1, 2, 3, 4, 5] [1, 2, 3, 4, 5, 0] (by decide)) ?_
    refine Cd.loop (k := H.tabs.length + 1) (Lp.weak (l2 := [(0, hP b), (3, hP b2), (25, X.T.v 1), (26, .int .i64 (.ofNat H.tabs.length)), (27, .int .i64 (.ofNat 0))]) ⟨rfl, rfl, rfl, rfl, rfl, trivial⟩ (copy_out hX (by omega) ?_ (H.tabs.length + 1) 0 ⟨none, []⟩ [] [] (by omega) (by omega) ⟨OS.ok.nil, rfl, rfl, rfl, fun j t L h => (by cases h)⟩))
    intro T2 ms2 ts2 l' I hs
    show Cd _ _ _ _ _ _
    refine Cd.weak hs ?_
    repeat' (first|refine zz ?_|(refine zw ?_;refine And.intro ?_ ?_<;>intro hc)|(refine zv ?_;intro cv hv)|(refine za ?_;intro _)|refine zc ?_|(refine zd ?_;refine And.intro ?_ ?_<;>(intro e;(try simp only [Bool.not_eq_true',Bool.not_eq_false'] at e);subst e;try contradiction)))
    refine Dw.e (Ef.appI (rs := X.F.rows) (n := X.F.rows.length) rfl rfl hX.F1.row rfl (Rw.os hX.F1 fun id o h => .there (.there (.mem h))) (by simp only [lim]; omega)) ?_
    rintro _ _ ⟨F2, hF2, hFr, rfl, rfl⟩
    refine ⟨by repeat (first | exact trivial | refine rdsB rfl ?_ | (refine rdsR ?_ ?_; (focus (first | assumption | (refine Rdk.b1 (cs := ?_) ?_ ?_; rotate_left; (repeat (first | exact InK.here | refine InK.there ?_)); exact rfl) | (refine Rdk.bw ?_ ?_; (repeat (first | exact InK.here | refine InK.there ?_)); first | assumption | exact rfl) | (refine Rdk.bn ?_ ?_; (repeat (first | exact InK.here | refine InK.there ?_)); exact rfl) | (refine Rdk.in ?_; first | assumption | exact rfl) | exact Rdk.i1)))), ?_⟩
    repeat' (first|refine zz ?_|(refine zw ?_;refine And.intro ?_ ?_<;>intro hc)|(refine zv ?_;intro cv hv)|(refine za ?_;intro _)|refine zc ?_|(refine zd ?_;refine And.intro ?_ ?_<;>(intro e;(try simp only [Bool.not_eq_true',Bool.not_eq_false'] at e);subst e;try contradiction)))
    refine Dw.e (Ef.store1 rfl rfl (F2.one 3) (.there (.there (.there (.there (.there (.there (Upd.here))))))) (Nat.le_of_ble_eq_true rfl)) ?_
    rintro _ _ ⟨rfl, rfl⟩
    refine ⟨by repeat (first | exact trivial | refine rdsB rfl ?_ | (refine rdsR ?_ ?_; (focus (first | assumption | (refine Rdk.b1 (cs := ?_) ?_ ?_; rotate_left; (repeat (first | exact InK.here | refine InK.there ?_)); exact rfl) | (refine Rdk.bw ?_ ?_; (repeat (first | exact InK.here | refine InK.there ?_)); first | assumption | exact rfl) | (refine Rdk.bn ?_ ?_; (repeat (first | exact InK.here | refine InK.there ?_)); exact rfl) | (refine Rdk.in ?_; first | assumption | exact rfl) | exact Rdk.i1)))), ?_⟩
    repeat' (first|refine zz ?_|(refine zw ?_;refine And.intro ?_ ?_<;>intro hc)|(refine zv ?_;intro cv hv)|(refine za ?_;intro _)|refine zc ?_|(refine zd ?_;refine And.intro ?_ ?_<;>(intro e;(try simp only [Bool.not_eq_true',Bool.not_eq_false'] at e);subst e;try contradiction)))
    refine Dw.e (Ef.appI (rs := X.C.rows) (n := X.C.rows.length) rfl rfl hX.C1.row rfl (Rw.os hX.C1 fun id o h => .there (.there (.there (.there (.mem h))))) (by simp only [lim]; omega)) ?_
    rintro _ _ ⟨C2, hC2', hCr, rfl, rfl⟩
    refine ⟨by repeat (first | exact trivial | refine rdsB rfl ?_ | (refine rdsR ?_ ?_; (focus (first | assumption | (refine Rdk.b1 (cs := ?_) ?_ ?_; rotate_left; (repeat (first | exact InK.here | refine InK.there ?_)); exact rfl) | (refine Rdk.bw ?_ ?_; (repeat (first | exact InK.here | refine InK.there ?_)); first | assumption | exact rfl) | (refine Rdk.bn ?_ ?_; (repeat (first | exact InK.here | refine InK.there ?_)); exact rfl) | (refine Rdk.in ?_; first | assumption | exact rfl) | exact Rdk.i1)))), ?_⟩
    repeat' (first|refine zz ?_|(refine zw ?_;refine And.intro ?_ ?_<;>intro hc)|(refine zv ?_;intro cv hv)|(refine za ?_;intro _)|refine zc ?_|(refine zd ?_;refine And.intro ?_ ?_<;>(intro e;(try simp only [Bool.not_eq_true',Bool.not_eq_false'] at e);subst e;try contradiction)))
    refine Dw.e (Ef.store1 rfl rfl (C2.one 3) (.there (.there (.there (.there (.there (.there (.there (Upd.here)))))))) (Nat.le_of_ble_eq_true rfl)) ?_
    rintro _ _ ⟨rfl, rfl⟩
    refine ⟨by repeat (first | exact trivial | refine rdsB rfl ?_ | (refine rdsR ?_ ?_; (focus (first | assumption | (refine Rdk.b1 (cs := ?_) ?_ ?_; rotate_left; (repeat (first | exact InK.here | refine InK.there ?_)); exact rfl) | (refine Rdk.bw ?_ ?_; (repeat (first | exact InK.here | refine InK.there ?_)); first | assumption | exact rfl) | (refine Rdk.bn ?_ ?_; (repeat (first | exact InK.here | refine InK.there ?_)); exact rfl) | (refine Rdk.in ?_; first | assumption | exact rfl) | exact Rdk.i1)))), ?_⟩
    repeat' (first|refine zz ?_|(refine zw ?_;refine And.intro ?_ ?_<;>intro hc)|(refine zv ?_;intro cv hv)|(refine za ?_;intro _)|refine zc ?_|(refine zd ?_;refine And.intro ?_ ?_<;>(intro e;(try simp only [Bool.not_eq_true',Bool.not_eq_false'] at e);subst e;try contradiction)))
    (first|refine ⟨.inr rfl,_,.t rfl .nil,?_⟩|refine ⟨.inr rfl,_,.t rfl (.t rfl .nil),?_⟩|refine ⟨.inr rfl,_,.t rfl (.t rfl (.t rfl .nil)),?_⟩|refine ⟨.inr rfl,_,.nil,?_⟩|refine ⟨.inl rfl,_,.t rfl .nil,?_⟩|refine ⟨.inl rfl,_,.nil,?_⟩|refine ⟨.inr rfl,_,.cn rfl (by exact zN) .nil,?_⟩|refine ⟨.inr rfl,_,.cn rfl (by exact zN) (.t rfl .nil),?_⟩)
    exact ⟨_, _, (.cons (.there (.there (.here))) (.cons (.there (.there (.here))) (.cons (.there (.there (.here))) (.cons (.there (.there (.here))) (.cons (.there (.there (.here))) (.cons (.there (.there (.here))) (.cons (.there (.there (.here))) (.cons (.there (.here)) (.cons (.here) (.cons (.here) (.nil))))))))))), b2, ⟨T2, F2, C2, ms2, ts2⟩, rfl, ⟨I.t, I.r, I.m, I.l, I.tr, hF2, by rw [hFr]; exact hX.F2, hX.f1, hX.fr, hC2', by rw [hCr]; exact hX.C2⟩, rfl⟩
  · rintro v K' ⟨b2, X2, rfl, hX2, rfl⟩
    exact ⟨[(X.mem b H).flatten, (X2.mem b2 H).flatten], by simp, b2, _, rfl, ⟨X2, hX2, rfl⟩, rfl⟩
end
end Go.Proofs.Ytggpnokhhpnnaaa
