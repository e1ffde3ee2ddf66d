/- The document's heap: which key stands ahead; keys; a value is put. -/
import Derived.Test.YtlflpjjmkigepaaPlnB
set_option autoImplicit false
set_option maxRecDepth 100000
set_option maxHeartbeats 4000000
set_option linter.unusedVariables false
set_option linter.unusedSimpArgs false
namespace Go.Proofs.Ytlflpjjmkigepaa
open Go Go.Abs
attribute [local irreducible] Cmp Rg Dw Cd Lp Ev Rdk CT Upd InK
section
variable {r n room i m : Nat} {s : List Nat} {vf vc : AV} {T l : OS} {L : List KV} {k v : Val}
theorem Srt.behind {e : KV} {r : List KV} (h : Srt (e :: r)) {k : Val} (he : aheadB k e.1 = true ∨ e.1 = k) : (r.filter fun e => aheadB e.1 k) = [] ∧ (r.filter fun e => aheadB k e.1) = r ∧ (r.filter fun e => !decide (e.1 = k)) = r := by
  have hx : ∀ x, x ∈ r → aheadB k x.1 = true := fun x hx => by
    have := (List.pairwise_cons.1 h.ord).1 x hx
    rcases he with he | he
    · exact ahead_trans he this
    · rwa [he] at this
  refine ⟨?_, ?_, ?_⟩
  · rw [List.filter_eq_nil_iff]
    intro x hm
    rw [ahead_asym (hx x hm)]
    simp
  · rw [List.filter_eq_self]
    exact hx
  · rw [List.filter_eq_self]
    intro x hm
    have := (ahead_ne (hx x hm)).symm
    simp [this]
end
end Go.Proofs.Ytlflpjjmkigepaa

namespace Go.Proofs.Ytlflpjjmkigepaa
open Go Go.Abs
attribute [local irreducible] Cmp Rg Dw Cd Lp Ev Rdk CT Upd InK
section
variable {r n room i m b6 b7 : Nat} {s : List Nat} {vf vc : AV} {T l O : OS} {L out : List KV} {k v : Val} {ld : Bool} {e : KV} {z : AV}
end
end Go.Proofs.Ytlflpjjmkigepaa

namespace Go.Proofs.Ytlflpjjmkigepaa
open Go Go.Abs
attribute [local irreducible] Cmp Rg Dw Cd Lp Ev Rdk CT Upd InK
section
variable {r n room i m b5 b6 b7 : Nat} {s : List Nat} {vf vc : AV} {T l O : OS} {L out : List KV} {k v : Val} {ld : Bool}
end
end Go.Proofs.Ytlflpjjmkigepaa

namespace Go.Proofs.Ytlflpjjmkigepaa
open Go Go.Abs
attribute [local irreducible] Cmp Rg Dw Cd Lp Ev Rdk CT Upd InK
section
variable {r n room : Nat} {vt vf vc : AV} {T F C : OS}
end
end Go.Proofs.Ytlflpjjmkigepaa

namespace Go.Proofs.Ytlflpjjmkigepaa
open Go Go.Abs
structure RH where
  T : OS
  F : OS
  C : OS
  ms : List Nat
  ls : List OS
def tabRC (ms : List Nat) (ls : List OS) : Chk := (List.zipWith (fun m l => tO m (OS.v l 6) ++ l.c) ms ls).flatten
abbrev RH.mem (X : RH) (r : Nat) (H : MH) : Mem := [rB r (X.T.v 1) (X.F.v 3) (X.C.v 3) H.used H.room, X.T.c, X.F.c, X.C.c, tabRC X.ms X.ls]
structure RH.ok (X : RH) (H : MH) (fs : List OS) : Prop where
  T1 : X.T.ok 1
  T2 : X.T.rows = X.ms.map fun m => [tP m]
  m1 : X.ms.length = H.tabs.length
  l1 : X.ls.length = H.tabs.length
  tr : ∀ (i : Nat) (l : OS) (L : List KV), X.ls[i]? = some l → H.tabs[i]? = some L → l.ok 6 ∧ l.rows = L.map pairR
  F1 : X.F.ok 3
  F2 : X.F.rows = List.zipWith cloW H.fns fs
  f1 : fs.length = H.fns.length
  fr : ∀ (i : Nat) (c : Cl) (o : OS), H.fns[i]? = some c → fs[i]? = some o → o.ok 1 ∧ o.rows = c.cells.map rowI
  C1 : X.C.ok 3
  C2 : X.C.rows = H.cells.map valR
theorem tabRC_at {m : Nat} {l : OS} : ∀ {i : Nat} {ms : List Nat} {ls : List OS}, ms[i]? = some m → ls[i]? = some l → (tabRC ms ls).Perm ([tO m (l.v 6), l.c, tabRC (ms.eraseIdx i) (ls.eraseIdx i)] : Mem).flatten
  | 0, a :: ms, x :: ls, h1, h2 => by
    simp at h1 h2; subst h1; subst h2
    simp [tabRC]
  | i + 1, a :: ms, x :: ls, h1, h2 => by
    have := tabRC_at (i := i) (ms := ms) (ls := ls) (by simpa using h1) (by simpa using h2)
    simp only [tabRC, List.zipWith_cons_cons, List.eraseIdx_cons_succ, List.flatten_cons] at this ⊢
    refine (List.Perm.append_left _ this).trans ?_
    exact chunk_perm [tO a (x.v 6) ++ x.c, tO m (l.v 6), l.c, _] [0, 1, 2, 3] [1, 2, 0, 3] (by decide) |>.trans (by simp)
  | 0, [], _, h1, _ => by simp at h1
  | i + 1, [], _, h1, _ => by simp at h1
  | 0, _ :: _, [], _, h2 => by simp at h2
  | i + 1, _ :: _, [], _, h2 => by simp at h2
theorem last_perm (A D : Mem) {d : Chk} (h : d.Perm D.flatten) : (A ++ [d]).flatten.Perm (A ++ D).flatten := by
  rw [List.flatten_append, List.flatten_append, List.flatten_singleton]
  exact List.Perm.append_left _ h
section
variable {r : Nat} {H : MH} {fs : List OS} {X : RH}
theorem RH.ok.at (hX : X.ok H fs) {i : Nat} (hi : i < H.tabs.length) : ∃ m l, X.ms[i]? = some m ∧ X.ls[i]? = some l ∧ X.T.rows[i]? = some [tP m] ∧ l.ok 6 ∧ l.rows = (tabL H i).map pairR := by
  have h1 : i < X.ms.length := by rw [hX.m1]; exact hi
  have h2 : i < X.ls.length := by rw [hX.l1]; exact hi
  obtain ⟨h3, h4⟩ := hX.tr i _ _ (List.getElem?_eq_getElem h2) (List.getElem?_eq_getElem hi)
  refine ⟨X.ms[i], X.ls[i], List.getElem?_eq_getElem h1, List.getElem?_eq_getElem h2, ?_, h3, ?_⟩
  · rw [hX.T2, List.getElem?_map, List.getElem?_eq_getElem h1]; rfl
  · rw [h4, tabL, List.getElem?_eq_getElem hi]; rfl
theorem RH.ok.not (hX : X.ok H fs) {t : Val} (h : tabI H t = none) : ¬ isT X.T t := by
  have := tabI_none h
  rw [isT, hX.T2, List.length_map, hX.m1]
  exact this
theorem RH.perm {i m : Nat} {l : OS} (h1 : X.ms[i]? = some m) (h2 : X.ls[i]? = some l) : (X.mem r H).flatten.Perm ([rB r (X.T.v 1) (X.F.v 3) (X.C.v 3) H.used H.room, X.T.c, tO m (l.v 6), l.c] ++ [X.F.c, X.C.c, tabRC (X.ms.eraseIdx i) (X.ls.eraseIdx i)]).flatten :=
  (last_perm [rB r (X.T.v 1) (X.F.v 3) (X.C.v 3) H.used H.room, X.T.c, X.F.c, X.C.c] _ (tabRC_at h1 h2)).trans
    (chunk_perm [rB r (X.T.v 1) (X.F.v 3) (X.C.v 3) H.used H.room, X.T.c, X.F.c, X.C.c, tO m (l.v 6), l.c, tabRC (X.ms.eraseIdx i) (X.ls.eraseIdx i)] [0, 1, 2, 3, 4, 5, 6] [0, 1, 4, 5, 2, 3, 6] (by decide))
variable {c : Chk}
theorem RH.ok.put (hX : X.ok H fs) {i u : Nat} {l : OS} {L : List KV} (hi : i < H.tabs.length) (h : l.ok 6) (h2 : l.rows = L.map pairR) : RH.ok { X with ls := X.ls.set i l } { H with used := u, tabs := H.tabs.set i L } fs where
  T1 := hX.T1
  T2 := hX.T2
  m1 := by rw [List.length_set]; exact hX.m1
  l1 := by rw [List.length_set, List.length_set]; exact hX.l1
  tr := fun j t M h1 h3 => by
    by_cases e : i = j
    · subst e
      rw [List.getElem?_set_self (by rw [hX.l1]; exact hi)] at h1
      rw [List.getElem?_set_self hi] at h3
      cases h1; cases h3
      exact ⟨h, h2⟩
    · rw [List.getElem?_set_ne e] at h1 h3
      exact hX.tr j t M h1 h3
  F1 := hX.F1
  F2 := hX.F2
  f1 := hX.f1
  fr := hX.fr
  C1 := hX.C1
  C2 := hX.C2
end
end Go.Proofs.Ytlflpjjmkigepaa

namespace Go.Proofs.Ytlflpjjmkigepaa
open Go Go.Abs
attribute [local irreducible] Cmp Rg Dw Cd Lp Ev Rdk CT Upd InK
section
variable {r : Nat} {H : MH} {fs : List OS} {X : RH} {c : Chk}
theorem RH.ok.fn (hX : X.ok H fs) {F' o : OS} {q : Cl} (hF : F'.ok 3) (ho : o.ok 1) (hor : o.rows = q.cells.map rowI) (hF2 : F'.rows = X.F.rows ++ [[.int .i64 q.u, .int .i64 q.p, o.v 1]]) : RH.ok { X with F := F' } { H with used := H.used + 1, fns := H.fns ++ [q] } (fs ++ [o]) where
  T1 := hX.T1
  T2 := hX.T2
  m1 := hX.m1
  l1 := hX.l1
  tr := hX.tr
  F1 := hF
  F2 := by
    show F'.rows = List.zipWith cloW (H.fns ++ [q]) (fs ++ [o])
    rw [hF2, hX.F2, List.zipWith_append hX.f1.symm]
    rfl
  f1 := by simp [hX.f1]
  fr := fun i c' o' h1 h2 => by
    by_cases hi : i < H.fns.length
    · rw [List.getElem?_append_left hi] at h1
      rw [List.getElem?_append_left (by rw [hX.f1]; exact hi)] at h2
      exact hX.fr i c' o' h1 h2
    · rw [List.getElem?_append_right (by omega)] at h1
      rw [List.getElem?_append_right (by rw [hX.f1]; omega), hX.f1] at h2
      have : i - H.fns.length = 0 := by
        rcases Nat.eq_zero_or_pos (i - H.fns.length) with h | h
        · exact h
        · rw [List.getElem?_eq_none (by simp; omega)] at h2; cases h2
      rw [this] at h1 h2
      cases h1; cases h2
      exact ⟨ho, hor⟩
  C1 := hX.C1
  C2 := hX.C2
end
/-! Lists of values. -/
section
variable {A B : OS} {xs ys : List Val}
end
end Go.Proofs.Ytlflpjjmkigepaa
