/- The document's heap: a value is put (the pairs laid anew). -/
import Derived.Test.YtlflpjjmkigepaaPlnD
set_option autoImplicit false
set_option maxRecDepth 100000
set_option maxHeartbeats 4000000
set_option linter.unusedVariables false
set_option linter.unusedSimpArgs false
namespace Go.Proofs.Ytlflpjjmkigepaa
open Go Go.Abs
attribute [local irreducible] Cmp Rg Dw Cd Lp Ev Rdk CT Upd InK
section
variable {r n room i m b6 b7 : Nat} {s : List Nat} {vf vc : AV} {T l O : OS} {L out : List KV} {k v : Val} {ld : Bool} {e : KV} {z : AV}
end
end Go.Proofs.Ytlflpjjmkigepaa

namespace Go.Proofs.Ytlflpjjmkigepaa
open Go Go.Abs
attribute [local irreducible] Cmp Rg Dw Cd Lp Ev Rdk CT Upd InK
section
variable {r n room i m b5 b6 b7 : Nat} {s : List Nat} {vf vc : AV} {T l O : OS} {L out : List KV} {k v : Val} {ld : Bool}
end
end Go.Proofs.Ytlflpjjmkigepaa

namespace Go.Proofs.Ytlflpjjmkigepaa
open Go Go.Abs
attribute [local irreducible] Cmp Rg Dw Cd Lp Ev Rdk CT Upd InK
section
variable {r n room : Nat} {vt vf vc : AV} {T F C : OS}
end
end Go.Proofs.Ytlflpjjmkigepaa

namespace Go.Proofs.Ytlflpjjmkigepaa
open Go Go.Abs
structure RH where
  T : OS
  F : OS
  C : OS
  ms : List Nat
  ls : List OS
def tabRC (ms : List Nat) (ls : List OS) : Chk := (List.zipWith (fun m l => tO m (OS.v l 6) ++ l.c) ms ls).flatten
abbrev RH.mem (X : RH) (r : Nat) (H : MH) : Mem := [rB r (X.T.v 1) (X.F.v 3) (X.C.v 3) H.used H.room, X.T.c, X.F.c, X.C.c, tabRC X.ms X.ls]
structure RH.ok (X : RH) (H : MH) (fs : List OS) : Prop where
  T1 : X.T.ok 1
  T2 : X.T.rows = X.ms.map fun m => [tP m]
  m1 : X.ms.length = H.tabs.length
  l1 : X.ls.length = H.tabs.length
  tr : ∀ (i : Nat) (l : OS) (L : List KV), X.ls[i]? = some l → H.tabs[i]? = some L → l.ok 6 ∧ l.rows = L.map pairR
  F1 : X.F.ok 3
  F2 : X.F.rows = List.zipWith cloW H.fns fs
  f1 : fs.length = H.fns.length
  fr : ∀ (i : Nat) (c : Cl) (o : OS), H.fns[i]? = some c → fs[i]? = some o → o.ok 1 ∧ o.rows = c.cells.map rowI
  C1 : X.C.ok 3
  C2 : X.C.rows = H.cells.map valR
theorem tabRC_at {m : Nat} {l : OS} : ∀ {i : Nat} {ms : List Nat} {ls : List OS}, ms[i]? = some m → ls[i]? = some l → (tabRC ms ls).Perm ([tO m (l.v 6), l.c, tabRC (ms.eraseIdx i) (ls.eraseIdx i)] : Mem).flatten
  | 0, a :: ms, x :: ls, h1, h2 => by
    simp at h1 h2; subst h1; subst h2
    simp [tabRC]
  | i + 1, a :: ms, x :: ls, h1, h2 => by
    have := tabRC_at (i := i) (ms := ms) (ls := ls) (by simpa using h1) (by simpa using h2)
    simp only [tabRC, List.zipWith_cons_cons, List.eraseIdx_cons_succ, List.flatten_cons] at this ⊢
    refine (List.Perm.append_left _ this).trans ?_
    exact chunk_perm [tO a (x.v 6) ++ x.c, tO m (l.v 6), l.c, _] [0, 1, 2, 3] [1, 2, 0, 3] (by decide) |>.trans (by simp)
  | 0, [], _, h1, _ => by simp at h1
  | i + 1, [], _, h1, _ => by simp at h1
  | 0, _ :: _, [], _, h2 => by simp at h2
  | i + 1, _ :: _, [], _, h2 => by simp at h2
theorem last_perm (A D : Mem) {d : Chk} (h : d.Perm D.flatten) : (A ++ [d]).flatten.Perm (A ++ D).flatten := by
  rw [List.flatten_append, List.flatten_append, List.flatten_singleton]
  exact List.Perm.append_left _ h
section
variable {r : Nat} {H : MH} {fs : List OS} {X : RH}
theorem RH.ok.at (hX : X.ok H fs) {i : Nat} (hi : i < H.tabs.length) : ∃ m l, X.ms[i]? = some m ∧ X.ls[i]? = some l ∧ X.T.rows[i]? = some [tP m] ∧ l.ok 6 ∧ l.rows = (tabL H i).map pairR := by
  have h1 : i < X.ms.length := by rw [hX.m1]; exact hi
  have h2 : i < X.ls.length := by rw [hX.l1]; exact hi
  obtain ⟨h3, h4⟩ := hX.tr i _ _ (List.getElem?_eq_getElem h2) (List.getElem?_eq_getElem hi)
  refine ⟨X.ms[i], X.ls[i], List.getElem?_eq_getElem h1, List.getElem?_eq_getElem h2, ?_, h3, ?_⟩
  · rw [hX.T2, List.getElem?_map, List.getElem?_eq_getElem h1]; rfl
  · rw [h4, tabL, List.getElem?_eq_getElem hi]; rfl
theorem RH.ok.not (hX : X.ok H fs) {t : Val} (h : tabI H t = none) : ¬ isT X.T t := by
  have := tabI_none h
  rw [isT, hX.T2, List.length_map, hX.m1]
  exact this
theorem RH.perm {i m : Nat} {l : OS} (h1 : X.ms[i]? = some m) (h2 : X.ls[i]? = some l) : (X.mem r H).flatten.Perm ([rB r (X.T.v 1) (X.F.v 3) (X.C.v 3) H.used H.room, X.T.c, tO m (l.v 6), l.c] ++ [X.F.c, X.C.c, tabRC (X.ms.eraseIdx i) (X.ls.eraseIdx i)]).flatten :=
  (last_perm [rB r (X.T.v 1) (X.F.v 3) (X.C.v 3) H.used H.room, X.T.c, X.F.c, X.C.c] _ (tabRC_at h1 h2)).trans
    (chunk_perm [rB r (X.T.v 1) (X.F.v 3) (X.C.v 3) H.used H.room, X.T.c, X.F.c, X.C.c, tO m (l.v 6), l.c, tabRC (X.ms.eraseIdx i) (X.ls.eraseIdx i)] [0, 1, 2, 3, 4, 5, 6] [0, 1, 4, 5, 2, 3, 6] (by decide))
variable {c : Chk}
theorem RH.ok.put (hX : X.ok H fs) {i u : Nat} {l : OS} {L : List KV} (hi : i < H.tabs.length) (h : l.ok 6) (h2 : l.rows = L.map pairR) : RH.ok { X with ls := X.ls.set i l } { H with used := u, tabs := H.tabs.set i L } fs where
  T1 := hX.T1
  T2 := hX.T2
  m1 := by rw [List.length_set]; exact hX.m1
  l1 := by rw [List.length_set, List.length_set]; exact hX.l1
  tr := fun j t M h1 h3 => by
    by_cases e : i = j
    · subst e
      rw [List.getElem?_set_self (by rw [hX.l1]; exact hi)] at h1
      rw [List.getElem?_set_self hi] at h3
      cases h1; cases h3
      exact ⟨h, h2⟩
    · rw [List.getElem?_set_ne e] at h1 h3
      exact hX.tr j t M h1 h3
  F1 := hX.F1
  F2 := hX.F2
  f1 := hX.f1
  fr := hX.fr
  C1 := hX.C1
  C2 := hX.C2
end
end Go.Proofs.Ytlflpjjmkigepaa
