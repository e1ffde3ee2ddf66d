/- More registers and more constants make no code wrong that may run; a jump beyond its end does. -/
import Derived.Test.YtmedepnfpiheoaaVerI
import Derived.Test.YtmedepnfpiheoaaAbsW
set_option autoImplicit false
set_option maxRecDepth 100000
set_option maxHeartbeats 2000000
set_option linter.unusedVariables false
set_option linter.unusedSimpArgs false
set_option maxHeartbeats 4000000
namespace Go.Proofs.Ytmedepnfpiheoaa
open Go Go.Abs
theorem chk_zero {u : Unt} : ∀ {l : List Proto} {i : Nat}, (chk u i l).1 = 0 → ∀ p, p ∈ l → protoBad u p = none
  | [], _, _, p, hp => by simp at hp
  | q :: l, i, h, p, hp => by
    simp only [chk] at h
    cases e : protoBad u q with
    | some pc => rw [e] at h; cases h
    | none =>
      rw [e] at h
      rcases List.mem_cons.1 hp with rfl | hp
      · exact e
      · exact chk_zero h p hp
theorem firstBad_none {u : Unt} {p : Proto} : ∀ {l : List Ins} {j : Nat}, firstBad u p j l = none → ∀ i x, l[i]? = some x → mayB u p (j + i) x = true
  | [], _, _, i, x, hx => by simp at hx
  | y :: l, j, h, i, x, hx => by
    simp only [firstBad] at h
    cases e : mayB u p j y with
    | false => rw [e] at h; cases h
    | true =>
      rw [e, if_pos rfl] at h
      cases i with
      | zero => simp at hx; subst hx; exact e
      | succ i =>
        rw [show j + (i + 1) = j + 1 + i by omega]
        exact firstBad_none h i x (by simpa using hx)
theorem protoBad_none {u : Unt} {p : Proto} (h : protoBad u p = none) : (∃ y, p.code[p.code.length - 1]? = some y ∧ (y.op = 37 ∨ y.op = 25)) ∧ ∀ i x, p.code[i]? = some x → mayB u p i x = true := by
  unfold protoBad at h
  split at h
  · rename_i y hy
    cases e : endsB y with
    | false => rw [e] at h; cases h
    | true =>
      rw [e, if_pos rfl] at h
      refine ⟨⟨y, hy, by simpa [endsB] using e⟩, fun i x hx => ?_⟩
      have := firstBad_none h i x hx
      rwa [Nat.zero_add] at this
  · cases h
theorem check_zero {u : Unt} (h : (check u).1 = 0) : unitB u = true ∧ ∀ p, p ∈ u.protos → protoBad u p = none := by
  unfold check at h
  cases e : unitB u with
  | false => rw [e] at h; cases h
  | true => rw [e, if_pos rfl] at h; exact ⟨rfl, chk_zero h⟩
theorem jumpB_said {p : Proto} {pc w : Nat} (h : jumpB p pc w = true) : ∃ y, p.code[w]? = some y ∧ (pc < w ∨ y.op = 0) := by
  unfold jumpB at h
  split at h
  · rename_i y hy
    exact ⟨y, hy, by simpa using h⟩
  · cases h
/-- Units that others see alike. -/
structure SameU (u v : Unt) : Prop where
  name : v.name = u.name
  version : v.version = u.version
  uses : v.uses = u.uses
  funs : v.funs = u.funs
  len : v.protos.length = u.protos.length
  at_ : ∀ (i : Nat) (q : Proto), u.protos[i]? = some q → ∃ q' : Proto, v.protos[i]? = some q' ∧ q'.caps = q.caps ∧ q'.params = q.params
theorem SameU.none {u v : Unt} (h : SameU u v) {i : Nat} (e : u.protos[i]? = none) : v.protos[i]? = none := by
  rw [List.getElem?_eq_none_iff] at e ⊢
  rw [h.len]; exact e
theorem closesB_mono {u v : Unt} (h : SameU u v) {p p' : Proto} (hr : p.regs ≤ p'.regs) (hc : p'.caps = p.caps) {k : Nat} (hk : closesB u p k = true) : closesB v p' k = true := by
  unfold closesB at hk ⊢
  cases e : u.protos[k]? with
  | none => rw [e] at hk; cases hk
  | some q =>
    obtain ⟨q', e', h1, h2⟩ := h.at_ k q e
    rw [e] at hk
    rw [e']
    simp only [Bool.and_eq_true, decide_eq_true_eq] at hk ⊢
    refine ⟨by rw [h.funs]; exact hk.1, ?_⟩
    rw [h1, List.all_eq_true]
    intro c hc2
    have := List.all_eq_true.1 hk.2 c hc2
    simp only [capOk, decide_eq_true_eq] at this ⊢
    rw [hc]
    split at this <;> rename_i hu <;> simp only [hu] <;> simp <;> omega
theorem regs3_mono {n m : Int} (h : n ≤ m) {s : List Nat} {x : Ins} (hx : regs3 n s x = true) : regs3 m s x = true := by
  unfold regs3 at hx ⊢
  split at hx <;> simp_all <;> omega
theorem opB_mono {u v : Unt} (h : SameU u v) {p p' : Proto} (hr : p.regs ≤ p'.regs) (hc : p'.caps = p.caps) (hk : p.consts.length ≤ p'.consts.length) {pc : Nat} {x : Ins} (hj : jumpB p pc (wide x) = true → jumpB p' pc (wide x) = true)
    (hx : opB u p pc x = true) : opB v p' pc x = true := by
  unfold opB at hx ⊢
  rw [hc, h.funs, h.uses]
  split
  · rename_i e; rw [if_pos e] at hx; simp only [decide_eq_true_eq] at hx ⊢; omega
  rename_i e; rw [if_neg e] at hx
  split
  · rename_i e; rw [if_pos e] at hx; simp only [decide_eq_true_eq] at hx ⊢; omega
  rename_i e; rw [if_neg e] at hx
  split
  · rename_i e; rw [if_pos e] at hx; exact hx
  rename_i e; rw [if_neg e] at hx
  split
  · rename_i e; rw [if_pos e] at hx; exact hx
  rename_i e; rw [if_neg e] at hx
  split
  · rename_i e; rw [if_pos e] at hx; exact hj hx
  rename_i e; rw [if_neg e] at hx
  split
  · rename_i e; rw [if_pos e] at hx; exact closesB_mono h hr hc hx
  rename_i e; rw [if_neg e] at hx
  split
  · rename_i e; rw [if_pos e] at hx; simp only [decide_eq_true_eq] at hx ⊢; omega
  rename_i e; rw [if_neg e] at hx
  split
  · rename_i e; rw [if_pos e] at hx
    simp only [Bool.and_eq_true] at hx ⊢
    refine ⟨hx.1, ?_⟩
    have h2 := hx.2
    cases e2 : u.protos[x.c.toNat]? with
    | none => rw [e2] at h2; cases h2
    | some q =>
      obtain ⟨q', e3, _, h4⟩ := h.at_ _ q e2
      rw [e2] at h2
      rw [e3]
      simp only [decide_eq_true_eq] at h2 ⊢
      omega
  rename_i e; rw [if_neg e] at hx
  split
  · rename_i e; rw [if_pos e] at hx
    cases e2 : u.uses[x.c.toNat]? with
    | none => rw [e2] at hx; cases hx
    | some q =>
      rw [e2] at hx
      simp only [decide_eq_true_eq] at hx ⊢
      omega
  rfl
theorem mayB_mono {u v : Unt} (h : SameU u v) {p p' : Proto} (hr : p.regs ≤ p'.regs) (hc : p'.caps = p.caps) (hk : p.consts.length ≤ p'.consts.length) {pc : Nat} {x : Ins} (hj : jumpB p pc (wide x) = true → jumpB p' pc (wide x) = true)
    (hx : mayB u p pc x = true) : mayB v p' pc x = true := by
  simp only [mayB, Bool.and_eq_true] at hx ⊢
  exact ⟨regs3_mono hr hx.1, opB_mono h hr hc hk hj hx.2⟩
theorem firstBad_all {u : Unt} {p : Proto} : ∀ {l : List Ins} {j : Nat}, (∀ i x, l[i]? = some x → mayB u p (j + i) x = true) → firstBad u p j l = none
  | [], _, _ => rfl
  | y :: l, j, h => by
    rw [firstBad, show mayB u p j y = true from by have := h 0 y rfl; rwa [Nat.add_zero] at this, if_pos rfl]
    refine firstBad_all fun i x hx => ?_
    have := h (i + 1) x (by simpa using hx)
    rwa [show j + (i + 1) = j + 1 + i by omega] at this
theorem firstBad_at {u : Unt} {p : Proto} : ∀ {l : List Ins} {j : Nat} {x : Ins}, (∀ i y, l[i]? = some y → mayB u p (j + i) y = true) → mayB u p (j + l.length) x = false → firstBad u p j (l ++ [x]) = some (j + l.length)
  | [], j, x, _, hx => by
    simp only [List.nil_append, firstBad, List.length_nil, Nat.add_zero] at hx ⊢
    rw [if_neg (by rw [hx]; decide)]
  | y :: l, j, x, h, hx => by
    rw [List.cons_append, firstBad, show mayB u p j y = true from by have := h 0 y rfl; rwa [Nat.add_zero] at this, if_pos rfl]
    rw [firstBad_at (fun i z hz => ?_) (by rw [← hx]; congr 1; simp; omega)]
    · simp; omega
    · have := h (i + 1) z (by simpa using hz)
      rwa [show j + (i + 1) = j + 1 + i by omega] at this
theorem chk_all {u : Unt} : ∀ {l : List Proto} {i : Nat}, (∀ p, p ∈ l → protoBad u p = none) → chk u i l = (0, 0, 0)
  | [], _, _ => rfl
  | p :: l, i, h => by
    rw [chk, h p (by simp)]
    exact chk_all fun q hq => h q (List.mem_cons_of_mem _ hq)
theorem chk_at {u : Unt} : ∀ {l : List Proto} {i k : Nat} {p : Proto} {pc : Nat}, l[k]? = some p → protoBad u p = some pc → (∀ j q, j < k → l[j]? = some q → protoBad u q = none) → chk u i l = (14, i + k, pc)
  | [], _, _, _, _, h, _, _ => by simp at h
  | q :: l, i, 0, p, pc, h, hb, _ => by
    simp at h; subst h
    rw [chk, hb]; rfl
  | q :: l, i, k + 1, p, pc, h, hb, hl => by
    rw [chk, hl 0 q (by omega) rfl]
    show chk u (i + 1) l = _
    rw [chk_at (k := k) (by simpa using h) hb (fun j z hj hz => hl (j + 1) z (by omega) (by simpa using hz))]
    rw [show i + 1 + k = i + (k + 1) by omega]
end Go.Proofs.Ytmedepnfpiheoaa

namespace Go.Proofs.Ytmedepnfpiheoaa
open Go Go.Abs
def moreP (p : Proto) (cv : AV) : Proto := { p with regs := p.regs + 1, constsV := cv, consts := p.consts ++ [⟨0, 0, []⟩] }
def jumpI (n : Nat) : Ins := ⟨25, 0, ((n % 256 : Nat) : Int), ((n / 256 : Nat) : Int)⟩
def worseP (p : Proto) (cv : AV) : Proto := { p with codeV := cv, code := p.code.take (p.code.length - 1) ++ [jumpI p.code.length] }
def setU (u : Unt) (pv : AV) (k : Nat) (q : Proto) : Unt := { u with protosV := pv, protos := u.protos.set k q }
theorem sameU_set {u : Unt} {pv : AV} {k : Nat} {p q : Proto} (h : u.protos[k]? = some p) (hc : q.caps = p.caps) (hp : q.params = p.params) : SameU u (setU u pv k q) := by
  refine ⟨rfl, rfl, rfl, rfl, by simp [setU], ?_⟩
  intro i r hr
  show ∃ q', (u.protos.set k q)[i]? = some q' ∧ _
  by_cases e : k = i
  · subst e
    rw [h] at hr; cases hr
    exact ⟨q, by rw [List.getElem?_set_self (List.getElem?_eq_some_iff.1 h).1], hc, hp⟩
  · exact ⟨r, by rw [List.getElem?_set_ne e]; exact hr, rfl, rfl⟩
theorem protosB_iff {funs : Int} : ∀ {l : List Proto} {i : Nat}, protosB funs i l = true ↔ ∀ (j : Nat) (p : Proto), l[j]? = some p → protoB p (decide (((i + j + 1 : Nat) : Int) ≤ funs)) = true
  | [], i => by simp [protosB]
  | q :: l, i => by
    rw [protosB, Bool.and_eq_true, protosB_iff (l := l)]
    constructor
    · rintro ⟨h1, h2⟩ j p hp
      cases j with
      | zero => simp at hp; subst hp; exact h1
      | succ j =>
        have := h2 j p (by simpa using hp)
        rwa [show i + 1 + j + 1 = i + (j + 1) + 1 by omega] at this
    · intro h
      refine ⟨h 0 q rfl, fun j p hp => ?_⟩
      have := h (j + 1) p (by simpa using hp)
      rwa [show i + (j + 1) + 1 = i + 1 + j + 1 by omega] at this
theorem unitB_set {u : Unt} {pv : AV} {k : Nat} {p q : Proto} (h : u.protos[k]? = some p) (hq : ∀ top, protoB p top = true → protoB q top = true) (hu : unitB u = true) : unitB (setU u pv k q) = true := by
  simp only [unitB, Bool.and_eq_true, decide_eq_true_eq] at hu ⊢
  have key : protosB u.funs 0 u.protos = true → protosB u.funs 0 (u.protos.set k q) = true := by
    intro hp
    rw [protosB_iff] at hp ⊢
    intro j r hr
    by_cases e : k = j
    · subst e
      rw [List.getElem?_set_self (List.getElem?_eq_some_iff.1 h).1] at hr
      cases hr
      exact hq _ (hp k p h)
    · rw [List.getElem?_set_ne e] at hr
      exact hp j r hr
  simp only [setU, List.length_set]
  exact ⟨hu.1, hu.2.1, key hu.2.2⟩
theorem check_more {u : Unt} {pv cv : AV} {k : Nat} {p : Proto} (hz : (check u).1 = 0) (h : u.protos[k]? = some p) (hr : p.regs < 100) (hc : p.consts.length < 200) : check (setU u pv k (moreP p cv)) = (0, 0, 0) := by
  obtain ⟨hu, hb⟩ := check_zero hz
  have hs : SameU u (setU u pv k (moreP p cv)) := sameU_set h rfl rfl
  have hu' : unitB (setU u pv k (moreP p cv)) = true := by
    refine unitB_set h (fun top hp => ?_) hu
    simp only [protoB, Bool.and_eq_true] at hp ⊢
    refine ⟨hp.1, ?_⟩
    have := hp.2
    show (decide (0 ≤ p.params ∧ p.params ≤ 8) && decide (max 1 p.params ≤ p.regs + 1 ∧ p.regs + 1 ≤ 100) && (decide ((p.consts ++ [(⟨0, 0, []⟩ : Val)]).length ≤ 200) && (p.consts ++ [(⟨0, 0, []⟩ : Val)]).all constB) && (decide (p.code.length ≤ 8000) && p.code.all rightI)) = true
    simp only [shapedB, Bool.and_eq_true, decide_eq_true_eq, List.length_append, List.length_singleton, List.all_append] at this ⊢
    refine ⟨⟨⟨this.1.1.1, by omega⟩, by omega, this.1.2.2, by decide⟩, this.2⟩
  rw [check, hu', if_pos rfl]
  refine chk_all fun q hq => ?_
  obtain ⟨j, hj⟩ := List.getElem?_of_mem hq
  have key : ∀ r r' : Proto, r ∈ u.protos → r'.code = r.code → r'.caps = r.caps → r.regs ≤ r'.regs → r.consts.length ≤ r'.consts.length → protoBad (setU u pv k (moreP p cv)) r' = none := by
    intro r r' hr1 e1 e2 e3 e4
    obtain ⟨⟨y, hy, he⟩, hm⟩ := protoBad_none (hb r hr1)
    rw [protoBad, e1, hy]
    simp only [endsB, he, decide_true, if_true]
    refine firstBad_all fun i x hx => ?_
    rw [Nat.zero_add]
    refine mayB_mono hs e3 e2 e4 (fun hjm => ?_) (hm i x hx)
    unfold jumpB at hjm ⊢
    rw [e1]; exact hjm
  change (u.protos.set k (moreP p cv))[j]? = some q at hj
  by_cases e : k = j
  · subst e
    rw [List.getElem?_set_self (List.getElem?_eq_some_iff.1 h).1] at hj
    cases hj
    exact key p _ (List.mem_of_getElem? h) rfl rfl (by simp only [moreP]; omega) (by simp [moreP])
  · rw [List.getElem?_set_ne e] at hj
    exact key q q (List.mem_of_getElem? hj) rfl rfl (Int.le_refl _) (Nat.le_refl _)
theorem jumpI_right {n : Nat} (h : n ≤ 8000) : rightI (jumpI n) = true := by
  have e : shape 25 = [45, 119] := by kernel_rfl
  show fit3 (shape 25) (jumpI n) = true
  rw [e]
  show (fitD 45 0 && fitD 119 ((n % 256 : Nat) : Int) && fitD 119 ((n / 256 : Nat) : Int)) = true
  rw [Bool.and_eq_true, Bool.and_eq_true]
  refine ⟨⟨rfl, ?_⟩, ?_⟩
  · rw [fitD, if_neg (by decide), decide_eq_true_eq]; omega
  · rw [fitD, if_neg (by decide), decide_eq_true_eq]; omega
theorem jumpI_wide {n : Nat} (h : n ≤ 8000) : wide (jumpI n) = n := by
  rw [wide, if_pos (jumpI_right h)]
  simp only [jumpI]
  omega
theorem check_worse {u : Unt} {pv cv : AV} {k : Nat} {p : Proto} (hz : (check u).1 = 0) (h : u.protos[k]? = some p) (hn : p.code.length ≠ 0) (h8 : p.code.length < 8000) : check (setU u pv k (worseP p cv)) = (14, k, p.code.length - 1) := by
  obtain ⟨hu, hb⟩ := check_zero hz
  have hs : SameU u (setU u pv k (worseP p cv)) := sameU_set h rfl rfl
  have hlen : (p.code.take (p.code.length - 1)).length = p.code.length - 1 := by simp
  have hu' : unitB (setU u pv k (worseP p cv)) = true := by
    refine unitB_set h (fun top hp => ?_) hu
    simp only [protoB, Bool.and_eq_true] at hp ⊢
    refine ⟨hp.1, ?_⟩
    have := hp.2
    show (decide (0 ≤ p.params ∧ p.params ≤ 8) && decide (max 1 p.params ≤ p.regs ∧ p.regs ≤ 100) && (decide (p.consts.length ≤ 200) && p.consts.all constB) && (decide ((p.code.take (p.code.length - 1) ++ [jumpI p.code.length]).length ≤ 8000) && (p.code.take (p.code.length - 1) ++ [jumpI p.code.length]).all rightI)) = true
    simp only [shapedB, Bool.and_eq_true, decide_eq_true_eq, List.length_append, List.length_singleton, List.all_append, hlen] at this ⊢
    refine ⟨this.1, by omega, List.all_eq_true.2 fun x hx => List.all_eq_true.1 this.2.2 x (List.mem_of_mem_take hx), by simp [jumpI_right (Nat.le_of_lt h8)]⟩
  have hwb : protoBad (setU u pv k (worseP p cv)) (worseP p cv) = some (p.code.length - 1) := by
    obtain ⟨⟨y, hy, he⟩, hm⟩ := protoBad_none (hb p (List.mem_of_getElem? h))
    have hcl : (worseP p cv).code.length - 1 = p.code.length - 1 := by simp [worseP]
    rw [protoBad, hcl, show (worseP p cv).code[p.code.length - 1]? = some (jumpI p.code.length) by
      show (p.code.take (p.code.length - 1) ++ [jumpI p.code.length])[p.code.length - 1]? = _
      rw [List.getElem?_append_right (by omega), hlen, Nat.sub_self]; rfl]
    show (if endsB (jumpI p.code.length) = true then _ else _) = _
    rw [if_pos (show endsB (jumpI p.code.length) = true from rfl)]
    show firstBad _ _ 0 (p.code.take (p.code.length - 1) ++ [jumpI p.code.length]) = _
    have f1 : ∀ (i : Nat) (x : Ins), (p.code.take (p.code.length - 1))[i]? = some x → mayB (setU u pv k (worseP p cv)) (worseP p cv) (0 + i) x = true := by
      intro i x hx
      rw [Nat.zero_add]
      rw [List.getElem?_take] at hx
      split at hx
      · rename_i hi
        refine mayB_mono (p := p) (p' := worseP p cv) hs (Int.le_refl p.regs) rfl (Nat.le_refl p.consts.length) (fun hj => ?_) (hm i x hx)
        obtain ⟨z, hz1, hz2⟩ := jumpB_said hj
        have hzl := (List.getElem?_eq_some_iff.1 hz1).1
        unfold jumpB
        show (match (p.code.take (p.code.length - 1) ++ [jumpI p.code.length])[wide x]? with | some y => decide (i < wide x) || decide (y.op = 0) | none => false) = true
        by_cases hl : wide x < p.code.length - 1
        · rw [List.getElem?_append_left (by omega), List.getElem?_take, if_pos hl, hz1]
          simp only [Bool.or_eq_true, decide_eq_true_eq]
          exact hz2
        · rw [List.getElem?_append_right (by omega), hlen, show wide x - (p.code.length - 1) = 0 by omega]
          simp only [List.getElem?_cons_zero, Bool.or_eq_true, decide_eq_true_eq]
          left; omega
      · cases hx
    have f2 : mayB (setU u pv k (worseP p cv)) (worseP p cv) (0 + (p.code.take (p.code.length - 1)).length) (jumpI p.code.length) = false := by
      rw [Nat.zero_add, hlen, mayB, Bool.and_eq_false_iff]
      right
      unfold opB
      simp only [jumpI]
      rw [if_neg (by decide), if_neg (by decide), if_neg (by decide), if_neg (by decide), if_pos (by decide)]
      have := jumpI_wide (n := p.code.length) (Nat.le_of_lt h8)
      simp only [jumpI] at this
      rw [this, jumpB, List.getElem?_eq_none (by simp [worseP, hlen]; omega)]
    rw [firstBad_at f1 f2, hlen, Nat.zero_add]
  rw [check, hu', if_pos rfl]
  have := chk_at (u := setU u pv k (worseP p cv)) (l := u.protos.set k (worseP p cv)) (i := 0) (k := k) (p := worseP p cv) (pc := p.code.length - 1) (by rw [List.getElem?_set_self (List.getElem?_eq_some_iff.1 h).1]) hwb ?_
  · rw [Nat.zero_add] at this; exact this
  · intro j q hj hq
    rw [List.getElem?_set_ne (by omega)] at hq
    obtain ⟨⟨y, hy, he⟩, hm⟩ := protoBad_none (hb q (List.mem_of_getElem? hq))
    rw [protoBad, hy]
    simp only [endsB, he, decide_true, if_true]
    refine firstBad_all fun i x hx => ?_
    rw [Nat.zero_add]
    exact mayB_mono hs (Int.le_refl _) rfl (Nat.le_refl _) (fun hj => hj) (hm i x hx)
end Go.Proofs.Ytmedepnfpiheoaa

namespace Go.Proofs.Ytmedepnfpiheoaa
open Go Go.Abs
theorem rowsP (u : Unt) : ∀ r, r ∈ u.protos.map protoR → r.length = 6 := by
  intro r hr
  obtain ⟨p, _, rfl⟩ := List.mem_map.1 hr
  rfl
section
variable {u : Unt} {p : Proto} {b2 b9 b10 b11 k n c g : Nat} {rows : List (List AV)} {r : List AV}
theorem m10 (hu : OkU u) (h0 : u.protos.length ≠ 0) (h64 : u.protos.length ≤ 64) : Cd Try.prog false (.reg r5_10) [(2, .ptr b2 0 0 5), (8, .int .i64 (.ofNat k)), (9, .ptr b9 0 0 6)] [[(b9, .cells (protoR p) 0 0 false)], boxU b2 u]
    fun e l K => e = .nrm ∧ ∃ b10, Sub2 [(2, .ptr b2 0 0 5), (8, .int .i64 (.ofNat k)), (9, .ptr b9 0 0 6), (10, .slc b10 0 0 u.protos.length u.protos.length 6)] l ∧ ∃ r, Sel K [[(b10, .cells (u.protos.map protoR).flatten 0 0 true)], [(b9, .cells (protoR p) 0 0 false)], boxU b2 u] r := by
  repeat' (first|refine zA ?_|refine Cd.reg ?_|refine Rg.nil ?_|refine zF ?_|refine zG ?_|refine zH ?_|(refine Rg.p (v:=?_) ?_ ?_;rotate_left;exact zE)|(refine Rg.cmp (p:=?_) rfl rfl ?_ ?_;rotate_left;exact zC;intro cv hv)|(refine Rg.r (v:=?_) rfl rfl ?_ ?_;rotate_left;exact zN)|refine zL fun _=>?_|refine Rg.alloc fun _=>?_|refine Rg.a (Mk.lits rfl) fun _=>?_|refine zO (cs:=?_) (K':=?_) ?_|refine zP (cs:=?_) (K':=?_) ?_|(refine zQ (g:=?_) ?_;intro cv hv)|(refine zR (w:=?_) ?_;intro cv hv)|refine zS (v:=?_) ?_|refine zT (v:=?_) ?_|refine Lp.round ?_|refine Cd.draw ?_|refine Dw.nil ?_|refine Dw.guardY rfl ?_|refine Dw.guardN rfl ?_|refine Dw.guardT rfl ?_|(refine Dw.p (v:=?_) ?_ ?_;rotate_left;exact zE)|(refine Dw.cmp (p:=?_) rfl rfl ?_ ?_;rotate_left;exact zC;intro cv hv)|(refine Dw.r (v:=?_) rfl rfl ?_ ?_ ?_;rotate_left;exact zN;exact zM)|refine Dw.a Mk.alloc fun _=>?_|refine Dw.a (Mk.lits rfl) fun _=>?_|(refine zY (g:=?_) ?_;intro cv hv)|refine zW (v:=?_) ?_|refine Cd.condT rfl ?_|refine Cd.condF rfl ?_|((first|refine Cd.cond rfl ?_ ?_|refine Rg.guardS rfl ?_ ?_|refine Dw.guardS rfl ?_ ?_)<;>(intro e;(try simp only [Bool.not_eq_true',Bool.not_eq_false'] at e);subst e;try contradiction))|refine Cd.skip ?_|refine Cd.blk ?_|refine Cd.ext ?_|refine Cd.ret ?_)
  have hb : ∀ K, Rw K 6 u.protosV (u.protos.map protoR).flatten u.protos.length := by
    intro K
    have := Rw.asl (K := K) hu.protos
    rwa [List.length_map] at this
  refine Rg.e (Ef.appN rfl rfl InK.here (hb _) h0 ?_) ?_
  · simp only [lim]; omega
  rintro _ _ ⟨b10, rfl, rfl⟩
  repeat' (first|refine zA ?_|refine Cd.reg ?_|refine Rg.nil ?_|refine zF ?_|refine zG ?_|refine zH ?_|(refine Rg.p (v:=?_) ?_ ?_;rotate_left;exact zE)|(refine Rg.cmp (p:=?_) rfl rfl ?_ ?_;rotate_left;exact zC;intro cv hv)|(refine Rg.r (v:=?_) rfl rfl ?_ ?_;rotate_left;exact zN)|refine zL fun _=>?_|refine Rg.alloc fun _=>?_|refine Rg.a (Mk.lits rfl) fun _=>?_|refine zO (cs:=?_) (K':=?_) ?_|refine zP (cs:=?_) (K':=?_) ?_|(refine zQ (g:=?_) ?_;intro cv hv)|(refine zR (w:=?_) ?_;intro cv hv)|refine zS (v:=?_) ?_|refine zT (v:=?_) ?_|refine Lp.round ?_|refine Cd.draw ?_|refine Dw.nil ?_|refine Dw.guardY rfl ?_|refine Dw.guardN rfl ?_|refine Dw.guardT rfl ?_|(refine Dw.p (v:=?_) ?_ ?_;rotate_left;exact zE)|(refine Dw.cmp (p:=?_) rfl rfl ?_ ?_;rotate_left;exact zC;intro cv hv)|(refine Dw.r (v:=?_) rfl rfl ?_ ?_ ?_;rotate_left;exact zN;exact zM)|refine Dw.a Mk.alloc fun _=>?_|refine Dw.a (Mk.lits rfl) fun _=>?_|(refine zY (g:=?_) ?_;intro cv hv)|refine zW (v:=?_) ?_|refine Cd.condT rfl ?_|refine Cd.condF rfl ?_|((first|refine Cd.cond rfl ?_ ?_|refine Rg.guardS rfl ?_ ?_|refine Dw.guardS rfl ?_ ?_)<;>(intro e;(try simp only [Bool.not_eq_true',Bool.not_eq_false'] at e);subst e;try contradiction))|refine Cd.skip ?_|refine Cd.blk ?_|refine Cd.ext ?_|refine Cd.ret ?_)
  exact ⟨rfl, b10, ⟨rfl, rfl, rfl, rfl, trivial⟩, _, .cons .here (.cons (.there .here) (.cons (.there .here) .nil))⟩
theorem m11 (hrow : ∀ r, r ∈ rows → r.length = 6) (hn : rows.length = n) (hk : rows[k]? = some r) (h1 : 0 ≤ p.regs) (h2 : p.regs ≤ 100) : Cd Try.prog false (.reg r5_11) [(2, .ptr b2 0 0 5), (8, .int .i64 (.ofNat k)), (9, .ptr b9 0 0 6), (10, .slc b10 0 0 n n 6)] [[(b10, .cells rows.flatten 0 0 true)], [(b9, .cells (protoR p) 0 0 false)], boxU b2 u]
    fun e l K => e = .nrm ∧ Sub2 [(2, .ptr b2 0 0 5), (8, .int .i64 (.ofNat k)), (9, .ptr b9 0 0 6), (10, .slc b10 0 0 n n 6)] l ∧ K = [[(b10, .cells (rows.set k (r.set 2 (.int .i64 (p.regs + 1)))).flatten 0 0 true)], [(b9, .cells (protoR p) 0 0 false)], boxU b2 u] := by
  have hkl := (List.getElem?_eq_some_iff.1 hk).1
  have q1 := iadr_slc (sz := 6) (b := b10) (g := 0) (off := 0) (len := n) (cap := n) (i := k) (k := .i64) (by omega)
  have q2 : abin .add (.int .i64 p.regs) (.int .i64 (.ofNat 1)) = some (.int .i64 (p.regs + 1)) := add_int (by simp; omega) (by simp; omega)
  have hl := rows_len hrow
  repeat' (first|refine zA ?_|refine Cd.reg ?_|refine Rg.nil ?_|refine zF ?_|refine zG ?_|refine zH ?_|(refine Rg.p (v:=?_) ?_ ?_;rotate_left;exact zE)|(refine Rg.cmp (p:=?_) rfl rfl ?_ ?_;rotate_left;exact zC;intro cv hv)|(refine Rg.r (v:=?_) rfl rfl ?_ ?_;rotate_left;exact zN)|refine zL fun _=>?_|refine Rg.alloc fun _=>?_|refine Rg.a (Mk.lits rfl) fun _=>?_|refine zO (cs:=?_) (K':=?_) ?_|refine zP (cs:=?_) (K':=?_) ?_|(refine zQ (g:=?_) ?_;intro cv hv)|(refine zR (w:=?_) ?_;intro cv hv)|refine zS (v:=?_) ?_|refine zT (v:=?_) ?_|refine Lp.round ?_|refine Cd.draw ?_|refine Dw.nil ?_|refine Dw.guardY rfl ?_|refine Dw.guardN rfl ?_|refine Dw.guardT rfl ?_|(refine Dw.p (v:=?_) ?_ ?_;rotate_left;exact zE)|(refine Dw.cmp (p:=?_) rfl rfl ?_ ?_;rotate_left;exact zC;intro cv hv)|(refine Dw.r (v:=?_) rfl rfl ?_ ?_ ?_;rotate_left;exact zN;exact zM)|refine Dw.a Mk.alloc fun _=>?_|refine Dw.a (Mk.lits rfl) fun _=>?_|(refine zY (g:=?_) ?_;intro cv hv)|refine zW (v:=?_) ?_|refine Cd.condT rfl ?_|refine Cd.condF rfl ?_|((first|refine Cd.cond rfl ?_ ?_|refine Rg.guardS rfl ?_ ?_|refine Dw.guardS rfl ?_ ?_)<;>(intro e;(try simp only [Bool.not_eq_true',Bool.not_eq_false'] at e);subst e;try contradiction))|refine Cd.skip ?_|refine Cd.blk ?_|refine Cd.ext ?_|refine Cd.ret ?_)
  refine Rg.store rfl rfl Upd.here rfl rfl (Nat.le_of_ble_eq_true rfl) ?_ ?_
  · omega
  repeat' (first|refine zA ?_|refine Cd.reg ?_|refine Rg.nil ?_|refine zF ?_|refine zG ?_|refine zH ?_|(refine Rg.p (v:=?_) ?_ ?_;rotate_left;exact zE)|(refine Rg.cmp (p:=?_) rfl rfl ?_ ?_;rotate_left;exact zC;intro cv hv)|(refine Rg.r (v:=?_) rfl rfl ?_ ?_;rotate_left;exact zN)|refine zL fun _=>?_|refine Rg.alloc fun _=>?_|refine Rg.a (Mk.lits rfl) fun _=>?_|refine zO (cs:=?_) (K':=?_) ?_|refine zP (cs:=?_) (K':=?_) ?_|(refine zQ (g:=?_) ?_;intro cv hv)|(refine zR (w:=?_) ?_;intro cv hv)|refine zS (v:=?_) ?_|refine zT (v:=?_) ?_|refine Lp.round ?_|refine Cd.draw ?_|refine Dw.nil ?_|refine Dw.guardY rfl ?_|refine Dw.guardN rfl ?_|refine Dw.guardT rfl ?_|(refine Dw.p (v:=?_) ?_ ?_;rotate_left;exact zE)|(refine Dw.cmp (p:=?_) rfl rfl ?_ ?_;rotate_left;exact zC;intro cv hv)|(refine Dw.r (v:=?_) rfl rfl ?_ ?_ ?_;rotate_left;exact zN;exact zM)|refine Dw.a Mk.alloc fun _=>?_|refine Dw.a (Mk.lits rfl) fun _=>?_|(refine zY (g:=?_) ?_;intro cv hv)|refine zW (v:=?_) ?_|refine Cd.condT rfl ?_|refine Cd.condF rfl ?_|((first|refine Cd.cond rfl ?_ ?_|refine Rg.guardS rfl ?_ ?_|refine Dw.guardS rfl ?_ ?_)<;>(intro e;(try simp only [Bool.not_eq_true',Bool.not_eq_false'] at e);subst e;try contradiction))|refine Cd.skip ?_|refine Cd.blk ?_|refine Cd.ext ?_|refine Cd.ret ?_)
  refine ⟨rfl, ⟨rfl, rfl, rfl, rfl, trivial⟩, ?_⟩
  rw [← setSeg_row hrow hk (by omega), Nat.zero_add]
  rfl
theorem m12 (hp : OkP p) (hm : p.consts.length < 200) (hrow : ∀ r, r ∈ rows → r.length = 6) (hn : rows.length = n) (hk : rows[k]? = some r) : Cd Try.prog false (.reg r5_12) [(2, .ptr b2 0 0 5), (8, .int .i64 (.ofNat k)), (9, .ptr b9 0 0 6), (10, .slc b10 0 0 n n 6)] [[(b10, .cells rows.flatten 0 0 true)], [(b9, .cells (protoR p) 0 0 false)], boxU b2 u]
    fun e l K => e = .nrm ∧ Sub2 [(2, .ptr b2 0 0 5), (8, .int .i64 (.ofNat k)), (9, .ptr b9 0 0 6), (10, .slc b10 0 0 n n 6)] l ∧ ∃ c g C B r2, C = ((p.consts ++ [(⟨0, 0, []⟩ : Val)]).map valR).flatten ∧ B = (rows.set k (r.set 4 (.slc c g 0 (p.consts.length + 1) (p.consts.length + 1) 3))).flatten ∧ Sel K [[(c, .cells C g g true)], [(b10, .cells B 0 0 true)], [(b9, .cells (protoR p) 0 0 false)], boxU b2 u] r2 := by
  have hkl := (List.getElem?_eq_some_iff.1 hk).1
  have q1 := iadr_slc (sz := 6) (b := b10) (g := 0) (off := 0) (len := n) (cap := n) (i := k) (k := .i64) (by omega)
  have hl := rows_len hrow
  have hb : ∀ K, Rw K 3 p.constsV (p.consts.map valR).flatten p.consts.length := by
    intro K
    have := Rw.asl (K := K) hp.consts
    rwa [List.length_map] at this
  have hcl : (p.consts.map valR).flatten.length = p.consts.length * 3 := by
    have := rows_len (sz := 3) (rows := p.consts.map valR) (by intro r hr; obtain ⟨p, _, rfl⟩ := List.mem_map.1 hr; rfl)
    rwa [List.length_map] at this
  by_cases h0 : p.consts.length = 0
  · have hc0 := List.length_eq_zero_iff.1 h0
    repeat' (first|refine zA ?_|refine Cd.reg ?_|refine Rg.nil ?_|refine zF ?_|refine zG ?_|refine zH ?_|(refine Rg.p (v:=?_) ?_ ?_;rotate_left;exact zE)|(refine Rg.cmp (p:=?_) rfl rfl ?_ ?_;rotate_left;exact zC;intro cv hv)|(refine Rg.r (v:=?_) rfl rfl ?_ ?_;rotate_left;exact zN)|refine zL fun _=>?_|refine Rg.alloc fun _=>?_|refine Rg.a (Mk.lits rfl) fun _=>?_|refine zO (cs:=?_) (K':=?_) ?_|refine zP (cs:=?_) (K':=?_) ?_|(refine zQ (g:=?_) ?_;intro cv hv)|(refine zR (w:=?_) ?_;intro cv hv)|refine zS (v:=?_) ?_|refine zT (v:=?_) ?_|refine Lp.round ?_|refine Cd.draw ?_|refine Dw.nil ?_|refine Dw.guardY rfl ?_|refine Dw.guardN rfl ?_|refine Dw.guardT rfl ?_|(refine Dw.p (v:=?_) ?_ ?_;rotate_left;exact zE)|(refine Dw.cmp (p:=?_) rfl rfl ?_ ?_;rotate_left;exact zC;intro cv hv)|(refine Dw.r (v:=?_) rfl rfl ?_ ?_ ?_;rotate_left;exact zN;exact zM)|refine Dw.a Mk.alloc fun _=>?_|refine Dw.a (Mk.lits rfl) fun _=>?_|(refine zY (g:=?_) ?_;intro cv hv)|refine zW (v:=?_) ?_|refine Cd.condT rfl ?_|refine Cd.condF rfl ?_|((first|refine Cd.cond rfl ?_ ?_|refine Rg.guardS rfl ?_ ?_|refine Dw.guardS rfl ?_ ?_)<;>(intro e;(try simp only [Bool.not_eq_true',Bool.not_eq_false'] at e);subst e;try contradiction))|refine Cd.skip ?_|refine Cd.blk ?_|refine Cd.ext ?_|refine Cd.ret ?_)
    refine Rg.e (Ef.app0 rfl rfl (cs := (p.consts.map valR).flatten) (by rw [← h0]; exact hb _) rfl) ?_
    rintro _ _ ⟨rfl, rfl⟩
    repeat' (first|refine zA ?_|refine Cd.reg ?_|refine Rg.nil ?_|refine zF ?_|refine zG ?_|refine zH ?_|(refine Rg.p (v:=?_) ?_ ?_;rotate_left;exact zE)|(refine Rg.cmp (p:=?_) rfl rfl ?_ ?_;rotate_left;exact zC;intro cv hv)|(refine Rg.r (v:=?_) rfl rfl ?_ ?_;rotate_left;exact zN)|refine zL fun _=>?_|refine Rg.alloc fun _=>?_|refine Rg.a (Mk.lits rfl) fun _=>?_|refine zO (cs:=?_) (K':=?_) ?_|refine zP (cs:=?_) (K':=?_) ?_|(refine zQ (g:=?_) ?_;intro cv hv)|(refine zR (w:=?_) ?_;intro cv hv)|refine zS (v:=?_) ?_|refine zT (v:=?_) ?_|refine Lp.round ?_|refine Cd.draw ?_|refine Dw.nil ?_|refine Dw.guardY rfl ?_|refine Dw.guardN rfl ?_|refine Dw.guardT rfl ?_|(refine Dw.p (v:=?_) ?_ ?_;rotate_left;exact zE)|(refine Dw.cmp (p:=?_) rfl rfl ?_ ?_;rotate_left;exact zC;intro cv hv)|(refine Dw.r (v:=?_) rfl rfl ?_ ?_ ?_;rotate_left;exact zN;exact zM)|refine Dw.a Mk.alloc fun _=>?_|refine Dw.a (Mk.lits rfl) fun _=>?_|(refine zY (g:=?_) ?_;intro cv hv)|refine zW (v:=?_) ?_|refine Cd.condT rfl ?_|refine Cd.condF rfl ?_|((first|refine Cd.cond rfl ?_ ?_|refine Rg.guardS rfl ?_ ?_|refine Dw.guardS rfl ?_ ?_)<;>(intro e;(try simp only [Bool.not_eq_true',Bool.not_eq_false'] at e);subst e;try contradiction))|refine Cd.skip ?_|refine Cd.blk ?_|refine Cd.ext ?_|refine Cd.ret ?_)
    refine Rg.e (Ef.appN (n := 1) rfl rfl (InK.there InK.here) (Rw.slc InK.here (Nat.le_refl _) (Nat.le_refl _) rfl) (by decide) (by decide)) ?_
    rintro _ _ ⟨c, rfl, rfl⟩
    repeat' (first|refine zA ?_|refine Cd.reg ?_|refine Rg.nil ?_|refine zF ?_|refine zG ?_|refine zH ?_|(refine Rg.p (v:=?_) ?_ ?_;rotate_left;exact zE)|(refine Rg.cmp (p:=?_) rfl rfl ?_ ?_;rotate_left;exact zC;intro cv hv)|(refine Rg.r (v:=?_) rfl rfl ?_ ?_;rotate_left;exact zN)|refine zL fun _=>?_|refine Rg.alloc fun _=>?_|refine Rg.a (Mk.lits rfl) fun _=>?_|refine zO (cs:=?_) (K':=?_) ?_|refine zP (cs:=?_) (K':=?_) ?_|(refine zQ (g:=?_) ?_;intro cv hv)|(refine zR (w:=?_) ?_;intro cv hv)|refine zS (v:=?_) ?_|refine zT (v:=?_) ?_|refine Lp.round ?_|refine Cd.draw ?_|refine Dw.nil ?_|refine Dw.guardY rfl ?_|refine Dw.guardN rfl ?_|refine Dw.guardT rfl ?_|(refine Dw.p (v:=?_) ?_ ?_;rotate_left;exact zE)|(refine Dw.cmp (p:=?_) rfl rfl ?_ ?_;rotate_left;exact zC;intro cv hv)|(refine Dw.r (v:=?_) rfl rfl ?_ ?_ ?_;rotate_left;exact zN;exact zM)|refine Dw.a Mk.alloc fun _=>?_|refine Dw.a (Mk.lits rfl) fun _=>?_|(refine zY (g:=?_) ?_;intro cv hv)|refine zW (v:=?_) ?_|refine Cd.condT rfl ?_|refine Cd.condF rfl ?_|((first|refine Cd.cond rfl ?_ ?_|refine Rg.guardS rfl ?_ ?_|refine Dw.guardS rfl ?_ ?_)<;>(intro e;(try simp only [Bool.not_eq_true',Bool.not_eq_false'] at e);subst e;try contradiction))|refine Cd.skip ?_|refine Cd.blk ?_|refine Cd.ext ?_|refine Cd.ret ?_)
    refine Rg.store rfl rfl (Upd.there (Upd.there (Upd.there Upd.here))) rfl rfl (Nat.le_of_ble_eq_true rfl) ?_ ?_
    · omega
    repeat' (first|refine zA ?_|refine Cd.reg ?_|refine Rg.nil ?_|refine zF ?_|refine zG ?_|refine zH ?_|(refine Rg.p (v:=?_) ?_ ?_;rotate_left;exact zE)|(refine Rg.cmp (p:=?_) rfl rfl ?_ ?_;rotate_left;exact zC;intro cv hv)|(refine Rg.r (v:=?_) rfl rfl ?_ ?_;rotate_left;exact zN)|refine zL fun _=>?_|refine Rg.alloc fun _=>?_|refine Rg.a (Mk.lits rfl) fun _=>?_|refine zO (cs:=?_) (K':=?_) ?_|refine zP (cs:=?_) (K':=?_) ?_|(refine zQ (g:=?_) ?_;intro cv hv)|(refine zR (w:=?_) ?_;intro cv hv)|refine zS (v:=?_) ?_|refine zT (v:=?_) ?_|refine Lp.round ?_|refine Cd.draw ?_|refine Dw.nil ?_|refine Dw.guardY rfl ?_|refine Dw.guardN rfl ?_|refine Dw.guardT rfl ?_|(refine Dw.p (v:=?_) ?_ ?_;rotate_left;exact zE)|(refine Dw.cmp (p:=?_) rfl rfl ?_ ?_;rotate_left;exact zC;intro cv hv)|(refine Dw.r (v:=?_) rfl rfl ?_ ?_ ?_;rotate_left;exact zN;exact zM)|refine Dw.a Mk.alloc fun _=>?_|refine Dw.a (Mk.lits rfl) fun _=>?_|(refine zY (g:=?_) ?_;intro cv hv)|refine zW (v:=?_) ?_|refine Cd.condT rfl ?_|refine Cd.condF rfl ?_|((first|refine Cd.cond rfl ?_ ?_|refine Rg.guardS rfl ?_ ?_|refine Dw.guardS rfl ?_ ?_)<;>(intro e;(try simp only [Bool.not_eq_true',Bool.not_eq_false'] at e);subst e;try contradiction))|refine Cd.skip ?_|refine Cd.blk ?_|refine Cd.ext ?_|refine Cd.ret ?_)
    refine ⟨rfl, ⟨rfl, rfl, rfl, rfl, trivial⟩, c, 0, _, _, _, ?_, ?_, .cons .here (.cons (.there (.there .here)) (.cons (.there (.there .here)) (.cons (.there (.there .here)) .nil)))⟩
    · rw [hc0]; rfl
    · rw [← setSeg_row hrow hk (by omega), h0, Nat.zero_add (k * 6)]; rfl
  · repeat' (first|refine zA ?_|refine Cd.reg ?_|refine Rg.nil ?_|refine zF ?_|refine zG ?_|refine zH ?_|(refine Rg.p (v:=?_) ?_ ?_;rotate_left;exact zE)|(refine Rg.cmp (p:=?_) rfl rfl ?_ ?_;rotate_left;exact zC;intro cv hv)|(refine Rg.r (v:=?_) rfl rfl ?_ ?_;rotate_left;exact zN)|refine zL fun _=>?_|refine Rg.alloc fun _=>?_|refine Rg.a (Mk.lits rfl) fun _=>?_|refine zO (cs:=?_) (K':=?_) ?_|refine zP (cs:=?_) (K':=?_) ?_|(refine zQ (g:=?_) ?_;intro cv hv)|(refine zR (w:=?_) ?_;intro cv hv)|refine zS (v:=?_) ?_|refine zT (v:=?_) ?_|refine Lp.round ?_|refine Cd.draw ?_|refine Dw.nil ?_|refine Dw.guardY rfl ?_|refine Dw.guardN rfl ?_|refine Dw.guardT rfl ?_|(refine Dw.p (v:=?_) ?_ ?_;rotate_left;exact zE)|(refine Dw.cmp (p:=?_) rfl rfl ?_ ?_;rotate_left;exact zC;intro cv hv)|(refine Dw.r (v:=?_) rfl rfl ?_ ?_ ?_;rotate_left;exact zN;exact zM)|refine Dw.a Mk.alloc fun _=>?_|refine Dw.a (Mk.lits rfl) fun _=>?_|(refine zY (g:=?_) ?_;intro cv hv)|refine zW (v:=?_) ?_|refine Cd.condT rfl ?_|refine Cd.condF rfl ?_|((first|refine Cd.cond rfl ?_ ?_|refine Rg.guardS rfl ?_ ?_|refine Dw.guardS rfl ?_ ?_)<;>(intro e;(try simp only [Bool.not_eq_true',Bool.not_eq_false'] at e);subst e;try contradiction))|refine Cd.skip ?_|refine Cd.blk ?_|refine Cd.ext ?_|refine Cd.ret ?_)
    refine Rg.e (Ef.appN rfl rfl InK.here (hb _) h0 (by simp only [lim]; omega)) ?_
    rintro _ _ ⟨c, rfl, rfl⟩
    repeat' (first|refine zA ?_|refine Cd.reg ?_|refine Rg.nil ?_|refine zF ?_|refine zG ?_|refine zH ?_|(refine Rg.p (v:=?_) ?_ ?_;rotate_left;exact zE)|(refine Rg.cmp (p:=?_) rfl rfl ?_ ?_;rotate_left;exact zC;intro cv hv)|(refine Rg.r (v:=?_) rfl rfl ?_ ?_;rotate_left;exact zN)|refine zL fun _=>?_|refine Rg.alloc fun _=>?_|refine Rg.a (Mk.lits rfl) fun _=>?_|refine zO (cs:=?_) (K':=?_) ?_|refine zP (cs:=?_) (K':=?_) ?_|(refine zQ (g:=?_) ?_;intro cv hv)|(refine zR (w:=?_) ?_;intro cv hv)|refine zS (v:=?_) ?_|refine zT (v:=?_) ?_|refine Lp.round ?_|refine Cd.draw ?_|refine Dw.nil ?_|refine Dw.guardY rfl ?_|refine Dw.guardN rfl ?_|refine Dw.guardT rfl ?_|(refine Dw.p (v:=?_) ?_ ?_;rotate_left;exact zE)|(refine Dw.cmp (p:=?_) rfl rfl ?_ ?_;rotate_left;exact zC;intro cv hv)|(refine Dw.r (v:=?_) rfl rfl ?_ ?_ ?_;rotate_left;exact zN;exact zM)|refine Dw.a Mk.alloc fun _=>?_|refine Dw.a (Mk.lits rfl) fun _=>?_|(refine zY (g:=?_) ?_;intro cv hv)|refine zW (v:=?_) ?_|refine Cd.condT rfl ?_|refine Cd.condF rfl ?_|((first|refine Cd.cond rfl ?_ ?_|refine Rg.guardS rfl ?_ ?_|refine Dw.guardS rfl ?_ ?_)<;>(intro e;(try simp only [Bool.not_eq_true',Bool.not_eq_false'] at e);subst e;try contradiction))|refine Cd.skip ?_|refine Cd.blk ?_|refine Cd.ext ?_|refine Cd.ret ?_)
    refine Rg.e (Ef.appG (n := 1) (g := 0) rfl rfl (Upd.there Upd.here) hcl (Rw.slc InK.here (Nat.le_refl _) (Nat.le_refl _) rfl) (by decide) (by simp only [lim]; omega)) ?_
    rintro _ _ ⟨rfl, rfl⟩
    repeat' (first|refine zA ?_|refine Cd.reg ?_|refine Rg.nil ?_|refine zF ?_|refine zG ?_|refine zH ?_|(refine Rg.p (v:=?_) ?_ ?_;rotate_left;exact zE)|(refine Rg.cmp (p:=?_) rfl rfl ?_ ?_;rotate_left;exact zC;intro cv hv)|(refine Rg.r (v:=?_) rfl rfl ?_ ?_;rotate_left;exact zN)|refine zL fun _=>?_|refine Rg.alloc fun _=>?_|refine Rg.a (Mk.lits rfl) fun _=>?_|refine zO (cs:=?_) (K':=?_) ?_|refine zP (cs:=?_) (K':=?_) ?_|(refine zQ (g:=?_) ?_;intro cv hv)|(refine zR (w:=?_) ?_;intro cv hv)|refine zS (v:=?_) ?_|refine zT (v:=?_) ?_|refine Lp.round ?_|refine Cd.draw ?_|refine Dw.nil ?_|refine Dw.guardY rfl ?_|refine Dw.guardN rfl ?_|refine Dw.guardT rfl ?_|(refine Dw.p (v:=?_) ?_ ?_;rotate_left;exact zE)|(refine Dw.cmp (p:=?_) rfl rfl ?_ ?_;rotate_left;exact zC;intro cv hv)|(refine Dw.r (v:=?_) rfl rfl ?_ ?_ ?_;rotate_left;exact zN;exact zM)|refine Dw.a Mk.alloc fun _=>?_|refine Dw.a (Mk.lits rfl) fun _=>?_|(refine zY (g:=?_) ?_;intro cv hv)|refine zW (v:=?_) ?_|refine Cd.condT rfl ?_|refine Cd.condF rfl ?_|((first|refine Cd.cond rfl ?_ ?_|refine Rg.guardS rfl ?_ ?_|refine Dw.guardS rfl ?_ ?_)<;>(intro e;(try simp only [Bool.not_eq_true',Bool.not_eq_false'] at e);subst e;try contradiction))|refine Cd.skip ?_|refine Cd.blk ?_|refine Cd.ext ?_|refine Cd.ret ?_)
    refine Rg.store rfl rfl (Upd.there (Upd.there (Upd.there Upd.here))) rfl rfl (Nat.le_of_ble_eq_true rfl) ?_ ?_
    · omega
    repeat' (first|refine zA ?_|refine Cd.reg ?_|refine Rg.nil ?_|refine zF ?_|refine zG ?_|refine zH ?_|(refine Rg.p (v:=?_) ?_ ?_;rotate_left;exact zE)|(refine Rg.cmp (p:=?_) rfl rfl ?_ ?_;rotate_left;exact zC;intro cv hv)|(refine Rg.r (v:=?_) rfl rfl ?_ ?_;rotate_left;exact zN)|refine zL fun _=>?_|refine Rg.alloc fun _=>?_|refine Rg.a (Mk.lits rfl) fun _=>?_|refine zO (cs:=?_) (K':=?_) ?_|refine zP (cs:=?_) (K':=?_) ?_|(refine zQ (g:=?_) ?_;intro cv hv)|(refine zR (w:=?_) ?_;intro cv hv)|refine zS (v:=?_) ?_|refine zT (v:=?_) ?_|refine Lp.round ?_|refine Cd.draw ?_|refine Dw.nil ?_|refine Dw.guardY rfl ?_|refine Dw.guardN rfl ?_|refine Dw.guardT rfl ?_|(refine Dw.p (v:=?_) ?_ ?_;rotate_left;exact zE)|(refine Dw.cmp (p:=?_) rfl rfl ?_ ?_;rotate_left;exact zC;intro cv hv)|(refine Dw.r (v:=?_) rfl rfl ?_ ?_ ?_;rotate_left;exact zN;exact zM)|refine Dw.a Mk.alloc fun _=>?_|refine Dw.a (Mk.lits rfl) fun _=>?_|(refine zY (g:=?_) ?_;intro cv hv)|refine zW (v:=?_) ?_|refine Cd.condT rfl ?_|refine Cd.condF rfl ?_|((first|refine Cd.cond rfl ?_ ?_|refine Rg.guardS rfl ?_ ?_|refine Dw.guardS rfl ?_ ?_)<;>(intro e;(try simp only [Bool.not_eq_true',Bool.not_eq_false'] at e);subst e;try contradiction))|refine Cd.skip ?_|refine Cd.blk ?_|refine Cd.ext ?_|refine Cd.ret ?_)
    refine ⟨rfl, ⟨rfl, rfl, rfl, rfl, trivial⟩, c, 1, _, _, _, ?_, ?_, .cons (.there .here) (.cons (.there (.there .here)) (.cons (.there (.there .here)) (.cons (.there (.there .here)) .nil)))⟩
    · rw [List.map_append, List.flatten_append]; rfl
    · rw [← setSeg_row hrow hk (by omega), Nat.zero_add (k * 6)]; rfl
end
end Go.Proofs.Ytmedepnfpiheoaa

namespace Go.Proofs.Ytmedepnfpiheoaa
open Go Go.Abs
theorem frzP {p : Proto} (hp : OkP p) {s : St} {n : Nat} : ∀ x, x ∈ protoR p → Frz s (n + 1) x x := by
  intro x hx
  simp only [protoR, List.mem_cons, List.not_mem_nil, or_false] at hx
  rcases hx with rfl | rfl | rfl | rfl | rfl | rfl
  · exact Frz.atom rfl
  · exact Frz.atom rfl
  · exact Frz.atom rfl
  · refine Frz.asl hp.code fun r hr x hx => ?_
    obtain ⟨p, _, rfl⟩ := List.mem_map.1 hr
    simp only [insR, List.mem_cons, List.not_mem_nil, or_false] at hx
    rcases hx with rfl | rfl | rfl | rfl <;> rfl
  · refine Frz.asl hp.consts fun r hr x hx => ?_
    obtain ⟨p, _, rfl⟩ := List.mem_map.1 hr
    simp only [valR, List.mem_cons, List.not_mem_nil, or_false] at hx
    rcases hx with rfl | rfl | rfl <;> rfl
  · refine Frz.asl hp.caps fun r hr x hx => ?_
    obtain ⟨p, _, rfl⟩ := List.mem_map.1 hr
    simp only [capR, List.mem_cons, List.not_mem_nil, or_false] at hx
    rcases hx with rfl | rfl <;> rfl
theorem frzU {u : Unt} (hu : OkU u) {M : Mem} {b10 k n : Nat} {q : Proto} {row : List AV} (hb : InK M b10 (.cells ((u.protos.map protoR).set k row).flatten 0 0 true)) (hn : n = u.protos.length) (hr : row.length = 6) (hF : ∀ s, Hd s M → Fz2 (Frz s 3) row (protoR q)) :
    ∀ s, Hd s M → Fz2 (Frz s 5) [.agg [.str u.name, .int .i64 u.version, u.usesV, .int .i64 u.funs, .slc b10 0 0 n n 6]] [.agg (unitR (setU u (.isl ((u.protos.map protoR).set k (protoR q)).flatten n 6) k q))] := by
  intro s hs
  have hus : Frz s 4 u.usesV u.usesV := by
    refine Frz.asl hu.uses fun r hr x hx => ?_
    obtain ⟨p, _, rfl⟩ := List.mem_map.1 hr
    simp only [useR, List.mem_cons, List.not_mem_nil, or_false] at hx
    rcases hx with rfl | rfl | rfl <;> rfl
  have hsl : Frz s 4 (.slc b10 0 0 n n 6) (.isl ((u.protos.map protoR).set k (protoR q)).flatten n 6) := by
    refine Frz.slc hs hb (Nat.le_refl _) (Nat.le_refl _) (cs := ((u.protos.map protoR).set k row).flatten) ?_ ?_
    · rw [seg_all]
      rw [rows_len (sz := 6), List.length_set, List.length_map, hn]
      intro r hr2
      rcases List.mem_or_eq_of_mem_set hr2 with h | rfl
      · exact rowsP u r h
      · exact hr
    · refine Fz2.rows (by simp) fun i x x' h1 h2 => ?_
      by_cases e : k = i
      · subst e
        have hl := (List.getElem?_eq_some_iff.1 h1).1
        rw [List.length_set] at hl
        rw [List.getElem?_set_self hl] at h1 h2
        cases h1; cases h2
        exact hF s hs
      · rw [List.getElem?_set_ne e] at h1 h2
        rw [h1] at h2; cases h2
        obtain ⟨p, hp, rfl⟩ := List.mem_map.1 (List.mem_of_getElem? h1)
        exact Fz2.same (frzP (hu.ps p hp))
  simp only [Fz2, unitR, setU]
  refine ⟨_, [], rfl, Frz.agg ?_, rfl⟩
  simp only [Fz2]
  exact ⟨_, _, rfl, Frz.atom rfl, _, _, rfl, Frz.atom rfl, _, _, rfl, hus, _, _, rfl, Frz.atom rfl, _, _, rfl, hsl, rfl⟩
theorem okU_set {u : Unt} (hu : OkU u) {k n : Nat} {q : Proto} (hq : OkP q) (hn : n = u.protos.length) : OkU (setU u (.isl ((u.protos.map protoR).set k (protoR q)).flatten n 6) k q) := by
  refine ⟨hu.name, hu.uses, ?_, hu.luses, ?_, hu.um, ?_⟩
  · show ASl 6 (.isl ((u.protos.map protoR).set k (protoR q)).flatten n 6) ((u.protos.set k q).map protoR)
    rw [List.map_set]
    refine ⟨?_, .inr (.inr ?_)⟩
    · intro r hr
      rcases List.mem_or_eq_of_mem_set hr with h | rfl
      · exact rowsP u r h
      · rfl
    · rw [List.length_set, List.length_map, hn]
  · show (u.protos.set k q).length ≤ _
    rw [List.length_set]; exact hu.lprotos
  · intro p hp
    rcases List.mem_or_eq_of_mem_set hp with h | rfl
    · exact hu.ps p h
    · exact hq
section
variable {u : Unt} {p : Proto} {b2 b9 b10 b11 k n c g : Nat} {C B : List AV}
theorem m13 : Cd Try.prog false (.reg r5_13) [(2, .ptr b2 0 0 5), (8, .int .i64 (.ofNat k)), (9, .ptr b9 0 0 6), (10, .slc b10 0 0 n n 6)] [[(c, .cells C g g true)], [(b10, .cells B 0 0 true)], [(b9, .cells (protoR p) 0 0 false)], boxU b2 u]
    fun e l K => e = .nrm ∧ ∃ b11, Sub2 [(2, .ptr b2 0 0 5), (8, .int .i64 (.ofNat k)), (9, .ptr b9 0 0 6), (10, .slc b10 0 0 n n 6), (11, .ptr b11 0 0 5)] l ∧ K = [[(b11, .cells (unitR u) 0 0 false)], [(c, .cells C g g true)], [(b10, .cells B 0 0 true)], [(b9, .cells (protoR p) 0 0 false)], boxU b2 u] := by
  repeat' (first|refine zA ?_|refine Cd.reg ?_|refine Rg.nil ?_|refine zF ?_|refine zG ?_|refine zH ?_|(refine Rg.p (v:=?_) ?_ ?_;rotate_left;exact zE)|(refine Rg.cmp (p:=?_) rfl rfl ?_ ?_;rotate_left;exact zC;intro cv hv)|(refine Rg.r (v:=?_) rfl rfl ?_ ?_;rotate_left;exact zN)|refine zL fun _=>?_|refine Rg.alloc fun _=>?_|refine Rg.a (Mk.lits rfl) fun _=>?_|refine zO (cs:=?_) (K':=?_) ?_|refine zP (cs:=?_) (K':=?_) ?_|(refine zQ (g:=?_) ?_;intro cv hv)|(refine zR (w:=?_) ?_;intro cv hv)|refine zS (v:=?_) ?_|refine zT (v:=?_) ?_|refine Lp.round ?_|refine Cd.draw ?_|refine Dw.nil ?_|refine Dw.guardY rfl ?_|refine Dw.guardN rfl ?_|refine Dw.guardT rfl ?_|(refine Dw.p (v:=?_) ?_ ?_;rotate_left;exact zE)|(refine Dw.cmp (p:=?_) rfl rfl ?_ ?_;rotate_left;exact zC;intro cv hv)|(refine Dw.r (v:=?_) rfl rfl ?_ ?_ ?_;rotate_left;exact zN;exact zM)|refine Dw.a Mk.alloc fun _=>?_|refine Dw.a (Mk.lits rfl) fun _=>?_|(refine zY (g:=?_) ?_;intro cv hv)|refine zW (v:=?_) ?_|refine Cd.condT rfl ?_|refine Cd.condF rfl ?_|((first|refine Cd.cond rfl ?_ ?_|refine Rg.guardS rfl ?_ ?_|refine Dw.guardS rfl ?_ ?_)<;>(intro e;(try simp only [Bool.not_eq_true',Bool.not_eq_false'] at e);subst e;try contradiction))|refine Cd.skip ?_|refine Cd.blk ?_|refine Cd.ext ?_|refine Cd.ret ?_)
  exact ⟨rfl, _, ⟨rfl, rfl, rfl, rfl, rfl, trivial⟩, rfl⟩
theorem m14 : Cd Try.prog false (.reg r5_14) [(2, .ptr b2 0 0 5), (8, .int .i64 (.ofNat k)), (9, .ptr b9 0 0 6), (10, .slc b10 0 0 n n 6), (11, .ptr b11 0 0 5)] [[(b11, .cells (unitR u) 0 0 false)], [(c, .cells C g g true)], [(b10, .cells B 0 0 true)], [(b9, .cells (protoR p) 0 0 false)], boxU b2 u]
    fun e l K => e = .nrm ∧ Sub2 [(2, .ptr b2 0 0 5), (8, .int .i64 (.ofNat k)), (9, .ptr b9 0 0 6), (11, .ptr b11 0 0 5)] l ∧ K = [[(b11, .cells [.str u.name, .int .i64 u.version, u.usesV, .int .i64 u.funs, .slc b10 0 0 n n 6] 0 0 false)], [(c, .cells C g g true)], [(b10, .cells B 0 0 true)], [(b9, .cells (protoR p) 0 0 false)], boxU b2 u] := by
  repeat' (first|refine zA ?_|refine Cd.reg ?_|refine Rg.nil ?_|refine zF ?_|refine zG ?_|refine zH ?_|(refine Rg.p (v:=?_) ?_ ?_;rotate_left;exact zE)|(refine Rg.cmp (p:=?_) rfl rfl ?_ ?_;rotate_left;exact zC;intro cv hv)|(refine Rg.r (v:=?_) rfl rfl ?_ ?_;rotate_left;exact zN)|refine zL fun _=>?_|refine Rg.alloc fun _=>?_|refine Rg.a (Mk.lits rfl) fun _=>?_|refine zO (cs:=?_) (K':=?_) ?_|refine zP (cs:=?_) (K':=?_) ?_|(refine zQ (g:=?_) ?_;intro cv hv)|(refine zR (w:=?_) ?_;intro cv hv)|refine zS (v:=?_) ?_|refine zT (v:=?_) ?_|refine Lp.round ?_|refine Cd.draw ?_|refine Dw.nil ?_|refine Dw.guardY rfl ?_|refine Dw.guardN rfl ?_|refine Dw.guardT rfl ?_|(refine Dw.p (v:=?_) ?_ ?_;rotate_left;exact zE)|(refine Dw.cmp (p:=?_) rfl rfl ?_ ?_;rotate_left;exact zC;intro cv hv)|(refine Dw.r (v:=?_) rfl rfl ?_ ?_ ?_;rotate_left;exact zN;exact zM)|refine Dw.a Mk.alloc fun _=>?_|refine Dw.a (Mk.lits rfl) fun _=>?_|(refine zY (g:=?_) ?_;intro cv hv)|refine zW (v:=?_) ?_|refine Cd.condT rfl ?_|refine Cd.condF rfl ?_|((first|refine Cd.cond rfl ?_ ?_|refine Rg.guardS rfl ?_ ?_|refine Dw.guardS rfl ?_ ?_)<;>(intro e;(try simp only [Bool.not_eq_true',Bool.not_eq_false'] at e);subst e;try contradiction))|refine Cd.skip ?_|refine Cd.blk ?_|refine Cd.ext ?_|refine Cd.ret ?_)
  exact ⟨rfl, ⟨rfl, rfl, rfl, rfl, trivial⟩, rfl⟩
theorem m15 (hu : OkU u) (hp : OkP p) (hn : n = u.protos.length) (hx : u.protos[k]? = some p) (hz : (check u).1 = 0) (hr : p.regs < 100) (hc : p.consts.length < 200)
    (hC : C = ((p.consts ++ [(⟨0, 0, []⟩ : Val)]).map valR).flatten) (hB : B = ((u.protos.map protoR).set k [.str p.name, .int .i64 p.params, .int .i64 (p.regs + 1), p.codeV, .slc c g 0 (p.consts.length + 1) (p.consts.length + 1) 3, p.capsV]).flatten) :
    Cd Try.prog false (.reg r5_15) [(2, .ptr b2 0 0 5), (8, .int .i64 (.ofNat k)), (9, .ptr b9 0 0 6), (11, .ptr b11 0 0 5)] [[(b11, .cells [.str u.name, .int .i64 u.version, u.usesV, .int .i64 u.funs, .slc b10 0 0 n n 6] 0 0 false)], [(c, .cells C g g true)], [(b10, .cells B 0 0 true)], [(b9, .cells (protoR p) 0 0 false)], boxU b2 u]
    fun e l K => e = .nrm ∧ Sub2 [(2, .ptr b2 0 0 5), (8, .int .i64 (.ofNat k)), (9, .ptr b9 0 0 6), (12, .int .i64 (.ofNat 0))] l ∧ ∃ r, Sel K [[(b9, .cells (protoR p) 0 0 false)], boxU b2 u] r := by
  have hlen : C.length = (p.consts.length + 1) * 3 := by
    rw [hC, rows_len (sz := 3) (by intro r hr; obtain ⟨p, _, rfl⟩ := List.mem_map.1 hr; rfl)]
    simp
  have hq : OkP (moreP p (.isl C (p.consts.length + 1) 3)) := by
    refine ⟨hp.name, hp.code, ⟨?_, .inr (.inr ?_)⟩, hp.caps, hp.lcode, ?_, hp.lcaps⟩
    · intro r hr
      obtain ⟨p, _, rfl⟩ := List.mem_map.1 hr
      rfl
    · show AV.isl C (p.consts.length + 1) 3 = _
      rw [hC]
      simp [moreP]
    · show (p.consts ++ [(⟨0, 0, []⟩ : Val)]).length ≤ _
      simp; omega
  have hck := check_more (pv := .isl ((u.protos.map protoR).set k (protoR (moreP p (.isl C (p.consts.length + 1) 3)))).flatten n 6) (cv := .isl C (p.consts.length + 1) 3) hz hx hr hc
  have k8 := check8 (okU_set hu (k := k) hq hn)
  rw [hck] at k8
  have key := CT.frz (nd := false) 5 k8 rfl (frzU hu (M := [[(c, .cells C g g true)], [(b10, .cells B 0 0 true)]]) (b10 := b10) (by rw [hB]; exact InK.there InK.here) hn rfl fun s hs => by
    simp only [protoR, moreP, Fz2]
    have hp2 := frzP hp (s := s) (n := 2)
    refine ⟨_, _, rfl, hp2 _ (by simp [protoR]), _, _, rfl, hp2 _ (by simp [protoR]), _, _, rfl, Frz.atom rfl, _, _, rfl, hp2 _ (by simp [protoR]), _, _, rfl, ?_, _, _, rfl, hp2 _ (by simp [protoR]), rfl⟩
    refine Frz.slc hs InK.here (Nat.le_refl _) (Nat.le_refl _) (seg_all hlen) (Fz2.same fun x hx => Frz.atom ?_)
    rw [hC] at hx
    obtain ⟨r, hr, hx⟩ := List.mem_flatten.1 hx
    obtain ⟨p, _, rfl⟩ := List.mem_map.1 hr
    simp only [valR, List.mem_cons, List.not_mem_nil, or_false] at hx
    rcases hx with rfl | rfl | rfl <;> rfl)
  repeat' (first|refine zA ?_|refine Cd.reg ?_|refine Rg.nil ?_|refine zF ?_|refine zG ?_|refine zH ?_|(refine Rg.p (v:=?_) ?_ ?_;rotate_left;exact zE)|(refine Rg.cmp (p:=?_) rfl rfl ?_ ?_;rotate_left;exact zC;intro cv hv)|(refine Rg.r (v:=?_) rfl rfl ?_ ?_;rotate_left;exact zN)|refine zL fun _=>?_|refine Rg.alloc fun _=>?_|refine Rg.a (Mk.lits rfl) fun _=>?_|refine zO (cs:=?_) (K':=?_) ?_|refine zP (cs:=?_) (K':=?_) ?_|(refine zQ (g:=?_) ?_;intro cv hv)|(refine zR (w:=?_) ?_;intro cv hv)|refine zS (v:=?_) ?_|refine zT (v:=?_) ?_|refine Lp.round ?_|refine Cd.draw ?_|refine Dw.nil ?_|refine Dw.guardY rfl ?_|refine Dw.guardN rfl ?_|refine Dw.guardT rfl ?_|(refine Dw.p (v:=?_) ?_ ?_;rotate_left;exact zE)|(refine Dw.cmp (p:=?_) rfl rfl ?_ ?_;rotate_left;exact zC;intro cv hv)|(refine Dw.r (v:=?_) rfl rfl ?_ ?_ ?_;rotate_left;exact zN;exact zM)|refine Dw.a Mk.alloc fun _=>?_|refine Dw.a (Mk.lits rfl) fun _=>?_|(refine zY (g:=?_) ?_;intro cv hv)|refine zW (v:=?_) ?_|refine Cd.condT rfl ?_|refine Cd.condF rfl ?_|((first|refine Cd.cond rfl ?_ ?_|refine Rg.guardS rfl ?_ ?_|refine Dw.guardS rfl ?_ ?_)<;>(intro e;(try simp only [Bool.not_eq_true',Bool.not_eq_false'] at e);subst e;try contradiction))|refine Cd.skip ?_|refine Cd.blk ?_|refine Cd.ext ?_|refine Cd.ret ?_)
  refine Rg.callM rfl key (.cons (.there .here) (.cons (.there .here) .nil)) ?_
  rintro _ _ ⟨rfl, rfl⟩
  repeat' (first|refine zA ?_|refine Cd.reg ?_|refine Rg.nil ?_|refine zF ?_|refine zG ?_|refine zH ?_|(refine Rg.p (v:=?_) ?_ ?_;rotate_left;exact zE)|(refine Rg.cmp (p:=?_) rfl rfl ?_ ?_;rotate_left;exact zC;intro cv hv)|(refine Rg.r (v:=?_) rfl rfl ?_ ?_;rotate_left;exact zN)|refine zL fun _=>?_|refine Rg.alloc fun _=>?_|refine Rg.a (Mk.lits rfl) fun _=>?_|refine zO (cs:=?_) (K':=?_) ?_|refine zP (cs:=?_) (K':=?_) ?_|(refine zQ (g:=?_) ?_;intro cv hv)|(refine zR (w:=?_) ?_;intro cv hv)|refine zS (v:=?_) ?_|refine zT (v:=?_) ?_|refine Lp.round ?_|refine Cd.draw ?_|refine Dw.nil ?_|refine Dw.guardY rfl ?_|refine Dw.guardN rfl ?_|refine Dw.guardT rfl ?_|(refine Dw.p (v:=?_) ?_ ?_;rotate_left;exact zE)|(refine Dw.cmp (p:=?_) rfl rfl ?_ ?_;rotate_left;exact zC;intro cv hv)|(refine Dw.r (v:=?_) rfl rfl ?_ ?_ ?_;rotate_left;exact zN;exact zM)|refine Dw.a Mk.alloc fun _=>?_|refine Dw.a (Mk.lits rfl) fun _=>?_|(refine zY (g:=?_) ?_;intro cv hv)|refine zW (v:=?_) ?_|refine Cd.condT rfl ?_|refine Cd.condF rfl ?_|((first|refine Cd.cond rfl ?_ ?_|refine Rg.guardS rfl ?_ ?_|refine Dw.guardS rfl ?_ ?_)<;>(intro e;(try simp only [Bool.not_eq_true',Bool.not_eq_false'] at e);subst e;try contradiction))|refine Cd.skip ?_|refine Cd.blk ?_|refine Cd.ext ?_|refine Cd.ret ?_)
  exact ⟨rfl, ⟨rfl, rfl, rfl, rfl, trivial⟩, _, .cons (.there (.there (.there .here))) (.cons (.there (.there (.there .here))) .nil)⟩
end
end Go.Proofs.Ytmedepnfpiheoaa

namespace Go.Proofs.Ytmedepnfpiheoaa
open Go Go.Abs
section
variable {u : Unt} {p : Proto} {b2 b9 b15 b17 k n c g : Nat} {rows : List (List AV)} {r C B : List AV}
theorem m16 (hu : OkU u) (h0 : u.protos.length ≠ 0) (h64 : u.protos.length ≤ 64) (hn : n = u.protos.length) : Cd Try.prog false (.reg r5_16) [(2, .ptr b2 0 0 5), (8, .int .i64 (.ofNat k)), (9, .ptr b9 0 0 6), (12, .int .i64 (.ofNat 0))] [[(b9, .cells (protoR p) 0 0 false)], boxU b2 u]
    fun e l K => e = .nrm ∧ ∃ b15, Sub2 [(2, .ptr b2 0 0 5), (8, .int .i64 (.ofNat k)), (9, .ptr b9 0 0 6), (12, .int .i64 (.ofNat 0)), (15, .slc b15 0 0 n n 6)] l ∧ ∃ r, Sel K [[(b15, .cells (u.protos.map protoR).flatten 0 0 true)], [(b9, .cells (protoR p) 0 0 false)], boxU b2 u] r := by
  subst hn
  repeat' (first|refine zA ?_|refine Cd.reg ?_|refine Rg.nil ?_|refine zF ?_|refine zG ?_|refine zH ?_|(refine Rg.p (v:=?_) ?_ ?_;rotate_left;exact zE)|(refine Rg.cmp (p:=?_) rfl rfl ?_ ?_;rotate_left;exact zC;intro cv hv)|(refine Rg.r (v:=?_) rfl rfl ?_ ?_;rotate_left;exact zN)|refine zL fun _=>?_|refine Rg.alloc fun _=>?_|refine Rg.a (Mk.lits rfl) fun _=>?_|refine zO (cs:=?_) (K':=?_) ?_|refine zP (cs:=?_) (K':=?_) ?_|(refine zQ (g:=?_) ?_;intro cv hv)|(refine zR (w:=?_) ?_;intro cv hv)|refine zS (v:=?_) ?_|refine zT (v:=?_) ?_|refine Lp.round ?_|refine Cd.draw ?_|refine Dw.nil ?_|refine Dw.guardY rfl ?_|refine Dw.guardN rfl ?_|refine Dw.guardT rfl ?_|(refine Dw.p (v:=?_) ?_ ?_;rotate_left;exact zE)|(refine Dw.cmp (p:=?_) rfl rfl ?_ ?_;rotate_left;exact zC;intro cv hv)|(refine Dw.r (v:=?_) rfl rfl ?_ ?_ ?_;rotate_left;exact zN;exact zM)|refine Dw.a Mk.alloc fun _=>?_|refine Dw.a (Mk.lits rfl) fun _=>?_|(refine zY (g:=?_) ?_;intro cv hv)|refine zW (v:=?_) ?_|refine Cd.condT rfl ?_|refine Cd.condF rfl ?_|((first|refine Cd.cond rfl ?_ ?_|refine Rg.guardS rfl ?_ ?_|refine Dw.guardS rfl ?_ ?_)<;>(intro e;(try simp only [Bool.not_eq_true',Bool.not_eq_false'] at e);subst e;try contradiction))|refine Cd.skip ?_|refine Cd.blk ?_|refine Cd.ext ?_|refine Cd.ret ?_)
  have hb : ∀ K, Rw K 6 u.protosV (u.protos.map protoR).flatten u.protos.length := by
    intro K
    have := Rw.asl (K := K) hu.protos
    rwa [List.length_map] at this
  refine Rg.e (Ef.appN rfl rfl InK.here (hb _) h0 ?_) ?_
  · simp only [lim]; omega
  rintro _ _ ⟨b10, rfl, rfl⟩
  repeat' (first|refine zA ?_|refine Cd.reg ?_|refine Rg.nil ?_|refine zF ?_|refine zG ?_|refine zH ?_|(refine Rg.p (v:=?_) ?_ ?_;rotate_left;exact zE)|(refine Rg.cmp (p:=?_) rfl rfl ?_ ?_;rotate_left;exact zC;intro cv hv)|(refine Rg.r (v:=?_) rfl rfl ?_ ?_;rotate_left;exact zN)|refine zL fun _=>?_|refine Rg.alloc fun _=>?_|refine Rg.a (Mk.lits rfl) fun _=>?_|refine zO (cs:=?_) (K':=?_) ?_|refine zP (cs:=?_) (K':=?_) ?_|(refine zQ (g:=?_) ?_;intro cv hv)|(refine zR (w:=?_) ?_;intro cv hv)|refine zS (v:=?_) ?_|refine zT (v:=?_) ?_|refine Lp.round ?_|refine Cd.draw ?_|refine Dw.nil ?_|refine Dw.guardY rfl ?_|refine Dw.guardN rfl ?_|refine Dw.guardT rfl ?_|(refine Dw.p (v:=?_) ?_ ?_;rotate_left;exact zE)|(refine Dw.cmp (p:=?_) rfl rfl ?_ ?_;rotate_left;exact zC;intro cv hv)|(refine Dw.r (v:=?_) rfl rfl ?_ ?_ ?_;rotate_left;exact zN;exact zM)|refine Dw.a Mk.alloc fun _=>?_|refine Dw.a (Mk.lits rfl) fun _=>?_|(refine zY (g:=?_) ?_;intro cv hv)|refine zW (v:=?_) ?_|refine Cd.condT rfl ?_|refine Cd.condF rfl ?_|((first|refine Cd.cond rfl ?_ ?_|refine Rg.guardS rfl ?_ ?_|refine Dw.guardS rfl ?_ ?_)<;>(intro e;(try simp only [Bool.not_eq_true',Bool.not_eq_false'] at e);subst e;try contradiction))|refine Cd.skip ?_|refine Cd.blk ?_|refine Cd.ext ?_|refine Cd.ret ?_)
  exact ⟨rfl, b10, ⟨rfl, rfl, rfl, rfl, rfl, trivial⟩, _, .cons .here (.cons (.there .here) (.cons (.there .here) .nil))⟩
theorem m17 (hp : OkP p) : Cd Try.prog false (.reg r5_17) [(2, .ptr b2 0 0 5), (8, .int .i64 (.ofNat k)), (9, .ptr b9 0 0 6), (12, .int .i64 (.ofNat 0)), (15, .slc b15 0 0 n n 6)] [[(b15, .cells C 0 0 true)], [(b9, .cells (protoR p) 0 0 false)], boxU b2 u]
    fun e l K => e = .nrm ∧ Sub2 [(2, .ptr b2 0 0 5), (8, .int .i64 (.ofNat k)), (9, .ptr b9 0 0 6), (12, .int .i64 (.ofNat 0)), (15, .slc b15 0 0 n n 6), (16, .int .i64 (.ofNat p.code.length))] l ∧ K = [[(b15, .cells C 0 0 true)], [(b9, .cells (protoR p) 0 0 false)], boxU b2 u] := by
  obtain ⟨m1, m2, m3⟩ := hp.lens
  repeat' (first|refine zA ?_|refine Cd.reg ?_|refine Rg.nil ?_|refine zF ?_|refine zG ?_|refine zH ?_|(refine Rg.p (v:=?_) ?_ ?_;rotate_left;exact zE)|(refine Rg.cmp (p:=?_) rfl rfl ?_ ?_;rotate_left;exact zC;intro cv hv)|(refine Rg.r (v:=?_) rfl rfl ?_ ?_;rotate_left;exact zN)|refine zL fun _=>?_|refine Rg.alloc fun _=>?_|refine Rg.a (Mk.lits rfl) fun _=>?_|refine zO (cs:=?_) (K':=?_) ?_|refine zP (cs:=?_) (K':=?_) ?_|(refine zQ (g:=?_) ?_;intro cv hv)|(refine zR (w:=?_) ?_;intro cv hv)|refine zS (v:=?_) ?_|refine zT (v:=?_) ?_|refine Lp.round ?_|refine Cd.draw ?_|refine Dw.nil ?_|refine Dw.guardY rfl ?_|refine Dw.guardN rfl ?_|refine Dw.guardT rfl ?_|(refine Dw.p (v:=?_) ?_ ?_;rotate_left;exact zE)|(refine Dw.cmp (p:=?_) rfl rfl ?_ ?_;rotate_left;exact zC;intro cv hv)|(refine Dw.r (v:=?_) rfl rfl ?_ ?_ ?_;rotate_left;exact zN;exact zM)|refine Dw.a Mk.alloc fun _=>?_|refine Dw.a (Mk.lits rfl) fun _=>?_|(refine zY (g:=?_) ?_;intro cv hv)|refine zW (v:=?_) ?_|refine Cd.condT rfl ?_|refine Cd.condF rfl ?_|((first|refine Cd.cond rfl ?_ ?_|refine Rg.guardS rfl ?_ ?_|refine Dw.guardS rfl ?_ ?_)<;>(intro e;(try simp only [Bool.not_eq_true',Bool.not_eq_false'] at e);subst e;try contradiction))|refine Cd.skip ?_|refine Cd.blk ?_|refine Cd.ext ?_|refine Cd.ret ?_)
  exact ⟨rfl, ⟨rfl, rfl, rfl, rfl, rfl, rfl, trivial⟩, rfl⟩
theorem m18 (hp : OkP p) (hm : p.code.length < 8000) (hm0 : p.code.length ≠ 0) (hrow : ∀ r, r ∈ rows → r.length = 6) (hn : rows.length = n) (hk : rows[k]? = some r) : Cd Try.prog false (.reg r5_18) [(2, .ptr b2 0 0 5), (8, .int .i64 (.ofNat k)), (9, .ptr b9 0 0 6), (12, .int .i64 (.ofNat 0)), (15, .slc b15 0 0 n n 6), (16, .int .i64 (.ofNat p.code.length))] [[(b15, .cells rows.flatten 0 0 true)], [(b9, .cells (protoR p) 0 0 false)], boxU b2 u]
    fun e l K => e = .nrm ∧ Sub2 [(2, .ptr b2 0 0 5), (8, .int .i64 (.ofNat k)), (9, .ptr b9 0 0 6), (12, .int .i64 (.ofNat 0)), (15, .slc b15 0 0 n n 6), (16, .int .i64 (.ofNat p.code.length))] l ∧ ∃ c g C B r2, C = ((p.code.take (p.code.length - 1) ++ [jumpI p.code.length]).map insR).flatten ∧ B = (rows.set k (r.set 3 (.slc c g 0 (p.code.length - 1 + 1) (p.code.length - 1 + 1) 4))).flatten ∧ Sel K [[(c, .cells C g g true)], [(b15, .cells B 0 0 true)], [(b9, .cells (protoR p) 0 0 false)], boxU b2 u] r2 := by
  have hkl := (List.getElem?_eq_some_iff.1 hk).1
  have q1 := iadr_slc (sz := 6) (b := b15) (g := 0) (off := 0) (len := n) (cap := n) (i := k) (k := .i64) (by omega)
  have q2 := rem_nat (a := p.code.length) (b := 256) (by decide)
  have q3 := quo_nat (a := p.code.length) (b := 256) (by decide) hp.lcode
  have hl := rows_len hrow
  obtain ⟨cv, e, hb⟩ := aslice_head (k := .i64) (h := p.code.length - 1) hp.code (by rw [List.length_map]; omega)
  rw [← List.map_take] at hb
  have hcl : ((p.code.take (p.code.length - 1)).map insR).flatten.length = (p.code.length - 1) * 4 := by
    have := rows_len (sz := 4) (rows := (p.code.take (p.code.length - 1)).map insR) (by intro r hr; obtain ⟨p, _, rfl⟩ := List.mem_map.1 hr; rfl)
    rw [List.length_map, List.length_take] at this
    rw [this]
    congr 1
    omega
  by_cases h0 : p.code.length - 1 = 0
  · have hc0 : p.code.take (p.code.length - 1) = [] := by rw [h0]; rfl
    repeat' (first|refine zA ?_|refine Cd.reg ?_|refine Rg.nil ?_|refine zF ?_|refine zG ?_|refine zH ?_|(refine Rg.p (v:=?_) ?_ ?_;rotate_left;exact zE)|(refine Rg.cmp (p:=?_) rfl rfl ?_ ?_;rotate_left;exact zC;intro cv hv)|(refine Rg.r (v:=?_) rfl rfl ?_ ?_;rotate_left;exact zN)|refine zL fun _=>?_|refine Rg.alloc fun _=>?_|refine Rg.a (Mk.lits rfl) fun _=>?_|refine zO (cs:=?_) (K':=?_) ?_|refine zP (cs:=?_) (K':=?_) ?_|(refine zQ (g:=?_) ?_;intro cv hv)|(refine zR (w:=?_) ?_;intro cv hv)|refine zS (v:=?_) ?_|refine zT (v:=?_) ?_|refine Lp.round ?_|refine Cd.draw ?_|refine Dw.nil ?_|refine Dw.guardY rfl ?_|refine Dw.guardN rfl ?_|refine Dw.guardT rfl ?_|(refine Dw.p (v:=?_) ?_ ?_;rotate_left;exact zE)|(refine Dw.cmp (p:=?_) rfl rfl ?_ ?_;rotate_left;exact zC;intro cv hv)|(refine Dw.r (v:=?_) rfl rfl ?_ ?_ ?_;rotate_left;exact zN;exact zM)|refine Dw.a Mk.alloc fun _=>?_|refine Dw.a (Mk.lits rfl) fun _=>?_|(refine zY (g:=?_) ?_;intro cv hv)|refine zW (v:=?_) ?_|refine Cd.condT rfl ?_|refine Cd.condF rfl ?_|((first|refine Cd.cond rfl ?_ ?_|refine Rg.guardS rfl ?_ ?_|refine Dw.guardS rfl ?_ ?_)<;>(intro e;(try simp only [Bool.not_eq_true',Bool.not_eq_false'] at e);subst e;try contradiction))|refine Cd.skip ?_|refine Cd.blk ?_|refine Cd.ext ?_|refine Cd.ret ?_)
    refine Rg.e (Ef.app0 rfl rfl (cs := ((p.code.take (p.code.length - 1)).map insR).flatten) (by have := hb; rw [h0] at this ⊢; exact this _) rfl) ?_
    rintro _ _ ⟨rfl, rfl⟩
    repeat' (first|refine zA ?_|refine Cd.reg ?_|refine Rg.nil ?_|refine zF ?_|refine zG ?_|refine zH ?_|(refine Rg.p (v:=?_) ?_ ?_;rotate_left;exact zE)|(refine Rg.cmp (p:=?_) rfl rfl ?_ ?_;rotate_left;exact zC;intro cv hv)|(refine Rg.r (v:=?_) rfl rfl ?_ ?_;rotate_left;exact zN)|refine zL fun _=>?_|refine Rg.alloc fun _=>?_|refine Rg.a (Mk.lits rfl) fun _=>?_|refine zO (cs:=?_) (K':=?_) ?_|refine zP (cs:=?_) (K':=?_) ?_|(refine zQ (g:=?_) ?_;intro cv hv)|(refine zR (w:=?_) ?_;intro cv hv)|refine zS (v:=?_) ?_|refine zT (v:=?_) ?_|refine Lp.round ?_|refine Cd.draw ?_|refine Dw.nil ?_|refine Dw.guardY rfl ?_|refine Dw.guardN rfl ?_|refine Dw.guardT rfl ?_|(refine Dw.p (v:=?_) ?_ ?_;rotate_left;exact zE)|(refine Dw.cmp (p:=?_) rfl rfl ?_ ?_;rotate_left;exact zC;intro cv hv)|(refine Dw.r (v:=?_) rfl rfl ?_ ?_ ?_;rotate_left;exact zN;exact zM)|refine Dw.a Mk.alloc fun _=>?_|refine Dw.a (Mk.lits rfl) fun _=>?_|(refine zY (g:=?_) ?_;intro cv hv)|refine zW (v:=?_) ?_|refine Cd.condT rfl ?_|refine Cd.condF rfl ?_|((first|refine Cd.cond rfl ?_ ?_|refine Rg.guardS rfl ?_ ?_|refine Dw.guardS rfl ?_ ?_)<;>(intro e;(try simp only [Bool.not_eq_true',Bool.not_eq_false'] at e);subst e;try contradiction))|refine Cd.skip ?_|refine Cd.blk ?_|refine Cd.ext ?_|refine Cd.ret ?_)
    refine Rg.e (Ef.appN (n := 1) rfl rfl (InK.there InK.here) (Rw.slc InK.here (Nat.le_refl _) (Nat.le_refl _) rfl) (by decide) (by decide)) ?_
    rintro _ _ ⟨c, rfl, rfl⟩
    repeat' (first|refine zA ?_|refine Cd.reg ?_|refine Rg.nil ?_|refine zF ?_|refine zG ?_|refine zH ?_|(refine Rg.p (v:=?_) ?_ ?_;rotate_left;exact zE)|(refine Rg.cmp (p:=?_) rfl rfl ?_ ?_;rotate_left;exact zC;intro cv hv)|(refine Rg.r (v:=?_) rfl rfl ?_ ?_;rotate_left;exact zN)|refine zL fun _=>?_|refine Rg.alloc fun _=>?_|refine Rg.a (Mk.lits rfl) fun _=>?_|refine zO (cs:=?_) (K':=?_) ?_|refine zP (cs:=?_) (K':=?_) ?_|(refine zQ (g:=?_) ?_;intro cv hv)|(refine zR (w:=?_) ?_;intro cv hv)|refine zS (v:=?_) ?_|refine zT (v:=?_) ?_|refine Lp.round ?_|refine Cd.draw ?_|refine Dw.nil ?_|refine Dw.guardY rfl ?_|refine Dw.guardN rfl ?_|refine Dw.guardT rfl ?_|(refine Dw.p (v:=?_) ?_ ?_;rotate_left;exact zE)|(refine Dw.cmp (p:=?_) rfl rfl ?_ ?_;rotate_left;exact zC;intro cv hv)|(refine Dw.r (v:=?_) rfl rfl ?_ ?_ ?_;rotate_left;exact zN;exact zM)|refine Dw.a Mk.alloc fun _=>?_|refine Dw.a (Mk.lits rfl) fun _=>?_|(refine zY (g:=?_) ?_;intro cv hv)|refine zW (v:=?_) ?_|refine Cd.condT rfl ?_|refine Cd.condF rfl ?_|((first|refine Cd.cond rfl ?_ ?_|refine Rg.guardS rfl ?_ ?_|refine Dw.guardS rfl ?_ ?_)<;>(intro e;(try simp only [Bool.not_eq_true',Bool.not_eq_false'] at e);subst e;try contradiction))|refine Cd.skip ?_|refine Cd.blk ?_|refine Cd.ext ?_|refine Cd.ret ?_)
    refine Rg.store rfl rfl (Upd.there (Upd.there (Upd.there Upd.here))) rfl rfl (Nat.le_of_ble_eq_true rfl) ?_ ?_
    · omega
    repeat' (first|refine zA ?_|refine Cd.reg ?_|refine Rg.nil ?_|refine zF ?_|refine zG ?_|refine zH ?_|(refine Rg.p (v:=?_) ?_ ?_;rotate_left;exact zE)|(refine Rg.cmp (p:=?_) rfl rfl ?_ ?_;rotate_left;exact zC;intro cv hv)|(refine Rg.r (v:=?_) rfl rfl ?_ ?_;rotate_left;exact zN)|refine zL fun _=>?_|refine Rg.alloc fun _=>?_|refine Rg.a (Mk.lits rfl) fun _=>?_|refine zO (cs:=?_) (K':=?_) ?_|refine zP (cs:=?_) (K':=?_) ?_|(refine zQ (g:=?_) ?_;intro cv hv)|(refine zR (w:=?_) ?_;intro cv hv)|refine zS (v:=?_) ?_|refine zT (v:=?_) ?_|refine Lp.round ?_|refine Cd.draw ?_|refine Dw.nil ?_|refine Dw.guardY rfl ?_|refine Dw.guardN rfl ?_|refine Dw.guardT rfl ?_|(refine Dw.p (v:=?_) ?_ ?_;rotate_left;exact zE)|(refine Dw.cmp (p:=?_) rfl rfl ?_ ?_;rotate_left;exact zC;intro cv hv)|(refine Dw.r (v:=?_) rfl rfl ?_ ?_ ?_;rotate_left;exact zN;exact zM)|refine Dw.a Mk.alloc fun _=>?_|refine Dw.a (Mk.lits rfl) fun _=>?_|(refine zY (g:=?_) ?_;intro cv hv)|refine zW (v:=?_) ?_|refine Cd.condT rfl ?_|refine Cd.condF rfl ?_|((first|refine Cd.cond rfl ?_ ?_|refine Rg.guardS rfl ?_ ?_|refine Dw.guardS rfl ?_ ?_)<;>(intro e;(try simp only [Bool.not_eq_true',Bool.not_eq_false'] at e);subst e;try contradiction))|refine Cd.skip ?_|refine Cd.blk ?_|refine Cd.ext ?_|refine Cd.ret ?_)
    refine ⟨rfl, ⟨rfl, rfl, rfl, rfl, rfl, rfl, trivial⟩, c, 0, _, _, _, ?_, ?_, .cons .here (.cons (.there (.there .here)) (.cons (.there (.there .here)) (.cons (.there (.there .here)) .nil)))⟩
    · rw [hc0]; rfl
    · rw [← setSeg_row hrow hk (by omega), h0, Nat.zero_add (k * 6)]; rfl
  · repeat' (first|refine zA ?_|refine Cd.reg ?_|refine Rg.nil ?_|refine zF ?_|refine zG ?_|refine zH ?_|(refine Rg.p (v:=?_) ?_ ?_;rotate_left;exact zE)|(refine Rg.cmp (p:=?_) rfl rfl ?_ ?_;rotate_left;exact zC;intro cv hv)|(refine Rg.r (v:=?_) rfl rfl ?_ ?_;rotate_left;exact zN)|refine zL fun _=>?_|refine Rg.alloc fun _=>?_|refine Rg.a (Mk.lits rfl) fun _=>?_|refine zO (cs:=?_) (K':=?_) ?_|refine zP (cs:=?_) (K':=?_) ?_|(refine zQ (g:=?_) ?_;intro cv hv)|(refine zR (w:=?_) ?_;intro cv hv)|refine zS (v:=?_) ?_|refine zT (v:=?_) ?_|refine Lp.round ?_|refine Cd.draw ?_|refine Dw.nil ?_|refine Dw.guardY rfl ?_|refine Dw.guardN rfl ?_|refine Dw.guardT rfl ?_|(refine Dw.p (v:=?_) ?_ ?_;rotate_left;exact zE)|(refine Dw.cmp (p:=?_) rfl rfl ?_ ?_;rotate_left;exact zC;intro cv hv)|(refine Dw.r (v:=?_) rfl rfl ?_ ?_ ?_;rotate_left;exact zN;exact zM)|refine Dw.a Mk.alloc fun _=>?_|refine Dw.a (Mk.lits rfl) fun _=>?_|(refine zY (g:=?_) ?_;intro cv hv)|refine zW (v:=?_) ?_|refine Cd.condT rfl ?_|refine Cd.condF rfl ?_|((first|refine Cd.cond rfl ?_ ?_|refine Rg.guardS rfl ?_ ?_|refine Dw.guardS rfl ?_ ?_)<;>(intro e;(try simp only [Bool.not_eq_true',Bool.not_eq_false'] at e);subst e;try contradiction))|refine Cd.skip ?_|refine Cd.blk ?_|refine Cd.ext ?_|refine Cd.ret ?_)
    refine Rg.e (Ef.appN rfl rfl InK.here (hb _) h0 (by simp only [lim]; omega)) ?_
    rintro _ _ ⟨c, rfl, rfl⟩
    repeat' (first|refine zA ?_|refine Cd.reg ?_|refine Rg.nil ?_|refine zF ?_|refine zG ?_|refine zH ?_|(refine Rg.p (v:=?_) ?_ ?_;rotate_left;exact zE)|(refine Rg.cmp (p:=?_) rfl rfl ?_ ?_;rotate_left;exact zC;intro cv hv)|(refine Rg.r (v:=?_) rfl rfl ?_ ?_;rotate_left;exact zN)|refine zL fun _=>?_|refine Rg.alloc fun _=>?_|refine Rg.a (Mk.lits rfl) fun _=>?_|refine zO (cs:=?_) (K':=?_) ?_|refine zP (cs:=?_) (K':=?_) ?_|(refine zQ (g:=?_) ?_;intro cv hv)|(refine zR (w:=?_) ?_;intro cv hv)|refine zS (v:=?_) ?_|refine zT (v:=?_) ?_|refine Lp.round ?_|refine Cd.draw ?_|refine Dw.nil ?_|refine Dw.guardY rfl ?_|refine Dw.guardN rfl ?_|refine Dw.guardT rfl ?_|(refine Dw.p (v:=?_) ?_ ?_;rotate_left;exact zE)|(refine Dw.cmp (p:=?_) rfl rfl ?_ ?_;rotate_left;exact zC;intro cv hv)|(refine Dw.r (v:=?_) rfl rfl ?_ ?_ ?_;rotate_left;exact zN;exact zM)|refine Dw.a Mk.alloc fun _=>?_|refine Dw.a (Mk.lits rfl) fun _=>?_|(refine zY (g:=?_) ?_;intro cv hv)|refine zW (v:=?_) ?_|refine Cd.condT rfl ?_|refine Cd.condF rfl ?_|((first|refine Cd.cond rfl ?_ ?_|refine Rg.guardS rfl ?_ ?_|refine Dw.guardS rfl ?_ ?_)<;>(intro e;(try simp only [Bool.not_eq_true',Bool.not_eq_false'] at e);subst e;try contradiction))|refine Cd.skip ?_|refine Cd.blk ?_|refine Cd.ext ?_|refine Cd.ret ?_)
    refine Rg.e (Ef.appG (n := 1) (g := 0) rfl rfl (Upd.there Upd.here) hcl (Rw.slc InK.here (Nat.le_refl _) (Nat.le_refl _) rfl) (by decide) (by simp only [lim]; omega)) ?_
    rintro _ _ ⟨rfl, rfl⟩
    repeat' (first|refine zA ?_|refine Cd.reg ?_|refine Rg.nil ?_|refine zF ?_|refine zG ?_|refine zH ?_|(refine Rg.p (v:=?_) ?_ ?_;rotate_left;exact zE)|(refine Rg.cmp (p:=?_) rfl rfl ?_ ?_;rotate_left;exact zC;intro cv hv)|(refine Rg.r (v:=?_) rfl rfl ?_ ?_;rotate_left;exact zN)|refine zL fun _=>?_|refine Rg.alloc fun _=>?_|refine Rg.a (Mk.lits rfl) fun _=>?_|refine zO (cs:=?_) (K':=?_) ?_|refine zP (cs:=?_) (K':=?_) ?_|(refine zQ (g:=?_) ?_;intro cv hv)|(refine zR (w:=?_) ?_;intro cv hv)|refine zS (v:=?_) ?_|refine zT (v:=?_) ?_|refine Lp.round ?_|refine Cd.draw ?_|refine Dw.nil ?_|refine Dw.guardY rfl ?_|refine Dw.guardN rfl ?_|refine Dw.guardT rfl ?_|(refine Dw.p (v:=?_) ?_ ?_;rotate_left;exact zE)|(refine Dw.cmp (p:=?_) rfl rfl ?_ ?_;rotate_left;exact zC;intro cv hv)|(refine Dw.r (v:=?_) rfl rfl ?_ ?_ ?_;rotate_left;exact zN;exact zM)|refine Dw.a Mk.alloc fun _=>?_|refine Dw.a (Mk.lits rfl) fun _=>?_|(refine zY (g:=?_) ?_;intro cv hv)|refine zW (v:=?_) ?_|refine Cd.condT rfl ?_|refine Cd.condF rfl ?_|((first|refine Cd.cond rfl ?_ ?_|refine Rg.guardS rfl ?_ ?_|refine Dw.guardS rfl ?_ ?_)<;>(intro e;(try simp only [Bool.not_eq_true',Bool.not_eq_false'] at e);subst e;try contradiction))|refine Cd.skip ?_|refine Cd.blk ?_|refine Cd.ext ?_|refine Cd.ret ?_)
    refine Rg.store rfl rfl (Upd.there (Upd.there (Upd.there Upd.here))) rfl rfl (Nat.le_of_ble_eq_true rfl) ?_ ?_
    · omega
    repeat' (first|refine zA ?_|refine Cd.reg ?_|refine Rg.nil ?_|refine zF ?_|refine zG ?_|refine zH ?_|(refine Rg.p (v:=?_) ?_ ?_;rotate_left;exact zE)|(refine Rg.cmp (p:=?_) rfl rfl ?_ ?_;rotate_left;exact zC;intro cv hv)|(refine Rg.r (v:=?_) rfl rfl ?_ ?_;rotate_left;exact zN)|refine zL fun _=>?_|refine Rg.alloc fun _=>?_|refine Rg.a (Mk.lits rfl) fun _=>?_|refine zO (cs:=?_) (K':=?_) ?_|refine zP (cs:=?_) (K':=?_) ?_|(refine zQ (g:=?_) ?_;intro cv hv)|(refine zR (w:=?_) ?_;intro cv hv)|refine zS (v:=?_) ?_|refine zT (v:=?_) ?_|refine Lp.round ?_|refine Cd.draw ?_|refine Dw.nil ?_|refine Dw.guardY rfl ?_|refine Dw.guardN rfl ?_|refine Dw.guardT rfl ?_|(refine Dw.p (v:=?_) ?_ ?_;rotate_left;exact zE)|(refine Dw.cmp (p:=?_) rfl rfl ?_ ?_;rotate_left;exact zC;intro cv hv)|(refine Dw.r (v:=?_) rfl rfl ?_ ?_ ?_;rotate_left;exact zN;exact zM)|refine Dw.a Mk.alloc fun _=>?_|refine Dw.a (Mk.lits rfl) fun _=>?_|(refine zY (g:=?_) ?_;intro cv hv)|refine zW (v:=?_) ?_|refine Cd.condT rfl ?_|refine Cd.condF rfl ?_|((first|refine Cd.cond rfl ?_ ?_|refine Rg.guardS rfl ?_ ?_|refine Dw.guardS rfl ?_ ?_)<;>(intro e;(try simp only [Bool.not_eq_true',Bool.not_eq_false'] at e);subst e;try contradiction))|refine Cd.skip ?_|refine Cd.blk ?_|refine Cd.ext ?_|refine Cd.ret ?_)
    refine ⟨rfl, ⟨rfl, rfl, rfl, rfl, rfl, rfl, trivial⟩, c, 1, _, _, _, ?_, ?_, .cons (.there .here) (.cons (.there (.there .here)) (.cons (.there (.there .here)) (.cons (.there (.there .here)) .nil)))⟩
    · rw [List.map_append, List.flatten_append]; rfl
    · rw [← setSeg_row hrow hk (by omega), Nat.zero_add (k * 6)]; rfl
theorem m19 : Cd Try.prog false (.reg r5_19) [(2, .ptr b2 0 0 5), (8, .int .i64 (.ofNat k)), (9, .ptr b9 0 0 6), (12, .int .i64 (.ofNat 0)), (15, .slc b15 0 0 n n 6), (16, .int .i64 (.ofNat p.code.length))] [[(c, .cells C g g true)], [(b15, .cells B 0 0 true)], [(b9, .cells (protoR p) 0 0 false)], boxU b2 u]
    fun e l K => e = .nrm ∧ ∃ b17, Sub2 [(2, .ptr b2 0 0 5), (8, .int .i64 (.ofNat k)), (9, .ptr b9 0 0 6), (12, .int .i64 (.ofNat 0)), (15, .slc b15 0 0 n n 6), (16, .int .i64 (.ofNat p.code.length)), (17, .ptr b17 0 0 5)] l ∧ K = [[(b17, .cells (unitR u) 0 0 false)], [(c, .cells C g g true)], [(b15, .cells B 0 0 true)], [(b9, .cells (protoR p) 0 0 false)], boxU b2 u] := by
  repeat' (first|refine zA ?_|refine Cd.reg ?_|refine Rg.nil ?_|refine zF ?_|refine zG ?_|refine zH ?_|(refine Rg.p (v:=?_) ?_ ?_;rotate_left;exact zE)|(refine Rg.cmp (p:=?_) rfl rfl ?_ ?_;rotate_left;exact zC;intro cv hv)|(refine Rg.r (v:=?_) rfl rfl ?_ ?_;rotate_left;exact zN)|refine zL fun _=>?_|refine Rg.alloc fun _=>?_|refine Rg.a (Mk.lits rfl) fun _=>?_|refine zO (cs:=?_) (K':=?_) ?_|refine zP (cs:=?_) (K':=?_) ?_|(refine zQ (g:=?_) ?_;intro cv hv)|(refine zR (w:=?_) ?_;intro cv hv)|refine zS (v:=?_) ?_|refine zT (v:=?_) ?_|refine Lp.round ?_|refine Cd.draw ?_|refine Dw.nil ?_|refine Dw.guardY rfl ?_|refine Dw.guardN rfl ?_|refine Dw.guardT rfl ?_|(refine Dw.p (v:=?_) ?_ ?_;rotate_left;exact zE)|(refine Dw.cmp (p:=?_) rfl rfl ?_ ?_;rotate_left;exact zC;intro cv hv)|(refine Dw.r (v:=?_) rfl rfl ?_ ?_ ?_;rotate_left;exact zN;exact zM)|refine Dw.a Mk.alloc fun _=>?_|refine Dw.a (Mk.lits rfl) fun _=>?_|(refine zY (g:=?_) ?_;intro cv hv)|refine zW (v:=?_) ?_|refine Cd.condT rfl ?_|refine Cd.condF rfl ?_|((first|refine Cd.cond rfl ?_ ?_|refine Rg.guardS rfl ?_ ?_|refine Dw.guardS rfl ?_ ?_)<;>(intro e;(try simp only [Bool.not_eq_true',Bool.not_eq_false'] at e);subst e;try contradiction))|refine Cd.skip ?_|refine Cd.blk ?_|refine Cd.ext ?_|refine Cd.ret ?_)
  exact ⟨rfl, _, ⟨rfl, rfl, rfl, rfl, rfl, rfl, rfl, trivial⟩, rfl⟩
theorem m20 : Cd Try.prog false (.reg r5_20) [(2, .ptr b2 0 0 5), (8, .int .i64 (.ofNat k)), (9, .ptr b9 0 0 6), (12, .int .i64 (.ofNat 0)), (15, .slc b15 0 0 n n 6), (16, .int .i64 (.ofNat p.code.length)), (17, .ptr b17 0 0 5)] [[(b17, .cells (unitR u) 0 0 false)], [(c, .cells C g g true)], [(b15, .cells B 0 0 true)], [(b9, .cells (protoR p) 0 0 false)], boxU b2 u]
    fun e l K => e = .nrm ∧ Sub2 [(8, .int .i64 (.ofNat k)), (12, .int .i64 (.ofNat 0)), (16, .int .i64 (.ofNat p.code.length)), (17, .ptr b17 0 0 5)] l ∧ K = [[(b17, .cells [.str u.name, .int .i64 u.version, u.usesV, .int .i64 u.funs, .slc b15 0 0 n n 6] 0 0 false)], [(c, .cells C g g true)], [(b15, .cells B 0 0 true)], [(b9, .cells (protoR p) 0 0 false)], boxU b2 u] := by
  repeat' (first|refine zA ?_|refine Cd.reg ?_|refine Rg.nil ?_|refine zF ?_|refine zG ?_|refine zH ?_|(refine Rg.p (v:=?_) ?_ ?_;rotate_left;exact zE)|(refine Rg.cmp (p:=?_) rfl rfl ?_ ?_;rotate_left;exact zC;intro cv hv)|(refine Rg.r (v:=?_) rfl rfl ?_ ?_;rotate_left;exact zN)|refine zL fun _=>?_|refine Rg.alloc fun _=>?_|refine Rg.a (Mk.lits rfl) fun _=>?_|refine zO (cs:=?_) (K':=?_) ?_|refine zP (cs:=?_) (K':=?_) ?_|(refine zQ (g:=?_) ?_;intro cv hv)|(refine zR (w:=?_) ?_;intro cv hv)|refine zS (v:=?_) ?_|refine zT (v:=?_) ?_|refine Lp.round ?_|refine Cd.draw ?_|refine Dw.nil ?_|refine Dw.guardY rfl ?_|refine Dw.guardN rfl ?_|refine Dw.guardT rfl ?_|(refine Dw.p (v:=?_) ?_ ?_;rotate_left;exact zE)|(refine Dw.cmp (p:=?_) rfl rfl ?_ ?_;rotate_left;exact zC;intro cv hv)|(refine Dw.r (v:=?_) rfl rfl ?_ ?_ ?_;rotate_left;exact zN;exact zM)|refine Dw.a Mk.alloc fun _=>?_|refine Dw.a (Mk.lits rfl) fun _=>?_|(refine zY (g:=?_) ?_;intro cv hv)|refine zW (v:=?_) ?_|refine Cd.condT rfl ?_|refine Cd.condF rfl ?_|((first|refine Cd.cond rfl ?_ ?_|refine Rg.guardS rfl ?_ ?_|refine Dw.guardS rfl ?_ ?_)<;>(intro e;(try simp only [Bool.not_eq_true',Bool.not_eq_false'] at e);subst e;try contradiction))|refine Cd.skip ?_|refine Cd.blk ?_|refine Cd.ext ?_|refine Cd.ret ?_)
  exact ⟨rfl, ⟨rfl, rfl, rfl, rfl, trivial⟩, rfl⟩
theorem m21 (hu : OkU u) (hp : OkP p) (hn : n = u.protos.length) (hx : u.protos[k]? = some p) (hz : (check u).1 = 0) (hn0 : p.code.length ≠ 0) (hc : p.code.length < 8000)
    (hC : C = ((p.code.take (p.code.length - 1) ++ [jumpI p.code.length]).map insR).flatten) (hB : B = ((u.protos.map protoR).set k [.str p.name, .int .i64 p.params, .int .i64 p.regs, .slc c g 0 (p.code.length - 1 + 1) (p.code.length - 1 + 1) 4, p.constsV, p.capsV]).flatten) :
    Cd Try.prog false (.reg r5_21) [(8, .int .i64 (.ofNat k)), (12, .int .i64 (.ofNat 0)), (16, .int .i64 (.ofNat p.code.length)), (17, .ptr b17 0 0 5)] [[(b17, .cells [.str u.name, .int .i64 u.version, u.usesV, .int .i64 u.funs, .slc b15 0 0 n n 6] 0 0 false)], [(c, .cells C g g true)], [(b15, .cells B 0 0 true)], [(b9, .cells (protoR p) 0 0 false)], boxU b2 u]
    fun e l K => e = .nrm ∧ Sub2 [(8, .int .i64 (.ofNat k)), (12, .int .i64 (.ofNat 0)), (16, .int .i64 (.ofNat p.code.length)), (18, .int .i64 (.ofNat 14)), (19, .int .i64 (.ofNat k)), (20, .int .i64 (.ofNat (p.code.length - 1)))] l ∧ ∃ r, Sel K [] r := by
  have hl0 : (p.code.take (p.code.length - 1) ++ [jumpI p.code.length]).length = p.code.length - 1 + 1 := by simp
  have hlen : C.length = (p.code.length - 1 + 1) * 4 := by
    rw [hC, rows_len (sz := 4) (by intro r hr; obtain ⟨p, _, rfl⟩ := List.mem_map.1 hr; rfl), List.length_map, hl0]
  have hq : OkP (worseP p (.isl C (p.code.length - 1 + 1) 4)) := by
    refine ⟨hp.name, ⟨?_, .inr (.inr ?_)⟩, hp.consts, hp.caps, ?_, hp.lconsts, hp.lcaps⟩
    · intro r hr
      obtain ⟨p, _, rfl⟩ := List.mem_map.1 hr
      rfl
    · show AV.isl C (p.code.length - 1 + 1) 4 = .isl ((p.code.take (p.code.length - 1) ++ [jumpI p.code.length]).map insR).flatten ((p.code.take (p.code.length - 1) ++ [jumpI p.code.length]).map insR).length 4
      rw [List.length_map, hl0, ← hC]
    · show (p.code.take (p.code.length - 1) ++ [jumpI p.code.length]).length ≤ _
      omega
  have hck := check_worse (pv := .isl ((u.protos.map protoR).set k (protoR (worseP p (.isl C (p.code.length - 1 + 1) 4)))).flatten n 6) (cv := .isl C (p.code.length - 1 + 1) 4) hz hx hn0 hc
  have k8 := check8 (okU_set hu (k := k) hq hn)
  rw [hck] at k8
  have key := CT.frz (nd := false) 5 k8 rfl (frzU hu (M := [[(c, .cells C g g true)], [(b15, .cells B 0 0 true)]]) (b10 := b15) (by rw [hB]; exact InK.there InK.here) hn rfl fun s hs => by
    simp only [protoR, worseP, Fz2]
    have hp2 := frzP hp (s := s) (n := 2)
    refine ⟨_, _, rfl, hp2 _ (by simp [protoR]), _, _, rfl, hp2 _ (by simp [protoR]), _, _, rfl, hp2 _ (by simp [protoR]), _, _, rfl, ?_, _, _, rfl, hp2 _ (by simp [protoR]), _, _, rfl, hp2 _ (by simp [protoR]), rfl⟩
    refine Frz.slc hs InK.here (Nat.le_refl _) (Nat.le_refl _) (seg_all hlen) (Fz2.same fun x hx => Frz.atom ?_)
    rw [hC] at hx
    obtain ⟨r, hr, hx⟩ := List.mem_flatten.1 hx
    obtain ⟨p, _, rfl⟩ := List.mem_map.1 hr
    simp only [insR, List.mem_cons, List.not_mem_nil, or_false] at hx
    rcases hx with rfl | rfl | rfl | rfl <;> rfl)
  repeat' (first|refine zA ?_|refine Cd.reg ?_|refine Rg.nil ?_|refine zF ?_|refine zG ?_|refine zH ?_|(refine Rg.p (v:=?_) ?_ ?_;rotate_left;exact zE)|(refine Rg.cmp (p:=?_) rfl rfl ?_ ?_;rotate_left;exact zC;intro cv hv)|(refine Rg.r (v:=?_) rfl rfl ?_ ?_;rotate_left;exact zN)|refine zL fun _=>?_|refine Rg.alloc fun _=>?_|refine Rg.a (Mk.lits rfl) fun _=>?_|refine zO (cs:=?_) (K':=?_) ?_|refine zP (cs:=?_) (K':=?_) ?_|(refine zQ (g:=?_) ?_;intro cv hv)|(refine zR (w:=?_) ?_;intro cv hv)|refine zS (v:=?_) ?_|refine zT (v:=?_) ?_|refine Lp.round ?_|refine Cd.draw ?_|refine Dw.nil ?_|refine Dw.guardY rfl ?_|refine Dw.guardN rfl ?_|refine Dw.guardT rfl ?_|(refine Dw.p (v:=?_) ?_ ?_;rotate_left;exact zE)|(refine Dw.cmp (p:=?_) rfl rfl ?_ ?_;rotate_left;exact zC;intro cv hv)|(refine Dw.r (v:=?_) rfl rfl ?_ ?_ ?_;rotate_left;exact zN;exact zM)|refine Dw.a Mk.alloc fun _=>?_|refine Dw.a (Mk.lits rfl) fun _=>?_|(refine zY (g:=?_) ?_;intro cv hv)|refine zW (v:=?_) ?_|refine Cd.condT rfl ?_|refine Cd.condF rfl ?_|((first|refine Cd.cond rfl ?_ ?_|refine Rg.guardS rfl ?_ ?_|refine Dw.guardS rfl ?_ ?_)<;>(intro e;(try simp only [Bool.not_eq_true',Bool.not_eq_false'] at e);subst e;try contradiction))|refine Cd.skip ?_|refine Cd.blk ?_|refine Cd.ext ?_|refine Cd.ret ?_)
  refine Rg.callM rfl key (.cons (.there .here) (.cons (.there .here) .nil)) ?_
  rintro _ _ ⟨rfl, rfl⟩
  repeat' (first|refine zA ?_|refine Cd.reg ?_|refine Rg.nil ?_|refine zF ?_|refine zG ?_|refine zH ?_|(refine Rg.p (v:=?_) ?_ ?_;rotate_left;exact zE)|(refine Rg.cmp (p:=?_) rfl rfl ?_ ?_;rotate_left;exact zC;intro cv hv)|(refine Rg.r (v:=?_) rfl rfl ?_ ?_;rotate_left;exact zN)|refine zL fun _=>?_|refine Rg.alloc fun _=>?_|refine Rg.a (Mk.lits rfl) fun _=>?_|refine zO (cs:=?_) (K':=?_) ?_|refine zP (cs:=?_) (K':=?_) ?_|(refine zQ (g:=?_) ?_;intro cv hv)|(refine zR (w:=?_) ?_;intro cv hv)|refine zS (v:=?_) ?_|refine zT (v:=?_) ?_|refine Lp.round ?_|refine Cd.draw ?_|refine Dw.nil ?_|refine Dw.guardY rfl ?_|refine Dw.guardN rfl ?_|refine Dw.guardT rfl ?_|(refine Dw.p (v:=?_) ?_ ?_;rotate_left;exact zE)|(refine Dw.cmp (p:=?_) rfl rfl ?_ ?_;rotate_left;exact zC;intro cv hv)|(refine Dw.r (v:=?_) rfl rfl ?_ ?_ ?_;rotate_left;exact zN;exact zM)|refine Dw.a Mk.alloc fun _=>?_|refine Dw.a (Mk.lits rfl) fun _=>?_|(refine zY (g:=?_) ?_;intro cv hv)|refine zW (v:=?_) ?_|refine Cd.condT rfl ?_|refine Cd.condF rfl ?_|((first|refine Cd.cond rfl ?_ ?_|refine Rg.guardS rfl ?_ ?_|refine Dw.guardS rfl ?_ ?_)<;>(intro e;(try simp only [Bool.not_eq_true',Bool.not_eq_false'] at e);subst e;try contradiction))|refine Cd.skip ?_|refine Cd.blk ?_|refine Cd.ext ?_|refine Cd.ret ?_)
  exact ⟨rfl, ⟨rfl, rfl, rfl, rfl, rfl, rfl, trivial⟩, _, .nil⟩
theorem m22 (hn0 : p.code.length ≠ 0) (hc : p.code.length < 8000) : Cd Try.prog false (.seq (.reg r5_22) .ret) [(8, .int .i64 (.ofNat k)), (12, .int .i64 (.ofNat 0)), (16, .int .i64 (.ofNat p.code.length)), (18, .int .i64 (.ofNat 14)), (19, .int .i64 (.ofNat k)), (20, .int .i64 (.ofNat (p.code.length - 1)))] []
    fun e l K => e = .ret ∧ Sub2 [(4, .bool true)] l := by
  have k7 := known7
  repeat' (first|refine zA ?_|refine Cd.reg ?_|refine Rg.nil ?_|refine zF ?_|refine zG ?_|refine zH ?_|(refine Rg.p (v:=?_) ?_ ?_;rotate_left;exact zE)|(refine Rg.cmp (p:=?_) rfl rfl ?_ ?_;rotate_left;exact zC;intro cv hv)|(refine Rg.r (v:=?_) rfl rfl ?_ ?_;rotate_left;exact zN)|refine zL fun _=>?_|refine Rg.alloc fun _=>?_|refine Rg.a (Mk.lits rfl) fun _=>?_|refine zO (cs:=?_) (K':=?_) ?_|refine zP (cs:=?_) (K':=?_) ?_|(refine zQ (g:=?_) ?_;intro cv hv)|(refine zR (w:=?_) ?_;intro cv hv)|refine zS (v:=?_) ?_|refine zT (v:=?_) ?_|refine Lp.round ?_|refine Cd.draw ?_|refine Dw.nil ?_|refine Dw.guardY rfl ?_|refine Dw.guardN rfl ?_|refine Dw.guardT rfl ?_|(refine Dw.p (v:=?_) ?_ ?_;rotate_left;exact zE)|(refine Dw.cmp (p:=?_) rfl rfl ?_ ?_;rotate_left;exact zC;intro cv hv)|(refine Dw.r (v:=?_) rfl rfl ?_ ?_ ?_;rotate_left;exact zN;exact zM)|refine Dw.a Mk.alloc fun _=>?_|refine Dw.a (Mk.lits rfl) fun _=>?_|(refine zY (g:=?_) ?_;intro cv hv)|refine zW (v:=?_) ?_|refine Cd.condT rfl ?_|refine Cd.condF rfl ?_|((first|refine Cd.cond rfl ?_ ?_|refine Rg.guardS rfl ?_ ?_|refine Dw.guardS rfl ?_ ?_)<;>(intro e;(try simp only [Bool.not_eq_true',Bool.not_eq_false'] at e);subst e;try contradiction))|refine Cd.skip ?_|refine Cd.blk ?_|refine Cd.ext ?_|refine Cd.ret ?_)
  all_goals first | exact ⟨rfl, rfl, trivial⟩ | (subst_vars; exact ⟨rfl, rfl, trivial⟩)
end
end Go.Proofs.Ytmedepnfpiheoaa

namespace Go.Proofs.Ytmedepnfpiheoaa
open Go Go.Abs
theorem tail5 {u : Unt} {p : Proto} {k b2 b9 : Nat} (hu : OkU u) (hp : OkP p) (h0 : u.protos.length ≠ 0) (h64 : u.protos.length ≤ 64) (hx : u.protos[k]? = some p) (hz0 : (check u).1 = 0)
    (g0 : 0 ≤ p.regs) (g1 : p.regs < 100) (g2 : p.consts.length < 200) (g3 : p.code.length < 8000) (g4 : p.code.length ≠ 0) :
    Cd Try.prog false (.seq (.reg r5_10) (.seq (.reg r5_11) (.seq (.reg r5_12) (.seq (.reg r5_13) (.seq (.reg r5_14) (.seq (.reg r5_15) (.seq (.reg r5_16) (.seq (.reg r5_17) (.seq (.reg r5_18) (.seq (.reg r5_19) (.seq (.reg r5_20) (.seq (.reg r5_21) (.seq (.reg r5_22) .ret)))))))))))))
      [(2, .ptr b2 0 0 5), (8, .int .i64 (.ofNat k)), (9, .ptr b9 0 0 6)] [[(b9, .cells (protoR p) 0 0 false)], boxU b2 u] fun e l K => e = .ret ∧ Sub2 [(4, .bool true)] l := by
  have hrow := rowsP u
  have hkr : (u.protos.map protoR)[k]? = some (protoR p) := by rw [List.getElem?_map, hx]; rfl
  have hkl : k < (u.protos.map protoR).length := (List.getElem?_eq_some_iff.1 hkr).1
  refine Cd.seq (Cd.mono (m10 hu h0 h64) ?_)
  rintro _ l1 _ ⟨rfl, b10, hs, r, hsel⟩
  show Cd _ _ _ _ _ _
  refine Cd.weak hs (Cd.drop hsel ?_)
  refine Cd.seq (Cd.mono (m11 hrow (by simp) hkr (by omega) (by omega)) ?_)
  rintro _ l2 _ ⟨rfl, hs, rfl⟩
  show Cd _ _ _ _ _ _
  refine Cd.weak hs ?_
  refine Cd.seq (Cd.mono (m12 hp (by omega) (fun r hr => by rcases List.mem_or_eq_of_mem_set hr with h | rfl; exact hrow r h; rfl) (by simp) (List.getElem?_set_self hkl)) ?_)
  rintro _ l3 _ ⟨rfl, hs, c, g, C, B, r, hC, hB, hsel⟩
  rw [List.set_set] at hB
  show Cd _ _ _ _ _ _
  refine Cd.weak hs (Cd.drop hsel ?_)
  refine Cd.seq (Cd.mono m13 ?_)
  rintro _ l4 _ ⟨rfl, b11, hs, rfl⟩
  show Cd _ _ _ _ _ _
  refine Cd.weak hs ?_
  refine Cd.seq (Cd.mono m14 ?_)
  rintro _ l5 _ ⟨rfl, hs, rfl⟩
  show Cd _ _ _ _ _ _
  refine Cd.weak hs ?_
  refine Cd.seq (Cd.mono (m15 hu hp rfl hx hz0 (by omega) (by omega) hC hB) ?_)
  rintro _ l6 _ ⟨rfl, hs, r, hsel⟩
  show Cd _ _ _ _ _ _
  refine Cd.weak hs (Cd.drop hsel ?_)
  clear hC hB
  refine Cd.seq (Cd.mono (m16 hu h0 h64 rfl) ?_)
  rintro _ l1 _ ⟨rfl, b15, hs, r, hsel⟩
  show Cd _ _ _ _ _ _
  refine Cd.weak hs (Cd.drop hsel ?_)
  refine Cd.seq (Cd.mono (m17 hp) ?_)
  rintro _ l2 _ ⟨rfl, hs, rfl⟩
  show Cd _ _ _ _ _ _
  refine Cd.weak hs ?_
  refine Cd.seq (Cd.mono (m18 hp (by omega) (by omega) hrow (by simp) hkr) ?_)
  rintro _ l3 _ ⟨rfl, hs, c, g, C, B, r, hC, hB, hsel⟩
  show Cd _ _ _ _ _ _
  refine Cd.weak hs (Cd.drop hsel ?_)
  refine Cd.seq (Cd.mono m19 ?_)
  rintro _ l4 _ ⟨rfl, b17, hs, rfl⟩
  show Cd _ _ _ _ _ _
  refine Cd.weak hs ?_
  refine Cd.seq (Cd.mono m20 ?_)
  rintro _ l5 _ ⟨rfl, hs, rfl⟩
  show Cd _ _ _ _ _ _
  refine Cd.weak hs ?_
  refine Cd.seq (Cd.mono (m21 hu hp rfl hx hz0 (by omega) (by omega) hC hB) ?_)
  rintro _ l6 _ ⟨rfl, hs, r, hsel⟩
  show Cd _ _ _ _ _ _
  refine Cd.weak hs (Cd.drop hsel ?_)
  refine Cd.mono (m22 (by omega) (by omega)) ?_
  rintro _ l7 K ⟨rfl, hs⟩
  exact ⟨rfl, hs⟩
end Go.Proofs.Ytmedepnfpiheoaa

namespace Go.Proofs.Ytmedepnfpiheoaa
open Go Go.Abs
theorem more5 {u : Unt} (hu : OkU u) {t : Nat} (ht : t < 256) : PT Try.prog false 5 [.agg (unitR u), .int .u8 (.ofNat t)] (.bool true) := by
  have k7 := known7
  have k8 := check8 hu
  have hl := light6 hu
  have hz := fun pv cv k p => @check_more u pv cv k p
  have hw := fun pv cv k p => @check_worse u pv cv k p
  obtain ⟨n1, n2⟩ := hu.lens
  have hl2 := hu.lprotos
  generalize hck : check u = ck at k8
  obtain ⟨t0, t1, t2⟩ := ck
  refine PT.of (CT.enter mixed comp5 (Nat.le_of_ble_eq_true rfl) ?_)
  by_cases h0 : u.protos.length = 0
  · repeat' (first|(refine Rg.callM (m := []) rfl hl .nil ?_; rintro _ _ ⟨rfl, cv, rfl⟩)|refine zA ?_|refine Cd.reg ?_|refine Rg.nil ?_|refine zF ?_|refine zG ?_|refine zH ?_|(refine Rg.p (v:=?_) ?_ ?_;rotate_left;exact zE)|(refine Rg.cmp (p:=?_) rfl rfl ?_ ?_;rotate_left;exact zC;intro cv hv)|(refine Rg.r (v:=?_) rfl rfl ?_ ?_;rotate_left;exact zN)|refine zL fun _=>?_|refine Rg.alloc fun _=>?_|refine Rg.a (Mk.lits rfl) fun _=>?_|refine zO (cs:=?_) (K':=?_) ?_|refine zP (cs:=?_) (K':=?_) ?_|(refine zQ (g:=?_) ?_;intro cv hv)|(refine zR (w:=?_) ?_;intro cv hv)|refine zS (v:=?_) ?_|refine zT (v:=?_) ?_|refine Lp.round ?_|refine Cd.draw ?_|refine Dw.nil ?_|refine Dw.guardY rfl ?_|refine Dw.guardN rfl ?_|refine Dw.guardT rfl ?_|(refine Dw.p (v:=?_) ?_ ?_;rotate_left;exact zE)|(refine Dw.cmp (p:=?_) rfl rfl ?_ ?_;rotate_left;exact zC;intro cv hv)|(refine Dw.r (v:=?_) rfl rfl ?_ ?_ ?_;rotate_left;exact zN;exact zM)|refine Dw.a Mk.alloc fun _=>?_|refine Dw.a (Mk.lits rfl) fun _=>?_|(refine zY (g:=?_) ?_;intro cv hv)|refine zW (v:=?_) ?_|refine Cd.condT rfl ?_|refine Cd.condF rfl ?_|((first|refine Cd.cond rfl ?_ ?_|refine Rg.guardS rfl ?_ ?_|refine Dw.guardS rfl ?_ ?_)<;>(intro e;(try simp only [Bool.not_eq_true',Bool.not_eq_false'] at e);subst e;try contradiction))|refine Cd.skip ?_|refine Cd.blk ?_|refine Cd.ext ?_|refine Cd.ret ?_)
    all_goals (first|refine ⟨.inr rfl,_,.t rfl .nil,?_⟩|refine ⟨.inr rfl,_,.t rfl (.t rfl .nil),?_⟩|refine ⟨.inr rfl,_,.t rfl (.t rfl (.t rfl .nil)),?_⟩|refine ⟨.inr rfl,_,.nil,?_⟩|refine ⟨.inl rfl,_,.t rfl .nil,?_⟩|refine ⟨.inl rfl,_,.nil,?_⟩|refine ⟨.inr rfl,_,.cn rfl (by exact zN) .nil,?_⟩)
    all_goals (rw [← hv]; rfl)
  by_cases h1 : t0 = 0
  · have q1 := rem_nat (a := t) (b := u.protos.length) h0
    have q2 := toInt_nat (j := .u8) (k := .i64) (n := t) (by simp [top]; omega)
    have hk := Nat.mod_lt t (Nat.pos_of_ne_zero h0)
    obtain ⟨p, hx⟩ : ∃ p, u.protos[t % u.protos.length]? = some p := ⟨_, List.getElem?_eq_getElem hk⟩
    have hp := hu.ps p (List.mem_of_getElem? hx)
    obtain ⟨m1, m2, m3⟩ := hp.lens
    have hlc := hp.lcode
    have hlk := hp.lconsts
    have q3 := hu.protos.iadr (i := t % u.protos.length) (r := protoR p) (k := .i64) (by rw [List.getElem?_map, hx]; rfl)
    repeat' (first|(refine Rg.callM (m := []) rfl hl .nil ?_; rintro _ _ ⟨rfl, cv, rfl⟩)|(refine stopAt (c := r5_10) ?_)|refine zA ?_|refine Cd.reg ?_|refine Rg.nil ?_|refine zF ?_|refine zG ?_|refine zH ?_|(refine Rg.p (v:=?_) ?_ ?_;rotate_left;exact zE)|(refine Rg.cmp (p:=?_) rfl rfl ?_ ?_;rotate_left;exact zC;intro cv hv)|(refine Rg.r (v:=?_) rfl rfl ?_ ?_;rotate_left;exact zN)|refine zL fun _=>?_|refine Rg.alloc fun _=>?_|refine Rg.a (Mk.lits rfl) fun _=>?_|refine zO (cs:=?_) (K':=?_) ?_|refine zP (cs:=?_) (K':=?_) ?_|(refine zQ (g:=?_) ?_;intro cv hv)|(refine zR (w:=?_) ?_;intro cv hv)|refine zS (v:=?_) ?_|refine zT (v:=?_) ?_|refine Lp.round ?_|refine Cd.draw ?_|refine Dw.nil ?_|refine Dw.guardY rfl ?_|refine Dw.guardN rfl ?_|refine Dw.guardT rfl ?_|(refine Dw.p (v:=?_) ?_ ?_;rotate_left;exact zE)|(refine Dw.cmp (p:=?_) rfl rfl ?_ ?_;rotate_left;exact zC;intro cv hv)|(refine Dw.r (v:=?_) rfl rfl ?_ ?_ ?_;rotate_left;exact zN;exact zM)|refine Dw.a Mk.alloc fun _=>?_|refine Dw.a (Mk.lits rfl) fun _=>?_|(refine zY (g:=?_) ?_;intro cv hv)|refine zW (v:=?_) ?_|refine Cd.condT rfl ?_|refine Cd.condF rfl ?_|((first|refine Cd.cond rfl ?_ ?_|refine Rg.guardS rfl ?_ ?_|refine Dw.guardS rfl ?_ ?_)<;>(intro e;(try simp only [Bool.not_eq_true',Bool.not_eq_false'] at e);subst e;try contradiction))|refine Cd.skip ?_|refine Cd.blk ?_|refine Cd.ext ?_|refine Cd.ret ?_)
    all_goals first | ((first|refine ⟨.inr rfl,_,.t rfl .nil,?_⟩|refine ⟨.inr rfl,_,.t rfl (.t rfl .nil),?_⟩|refine ⟨.inr rfl,_,.t rfl (.t rfl (.t rfl .nil)),?_⟩|refine ⟨.inr rfl,_,.nil,?_⟩|refine ⟨.inl rfl,_,.t rfl .nil,?_⟩|refine ⟨.inl rfl,_,.nil,?_⟩|refine ⟨.inr rfl,_,.cn rfl (by exact zN) .nil,?_⟩); rw [← hv]; rfl) | skip
    refine ⟨?_⟩
    rename_i b2 b9 g1 g2 g3
    obtain ⟨hub, _⟩ := check_zero (u := u) (by rw [hck]; exact h1)
    have h64 : u.protos.length ≤ 64 := by
      simp only [unitB, Bool.and_eq_true, decide_eq_true_eq] at hub
      exact hub.2.1
    have hpB := (protosB_iff.1 (by
      simp only [unitB, Bool.and_eq_true] at hub
      exact hub.2.2)) (t % u.protos.length) p hx
    simp only [protoB, shapedB, Bool.and_eq_true, decide_eq_true_eq] at hpB
    have hz0 : (check u).1 = 0 := by rw [hck]; exact h1
    refine Cd.weak (l2 := [(2, _), (8, _), (9, _)]) ⟨rfl, rfl, rfl, trivial⟩ ?_
    simp only [Bool.false_eq_true, false_iff] at g1 g2 g3 hv
    refine Cd.mono (tail5 hu hp h0 h64 hx hz0 (by omega) (by omega) (by omega) (by omega) (by omega)) ?_
    rintro _ l7 K ⟨rfl, hs⟩
    exact ⟨.inr rfl, _, .t hs.1 .nil, rfl⟩
  · repeat' (first|(refine Rg.callM (m := []) rfl hl .nil ?_; rintro _ _ ⟨rfl, cv, rfl⟩)|refine zA ?_|refine Cd.reg ?_|refine Rg.nil ?_|refine zF ?_|refine zG ?_|refine zH ?_|(refine Rg.p (v:=?_) ?_ ?_;rotate_left;exact zE)|(refine Rg.cmp (p:=?_) rfl rfl ?_ ?_;rotate_left;exact zC;intro cv hv)|(refine Rg.r (v:=?_) rfl rfl ?_ ?_;rotate_left;exact zN)|refine zL fun _=>?_|refine Rg.alloc fun _=>?_|refine Rg.a (Mk.lits rfl) fun _=>?_|refine zO (cs:=?_) (K':=?_) ?_|refine zP (cs:=?_) (K':=?_) ?_|(refine zQ (g:=?_) ?_;intro cv hv)|(refine zR (w:=?_) ?_;intro cv hv)|refine zS (v:=?_) ?_|refine zT (v:=?_) ?_|refine Lp.round ?_|refine Cd.draw ?_|refine Dw.nil ?_|refine Dw.guardY rfl ?_|refine Dw.guardN rfl ?_|refine Dw.guardT rfl ?_|(refine Dw.p (v:=?_) ?_ ?_;rotate_left;exact zE)|(refine Dw.cmp (p:=?_) rfl rfl ?_ ?_;rotate_left;exact zC;intro cv hv)|(refine Dw.r (v:=?_) rfl rfl ?_ ?_ ?_;rotate_left;exact zN;exact zM)|refine Dw.a Mk.alloc fun _=>?_|refine Dw.a (Mk.lits rfl) fun _=>?_|(refine zY (g:=?_) ?_;intro cv hv)|refine zW (v:=?_) ?_|refine Cd.condT rfl ?_|refine Cd.condF rfl ?_|((first|refine Cd.cond rfl ?_ ?_|refine Rg.guardS rfl ?_ ?_|refine Dw.guardS rfl ?_ ?_)<;>(intro e;(try simp only [Bool.not_eq_true',Bool.not_eq_false'] at e);subst e;try contradiction))|refine Cd.skip ?_|refine Cd.blk ?_|refine Cd.ext ?_|refine Cd.ret ?_)
    all_goals (first|refine ⟨.inr rfl,_,.t rfl .nil,?_⟩|refine ⟨.inr rfl,_,.t rfl (.t rfl .nil),?_⟩|refine ⟨.inr rfl,_,.t rfl (.t rfl (.t rfl .nil)),?_⟩|refine ⟨.inr rfl,_,.nil,?_⟩|refine ⟨.inl rfl,_,.t rfl .nil,?_⟩|refine ⟨.inl rfl,_,.nil,?_⟩|refine ⟨.inr rfl,_,.cn rfl (by exact zN) .nil,?_⟩)
    all_goals (rw [← hv]; rfl)
end Go.Proofs.Ytmedepnfpiheoaa
