/- A function whose first steps are told for themselves: behind them only some slots are kept. -/
import Derived.Test.YtlimjjilakldgaaAbsLaw
set_option autoImplicit false
set_option linter.unusedSimpArgs false
set_option linter.unusedVariables false
namespace Go.Abs
open Go Go.RowKit

noncomputable section
/-- Some slots alone. -/
def keepT (fr : Fr) : List Nat → Fr
  | [] => .e
  | t :: ts => (keepT fr ts).set t (fr.get t)

/-- What stands behind the first k pieces. -/
def restOf : Nat → ACode → ACode
  | 0, c => c
  | k + 1, .seq _ b => restOf k b
  | _ + 1, c => c

/-- The first k pieces. -/
def apre (call : CallF) (fuel : Nat) : Nat → ACode → Fr → St → Option (Fr × St)
  | 0, _, fr, s => some (fr, s)
  | k + 1, .seq a b, fr, s => match acode call fuel a fr s with
    | some (.nrm, fr', s') => apre call fuel k b fr' s'
    | _ => none
  | _ + 1, _, _, _ => none

def acut (call : CallF) (fuel k : Nat) (ts : List Nat) (c : ACode) (fr : Fr) (s : St) : AR :=
  match apre call fuel k c fr s with
  | some (fr1, s1) => acode call fuel (restOf k c) (keepT fr1 ts) s1
  | none => none

def afunW (ev : Fr → St → AR) (f : AFunc) (args : List AV) (s : St) : Option (AV × St) :=
  bif Nat.ble args.length f.ntmps then
    match ev (frOf 0 args) s with
    | some (.nrm, fr, s') | some (.ret, fr, s') => match aress fr s' f.results with
      | some [v] => some (v, s')
      | some vs => some (.tup vs, s')
      | none => none
    | _ => none
  else none
end

theorem keepT_get {fr : Fr} : ∀ {ts : List Nat} {t : Nat} {v : AV}, (keepT fr ts).get t = some v → fr.get t = some v
  | [], t, v, h => by simp [keepT, Tr.get_e] at h
  | u :: ts, t, v, h => by
    simp only [keepT, Tr.get_set] at h
    by_cases e : t = u
    · subst e; rw [if_pos rfl] at h; exact h
    · rw [if_neg e] at h; exact keepT_get h

section
variable {P : Program}

theorem compC_seq {n : Nat} {sub : Code → Option ACode} {c : Code} {a b : ACode} (h : compC P n sub c = some (.seq a b)) : ∃ c1 c2, c = .seq c1 c2 ∧ compC P n sub c1 = some a ∧ compC P n sub c2 = some b := by
  cases c <;> simp only [compC] at h
  case seq c1 c2 =>
    cases h1 : compC P n sub c1 with
    | none => simp [h1] at h
    | some x =>
      cases h2 : compC P n sub c2 with
      | none => simp [h1, h2] at h
      | some y => simp [h1, h2] at h; obtain ⟨rfl, rfl⟩ := h; exact ⟨c1, c2, rfl, h1, h2⟩
  case region id ops d =>
    unfold compReg at h
    split at h
    · simp at h
    · split at h
      · split at h
        · split at h <;> simp at h
        · simp at h
      · simp at h
  case scope c =>
    split at h
    · simp at h
    · split at h
      · simp at h
      · split at h
        · obtain ⟨_, _, h⟩ := map_some h; simp at h
        · simp at h
  case cond => split at h <;> simp at h
  case block => obtain ⟨_, _, h⟩ := map_some h; simp at h
  case loop => obtain ⟨_, _, h⟩ := map_some h; simp at h
  all_goals simp at h

theorem cut_sim {call : CallF} (hg : Sound P call) {fuel n : Nat} (hdraw : ∀ ops l id, compReg P n ops true = some (.draw l) → CSim P call fuel n (.region id ops true) (.draw l)) {sub : Code → Option ACode}
    (hsub : ∀ c ac, sub c = some ac → CSim P call fuel n c ac) : ∀ (k : Nat) (ts : List Nat) (c : Code) (ac : ACode), compC P n sub c = some ac →
      ∀ (fr : Fr) (s : St) (x : AX) (fr' : Fr) (s' : St), acut call fuel k ts ac fr s = some (x, fr', s') → Keeps s.next s s' ∧
        ∀ (ι : IM) (w0 : World) (X : Nat → Option AObj) (a : Act) (w : World), n ≤ a.tmps.size → FR ι w0 fr a → SR ι w0 (s.view X) s.next w → c.wp P (fun e a' w' => e = x.exit ∧ After ι w0 X a fr' s' a' w') a w
  | 0, ts, c, ac, hc => by
    intro fr s x fr' s' h
    simp only [acut, apre, restOf] at h
    obtain ⟨k1, k2⟩ := csim hg hdraw hsub c ac hc _ _ _ _ _ h
    exact ⟨k1, fun ι w0 X a w hn hf hs => k2 ι w0 X a w hn (fun t v hv => hf t v (keepT_get hv)) hs⟩
  | k + 1, ts, c, ac, hc => by
    intro fr s x fr' s' h
    cases ac <;> simp only [acut, apre] at h <;> try (simp at h; done)
    rename_i a1 b1
    obtain ⟨c1, c2, rfl, h1, h2⟩ := compC_seq hc
    cases hr : acode call fuel a1 fr s with
    | none => simp [hr] at h
    | some r =>
      obtain ⟨x', fr1, s1⟩ := r
      obtain ⟨k1, k2⟩ := csim hg hdraw hsub c1 a1 h1 fr s x' fr1 s1 hr
      cases x' <;> simp only [hr] at h <;> try (simp at h; done)
      have h' : acut call fuel k ts b1 fr1 s1 = some (x, fr', s') := by
        simp only [acut]
        exact h
      obtain ⟨m1, m2⟩ := cut_sim hg hdraw hsub k ts c2 b1 h2 fr1 s1 x fr' s' h'
      refine ⟨k1.trans (m1.mono k1.1), fun ι w0 X a w hn hf hs => wp_seq (wp_mono (k2 ι w0 X a w hn hf hs) ?_)⟩
      rintro e a' w' ⟨rfl, κ, l1, l2, l3, l4, l5⟩
      refine wp_mono (m2 κ w0 X a' w' (by omega) l2 l3) ?_
      rintro e a2 w2 ⟨rfl, hA⟩
      exact ⟨rfl, hA.mono l1 l4 l5⟩

theorem afunW_sound (hD : DrawOk P) {call : CallF} (hg : Sound P call) {fuel k : Nat} {ts : List Nat} {f : FuncId} {fn : Func} {af : AFunc} (hf : P.funcs[f]? = some fn) (hc : compFn P fn = some af) : SoundF P f (afunW (acut call fuel k ts af.body) af) := by
  intro args s v s' h
  unfold compFn at hc
  split at hc
  · simp at hc
  · rename_i hname
    split at hc
    · simp at hc
    · rename_i c hb
      cases h1 : compC P fn.ntmps (compC P fn.ntmps fun _ => none) c with
      | none => simp [h1] at hc
      | some b =>
        cases h2 : compRVs P fn.results.toList with
        | none => simp [h1, h2] at hc
        | some rv =>
          simp [h1, h2] at hc
          subst hc
          unfold afunW at h
          obtain ⟨hle, h⟩ := bif_some h
          have hle := Nat.le_of_ble_eq_true hle
          simp only at hle h
          have hd : ∀ ops l id, compReg P fn.ntmps ops true = some (.draw l) → CSim P call fuel fn.ntmps (.region id ops true) (.draw l) := fun ops l id hh => hD call fuel fn.ntmps ops l id hg hh
          have hsim := cut_sim hg (fuel := fuel) hd (fun c ac hh => csim hg (fuel := fuel) hd (sub := fun _ => none) (fun _ _ hh => by simp at hh) c ac hh) k ts c b h1
          have hen : Enters P f := ⟨fn, hf, by simpa using hname, by simp [hb]⟩
          have main : ∀ (x : AX) (fr : Fr) (s1 : St), acut call fuel k ts b (frOf 0 args) s = some (x, fr, s1) → (x = .nrm ∨ x = .ret) → ∀ vs, aress fr s1 rv = some vs →
              Enters P f ∧ Keeps s.next s s1 ∧ ∀ (ι : IM) (w0 : World) (X : Nat → Option AObj) (w : World) (args' : Array Value), SR ι w0 (s.view X) s.next w → relL ι w0 args args'.toList → Calls P f args' w (Back ι w0 X (oneOf vs) s1) := by
            intro x fr s1 hx hx2 vs hvs
            obtain ⟨k1, k2⟩ := hsim _ _ _ _ _ hx
            refine ⟨hen, k1, fun ι w0 X w args' hs hr => ?_⟩
            have hal : args.length = args'.size := by simpa using relL_length hr
            refine calls_of_wp hf hb (wp_mono (k2 ι w0 X _ w ?_ ?_ hs) ?_)
            · simp; omega
            · intro t v hv
              rw [frOf_get] at hv
              simp at hv
              obtain ⟨y, hy, ry⟩ := relL_get hr hv
              have : (args' ++ Array.replicate (fn.ntmps - args'.size) undef).getD t undef = y := by
                have hlt : t < args'.size := by simpa using (List.getElem?_eq_some_iff.1 hy).1
                rw [Array.getD_eq_getD_getElem?, Array.getElem?_append_left hlt]
                rw [Array.getElem?_toList] at hy
                rw [hy]; rfl
              simp only
              rw [this]
              exact ry
            · rintro e a' w' ⟨rfl, κ, l1, l2, l3, l4, l5⟩
              obtain ⟨v', r1, r2⟩ := results_sim l3 l2 h2 hvs
              rcases hx2 with rfl | rfl
              · exact ⟨l5, v', r1, v', κ, rfl, l1, r2, l3⟩
              · exact ⟨l5, v', r1, v', κ, rfl, l1, r2, l3⟩
          have fin : ∀ (x : AX) (fr : Fr) (s1 : St), acut call fuel k ts b (frOf 0 args) s = some (x, fr, s1) → (x = .nrm ∨ x = .ret) → (match aress fr s1 rv with | some [v] => some (v, s1) | some vs => some (AV.tup vs, s1) | none => none) = some (v, s') →
              Enters P f ∧ Keeps s.next s s' ∧ ∀ (ι : IM) (w0 : World) (X : Nat → Option AObj) (w : World) (args' : Array Value), SR ι w0 (s.view X) s.next w → relL ι w0 args args'.toList → Calls P f args' w (Back ι w0 X v s') := by
            intro x fr s1 hx hx2 hh
            cases hvs : aress fr s1 rv with
            | none => simp [hvs] at hh
            | some vs =>
              have := main x fr s1 hx hx2 vs hvs
              match vs, hvs, this with
              | [v1], hvs, this => simp [hvs] at hh; obtain ⟨rfl, rfl⟩ := hh; exact this
              | [], hvs, this => simp [hvs] at hh; obtain ⟨rfl, rfl⟩ := hh; exact this
              | _ :: _ :: _, hvs, this => simp [hvs] at hh; obtain ⟨rfl, rfl⟩ := hh; exact this
          split at h
          · rename_i fr s1 hx
            exact fin _ fr s1 hx (.inl rfl) h
          · rename_i fr s1 hx
            exact fin _ fr s1 hx (.inr rfl) h
          · simp at h

end
end Go.Abs
