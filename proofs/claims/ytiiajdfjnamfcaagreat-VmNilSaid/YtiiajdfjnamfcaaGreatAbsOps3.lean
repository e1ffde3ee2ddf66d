/- All pure operations together. -/
import Derived.Test.YtiiajdfjnamfcaaGreatAbsOps2
set_option autoImplicit false
set_option linter.unusedSimpArgs false
set_option linter.unusedVariables false
namespace Go.Abs
open Go Go.RowKit
section
variable {P : Program} {w : World} {ι : IM} {w0 : World} {fr : Fr} {a : Act}
theorem eqIn_ptr {D : Nat} {T e : TypeId} {m n : Option Addr} {b : Bool} (hu : P.underlying T = some (.pointer e)) (h : m = none ∧ b = n.isNone ∨ n = none ∧ m.isSome ∧ b = false) :
  (Op.equalIn (D + 1) T (.pointer m) (.pointer n)).run P w = .ok b w := by
 simp only [Op.equalIn, Sem.run_bind, run_underlying hu, Result.andThen_ok]
 rcases h with ⟨rfl, rfl⟩ | ⟨rfl, hm, rfl⟩
 ·rfl
 ·cases m with
  | none => simp at hm
  | some m => rfl
theorem eqIn_slc {D : Nat} {T e : TypeId} {m n : Option Addr} {k1 k2 k3 k4 : Nat} {b : Bool} (hu : P.underlying T = some (.slice e)) (h : m = none ∧ b = n.isNone ∨ n = none ∧ m.isSome ∧ b = false) :
  (Op.equalIn (D + 1) T (.slice m k1 k2) (.slice n k3 k4)).run P w = .ok b w := by
 simp only [Op.equalIn, Sem.run_bind, run_underlying hu, Result.andThen_ok]
 rcases h with ⟨rfl, rfl⟩ | ⟨rfl, hm, rfl⟩
 ·rfl
 ·cases m with
  | none => simp at hm
  | some m => rfl
theorem eqIn_map {D : Nat} {T k e : TypeId} {m n : Option Nat} {b : Bool} (hu : P.underlying T = some (.map k e)) (h : m = none ∧ b = n.isNone ∨ n = none ∧ m.isSome ∧ b = false) :
  (Op.equalIn (D + 1) T (.map m) (.map n)).run P w = .ok b w := by
 simp only [Op.equalIn, Sem.run_bind, run_underlying hu, Result.andThen_ok]
 rcases h with ⟨rfl, rfl⟩ | ⟨rfl, hm, rfl⟩
 ·rfl
 ·cases m with
  | none => simp at hm
  | some m => rfl
theorem eqIn_fn {D : Nat} {T : TypeId} {ps rs : Array TypeId} {vr : Bool} (hu : P.underlying T = some (.func ps rs vr)) :
  (∀ f p q, (Op.equalIn (D + 1) T (.func f p q) .nilFunc).run P w = .ok false w) ∧ (∀ f p q, (Op.equalIn (D + 1) T .nilFunc (.func f p q)).run P w = .ok false w) ∧ (Op.equalIn (D + 1) T .nilFunc .nilFunc).run P w = .ok true w := by
 refine ⟨?_, ?_, ?_⟩ <;> intros <;> simp only [Op.equalIn, Sem.run_bind, run_underlying hu, Result.andThen_ok, Sem.run_pure]
theorem eqIn_ifc {D : Nat} {T : TypeId} {ms : Array (String × TypeId)} (hu : P.underlying T = some (.interface ms)) :
  (∀ f p, (Op.equalIn (D + 1) T (.iface f p) .nilIface).run P w = .ok false w) ∧ (∀ f p, (Op.equalIn (D + 1) T .nilIface (.iface f p)).run P w = .ok false w) ∧ (Op.equalIn (D + 1) T .nilIface .nilIface).run P w = .ok true w := by
 refine ⟨?_, ?_, ?_⟩ <;> intros <;> simp only [Op.equalIn, Sem.run_bind, run_underlying hu, Result.andThen_ok, Sem.run_pure]
theorem gives_bool {s : Sem Value} {b : Bool} (h : s.run P w = .ok (.bool b) w) : Gives P w ι w0 s (.bool b) := ⟨_, h, by simp only [rel]⟩
theorem eq_fin {neg : Bool} {T : TypeId} {X Y : Operand} {x' y' : Value} {b : Bool} (hg : (eqGuard (if neg then .neq else .eql) T X Y x' y').run P w = .ok () w)
  (hi : ∀ j k m n, ¬ (x' = .int j m ∧ y' = .int k n)) (hs : ∀ m n, ¬ (x' = .string m ∧ y' = .string n)) (hf : ∀ k m, x' ≠ .float k m) (hc : ∀ k m n, x' ≠ .complex k m n)
  (he : (Op.equal T x' y').run P w = .ok b w) : Gives P w ι w0 (do eqGuard (if neg then .neq else .eql) T X Y x' y'; binOp (if neg then .neq else .eql) T x' y') (.bool (bif neg then !b else b)) := by
 apply gives_bool
 simp only [Sem.run_bind, hg, Result.andThen_ok]
 cases neg with
 | true =>
  have : binOp .neq T x' y' = (do pure (.bool (!(← Op.equal T x' y')))) := by
   unfold binOp
   split <;> first
    | exact absurd ⟨rfl, rfl⟩ (hi _ _ _ _)
    | exact absurd ⟨rfl, rfl⟩ (hs _ _)
    | exact absurd rfl (hf _ _)
    | exact absurd rfl (hc _ _ _)
    | rfl
    | (simp_all; done)
  simp only [if_true, this, Sem.run_bind, he, Result.andThen_ok, Sem.run_pure, cond_true]
 | false =>
  have : binOp .eql T x' y' = (do pure (.bool (← Op.equal T x' y'))) := by
   unfold binOp
   split <;> first
    | exact absurd ⟨rfl, rfl⟩ (hi _ _ _ _)
    | exact absurd ⟨rfl, rfl⟩ (hs _ _)
    | exact absurd rfl (hf _ _)
    | exact absurd rfl (hc _ _ _)
    | rfl
    | (simp_all; done)
  simp only [Bool.false_eq_true, if_false, this, Sem.run_bind, he, Result.andThen_ok, Sem.run_pure, cond_false]
theorem eq_ptr {neg : Bool} {x y : AV} {x' y' : Value} {b : Bool} {T e : TypeId} {X Y : Operand} (hu : P.underlying T = some (.pointer e)) (h : aeq .ptrnil x y = some b)
  (hx : rel ι w0 x x') (hy : rel ι w0 y y') : Gives P w ι w0 (do eqGuard (if neg then .neq else .eql) T X Y x' y'; binOp (if neg then .neq else .eql) T x' y') (.bool (bif neg then !b else b)) := by
 obtain ⟨m, n, e1, e2, e3⟩ : ∃ m n, x' = .pointer m ∧ y' = .pointer n ∧ (m = none ∧ b = n.isNone ∨ n = none ∧ m.isSome ∧ b = false) := by
  cases x <;> cases y <;> simp [aeq] at h <;> simp only [rel] at hx hy <;> subst h
  ·obtain ⟨p, _, _, ex⟩ := hx; exact ⟨_, _, ex, hy, .inr ⟨rfl, rfl, rfl⟩⟩
  ·obtain ⟨p, ex, _⟩ := hx; exact ⟨_, _, ex, hy, .inr ⟨rfl, rfl, rfl⟩⟩
  ·obtain ⟨p, _, _, ey⟩ := hy; exact ⟨_, _, hx, ey, .inl ⟨rfl, rfl⟩⟩
  ·obtain ⟨p, ey, _⟩ := hy; exact ⟨_, _, hx, ey, .inl ⟨rfl, rfl⟩⟩
  ·exact ⟨_, _, hx, hy, .inl ⟨rfl, rfl⟩⟩
 subst e1 e2
 apply eq_fin
 ·cases neg <;> rfl
 ·intros; simp
 ·intros; simp
 ·intros; simp
 ·intros; simp
 ·exact eqIn_ptr (D := 9999) hu e3
theorem eq_slc {neg : Bool} {x y : AV} {x' y' : Value} {b : Bool} {T e : TypeId} {X Y : Operand} (hu : P.underlying T = some (.slice e)) (h : aeq .slcnil x y = some b)
  (hx : rel ι w0 x x') (hy : rel ι w0 y y') : Gives P w ι w0 (do eqGuard (if neg then .neq else .eql) T X Y x' y'; binOp (if neg then .neq else .eql) T x' y') (.bool (bif neg then !b else b)) := by
 obtain ⟨m, n, k1, k2, k3, k4, e1, e2, e3⟩ : ∃ m n k1 k2 k3 k4, x' = .slice m k1 k2 ∧ y' = .slice n k3 k4 ∧ (m = none ∧ b = n.isNone ∨ n = none ∧ m.isSome ∧ b = false) := by
  cases x <;> cases y <;> simp [aeq] at h <;> simp only [rel] at hx hy <;> subst h
  ·obtain ⟨_, _, _, _, _, _, _, _, ex⟩ := hx; exact ⟨_, _, _, _, _, _, ex, hy, .inr ⟨rfl, rfl, rfl⟩⟩
  ·obtain ⟨_, _, ex, _⟩ := hx; exact ⟨_, _, _, _, _, _, ex, hy, .inr ⟨rfl, rfl, rfl⟩⟩
  ·obtain ⟨_, _, ex⟩ := hx; exact ⟨_, _, _, _, _, _, ex, hy, .inr ⟨rfl, rfl, rfl⟩⟩
  ·obtain ⟨_, _, _, _, _, _, _, _, ey⟩ := hy; exact ⟨_, _, _, _, _, _, hx, ey, .inl ⟨rfl, rfl⟩⟩
  ·obtain ⟨_, _, ey, _⟩ := hy; exact ⟨_, _, _, _, _, _, hx, ey, .inl ⟨rfl, rfl⟩⟩
  ·obtain ⟨_, _, ey⟩ := hy; exact ⟨_, _, _, _, _, _, hx, ey, .inl ⟨rfl, rfl⟩⟩
  ·exact ⟨_, _, _, _, _, _, hx, hy, .inl ⟨rfl, rfl⟩⟩
 subst e1 e2
 apply eq_fin
 ·cases neg <;> rfl
 ·intros; simp
 ·intros; simp
 ·intros; simp
 ·intros; simp
 ·exact eqIn_slc (D := 9999) hu e3
theorem eq_map {neg : Bool} {x y : AV} {x' y' : Value} {b : Bool} {T e k : TypeId} {X Y : Operand} (hu : P.underlying T = some (.map k e)) (h : aeq .mapnil x y = some b)
  (hx : rel ι w0 x x') (hy : rel ι w0 y y') : Gives P w ι w0 (do eqGuard (if neg then .neq else .eql) T X Y x' y'; binOp (if neg then .neq else .eql) T x' y') (.bool (bif neg then !b else b)) := by
 obtain ⟨m, n, e1, e2, e3⟩ : ∃ m n, x' = .map m ∧ y' = .map n ∧ (m = none ∧ b = n.isNone ∨ n = none ∧ m.isSome ∧ b = false) := by
  cases x <;> cases y <;> simp [aeq] at h <;> simp only [rel] at hx hy <;> subst h
  ·obtain ⟨p, _, ex⟩ := hx; exact ⟨_, _, ex, hy, .inr ⟨rfl, rfl, rfl⟩⟩
  ·obtain ⟨p, _, ey⟩ := hy; exact ⟨_, _, hx, ey, .inl ⟨rfl, rfl⟩⟩
  ·exact ⟨_, _, hx, hy, .inl ⟨rfl, rfl⟩⟩
 subst e1 e2
 apply eq_fin
 ·cases neg <;> rfl
 ·intros; simp
 ·intros; simp
 ·intros; simp
 ·intros; simp
 ·exact eqIn_map (D := 9999) hu e3
theorem eq_fn {neg : Bool} {x y : AV} {x' y' : Value} {b : Bool} {T : TypeId} {ps rs : Array TypeId} {vr : Bool} {X Y : Operand} (hu : P.underlying T = some (.func ps rs vr)) (h : aeq .fnnil x y = some b)
  (hx : rel ι w0 x x') (hy : rel ι w0 y y') : Gives P w ι w0 (do eqGuard (if neg then .neq else .eql) T X Y x' y'; binOp (if neg then .neq else .eql) T x' y') (.bool (bif neg then !b else b)) := by
 cases x <;> cases y <;> simp [aeq] at h <;> simp only [rel] at hx hy <;> subst h
 ·obtain ⟨_, _, ex, _⟩ := hx
  subst ex hy
  apply eq_fin
  ·cases neg <;> rfl
  ·intros; simp
  ·intros; simp
  ·intros; simp
  ·intros; simp
  ·exact (eqIn_fn (D := 9999) hu).1 _ _ _
 ·obtain ⟨_, _, ey, _⟩ := hy
  subst hx ey
  apply eq_fin
  ·cases neg <;> rfl
  ·intros; simp
  ·intros; simp
  ·intros; simp
  ·intros; simp
  ·exact (eqIn_fn (D := 9999) hu).2.1 _ _ _
 ·subst hx hy
  apply eq_fin
  ·cases neg <;> rfl
  ·intros; simp
  ·intros; simp
  ·intros; simp
  ·intros; simp
  ·exact (eqIn_fn (D := 9999) hu).2.2
theorem eq_ifc {neg : Bool} {x y : AV} {x' y' : Value} {b : Bool} {T : TypeId} {ms : Array (String × TypeId)} {X Y : Operand} (hu : P.underlying T = some (.interface ms)) (hn : (isNilC X || isNilC Y) = true) (h : aeq .ifcnil x y = some b)
  (hx : rel ι w0 x x') (hy : rel ι w0 y y') : Gives P w ι w0 (do eqGuard (if neg then .neq else .eql) T X Y x' y'; binOp (if neg then .neq else .eql) T x' y') (.bool (bif neg then !b else b)) := by
 cases x <;> cases y <;> simp [aeq] at h <;> simp only [rel] at hx hy <;> subst h
 ·obtain ⟨_, ex, _⟩ := hx
  subst ex hy
  apply eq_fin
  ·cases neg <;> rfl
  ·intros; simp
  ·intros; simp
  ·intros; simp
  ·intros; simp
  ·exact (eqIn_ifc (D := 9999) hu).1 _ _
 ·obtain ⟨_, ey, _⟩ := hy
  subst hx ey
  apply eq_fin
  ·cases neg <;> rfl
  ·intros; simp
  ·intros; simp
  ·intros; simp
  ·intros; simp
  ·exact (eqIn_ifc (D := 9999) hu).2.1 _ _
 ·subst hx hy
  apply eq_fin
  ·have : (match X with | .const _ => true | _ => false) = true ∨ (match Y with | .const _ => true | _ => false) = true := by
    rw [Bool.or_eq_true] at hn
    rcases hn with hn | hn
    ·left; cases X <;> simp [isNilC] at hn ⊢
    ·right; cases Y <;> simp [isNilC] at hn ⊢
   unfold eqGuard
   rcases this with h1 | h1
   ·cases X <;> simp at h1; cases neg <;> simp
   ·cases Y <;> simp at h1; cases neg <;> simp
  ·intros; simp
  ·intros; simp
  ·intros; simp
  ·intros; simp
  ·exact (eqIn_ifc (D := 9999) hu).2.2
theorem eq_flat_bool {neg : Bool} {x y : AV} {x' y' : Value} {b : Bool} {T : TypeId} {X Y : Operand} (hu : P.underlying T = some .bool) (h : aeq (.flat false [.b]) x y = some b)
  (hx : rel ι w0 x x') (hy : rel ι w0 y y') : Gives P w ι w0 (do eqGuard (if neg then .neq else .eql) T X Y x' y'; binOp (if neg then .neq else .eql) T x' y') (.bool (bif neg then !b else b)) := by
 have hf : flatT P 4 T = some [.b] := by simp [flatT, hu]
 have ha : aggT P T = some false := by simp [aggT, hu]
 have he := flatEq_run (P := P) (w := w) (D := 10000) hf ha h hx hy (by omega)
 obtain ⟨p, q, rfl, rfl⟩ : ∃ p q, x = .bool p ∧ y = .bool q := by
  simp only [aeq, flatEq] at h
  cases hc : (isAg x == false && isAg y == false) with
  | false => rw [hc] at h; simp at h
  | true =>
   rw [hc] at h
   simp only [cond_true] at h
   cases x <;> cases y <;> simp [cellsOf, ceqs, ceq, isAg] at h hc
   exact ⟨_, _, rfl, rfl⟩
 simp only [rel] at hx hy
 subst hx hy
 apply eq_fin
 ·cases neg <;> rfl
 ·intros; simp
 ·intros; simp
 ·intros; simp
 ·intros; simp
 ·exact he
theorem eq_flat_agg {neg : Bool} {x y : AV} {x' y' : Value} {b : Bool} {T : TypeId} {ks : List CK} {fs : Array Field} {X Y : Operand} (hu : P.underlying T = some (.struct fs)) (hg : P.eqGuardType P.depth T = false) (hf : flatT P 4 T = some ks) (h : aeq (.flat true ks) x y = some b)
  (hx : rel ι w0 x x') (hy : rel ι w0 y y') : Gives P w ι w0 (do eqGuard (if neg then .neq else .eql) T X Y x' y'; binOp (if neg then .neq else .eql) T x' y') (.bool (bif neg then !b else b)) := by
 have ha : aggT P T = some true := by simp [aggT, hu]
 have he := flatEq_run (P := P) (w := w) (D := 10000) hf ha h hx hy (by omega)
 obtain ⟨p, q, rfl, rfl⟩ : ∃ p q, x = .agg p ∧ y = .agg q := by
  simp only [aeq, flatEq] at h
  cases hc : (isAg x == true && isAg y == true) with
  | false => rw [hc] at h; simp at h
  | true => cases x <;> cases y <;> simp [isAg] at hc; exact ⟨_, _, rfl, rfl⟩
 simp only [rel] at hx hy
 obtain ⟨xs, rfl, _⟩ := hx
 obtain ⟨ys, rfl, _⟩ := hy
 apply eq_fin
 ·cases neg <;> exact run_eqGuard_agg w _ T X Y xs ys hg
 ·intros; simp
 ·intros; simp
 ·intros; simp
 ·intros; simp
 ·exact he
theorem g_eq {neg : Bool} {t : TypeId} {x y : Operand} {po : POp} {v : AV} (hc : compEq P neg t x y = some (.p po)) (hf : FR ι w0 fr a) (h : apure fr po = some v) :
  Gives P w ι w0 (do eqGuard (if neg then .neq else .eql) t x y (a.eval x) (a.eval y); binOp (if neg then .neq else .eql) t (a.eval x) (a.eval y)) v := by
 unfold compEq at hc
 cases hx : compO x with
 | none => simp [hx] at hc
 | some x1 =>
  cases hy : compO y with
  | none => simp [hx, hy] at hc
  | some y1 =>
   have fin : ∀ (k : EK), apure fr (.eq neg k x1 y1) = some v → ∃ p q b, x1.ev fr = some p ∧ y1.ev fr = some q ∧ aeq k p q = some b ∧ v = .bool (bif neg then !b else b) := by
    intro k h
    simp only [apure] at h
    cases h1 : x1.ev fr with
    | none => simp [h1] at h
    | some p =>
     cases h2 : y1.ev fr with
     | none => simp [h1, h2] at h
     | some q =>
      simp only [h1, h2] at h
      cases h3 : aeq k p q with
      | none => simp [h3] at h
      | some b => simp [h3] at h; exact ⟨p, q, b, rfl, rfl, h3, h.symm⟩
   have binfin : apure fr (.bin (if neg then .neq else .eql) x1 y1) = some v → Gives P w ι w0 (do eqGuard (if neg then .neq else .eql) t x y (a.eval x) (a.eval y); binOp (if neg then .neq else .eql) t (a.eval x) (a.eval y)) v := by
    intro h
    simp only [apure] at h
    cases h1 : x1.ev fr with
    | none => simp [h1] at h
    | some p =>
     cases h2 : y1.ev fr with
     | none => simp [h1, h2] at h
     | some q =>
      simp only [h1, h2] at h
      exact abin_sim h (ev_sim hx hf h1) (ev_sim hy hf h2) t x y
   cases hu : P.underlying t with
   | none => simp [hx, hy, hu] at hc
   | some ty =>
    cases ty <;> simp only [hx, hy, hu] at hc <;> try (simp at hc; done)
    case int k => cases neg <;> (simp at hc; subst hc; exact binfin h)
    case string => cases neg <;> (simp at hc; subst hc; exact binfin h)
    case bool =>
     simp at hc
     subst hc
     obtain ⟨p, q, b, h1, h2, h3, rfl⟩ := fin _ h
     exact eq_flat_bool hu h3 (ev_sim hx hf h1) (ev_sim hy hf h2)
    case struct fs =>
     cases hg : P.eqGuardType P.depth t with
     | true => simp [hg] at hc
     | false =>
      cases hk : flatT P 4 t with
      | none => simp [hg, hk] at hc
      | some ks =>
       simp [hg, hk] at hc
       subst hc
       obtain ⟨p, q, b, h1, h2, h3, rfl⟩ := fin _ h
       exact eq_flat_agg hu hg hk h3 (ev_sim hx hf h1) (ev_sim hy hf h2)
    case pointer e =>
     simp at hc
     subst hc
     obtain ⟨p, q, b, h1, h2, h3, rfl⟩ := fin _ h
     exact eq_ptr hu h3 (ev_sim hx hf h1) (ev_sim hy hf h2)
    case slice e =>
     simp at hc
     subst hc
     obtain ⟨p, q, b, h1, h2, h3, rfl⟩ := fin _ h
     exact eq_slc hu h3 (ev_sim hx hf h1) (ev_sim hy hf h2)
    case map k e =>
     simp at hc
     subst hc
     obtain ⟨p, q, b, h1, h2, h3, rfl⟩ := fin _ h
     exact eq_map hu h3 (ev_sim hx hf h1) (ev_sim hy hf h2)
    case func ps rs vr =>
     simp at hc
     subst hc
     obtain ⟨p, q, b, h1, h2, h3, rfl⟩ := fin _ h
     exact eq_fn hu h3 (ev_sim hx hf h1) (ev_sim hy hf h2)
    case interface ms =>
     split at hc
     ·rename_i hn
      simp at hc
      subst hc
      obtain ⟨p, q, b, h1, h2, h3, rfl⟩ := fin _ h
      exact eq_ifc hu hn h3 (ev_sim hx hf h1) (ev_sim hy hf h2)
     ·simp at hc
end
end Go.Abs
