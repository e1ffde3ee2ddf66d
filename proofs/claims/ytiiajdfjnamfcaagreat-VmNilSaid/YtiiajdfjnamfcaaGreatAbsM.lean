/- A meaning of the abstract code by predicates: a call is what is known of it, a step over a map goes on with each entry that may come. -/
import Derived.Test.YtiiajdfjnamfcaaGreatAbsSym
set_option autoImplicit false
set_option linter.unusedSimpArgs false
set_option linter.unusedVariables false
namespace Go.Abs
open Go Go.RowKit
section
variable (P : Program)
def MDet (f : FuncId) (args : List AV) (s : St) (v : AV) (s' : St) : Prop := Enters P f ∧ Keeps s.next s s' ∧
 ∀ (ι : IM) (w0 : World) (X : Nat → Option AObj) (w : World) (args' : Array Value), SR ι w0 (s.view X) s.next w → relL ι w0 args args'.toList → Calls P f args' w (Back ι w0 X v s')
def MCall (f : FuncId) (args : List AV) (s : St) (Q : AV → St → Prop) : Prop := Enters P f ∧
 ∀ (ι : IM) (w0 : World) (X : Nat → Option AObj) (w : World) (args' : Array Value), SR ι w0 (s.view X) s.next w → relL ι w0 args args'.toList → Calls P f args' w (fun e w' => ∃ v s', Q v s' ∧ Keeps s.next s s' ∧ Back ι w0 X v s' e w')
def MX (nd : Bool) (f : FuncId) (args : List AV) (s : St) (Q : AV → St → Prop) : Prop :=
 match nd with
 | true => MCall P f args s Q
 | false => ∃ v s', MDet P f args s v s' ∧ Q v s'
end
section
variable {P : Program}
theorem MDet.call {f : FuncId} {args : List AV} {s : St} {v : AV} {s' : St} (h : MDet P f args s v s') : MCall P f args s (fun v1 s1 => v1 = v ∧ s1 = s') :=
 ⟨h.1, fun ι w0 X w args' hs hr => (h.2.2 ι w0 X w args' hs hr).mono fun e w' hb => ⟨v, s', ⟨rfl, rfl⟩, h.2.1, hb⟩⟩
theorem MCall.mono {f : FuncId} {args : List AV} {s : St} {Q R : AV → St → Prop} (h : MCall P f args s Q) (k : ∀ v s', Keeps s.next s s' → Q v s' → R v s') : MCall P f args s R :=
 ⟨h.1, fun ι w0 X w args' hs hr => (h.2 ι w0 X w args' hs hr).mono fun e w' ⟨v, s', q, kk, hb⟩ => ⟨v, s', k _ _ kk q, kk, hb⟩⟩
theorem MDet.of {f : FuncId} {args : List AV} {s : St} {v : AV} {s' : St} (hk : Keeps s.next s s') (h : MCall P f args s (fun v1 s1 => v1 = v ∧ s1 = s')) : MDet P f args s v s' :=
 ⟨h.1, hk, fun ι w0 X w args' hs hr => (h.2 ι w0 X w args' hs hr).mono fun e w' ⟨v1, s1, ⟨e1, e2⟩, _, hb⟩ => by subst e1 e2; exact hb⟩
theorem MX.mono {nd : Bool} {f : FuncId} {args : List AV} {s : St} {Q R : AV → St → Prop} (h : MX P nd f args s Q) (k : ∀ v s', Keeps s.next s s' → Q v s' → R v s') : MX P nd f args s R := by
 cases nd with
 | true => exact MCall.mono h k
 | false =>
  obtain ⟨v, s', h1, h2⟩ := h
  exact ⟨v, s', h1, k _ _ h1.2.1 h2⟩
theorem MX.call {nd : Bool} {f : FuncId} {args : List AV} {s : St} {Q : AV → St → Prop} (h : MX P nd f args s Q) : MCall P f args s Q := by
 cases nd with
 | true => exact h
 | false =>
  obtain ⟨v, s', h1, h2⟩ := h
  exact h1.call.mono fun v1 s1 _ ⟨e1, e2⟩ => by subst e1 e2; exact h2
theorem MX.of_det {nd : Bool} {f : FuncId} {args : List AV} {s : St} {Q : AV → St → Prop} {v : AV} {s' : St} (h : MDet P f args s v s') (q : Q v s') : MX P nd f args s Q := by
 cases nd with
 | false => exact ⟨v, s', h, q⟩
 | true => exact h.call.mono fun v1 s1 _ ⟨e1, e2⟩ => by subst e1 e2; exact q
theorem MX.up {nd : Bool} {f : FuncId} {args : List AV} {s : St} {Q : AV → St → Prop} (h : MX P false f args s Q) : MX P nd f args s Q := by
 obtain ⟨v, s', h1, h2⟩ := h
 exact MX.of_det h1 h2
open Classical in
noncomputable def detOne (f : FuncId) (args : List AV) (s : St) (v : AV) (s' : St) : CallF := fun f1 args1 s1 => if f1 = f ∧ args1 = args ∧ s1 = s then some (v, s') else none
theorem detOne_at {f : FuncId} {args : List AV} {s : St} {v : AV} {s' : St} : detOne f args s v s' f args s = some (v, s') := by simp [detOne]
theorem detOne_sound {f : FuncId} {args : List AV} {s : St} {v : AV} {s' : St} (h : MDet P f args s v s') : Sound P (detOne f args s v s') := by
 intro f1 a1 s1 v1 s2 e
 unfold detOne at e
 split at e
 ·rename_i hc
  obtain ⟨rfl, rfl, rfl⟩ := hc
  simp at e
  obtain ⟨rfl, rfl⟩ := e
  exact h
 ·simp at e
def noCall : CallF := fun _ _ _ => none
theorem noCall_sound : Sound P noCall := fun f a s v s' h => by simp [noCall] at h
end
section
variable (P : Program)
def nextAll (s : St) (id : Nat) (K : AV → St → Prop) : Prop := ∃ m since seen last es ck cs, s.objs.get id = some (.mit (some m) since seen last) ∧ s.objs.get m = some (.map es ck) ∧ cands es since seen last = some cs ∧
 ∀ c, c ∈ cs → match c with
  | some (k, v, n) => K (.tup [.bool true, k, v]) (s.put id (.mit (some m) since (seen ++ [n]) ck))
  | none => K (.tup [.bool false]) s
def awcall (nd : Bool) (fr : Fr) (s : St) (o : AOp) (K : AV → St → Prop) : Prop := match o with
 | .e (.call f args) => ∃ vs, evs fr args = some vs ∧ MX P nd f vs s K
 | .e (.callv f args) => ∃ g first cap vs, f.ev fr = some (.fn g first cap) ∧ evs fr args = some vs ∧ MX P nd g (first ++ vs ++ cap) s K
 | .e (.next false x) => nd = true ∧ ∃ id, x.ev fr = some (.it id) ∧ nextAll s id K
 | _ => False
def awop (nd : Bool) (id : Nat) (fr : Fr) (s : St) (o : AOp) (K : AV → St → Prop) : Prop :=
 (∃ call v s', Sound P call ∧ aop call id fr s o = some (v, s') ∧ K v s') ∨ awcall P nd fr s o K
def awregs (nd : Bool) : Nat → List AOper → Fr → St → (Fr → St → Prop) → Prop
 | _, [], fr, s, K => K fr s
 | id, o :: os, fr, s, K => match wants fr o.guard with
  | none => False
  | some false => awregs nd (id + 1) os (putO fr o.dst (.tup [])) s K
  | some true => awop P nd id fr s o.op fun v s' => awregs nd (id + 1) os (putO fr o.dst v) s' K
def awdraws : Nat → Nat → List AOper → DS → (DS → Prop) → Prop
 | _, _, [], d, K => K d
 | id, i, o :: os, d, K => match wants d.fr o.guard with
  | none => False
  | some false => awdraws (id + 1) (i + 1) os { d with fr := putO d.fr o.dst (.tup []) } K
  | some true => ∃ call d', Sound P call ∧ adop call id i o d = some d' ∧ awdraws (id + 1) (i + 1) os d' K
def awl (body : Fr → St → (AX → Fr → St → Prop) → Prop) : Nat → Fr → St → (AX → Fr → St → Prop) → Prop
 | 0, _, _, _ => False
 | n + 1, fr, s, Q => body fr s fun x fr' s' => thenW x (awl body n fr' s' Q) (Q x fr' s')
def awp (nd : Bool) : ACode → Fr → St → (AX → Fr → St → Prop) → Prop
 | .skip, fr, s, Q => Q .nrm fr s
 | .reg ops, fr, s, Q => awregs P nd s.next ops fr { s with next := s.next + ops.length } fun fr' s' => Q .nrm fr' s'
 | .draw ops, fr, s, Q => awdraws P s.next 0 ops ⟨fr, { s with next := s.next + ops.length }, [], [], []⟩ fun d => Q .nrm d.fr (flush d.s d.pend)
 | .seq a b, fr, s, Q => awp nd a fr s fun x fr' s' => thenW x (awp nd b fr' s' Q) (Q x fr' s')
 | .cond c a b, fr, s, Q => match c.ev fr with
  | some (.bool true) => awp nd a fr s Q
  | some (.bool false) => awp nd b fr s Q
  | _ => False
 | .blk id b, fr, s, Q => awp nd b fr s fun x fr' s' => outW id x fun x => Q x fr' s'
 | .loop b, fr, s, Q => ∃ k, awl (awp nd b) k fr s Q
 | .ext id, fr, s, Q => Q (.ext id) fr s
 | .scp b, fr, s, Q => awp nd b fr s fun x fr' s' => noGoto x fun x => Q x fr' s'
 | .scpj l b rest, fr, s, Q => awp nd b fr s fun x fr' s' => jumpW l x (awp nd rest fr' s' fun x fr' s' => noGoto x fun x => Q x fr' s') fun x => Q x fr' s'
 | .goto l, fr, s, Q => Q (.goto l) fr s
 | .ret, fr, s, Q => Q .ret fr s
end
section
variable {P : Program} {nd : Bool}
theorem thenW_mono {x : AX} {a b a' b' : Prop} (h : thenW x a b) (h1 : a → a') (h2 : b → b') : thenW x a' b' := by cases x <;> first | exact h1 h | exact h2 h
theorem outW_mono {i : Nat} {x : AX} {Q R : AX → Prop} (h : outW i x Q) (k : ∀ x, Q x → R x) : outW i x R := by
 cases x <;> simp only [outW] at h ⊢ <;> try exact k _ h
 rename_i j
 cases hb : Nat.beq j i <;> rw [hb] at h <;> exact k _ h
theorem noGoto_mono {x : AX} {Q R : AX → Prop} (h : noGoto x Q) (k : ∀ x, Q x → R x) : noGoto x R := by
 cases x <;> simp only [noGoto] at h ⊢ <;> exact k _ h
theorem jumpW_mono {l : Nat} {x : AX} {J J' : Prop} {Q R : AX → Prop} (h : jumpW l x J Q) (j : J → J') (k : ∀ x, Q x → R x) : jumpW l x J' R := by
 cases x <;> simp only [jumpW] at h ⊢ <;> try exact k _ h
 exact ⟨h.1, j h.2⟩
theorem awop_mono {id : Nat} {fr : Fr} {s : St} {o : AOp} {K L : AV → St → Prop} (h : awop P nd id fr s o K) (k : ∀ v s', K v s' → L v s') : awop P nd id fr s o L := by
 rcases h with ⟨c, v, s', hc, e, h⟩ | h
 ·exact .inl ⟨c, v, s', hc, e, k _ _ h⟩
 ·right
  unfold awcall at h ⊢
  split at h
  ·obtain ⟨vs, e, h⟩ := h
   exact ⟨vs, e, h.mono fun _ _ _ q => k _ _ q⟩
  ·obtain ⟨g, a, b, vs, e1, e2, h⟩ := h
   exact ⟨g, a, b, vs, e1, e2, h.mono fun _ _ _ q => k _ _ q⟩
  ·obtain ⟨e, id, e1, m, since, seen, last, es, ck, cs, h1, h2, h3, h4⟩ := h
   refine ⟨e, id, e1, m, since, seen, last, es, ck, cs, h1, h2, h3, fun c hc => ?_⟩
   have := h4 c hc
   split at this
   ·exact k _ _ this
   ·exact k _ _ this
  ·exact h
theorem awregs_mono : ∀ {ops : List AOper} {id : Nat} {fr : Fr} {s : St} {K L : Fr → St → Prop}, awregs P nd id ops fr s K → (∀ fr s, K fr s → L fr s) → awregs P nd id ops fr s L
 | [], id, fr, s, K, L, h, k => k _ _ h
 | o :: os, id, fr, s, K, L, h, k => by
  simp only [awregs] at h ⊢
  split at h
  ·exact h
  ·exact awregs_mono h k
  ·exact awop_mono h fun _ _ h => awregs_mono h k
theorem awdraws_mono : ∀ {ops : List AOper} {id i : Nat} {d : DS} {K L : DS → Prop}, awdraws P id i ops d K → (∀ d, K d → L d) → awdraws P id i ops d L
 | [], id, i, d, K, L, h, k => k _ h
 | o :: os, id, i, d, K, L, h, k => by
  simp only [awdraws] at h ⊢
  split at h
  ·exact h
  ·exact awdraws_mono h k
  ·obtain ⟨c, d', h1, h2, h3⟩ := h
   exact ⟨c, d', h1, h2, awdraws_mono h3 k⟩
theorem awl_mono {b : Fr → St → (AX → Fr → St → Prop) → Prop} (hb : ∀ fr s (Q R : AX → Fr → St → Prop), b fr s Q → (∀ x fr s, Q x fr s → R x fr s) → b fr s R) :
  ∀ {n : Nat} {fr : Fr} {s : St} {Q R : AX → Fr → St → Prop}, awl b n fr s Q → (∀ x fr s, Q x fr s → R x fr s) → awl b n fr s R
 | 0, _, _, _, _, h, _ => h
 | n + 1, fr, s, Q, R, h, k => hb _ _ _ _ h fun x fr' s' h => thenW_mono h (fun h => awl_mono hb h k) (k _ _ _)
theorem awp_mono : ∀ {c : ACode} {fr : Fr} {s : St} {Q R : AX → Fr → St → Prop}, awp P nd c fr s Q → (∀ x fr s, Q x fr s → R x fr s) → awp P nd c fr s R
 | .skip, _, _, _, _, h, k => k _ _ _ h
 | .ret, _, _, _, _, h, k => k _ _ _ h
 | .ext _, _, _, _, _, h, k => k _ _ _ h
 | .goto _, _, _, _, _, h, k => k _ _ _ h
 | .reg ops, _, _, _, _, h, k => awregs_mono h fun _ _ h => k _ _ _ h
 | .draw ops, _, _, _, _, h, k => awdraws_mono h fun _ h => k _ _ _ h
 | .seq a b, _, _, _, _, h, k => awp_mono (c := a) h fun x fr s h => thenW_mono h (fun h => awp_mono (c := b) h k) (k _ _ _)
 | .cond c a b, fr, _, _, _, h, k => by
  simp only [awp] at h ⊢
  split at h
  ·exact awp_mono (c := a) h k
  ·exact awp_mono (c := b) h k
  ·exact h
 | .blk _ b, _, _, _, _, h, k => awp_mono (c := b) h fun x fr s h => outW_mono h fun x => k x fr s
 | .loop b, _, _, _, _, ⟨n, h⟩, k => ⟨n, awl_mono (b := awp P nd b) (fun fr s Q R h k => awp_mono (c := b) h k) h k⟩
 | .scp b, _, _, _, _, h, k => awp_mono (c := b) h fun x fr s h => noGoto_mono h fun x => k x fr s
 | .scpj l b r, _, _, _, _, h, k => awp_mono (c := b) h fun x fr s h => jumpW_mono h (fun h => awp_mono (c := r) h fun x fr s h => noGoto_mono h fun x => k x fr s) fun x => k x fr s
theorem awop_det {id : Nat} {fr : Fr} {s : St} {o : AOp} {K : AV → St → Prop} (h : awop P false id fr s o K) : ∃ v s', K v s' ∧ awop P false id fr s o fun v1 s1 => v1 = v ∧ s1 = s' := by
 rcases h with ⟨c, v, s', hc, e, h⟩ | h
 ·exact ⟨v, s', h, .inl ⟨c, v, s', hc, e, rfl, rfl⟩⟩
 ·unfold awcall at h
  split at h
  ·obtain ⟨vs, e, v, s', h1, h2⟩ := h
   exact ⟨v, s', h2, .inr ⟨vs, e, v, s', h1, rfl, rfl⟩⟩
  ·obtain ⟨g, a, b, vs, e1, e2, v, s', h1, h2⟩ := h
   exact ⟨v, s', h2, .inr ⟨g, a, b, vs, e1, e2, v, s', h1, rfl, rfl⟩⟩
  ·obtain ⟨e, _⟩ := h; cases e
  ·exact h.elim
theorem awregs_det : ∀ {ops : List AOper} {id : Nat} {fr : Fr} {s : St} {K : Fr → St → Prop}, awregs P false id ops fr s K → ∃ fr' s', K fr' s' ∧ awregs P false id ops fr s fun f1 s1 => f1 = fr' ∧ s1 = s'
 | [], id, fr, s, K, h => ⟨fr, s, h, rfl, rfl⟩
 | o :: os, id, fr, s, K, h => by
  simp only [awregs] at h ⊢
  split at h
  ·exact h.elim
  ·exact awregs_det h
  ·obtain ⟨v, s1, h1, h2⟩ := awop_det h
   obtain ⟨fr', s', h3, h4⟩ := awregs_det h1
   exact ⟨fr', s', h3, awop_mono h2 fun v2 s2 ⟨e1, e2⟩ => by subst e1 e2; exact h4⟩
theorem awdraws_det : ∀ {ops : List AOper} {id i : Nat} {d : DS} {K : DS → Prop}, awdraws P id i ops d K → ∃ d', K d' ∧ awdraws P id i ops d fun d1 => d1 = d'
 | [], id, i, d, K, h => ⟨d, h, rfl⟩
 | o :: os, id, i, d, K, h => by
  simp only [awdraws] at h ⊢
  split at h
  ·exact h.elim
  ·exact awdraws_det h
  ·obtain ⟨c, d1, h1, h2, h3⟩ := h
   obtain ⟨d', h4, h5⟩ := awdraws_det h3
   exact ⟨d', h4, c, d1, h1, h2, h5⟩
def One (x : AX) (fr : Fr) (s : St) : AX → Fr → St → Prop := fun x1 f1 s1 => x1 = x ∧ f1 = fr ∧ s1 = s
theorem awl_det {b : Fr → St → (AX → Fr → St → Prop) → Prop} (hm : ∀ fr s (Q R : AX → Fr → St → Prop), b fr s Q → (∀ x fr s, Q x fr s → R x fr s) → b fr s R)
  (hb : ∀ fr s (Q : AX → Fr → St → Prop), b fr s Q → ∃ x fr' s', Q x fr' s' ∧ b fr s (One x fr' s')) :
  ∀ {n : Nat} {fr : Fr} {s : St} {Q : AX → Fr → St → Prop}, awl b n fr s Q → ∃ x fr' s', Q x fr' s' ∧ awl b n fr s (One x fr' s')
 | 0, _, _, _, h => h.elim
 | n + 1, fr, s, Q, h => by
  obtain ⟨x, fr1, s1, h1, h2⟩ := hb _ _ _ h
  cases x with
  | nrm =>
   obtain ⟨x, fr', s', h3, h4⟩ := awl_det hm hb (n := n) h1
   exact ⟨x, fr', s', h3, hm _ _ _ _ h2 fun x f s ⟨e1, e2, e3⟩ => by subst e1 e2 e3; exact h4⟩
  | ext j => exact ⟨_, fr1, s1, h1, hm _ _ _ _ h2 fun x f s ⟨e1, e2, e3⟩ => by subst e1 e2 e3; exact ⟨rfl, rfl, rfl⟩⟩
  | goto j => exact ⟨_, fr1, s1, h1, hm _ _ _ _ h2 fun x f s ⟨e1, e2, e3⟩ => by subst e1 e2 e3; exact ⟨rfl, rfl, rfl⟩⟩
  | ret => exact ⟨_, fr1, s1, h1, hm _ _ _ _ h2 fun x f s ⟨e1, e2, e3⟩ => by subst e1 e2 e3; exact ⟨rfl, rfl, rfl⟩⟩
theorem awp_det : ∀ {c : ACode} {fr : Fr} {s : St} {Q : AX → Fr → St → Prop}, awp P false c fr s Q → ∃ x fr' s', Q x fr' s' ∧ awp P false c fr s (One x fr' s')
 | .skip, fr, s, _, h => ⟨_, fr, s, h, rfl, rfl, rfl⟩
 | .ret, fr, s, _, h => ⟨_, fr, s, h, rfl, rfl, rfl⟩
 | .ext _, fr, s, _, h => ⟨_, fr, s, h, rfl, rfl, rfl⟩
 | .goto _, fr, s, _, h => ⟨_, fr, s, h, rfl, rfl, rfl⟩
 | .reg ops, fr, s, Q, h => by
  obtain ⟨fr', s', h1, h2⟩ := awregs_det h
  exact ⟨_, fr', s', h1, awregs_mono h2 fun f s ⟨e1, e2⟩ => ⟨rfl, e1, e2⟩⟩
 | .draw ops, fr, s, Q, h => by
  obtain ⟨d, h1, h2⟩ := awdraws_det h
  exact ⟨_, d.fr, _, h1, awdraws_mono h2 fun d e => by subst e; exact ⟨rfl, rfl, rfl⟩⟩
 | .seq a b, fr, s, Q, h => by
  obtain ⟨x, fr1, s1, h1, h2⟩ := awp_det (c := a) h
  cases x with
  | nrm =>
   obtain ⟨x, fr', s', h3, h4⟩ := awp_det (c := b) h1
   exact ⟨x, fr', s', h3, awp_mono (c := a) h2 fun x f s ⟨e1, e2, e3⟩ => by subst e1 e2 e3; exact h4⟩
  | ext j => exact ⟨_, fr1, s1, h1, awp_mono (c := a) h2 fun x f s ⟨e1, e2, e3⟩ => by subst e1 e2 e3; exact ⟨rfl, rfl, rfl⟩⟩
  | goto j => exact ⟨_, fr1, s1, h1, awp_mono (c := a) h2 fun x f s ⟨e1, e2, e3⟩ => by subst e1 e2 e3; exact ⟨rfl, rfl, rfl⟩⟩
  | ret => exact ⟨_, fr1, s1, h1, awp_mono (c := a) h2 fun x f s ⟨e1, e2, e3⟩ => by subst e1 e2 e3; exact ⟨rfl, rfl, rfl⟩⟩
 | .cond c a b, fr, s, Q, h => by
  simp only [awp] at h ⊢
  split at h
  ·exact awp_det (c := a) h
  ·exact awp_det (c := b) h
  ·exact h.elim
 | .blk i b, fr, s, Q, h => by
  obtain ⟨x, fr1, s1, h1, h2⟩ := awp_det (c := b) h
  cases x with
  | ext j =>
   simp only [outW] at h1
   cases hb : Nat.beq j i with
   | true =>
    rw [hb] at h1
    exact ⟨.nrm, fr1, s1, h1, awp_mono (c := b) h2 fun x f s ⟨e1, e2, e3⟩ => by subst e1 e2 e3; simp only [outW, hb, cond_true]; exact ⟨rfl, rfl, rfl⟩⟩
   | false =>
    rw [hb] at h1
    exact ⟨_, fr1, s1, h1, awp_mono (c := b) h2 fun x f s ⟨e1, e2, e3⟩ => by subst e1 e2 e3; simp only [outW, hb, cond_false]; exact ⟨rfl, rfl, rfl⟩⟩
  | nrm => exact ⟨_, fr1, s1, h1, awp_mono (c := b) h2 fun x f s ⟨e1, e2, e3⟩ => by subst e1 e2 e3; exact ⟨rfl, rfl, rfl⟩⟩
  | goto j => exact ⟨_, fr1, s1, h1, awp_mono (c := b) h2 fun x f s ⟨e1, e2, e3⟩ => by subst e1 e2 e3; exact ⟨rfl, rfl, rfl⟩⟩
  | ret => exact ⟨_, fr1, s1, h1, awp_mono (c := b) h2 fun x f s ⟨e1, e2, e3⟩ => by subst e1 e2 e3; exact ⟨rfl, rfl, rfl⟩⟩
 | .loop b, fr, s, Q, ⟨n, h⟩ => by
  obtain ⟨x, fr', s', h1, h2⟩ := awl_det (b := awp P false b) (fun fr s Q R h k => awp_mono (c := b) h k) (fun fr s Q h => awp_det (c := b) h) h
  exact ⟨x, fr', s', h1, n, h2⟩
 | .scp b, fr, s, Q, h => by
  obtain ⟨x, fr1, s1, h1, h2⟩ := awp_det (c := b) h
  cases x with
  | goto j => exact h1.elim
  | ext j => exact ⟨_, fr1, s1, h1, awp_mono (c := b) h2 fun x f s ⟨e1, e2, e3⟩ => by subst e1 e2 e3; exact ⟨rfl, rfl, rfl⟩⟩
  | nrm => exact ⟨_, fr1, s1, h1, awp_mono (c := b) h2 fun x f s ⟨e1, e2, e3⟩ => by subst e1 e2 e3; exact ⟨rfl, rfl, rfl⟩⟩
  | ret => exact ⟨_, fr1, s1, h1, awp_mono (c := b) h2 fun x f s ⟨e1, e2, e3⟩ => by subst e1 e2 e3; exact ⟨rfl, rfl, rfl⟩⟩
 | .scpj l b r, fr, s, Q, h => by
  obtain ⟨x, fr1, s1, h1, h2⟩ := awp_det (c := b) h
  cases x with
  | goto j =>
   obtain ⟨rfl, h1⟩ := h1
   obtain ⟨x, fr', s', h3, h4⟩ := awp_det (c := r) h1
   cases x with
   | goto j => exact h3.elim
   | ext q => exact ⟨_, fr', s', h3, awp_mono (c := b) h2 fun x f s ⟨e1, e2, e3⟩ => by subst e1 e2 e3; exact ⟨rfl, awp_mono (c := r) h4 fun x f s ⟨e1, e2, e3⟩ => by subst e1 e2 e3; exact ⟨rfl, rfl, rfl⟩⟩⟩
   | nrm => exact ⟨_, fr', s', h3, awp_mono (c := b) h2 fun x f s ⟨e1, e2, e3⟩ => by subst e1 e2 e3; exact ⟨rfl, awp_mono (c := r) h4 fun x f s ⟨e1, e2, e3⟩ => by subst e1 e2 e3; exact ⟨rfl, rfl, rfl⟩⟩⟩
   | ret => exact ⟨_, fr', s', h3, awp_mono (c := b) h2 fun x f s ⟨e1, e2, e3⟩ => by subst e1 e2 e3; exact ⟨rfl, awp_mono (c := r) h4 fun x f s ⟨e1, e2, e3⟩ => by subst e1 e2 e3; exact ⟨rfl, rfl, rfl⟩⟩⟩
  | ext j => exact ⟨_, fr1, s1, h1, awp_mono (c := b) h2 fun x f s ⟨e1, e2, e3⟩ => by subst e1 e2 e3; exact ⟨rfl, rfl, rfl⟩⟩
  | nrm => exact ⟨_, fr1, s1, h1, awp_mono (c := b) h2 fun x f s ⟨e1, e2, e3⟩ => by subst e1 e2 e3; exact ⟨rfl, rfl, rfl⟩⟩
  | ret => exact ⟨_, fr1, s1, h1, awp_mono (c := b) h2 fun x f s ⟨e1, e2, e3⟩ => by subst e1 e2 e3; exact ⟨rfl, rfl, rfl⟩⟩
end
end Go.Abs
namespace Go.Abs
open Go Go.RowKit
section
variable {P : Program} {w : World} {ι : IM} {w0 : World} {X : Nat → Option AObj} {s : St} {nx : Nat} {fr : Fr} {a : Act} {nd : Bool}
theorem relM_idx : ∀ {es : List (AV × AV × Nat)} {ces : List MapEntry}, relM ι w0 es ces → es.length = ces.length ∧ ∀ (i : Nat) (e : MapEntry), ces[i]? = some e → ∃ k v n, es[i]? = some (k, v, n) ∧ rel ι w0 k e.key ∧ rel ι w0 v e.val ∧ e.born = n
 | [], ces, h => by simp only [relM] at h; subst h; simp
 | (k, v, n) :: es, ces, h => by
  simp only [relM] at h
  obtain ⟨e, t, rfl, h1, h2, h3, h⟩ := h
  obtain ⟨ih1, ih2⟩ := relM_idx h
  refine ⟨by simp [ih1], ?_⟩
  intro i e' he
  cases i with
  | zero => simp at he; subst he; exact ⟨k, v, n, rfl, h1, h2, h3⟩
  | succ i => exact ih2 i e' (by simpa using he)
theorem relM_app : ∀ {es es2 : List (AV × AV × Nat)} {ces ces2 : List MapEntry}, relM ι w0 es ces → relM ι w0 es2 ces2 → relM ι w0 (es ++ es2) (ces ++ ces2)
 | [], es2, ces, ces2, h, k => by simp only [relM] at h; subst h; exact k
 | (a, v, n) :: es, es2, ces, ces2, h, k => by
  simp only [relM] at h
  obtain ⟨e, t, rfl, h1, h2, h3, h⟩ := h
  simp only [List.cons_append, relM]
  exact ⟨e, _, rfl, h1, h2, h3, relM_app h k⟩
theorem relM_empty {es : List (AV × AV × Nat)} {ces : List MapEntry} (h : relM ι w0 es ces) : es.isEmpty = ces.isEmpty := by
 cases es with
 | nil => simp only [relM] at h; subst h; rfl
 | cons q es => obtain ⟨k, v, n⟩ := q; simp only [relM] at h; obtain ⟨e, t, rfl, _⟩ := h; rfl
theorem cands_all {es : List (AV × AV × Nat)} {ces : List MapEntry} {since last : Nat} {seen : List Nat} {cs : List (Option (AV × AV × Nat))} (hm : relM ι w0 es ces) (h : cands es since seen last = some cs) :
  (!seen.isEmpty && !ces.isEmpty && ces.all fun e => decide (e.born ≥ last)) = false ∧ 0 < (candsV ces since seen).length ∧ ∀ (i : Nat) (c' : Option MapEntry), (candsV ces since seen)[i]? = some c' → ∃ c, c ∈ cs ∧ CandR ι w0 c c' := by
 unfold cands at h
 have hle : ∀ n : Nat, Nat.ble last n = decide (n ≥ last) := by
  intro n
  cases hb : Nat.ble last n with
  | true => have := Nat.le_of_ble_eq_true hb; simp [this]
  | false => simp; exact Nat.lt_of_not_le fun hh => by rw [Nat.ble_eq_true_of_le hh] at hb; simp at hb
 have hlt : ∀ n : Nat, Nat.blt n since = decide (n < since) := by
  intro n
  cases hb : Nat.blt n since with
  | true => have := blt_lt hb; simp [this]
  | false =>
   simp
   rcases Nat.lt_or_ge n since with hh | hh
   ·have : Nat.blt n since = true := Nat.ble_eq_true_of_le hh
    rw [this] at hb; simp at hb
   ·exact hh
 have hge : ∀ n : Nat, (!Nat.blt n since) = decide (n ≥ since) := by
  intro n
  rw [hlt n]
  by_cases hh : n < since
  ·simp [hh]
  ·simp [hh]; omega
 have he : es.isEmpty = ces.isEmpty := relM_empty hm
 have ha := relM_all (ι := ι) (w0 := w0) (fun n => Nat.ble last n) hm
 rw [ha, he] at h
 simp only [hle] at h
 cases hc : (!seen.isEmpty && !ces.isEmpty && ces.all fun e => decide (e.born ≥ last)) with
 | true => rw [hc] at h; simp at h
 | false =>
  refine ⟨rfl, ?_⟩
  rw [hc] at h
  simp only [cond_false, Option.some.injEq] at h
  have hL := relM_filter (fun n => !seen.contains n) hm
  have hO := relM_filter (fun n => Nat.blt n since) hL
  have hN := relM_filter (fun n => !Nat.blt n since) hL
  simp only [hge] at hN h
  simp only [hlt] at hO h
  unfold candsV
  simp only
  generalize (es.filter fun e => !seen.contains e.2.2).filter (fun e => decide (e.2.2 < since)) = o1 at hO h
  generalize (es.filter fun e => !seen.contains e.2.2).filter (fun e => decide (e.2.2 ≥ since)) = n1 at hN h
  generalize (ces.filter fun e => !seen.contains e.born).filter (fun e => decide (e.born < since)) = o2 at hO ⊢
  generalize (ces.filter fun e => !seen.contains e.born).filter (fun e => decide (e.born ≥ since)) = n2 at hN ⊢
  have hE := relM_empty hO
  have hA := relM_app hO hN
  rw [hE] at h
  obtain ⟨hl, hi⟩ := relM_idx hA
  have main : ∀ c', c' ∈ (o2 ++ n2).map some → ∃ c, c ∈ (o1 ++ n1).map some ∧ CandR ι w0 c c' := by
   intro c' hc'
   obtain ⟨e, he2, rfl⟩ := List.mem_map.1 hc'
   obtain ⟨i, hi2⟩ := List.mem_iff_getElem?.1 he2
   obtain ⟨k, v, n, h1, h2, h3, h4⟩ := hi i e hi2
   exact ⟨some (k, v, n), List.mem_map.2 ⟨_, List.mem_of_getElem? h1, rfl⟩, e, rfl, h2, h3, h4⟩
  subst h
  cases hoe : o2.isEmpty with
  | true =>
   simp only [hoe, if_true, cond_true]
   refine ⟨by simp, ?_⟩
   intro i c' hc'
   rcases List.mem_append.1 (List.mem_of_getElem? hc') with h1 | h1
   ·simp at h1; subst h1
    exact ⟨none, by simp, rfl⟩
   ·obtain ⟨c, q1, q2⟩ := main c' h1
    exact ⟨c, List.mem_append_right _ q1, q2⟩
  | false =>
   simp only [Bool.false_eq_true, if_false, cond_false]
   refine ⟨?_, ?_⟩
   ·cases o2 with
    | nil => simp at hoe
    | cons q o2 => simp
   ·intro i c' hc'
    rcases List.mem_append.1 (List.mem_of_getElem? hc') with h1 | h1
    ·simp at h1
    ·obtain ⟨c, q1, q2⟩ := main c' h1
     exact ⟨c, List.mem_append_right _ q1, q2⟩
theorem choose_run (n : Nat) (hn : 0 < n) (w : World) : ∃ i w', (choose (.mapNext n)).run P w = .ok i w' ∧ i < n ∧ w'.heap = w.heap ∧ w'.os = w.os ∧ w'.tape = w.tape ∧ w'.output = w.output := by
 by_cases h : n ≤ 1
 ·exact ⟨0, w, by simp [choose, Sem.run, Question.forced, h], hn, rfl, rfl, rfl, rfl⟩
 ·refine ⟨_, { w with drawn := w.drawn + 1 }, by simp only [choose, Sem.run, Question.forced, h, decide_false, Bool.false_eq_true, if_false]; rfl, ?_, rfl, rfl, rfl, rfl⟩
  simp only [Question.cut]
  exact Nat.mod_lt _ hn
theorem nextAll_sim (hs : SR ι w0 (s.view X) s.next w) {t : TypeId} {id : Nat} {x' : Value} {K : AV → St → Prop} (hr : rel ι w0 (.it id) x') (h : nextAll s id K) :
  ∃ v' w', (Instr.next x' false t).run P w = .ok v' w' ∧ ∃ v s', K v s' ∧ rel ι w0 v v' ∧ SR ι w0 (s'.view X) s'.next w' := by
 obtain ⟨m, since, seen, last, es, ck, cs, hob, hob2, hcs, hK⟩ := h
 simp only [rel] at hr
 obtain ⟨p, hp, rfl⟩ := hr
 obtain ⟨o1, p', mb, o2, o3, o4⟩ := hs.obj id _ (view_get hob)
 rw [hp] at o2
 cases o2
 simp only at o4
 obtain ⟨q, q1, rfl⟩ := o4
 have hg : (getObj p.block).run P w = .ok (.mapIter (some q.block) since seen.toArray last) w := by simp [getObj, Sem.run, o3]
 obtain ⟨q', ces, m1, m2, m3, m4, m5⟩ := map_obj (P := P) hs hob2 (v' := .map (some q.block)) (by simp only [rel]; exact ⟨q, q1, rfl⟩)
 rw [q1] at m1
 cases m1
 obtain ⟨k1, k2, k3⟩ := cands_all m5 hcs
 have hc1 : (!seen.toArray.isEmpty && !ces.isEmpty && ces.all (fun x => decide (x.born ≥ last))) = false := by
  rw [← k1]; cases ces; simp
 obtain ⟨i, w1, c1, c2, c3, c4, c5, c6⟩ := choose_run (P := P) (candsV ces.toList since seen).length k2 w
 have hs1 : SR ι w0 (s.view X) s.next w1 := SR_heap hs c3 c4 c5 c6
 obtain ⟨c', hc'⟩ : ∃ c', (candsV ces.toList since seen)[i]? = some c' := ⟨_, List.getElem?_eq_getElem c2⟩
 obtain ⟨c, hc, hcr⟩ := k3 i c' hc'
 have hKc := hK c hc
 have o3' : w1.heap[p.block]? = some (.mapIter (some q.block) since seen.toArray last) := by rw [c3]; exact o3
 have key : (Instr.next (.pointer (some ⟨p.block, 0, none⟩)) false t).run P w = (match c' with
   | some e => (do setObj p.block (.mapIter (some q.block) since (seen.toArray.push e.born) ck); pure (.tuple #[.bool true, e.key, e.val]) : Sem Value)
   | none => pure (.tuple #[.bool false])).run P w1 := by
  unfold Instr.next
  simp only [Sem.run_bind, hg, m3, Result.andThen_ok, hc1, Bool.false_eq_true, if_false]
  rw [candsV_eq]
  simp only [List.size_toArray, c1, Result.andThen_ok]
  rw [show (candsV ces.toList since seen).toArray[i]? = some c' by simpa using hc']
  cases c' <;> simp
 cases c with
 | none =>
  simp only [CandR] at hcr
  subst hcr
  refine ⟨.tuple #[.bool false], w1, by rw [key]; simp, _, _, hKc, by simp [rel, relL], hs1⟩
 | some c =>
  obtain ⟨k, v1, n⟩ := c
  obtain ⟨e, rfl, r1, r2, r3⟩ := hcr
  obtain ⟨z1, z2⟩ := SR_it (P := P) (o' := .mit (some m) since (seen ++ [n]) ck) (ob' := .mapIter (some q.block) since (seen.toArray.push e.born) ck) hs1 hob o1 hp o3' (by simp) (fun w' hw' => ⟨o1, p, some q.block, hp, by rw [hw']; simp [r3], q, q1, rfl⟩)
  refine ⟨.tuple #[.bool true, e.key, e.val], _, ?_, _, _, hKc, ?_, z2⟩
  ·rw [key]
   simp only [Sem.run_bind, z1, Result.andThen_ok, Sem.run_pure]
  ·simp only [rel, relL]
   exact ⟨_, rfl, _, _, rfl, rfl, _, _, rfl, r1, _, _, rfl, r2, rfl⟩
def Fresh (id : Nat) (s s' : St) : Prop := s.next ≤ s'.next ∧ ∀ j, (j < s.next → j ≠ id → s.objs.get j = none → s'.objs.get j = none) ∧ (s'.objs.get j = none → s.objs.get j = none)
theorem Keeps.fresh {s s' : St} (h : Keeps s.next s s') (id : Nat) : Fresh id s s' := ⟨h.1, fun j => ⟨fun h1 _ h2 => (h.2 j).1 h1 h2, (h.2 j).2⟩⟩
theorem Fresh.refl (id : Nat) (s : St) : Fresh id s s := (Keeps.refl _ _).fresh id
theorem aop_fresh {call : CallF} (hg : KeepsF call) {id : Nat} {o : AOp} {v : AV} {s' : St} (h : aop call id fr s o = some (v, s')) : Fresh id s s' := by
 cases o <;> simp only [aop] at h
 case p => split at h <;> simp at h; obtain ⟨_, rfl⟩ := h; exact Fresh.refl _ _
 case r =>
  split at h
  ·split at h <;> simp at h; obtain ⟨_, rfl⟩ := h; exact Fresh.refl _ _
  ·simp at h
 case a =>
  split at h <;> simp at h
  obtain ⟨_, rfl⟩ := h
  refine ⟨Nat.le_refl _, fun j => ⟨fun hj hi hn => ?_, fun hn => ?_⟩⟩
  ·simp only [St.put, Tr.get_set]
   rw [if_neg hi]
   exact hn
  ·simp only [St.put, Tr.get_set] at hn
   by_cases e : j = id
   ·rw [if_pos e] at hn; simp at hn
   ·rw [if_neg e] at hn; exact hn
 case e => exact Keeps.fresh (aeff_keeps hg h) id
theorem nextAll_fresh {id : Nat} {K : AV → St → Prop} (h : nextAll s id K) : nextAll s id fun v s' => Keeps s.next s s' ∧ K v s' := by
 obtain ⟨m, since, seen, last, es, ck, cs, hob, hob2, hcs, hK⟩ := h
 refine ⟨m, since, seen, last, es, ck, cs, hob, hob2, hcs, fun c hc => ?_⟩
 have := hK c hc
 split at this
 ·exact ⟨Keeps.put hob, this⟩
 ·exact ⟨Keeps.refl _ _, this⟩
theorem awop_fresh {id : Nat} {o : AOp} {K : AV → St → Prop} (h : awop P nd id fr s o K) : awop P nd id fr s o fun v s' => Fresh id s s' ∧ K v s' := by
 rcases h with ⟨c, v, s', hc, e, h⟩ | h
 ·exact .inl ⟨c, v, s', hc, e, aop_fresh hc.keeps e, h⟩
 ·right
  unfold awcall at h ⊢
  split at h
  ·obtain ⟨vs, e, h⟩ := h
   exact ⟨vs, e, h.mono fun _ _ kk q => ⟨kk.fresh id, q⟩⟩
  ·obtain ⟨g, a, b, vs, e1, e2, h⟩ := h
   exact ⟨g, a, b, vs, e1, e2, h.mono fun _ _ kk q => ⟨kk.fresh id, q⟩⟩
  ·obtain ⟨e, id1, e1, h⟩ := h
   obtain ⟨m, since, seen, last, es, ck, cs, hob, hob2, hcs, hK⟩ := nextAll_fresh h
   refine ⟨e, id1, e1, m, since, seen, last, es, ck, cs, hob, hob2, hcs, fun c hc => ?_⟩
   have := hK c hc
   split at this
   ·exact ⟨this.1.fresh id, this.2⟩
   ·exact ⟨this.1.fresh id, this.2⟩
  ·exact h
theorem Fresh.keeps {id : Nat} {s s' : St} (h : Fresh id s s') (hi : id ≤ s.next) : Keeps id s s' := ⟨h.1, fun j => ⟨fun hj => (h.2 j).1 (by omega) (by omega), (h.2 j).2⟩⟩
theorem awregs_keeps : ∀ {ops : List AOper} {id : Nat} {fr : Fr} {s : St} {K : Fr → St → Prop}, id + ops.length ≤ s.next → awregs P nd id ops fr s K → awregs P nd id ops fr s fun fr' s' => Keeps id s s' ∧ K fr' s'
 | [], id, fr, s, K, hl, h => ⟨Keeps.refl _ _, h⟩
 | o :: os, id, fr, s, K, hl, h => by
  simp only [List.length_cons] at hl
  simp only [awregs] at h ⊢
  split at h
  ·exact h
  ·exact awregs_mono (awregs_keeps (by omega) h) fun _ _ ⟨k, h⟩ => ⟨k.mono (Nat.le_succ _), h⟩
  ·refine awop_mono (awop_fresh h) fun v s1 ⟨k1, h⟩ => ?_
   have k1 := k1.keeps (by omega)
   exact awregs_mono (awregs_keeps (by have := k1.1; omega) h) fun _ _ ⟨k2, h⟩ => ⟨k1.trans (k2.mono (Nat.le_succ _)), h⟩
theorem mcall_wp {o : Oper} {next : Act → World → Prop} {Q : Exit → Act → World → Prop} {f : FuncId} {args' : Array Value} {K : AV → St → Prop} (h : (execOp a.eval o).run P w = .ok (.enter f args') w)
  (hc : Calls P f args' w (fun e w' => ∃ v s', K v s' ∧ Keeps s.next s s' ∧ Back ι w0 X v s' e w'))
  (hn : ∀ v s' v' w' κ, K v s' → ι.le κ → rel κ w0 v v' → SR κ w0 (s'.view X) s'.next w' → next (a.put o.dst v') w') : o.wp P a w next Q := by
 unfold Oper.wp
 rw [h]
 show Calls P f args' w _
 refine Calls.mono hc ?_
 rintro e w' ⟨v, s', hK, _, v', κ, rfl, k1, k2, k3⟩
 exact hn v s' v' w' κ hK k1 k2 k3
theorem compNext {op : Op} {x : AO} (hc : compOp P op = some (.e (.next false x))) : ∃ it, op = .next it false ∧ compO it = some x := by
 cases op
 case next it b =>
  simp only [compOp] at hc
  obtain ⟨y, h1, h2⟩ := map_some hc
  simp at h2
  exact ⟨it, by rw [h2.1], by rw [h1, h2.2]⟩
 all_goals exfalso
 case call c =>
  simp only [compOp, compCall] at hc
  split at hc
  ·unfold compBuiltin at hc
   repeat' split at hc
   all_goals simp at hc
  ·simp at hc
  ·obtain ⟨_, _, hpo⟩ := map_some hc
   simp at hpo
  ·split at hc <;> simp at hc
 case makeMap t r => cases r <;> simp [compOp] at hc
 case makeFunc f b c =>
  cases f <;> simp only [compOp] at hc <;> try (simp at hc; done)
  repeat' split at hc
  all_goals simp at hc
 case convert sT dT x =>
  simp only [compOp, compConv] at hc
  repeat' split at hc
  all_goals simp at hc
 case binOp op t x2 y2 yt =>
  have : (∃ p, compOp P (.binOp op t x2 y2 yt) = some (.p p)) ∨ compOp P (.binOp op t x2 y2 yt) = none := by
   by_cases h1 : op = .eql
   ·subst h1
    cases hq : compEq P false t x2 y2 with
    | none => exact .inr hq
    | some ao => obtain ⟨p, rfl⟩ := compEq_np hq; exact .inl ⟨p, hq⟩
   ·by_cases h2 : op = .neq
    ·subst h2
     cases hq : compEq P true t x2 y2 with
     | none => exact .inr hq
     | some ao => obtain ⟨p, rfl⟩ := compEq_np hq; exact .inl ⟨p, hq⟩
    ·cases op <;> first
      | exact absurd rfl h1
      | exact absurd rfl h2
      | (
        simp only [compOp]
        split
        ·exact .inl ⟨_, rfl⟩
        ·exact .inr rfl)
  rcases this with ⟨p, e⟩ | e <;> rw [e] at hc <;> simp at hc
 all_goals first
  | (simp [compOp] at hc; done)
  | (
    simp only [compOp] at hc; repeat' split at hc
    all_goals first | (simp at hc; done) | (obtain ⟨_, _, hpo⟩ := map_some hc; simp at hpo; done))
  | (
    simp only [compOp, compSlice] at hc; repeat' split at hc
    all_goals first | (simp at hc; done) | (obtain ⟨_, _, hpo⟩ := map_some hc; simp at hpo; done))
theorem awop_sim {o : Oper} {ao : AOp} {id : Nat} {K : AV → St → Prop} {next : Act → World → Prop} {Q : Exit → Act → World → Prop} (hc : compOp P o.op = some ao) (hf : FR ι w0 fr a) (hs : SR ι w0 (s.view X) s.next w)
  (hid : id < s.next) (hfree : s.view X id = none) (h : awop P nd id fr s ao K)
  (hn : ∀ v s' v' w' κ, K v s' → ι.le κ → rel κ w0 v v' → SR κ w0 (s'.view X) s'.next w' → next (a.put o.dst v') w') : o.wp P a w next Q := by
 rcases h with ⟨c, v, s', hsc, e, h⟩ | h
 ·exact aop_wp hsc hc hf hs hid hfree e fun v' w' κ k1 k2 k3 => hn v s' v' w' κ h k1 k2 k3
 ·unfold awcall at h
  split at h
  ·rename_i f as
   obtain ⟨vs, hvs, h⟩ := h
   have h := h.call
   obtain ⟨c, ho⟩ := compOp_call hc rfl
   rw [ho] at hc
   simp only [compOp, compCall] at hc
   split at hc
   ·unfold compBuiltin at hc
    repeat' split at hc
    all_goals simp at hc
   ·simp at hc
   ·rename_i f hcf
    obtain ⟨as, h1, hpo⟩ := map_some hc
    simp at hpo
    obtain ⟨rfl, rfl⟩ := hpo
    refine mcall_wp (f := f) (args' := c.args.map a.eval) (s := s) (X := X) ?_ (h.2 ι w0 X w _ hs ?_) hn
    ·unfold execOp
     rw [ho]
     unfold resolve
     simp only [hcf, Sem.run_bind, Act.eval, Deferred.ofValue, Sem.run_pure, Result.andThen_ok, invoke, Array.empty_append, Array.append_empty, enters_run h.1]
    ·have := evs_sim h1 hf hvs
     simpa using this
   ·split at hc <;> simp at hc
  ·rename_i f as
   obtain ⟨g, first, captured, vs, hf1, hvs, h⟩ := h
   have h := h.call
   obtain ⟨c, ho⟩ := compOp_call hc rfl
   rw [ho] at hc
   simp only [compOp, compCall] at hc
   split at hc
   ·unfold compBuiltin at hc
    repeat' split at hc
    all_goals simp at hc
   ·simp at hc
   ·obtain ⟨as, h1, hpo⟩ := map_some hc
    simp at hpo
   ·rename_i f2 hne hcf
    split at hc
    ·rename_i g2 as2 h1 h2
     simp at hc
     obtain ⟨rfl, rfl⟩ := hc
     have r := ev_sim h1 hf hf1
     simp only [rel] at r
     obtain ⟨a', b', e1, e2, e3⟩ := r
     refine mcall_wp (f := g) (args' := a' ++ c.args.map a.eval ++ b') (s := s) (X := X) ?_ (h.2 ι w0 X w _ hs ?_) hn
     ·unfold execOp
      rw [ho]
      unfold resolve
      simp only [hcf, Sem.run_bind, e1, Deferred.ofValue, Sem.run_pure, Result.andThen_ok, invoke, enters_run h.1]
     ·have := evs_sim h2 hf hvs
      simp only [Array.toList_append, Array.toList_map]
      exact relL_append (relL_append e2 this) e3
    ·simp at hc
  ·rename_i x
   obtain ⟨_, id1, hx, h⟩ := h
   obtain ⟨it, ho, hit⟩ := compNext hc
   have r := ev_sim hit hf hx
   obtain ⟨v', w', e1, v, s', hK, r2, hs2⟩ := nextAll_sim (P := P) (t := o.type) hs r h
   refine oper_value (v' := v') (w' := w') ?_ (hn v s' v' w' ι hK (IM.le_refl _) r2 hs2)
   rw [show execOp a.eval o = execOp a.eval { o with op := .next it false } by rw [← ho]]
   simp only [execOp, Sem.run_bind, e1, Result.andThen_ok, Sem.run_pure]
  ·exact h.elim
end
end Go.Abs
namespace Go.Abs
open Go Go.RowKit
section
variable {P : Program} {nd : Bool}
theorem awregs_sim {ops : Array Oper} {n : Nat} {Q : Exit → Act → World → Prop} : ∀ (l : List AOper) (i id : Nat) (pres : List Nat) (fr : Fr) (s : St) (ι : IM) (w0 : World) (X : Nat → Option AObj) (a : Act) (w : World) (K : Fr → St → Prop),
  compOpers P ops (ops.toList.drop i) pres = some l → dstsOk n l = true → awregs P nd id l fr s K → id + l.length ≤ s.next → (∀ j, id ≤ j → j < id + l.length → s.view X j = none) →
  n ≤ a.tmps.size → FR ι w0 fr a → SR ι w0 (s.view X) s.next w → (∀ fr' s' a' w', K fr' s' → After ι w0 X a fr' s' a' w' → Q .normal a' w') → wpOps P ops Q (List.range' i l.length) a w
 | [], i, id, pres, fr, s, ι, w0, X, a, w, K, hc, hd, h, hid, hfree, hn, hf, hs, hq => hq fr s a w h ⟨ι, IM.le_refl _, hf, hs, rfl, rfl⟩
 | o :: l, i, id, pres, fr, s, ι, w0, X, a, w, K, hc, hd, h, hid, hfree, hn, hf, hs, hq => by
  cases hdr : ops.toList.drop i with
  | nil => rw [hdr] at hc; simp [compOpers] at hc
  | cons op rest =>
   rw [hdr] at hc
   simp only [compOpers] at hc
   cases h1 : compOp P op.op with
   | none => simp [h1] at hc
   | some ao =>
    cases h2 : compGuard ops op.guard with
    | none => simp [h1, h2] at hc
    | some g =>
     simp only [h1, h2] at hc
     cases h3 : compOpers P ops rest (pres ++ [preOf pres op]) with
     | none => simp [h3] at hc
     | some l' =>
      simp [h3] at hc
      obtain ⟨rfl, rfl⟩ := hc
      have hop : ops[i]? = some op := by
       have : ops.toList[i]? = some op := by
        have := List.getElem?_drop (xs := ops.toList) (i := i) (j := 0)
        rw [hdr] at this
        simpa using this.symm
       simpa using this
      have hrest : ops.toList.drop (i + 1) = rest := by
       rw [← List.drop_drop, hdr]; rfl
      simp only [dstsOk, List.all_cons, Bool.and_eq_true] at hd
      have hdo : ∀ t, op.dst = some t → t < a.tmps.size := by
       intro t ht
       have := hd.1
       rw [ht] at this
       exact Nat.lt_of_lt_of_le (blt_lt this) hn
      simp only [List.length_cons] at hid hfree
      simp only [List.length_cons, List.range'_succ, wpOps, hop]
      simp only [awregs] at h
      cases hw : wants fr g with
      | none => simp [hw] at h
      | some b =>
       rw [wants_sim h2 hf hw]
       cases b with
       | false =>
        simp only [hw] at h
        simp only [Bool.false_eq_true, if_false]
        refine awregs_sim l' (i + 1) (id + 1) (pres ++ [preOf pres op]) _ s ι w0 X _ w K (by rw [hrest]; exact h3) hd.2 h (by omega) (fun j h1 h2 => hfree j (by omega) (by omega)) (by rw [put_size]; exact hn) (FR_put hf rel_undef hdo) hs ?_
        intro fr' s' a' w' hK hA
        exact hq fr' s' a' w' hK (hA.mono (IM.le_refl _) (put_size _ _ _) (put_defers _ _ _))
       | true =>
        simp only [hw] at h
        simp only [if_true]
        left
        refine awop_sim h1 hf hs (by omega) (hfree id (Nat.le_refl _) (by omega)) (awop_fresh h) ?_
        rintro v s1 v' w' κ ⟨hk, hK⟩ k1 k2 k3
        refine awregs_sim l' (i + 1) (id + 1) (pres ++ [preOf pres op]) _ s1 κ w0 X _ w' K (by rw [hrest]; exact h3) hd.2 hK (by have := hk.1; omega) ?_ (by rw [put_size]; exact hn) (FR_put (FR_mono k1 hf) k2 hdo) k3 ?_
        ·intro j hj1 hj2
         have hv := hfree j (by omega) (by omega)
         have hjs : s.objs.get j = none ∧ X j = none := by
          simp only [St.view] at hv
          cases hq : s.objs.get j with
          | none => rw [hq] at hv; exact ⟨rfl, hv⟩
          | some z => rw [hq] at hv; simp at hv
         have hs1 : s1.objs.get j = none := (hk.2 j).1 (by omega) (by omega) hjs.1
         simp only [St.view, hs1]
         exact hjs.2
        ·intro fr' s' a' w'' hK hA
         exact hq fr' s' a' w'' hK (hA.mono k1 (put_size _ _ _) (put_defers _ _ _))
theorem awdraws_trace : ∀ {L : List AOper} {id i : Nat} {d0 : DS} {K : DS → Prop}, awdraws P id i L d0 K →
  ∃ (call : Nat → CallF) (d : Nat → DS) (val : Nat → AV) (al : Nat → Option AObj) (ef : Nat → Bool), (∀ j, Sound P (call j)) ∧ d 0 = d0 ∧ K (d L.length) ∧ ∀ j o, L[j]? = some o → Stp (call j) (id + j) (i + j) o (d j) (d (j + 1)) (val j) (al j) (ef j)
 | [], id, i, d0, K, h => ⟨fun _ => noCall, fun _ => d0, fun _ => .tup [], fun _ => none, fun _ => false, fun _ => noCall_sound, rfl, h, by simp⟩
 | o :: L, id, i, d0, K, h => by
  have hstep : ∃ c d1 v al ef, Sound P c ∧ Stp c id i o d0 d1 v al ef ∧ awdraws P (id + 1) (i + 1) L d1 K := by
   simp only [awdraws] at h
   cases hw : wants d0.fr o.guard with
   | none => simp [hw] at h
   | some b =>
    cases b with
    | false => simp only [hw] at h; exact ⟨noCall, _, _, _, _, noCall_sound, .off hw rfl, h⟩
    | true =>
     simp only [hw] at h
     obtain ⟨c, d1, hc, ha, h⟩ := h
     obtain ⟨v, al, ef, hs⟩ := adop_stp hw ha
     exact ⟨c, d1, v, al, ef, hc, hs, h⟩
  obtain ⟨c, d1, v, a0, e0, hc, hs, h⟩ := hstep
  obtain ⟨call, d, val, al, ef, h0, h1, h2, h3⟩ := awdraws_trace h
  refine ⟨fun j => match j with | 0 => c | j + 1 => call j, fun j => match j with | 0 => d0 | j + 1 => d j, fun j => match j with | 0 => v | j + 1 => val j, fun j => match j with | 0 => a0 | j + 1 => al j, fun j => match j with | 0 => e0 | j + 1 => ef j, ?_, rfl, h2, ?_⟩
  ·intro j
   cases j with
   | zero => exact hc
   | succ j => exact h0 j
  ·intro j o' ho
   cases j with
   | zero => simp at ho; subst ho; simp only [Nat.zero_add, Nat.add_zero]; rw [h1]; exact hs
   | succ j =>
    have := h3 j o' (by simpa using ho)
    have e1 : id + (j + 1) = id + 1 + j := by omega
    have e2 : i + (j + 1) = i + 1 + j := by omega
    rw [e1, e2]
    exact this
theorem awdraws_keeps {l : List AOper} {fr : Fr} {s : St} {K : DS → Prop} (h : awdraws P s.next 0 l ⟨fr, { s with next := s.next + l.length }, [], [], []⟩ K) :
  awdraws P s.next 0 l ⟨fr, { s with next := s.next + l.length }, [], [], []⟩ fun d => Keeps s.next s (flush d.s d.pend) ∧ K d := by
 obtain ⟨dm, hK, h1⟩ := awdraws_det h
 obtain ⟨call, d, val, al, ef, hc, e0, em, hst⟩ := awdraws_trace h1
 have hT : Trace call s.next l d val al ef := by
  refine ⟨fun i o ho => by have := hst i o ho; rw [Nat.zero_add] at this; exact this, by rw [e0]; exact ⟨rfl, rfl, rfl⟩, fun i => (hc i).keeps, by rw [e0]; exact Nat.le_refl _⟩
 have hk := trace_K hT l.length (Nat.le_refl _)
 rw [e0, em] at hk
 refine awdraws_mono h1 fun d1 e => ?_
 subst e
 refine ⟨⟨by have := hk.2.1; simp at this; omega, fun j => by simpa using hk.2.2 j⟩, hK⟩
theorem awp_keeps : ∀ {c : ACode} {fr : Fr} {s : St} {Q : AX → Fr → St → Prop}, awp P nd c fr s Q → awp P nd c fr s fun x fr' s' => Keeps s.next s s' ∧ Q x fr' s'
 | .skip, _, _, _, h => ⟨Keeps.refl _ _, h⟩
 | .ret, _, _, _, h => ⟨Keeps.refl _ _, h⟩
 | .ext _, _, _, _, h => ⟨Keeps.refl _ _, h⟩
 | .goto _, _, _, _, h => ⟨Keeps.refl _ _, h⟩
 | .reg ops, fr, s, Q, h => by
  refine awregs_mono (awregs_keeps (by simp) h) fun fr' s' ⟨k, h⟩ => ⟨⟨by have := k.1; simp at this; omega, fun j => by simpa using k.2 j⟩, h⟩
 | .draw ops, fr, s, Q, h => awdraws_keeps h
 | .seq a b, _, _, _, h => awp_mono (c := a) (awp_keeps (c := a) h) fun x fr s ⟨k1, h⟩ => by
  cases x with
  | nrm => exact awp_mono (c := b) (awp_keeps (c := b) h) fun x fr s ⟨k2, h⟩ => ⟨k1.trans (k2.mono k1.1), h⟩
  | _ => exact ⟨k1, h⟩
 | .cond c a b, fr, _, _, h => by
  simp only [awp] at h ⊢
  split at h
  ·exact awp_keeps (c := a) h
  ·exact awp_keeps (c := b) h
  ·exact h
 | .blk i b, _, _, _, h => awp_mono (c := b) (awp_keeps (c := b) h) fun x fr s ⟨k1, h⟩ => outW_mono h fun _ h => ⟨k1, h⟩
 | .loop b, fr, s, Q, ⟨n, h⟩ => by
  refine ⟨n, ?_⟩
  have key : ∀ (n : Nat) (fr : Fr) (s : St), awl (awp P nd b) n fr s Q → awl (awp P nd b) n fr s fun x fr' s' => Keeps s.next s s' ∧ Q x fr' s' := by
   intro n
   induction n with
   | zero => intro fr s h; exact h
   | succ n ih =>
    intro fr s h
    refine awp_mono (c := b) (awp_keeps (c := b) h) fun x fr s1 ⟨k1, h⟩ => ?_
    cases x with
    | nrm => exact awl_mono (b := awp P nd b) (fun fr s Q R h k => awp_mono (c := b) h k) (ih _ _ h) fun x fr s ⟨k2, h⟩ => ⟨k1.trans (k2.mono k1.1), h⟩
    | _ => exact ⟨k1, h⟩
  exact key n fr s h
 | .scp b, _, _, _, h => awp_mono (c := b) (awp_keeps (c := b) h) fun x fr s ⟨k1, h⟩ => noGoto_mono h fun _ h => ⟨k1, h⟩
 | .scpj l b r, _, _, _, h => awp_mono (c := b) (awp_keeps (c := b) h) fun x fr s ⟨k1, h⟩ => by
  cases x with
  | goto j =>
   obtain ⟨e, h⟩ := h
   exact ⟨e, awp_mono (c := r) (awp_keeps (c := r) h) fun x fr s ⟨k2, h⟩ => noGoto_mono h fun _ h => ⟨k1.trans (k2.mono k1.1), h⟩⟩
  | _ => exact ⟨k1, h⟩
def CW (P : Program) (nd : Bool) (n : Nat) (c : Code) (ac : ACode) : Prop := ∀ (fr : Fr) (s : St) (Q : AX → Fr → St → Prop), awp P nd ac fr s Q →
 ∀ (ι : IM) (w0 : World) (X : Nat → Option AObj) (a : Act) (w : World), n ≤ a.tmps.size → FR ι w0 fr a → SR ι w0 (s.view X) s.next w →
  c.wp P (fun e a' w' => ∃ x fr' s', Q x fr' s' ∧ e = x.exit ∧ After ι w0 X a fr' s' a' w') a w
theorem reg_cw {n : Nat} {ops : Array Oper} {l : List AOper} {id : Nat} (hc : compReg P n ops false = some (.reg l)) : CW P nd n (.region id ops false) (.reg l) := by
 unfold compReg at hc
 cases h1 : compOpers P ops ops.toList [] with
 | none => simp [h1] at hc
 | some l' =>
  simp only [h1] at hc
  split at hc
  ·rename_i hd
   simp at hc
   subst hc
   intro fr s Q h ι w0 X a w hn hf hs
   have hl := (compOpers_get h1).1
   apply wp_region
   have hr : List.range ops.size = List.range' 0 l'.length := by rw [List.range_eq_range', hl]; simp
   rw [hr]
   refine awregs_sim l' 0 s.next [] fr { s with next := s.next + l'.length } ι w0 X a w _ (by simpa using h1) hd h (by simp) ?_ hn hf (SR.up hs (by simp)) ?_
   ·intro j hj1 hj2
    exact hs.fresh j hj1
   ·intro fr' s' a' w' hQ hA
    exact ⟨.nrm, fr', s', hQ, rfl, hA⟩
  ·simp at hc
theorem draw_cw (hM : P.follows .mixedOrders = true) {n : Nat} {ops : Array Oper} {l : List AOper} {id : Nat} (hc : compReg P n ops true = some (.draw l)) : CW P nd n (.region id ops true) (.draw l) := by
 obtain ⟨h1, hd, hok, hedge⟩ := draw_comp hc
 intro fr s Q h ι w0 X a w hn hf hs
 obtain ⟨call, d, val, al, ef, hcs, e0, em, hst⟩ := awdraws_trace h
 obtain ⟨_, k⟩ := draw_core (id := id) hM hcs h1 hd hok hedge e0 rfl hst
 refine wp_mono (k ι w0 X a w hn hf hs) ?_
 rintro e a' w' ⟨rfl, hA⟩
 exact ⟨.nrm, _, _, em, rfl, hA⟩
theorem code_cw (hM : P.follows .mixedOrders = true) {n : Nat} {sub : Code → Option ACode} (hsub : ∀ c ac, sub c = some ac → CW P nd n c ac) : ∀ (c : Code) (ac : ACode), compC P n sub c = some ac → CW P nd n c ac := by
 intro c
 induction c with
 | skip =>
  intro ac h
  simp [compC] at h
  subst h
  intro fr s Q h ι w0 X a w hn hf hs
  exact wp_skip ⟨_, fr, s, h, rfl, ι, IM.le_refl _, hf, hs, rfl, rfl⟩
 | label l =>
  intro ac h
  simp [compC] at h
  subst h
  intro fr s Q h ι w0 X a w hn hf hs
  exact wp_label ⟨_, fr, s, h, rfl, ι, IM.le_refl _, hf, hs, rfl, rfl⟩
 | exit l =>
  intro ac h
  simp [compC] at h
  subst h
  intro fr s Q h ι w0 X a w hn hf hs
  exact wp_exit ⟨_, fr, s, h, rfl, ι, IM.le_refl _, hf, hs, rfl, rfl⟩
 | goto l =>
  intro ac h
  simp [compC] at h
  subst h
  intro fr s Q h ι w0 X a w hn hf hs
  exact wp_goto ⟨_, fr, s, h, rfl, ι, IM.le_refl _, hf, hs, rfl, rfl⟩
 | ret =>
  intro ac h
  simp [compC] at h
  subst h
  intro fr s Q h ι w0 X a w hn hf hs
  exact wp_ret ⟨_, fr, s, h, rfl, ι, IM.le_refl _, hf, hs, rfl, rfl⟩
 | region id ops draw =>
  intro ac h
  simp only [compC] at h
  cases draw with
  | false =>
   have : ∃ l, ac = .reg l := by
    unfold compReg at h
    split at h
    ·simp at h
    ·split at h
     ·simp at h; exact ⟨_, h.symm⟩
     ·simp at h
   obtain ⟨l, rfl⟩ := this
   exact reg_cw h
  | true =>
   have : ∃ l, ac = .draw l := by
    unfold compReg at h
    split at h
    ·simp at h
    ·split at h
     ·simp at h; exact ⟨_, h.2.symm⟩
     ·simp at h
   obtain ⟨l, rfl⟩ := this
   exact draw_cw hM h
 | seq c1 c2 ih1 ih2 =>
  intro ac h
  simp only [compC] at h
  cases h1 : compC P n sub c1 with
  | none => simp [h1] at h
  | some x1 =>
   cases h2 : compC P n sub c2 with
   | none => simp [h1, h2] at h
   | some x2 =>
    simp [h1, h2] at h
    subst h
    intro fr s Q h ι w0 X a w hn hf hs
    refine wp_seq (wp_mono (ih1 x1 h1 fr s _ h ι w0 X a w hn hf hs) ?_)
    rintro e a' w' ⟨x, fr1, s1, hQ, rfl, hA⟩
    cases x with
    | nrm =>
     obtain ⟨κ, l1, l2, l3, l4, l5⟩ := hA
     refine wp_mono (ih2 x2 h2 fr1 s1 _ hQ κ w0 X a' w' (by omega) l2 l3) ?_
     rintro e a2 w2 ⟨x, fr2, s2, hQ2, e2, hA2⟩
     exact ⟨x, fr2, s2, hQ2, e2, hA2.mono l1 l4 l5⟩
    | ext i => exact ⟨_, fr1, s1, hQ, rfl, hA⟩
    | goto i => exact ⟨_, fr1, s1, hQ, rfl, hA⟩
    | ret => exact ⟨_, fr1, s1, hQ, rfl, hA⟩
 | cond c c1 c2 ih1 ih2 =>
  intro ac h
  simp only [compC] at h
  cases h0 : compO c with
  | none => simp [h0] at h
  | some y =>
   cases h1 : compC P n sub c1 with
   | none => simp [h0, h1] at h
   | some x1 =>
    cases h2 : compC P n sub c2 with
    | none => simp [h0, h1, h2] at h
    | some x2 =>
     simp [h0, h1, h2] at h
     subst h
     intro fr s Q h ι w0 X a w hn hf hs
     simp only [awp] at h
     split at h
     ·rename_i hy
      refine wp_cond_true ?_ (ih1 x1 h1 fr s _ h ι w0 X a w hn hf hs)
      have := ev_sim h0 hf hy
      simpa only [rel] using this
     ·rename_i hy
      refine wp_cond_false ?_ (ih2 x2 h2 fr s _ h ι w0 X a w hn hf hs)
      have := ev_sim h0 hf hy
      simpa only [rel] using this
     ·exact h.elim
 | block id c ih =>
  intro ac h
  simp only [compC] at h
  obtain ⟨x1, h1, rfl⟩ := map_some h
  intro fr s Q h ι w0 X a w hn hf hs
  refine wp_block (wp_mono (ih x1 h1 fr s _ h ι w0 X a w hn hf hs) ?_)
  rintro e a' w' ⟨x, fr1, s1, hQ, rfl, hA⟩
  cases x with
  | ext j =>
   simp only [outW] at hQ
   cases hj : Nat.beq j id with
   | true =>
    rw [hj] at hQ
    have := Nat.eq_of_beq_eq_true hj
    subst this
    simp only [AX.exit, Exit.inBlock, if_true]
    exact ⟨.nrm, fr1, s1, hQ, rfl, hA⟩
   | false =>
    rw [hj] at hQ
    have : ¬ j = id := fun e => by subst e; simp at hj
    simp only [AX.exit, Exit.inBlock, this, if_false]
    exact ⟨.ext j, fr1, s1, hQ, rfl, hA⟩
  | nrm => exact ⟨_, fr1, s1, hQ, rfl, hA⟩
  | goto i => exact ⟨_, fr1, s1, hQ, rfl, hA⟩
  | ret => exact ⟨_, fr1, s1, hQ, rfl, hA⟩
 | loop c ih =>
  intro ac h
  simp only [compC] at h
  obtain ⟨x1, h1, rfl⟩ := map_some h
  intro fr s Q h ι w0 X a w hn hf hs
  obtain ⟨k, h⟩ := h
  have ih := ih x1 h1
  refine wp_loop_n (fun m a' w' => ∃ κ fr s, ι.le κ ∧ FR κ w0 fr a' ∧ SR κ w0 (s.view X) s.next w' ∧ a'.tmps.size = a.tmps.size ∧ a'.defers = a.defers ∧ awl (awp P nd x1) m fr s Q) ?_
   (n := k) ⟨ι, fr, s, IM.le_refl _, hf, hs, rfl, rfl, h⟩
  rintro m a1 w1 ⟨κ, fr, s, l1, l2, l3, l4, l5, hh⟩
  cases m with
  | zero => exact hh.elim
  | succ m =>
   refine wp_mono (ih fr s _ hh κ w0 X a1 w1 (by omega) l2 l3) ?_
   rintro e a2 w2 ⟨x, fr1, s1, hQ, rfl, hA⟩
   have hA2 := hA.mono l1 l4 l5
   cases x with
   | nrm =>
    obtain ⟨μ, q1, q2, q3, q4, q5⟩ := hA2
    exact ⟨m, Nat.lt_succ_self _, μ, fr1, s1, q1, q2, q3, q4, q5, hQ⟩
   | ext i => exact ⟨_, fr1, s1, hQ, rfl, hA2⟩
   | goto i => exact ⟨_, fr1, s1, hQ, rfl, hA2⟩
   | ret => exact ⟨_, fr1, s1, hQ, rfl, hA2⟩
 | scope c ih =>
  intro ac h
  simp only [compC] at h
  cases h1 : compC P n sub c with
  | none => simp [h1] at h
  | some x1 =>
   simp only [h1] at h
   cases hgo : hasGoto c with
   | none =>
    simp [hgo] at h
    subst h
    intro fr s Q h ι w0 X a w hn hf hs
    refine wp_scope_straight (wp_mono (ih x1 h1 fr s _ h ι w0 X a w hn hf hs) ?_)
    rintro e a' w' ⟨x, fr1, s1, hQ, rfl, hA⟩
    cases x with
    | goto i => exact hQ.elim
    | nrm => exact ⟨_, fr1, s1, hQ, rfl, hA⟩
    | ext i => exact ⟨_, fr1, s1, hQ, rfl, hA⟩
    | ret => exact ⟨_, fr1, s1, hQ, rfl, hA⟩
   | some l =>
    simp only [hgo] at h
    cases hfl : findLabel c l with
    | none => simp [hfl] at h
    | some rest =>
     simp only [hfl] at h
     obtain ⟨x2, h2, rfl⟩ := map_some h
     intro fr s Q h ι w0 X a w hn hf hs
     refine wp_scope_jumps l (fun a' w' => ∃ fr1 s1, awp P nd x2 fr1 s1 (fun x fr' s' => noGoto x fun x => Q x fr' s') ∧ After ι w0 X a fr1 s1 a' w') (fun _ _ => 0) hfl (wp_mono (ih x1 h1 fr s _ h ι w0 X a w hn hf hs) ?_) ?_
     ·rintro e a' w' ⟨x, fr1, s1, hQ, rfl, hA⟩
      cases x with
      | goto i => obtain ⟨rfl, hQ⟩ := hQ; exact ⟨rfl, fr1, s1, hQ, hA⟩
      | nrm => exact ⟨_, fr1, s1, hQ, rfl, hA⟩
      | ext i => exact ⟨_, fr1, s1, hQ, rfl, hA⟩
      | ret => exact ⟨_, fr1, s1, hQ, rfl, hA⟩
     ·rintro a' w' ⟨fr1, s1, hQ, κ, l1, l2, l3, l4, l5⟩
      refine wp_mono (hsub rest x2 h2 fr1 s1 _ hQ κ w0 X a' w' (by omega) l2 l3) ?_
      rintro e a2 w2 ⟨x, fr2, s2, hQ2, rfl, hA⟩
      have hA2 := hA.mono l1 l4 l5
      cases x with
      | goto q => exact hQ2.elim
      | nrm => exact ⟨_, fr2, s2, hQ2, rfl, hA2⟩
      | ext q => exact ⟨_, fr2, s2, hQ2, rfl, hA2⟩
      | ret => exact ⟨_, fr2, s2, hQ2, rfl, hA2⟩
 | rangeFunc f ps a b => intro ac h; simp [compC] at h
 | refuse why => intro ac h; simp [compC] at h
def Done (rs : List RV) (Q : AV → St → Prop) : AX → Fr → St → Prop := fun x fr s => (x = .nrm ∨ x = .ret) ∧ ∃ vs, aress fr s rs = some vs ∧ Q (oneOf vs) s
theorem mcall_of (hM : P.follows .mixedOrders = true) {f : FuncId} {fn : Func} {af : AFunc} {args : List AV} {s : St} {Q : AV → St → Prop} (hf : P.funcs[f]? = some fn) (hc : compFn P fn = some af) (hle : args.length ≤ af.ntmps) (h : awp P nd af.body (frOf 0 args) s (Done af.results Q)) : MCall P f args s Q := by
 unfold compFn at hc
 split at hc
 ·simp at hc
 ·rename_i hname
  split at hc
  ·simp at hc
  ·rename_i c hb
   cases h1 : compC P fn.ntmps (compC P fn.ntmps fun _ => none) c with
   | none => simp [h1] at hc
   | some b =>
    cases h2 : compRVs P fn.results.toList with
    | none => simp [h1, h2] at hc
    | some rv =>
     simp [h1, h2] at hc
     subst hc
     simp only at hle h
     have hsim : CW P nd fn.ntmps c b := code_cw hM (fun c ac hh => code_cw hM (sub := fun _ => none) (fun _ _ hh => by simp at hh) c ac hh) c b h1
     refine ⟨⟨fn, hf, by simpa using hname, by simp [hb]⟩, ?_⟩
     intro ι w0 X w args' hs hr
     have hal : args.length = args'.size := by simpa using relL_length hr
     refine calls_of_wp hf hb (wp_mono (hsim _ _ _ (awp_keeps h) ι w0 X _ w ?_ ?_ hs) ?_)
     ·simp; omega
     ·intro t v hv
      rw [frOf_get] at hv
      simp at hv
      obtain ⟨y, hy, ry⟩ := relL_get hr hv
      have : (args' ++ Array.replicate (fn.ntmps - args'.size) undef).getD t undef = y := by
       have hlt : t < args'.size := by simpa using (List.getElem?_eq_some_iff.1 hy).1
       rw [Array.getD_eq_getD_getElem?, Array.getElem?_append_left hlt]
       rw [Array.getElem?_toList] at hy
       rw [hy]; rfl
      simp only
      rw [this]
      exact ry
     ·rintro e a' w' ⟨x, fr1, s1, ⟨hk, hx, vs, hvs, hQ⟩, rfl, κ, l1, l2, l3, l4, l5⟩
      obtain ⟨v', r1, r2⟩ := results_sim l3 l2 h2 hvs
      rcases hx with rfl | rfl
      ·exact ⟨l5, v', r1, _, s1, hQ, hk, v', κ, rfl, l1, r2, l3⟩
      ·exact ⟨l5, v', r1, _, s1, hQ, hk, v', κ, rfl, l1, r2, l3⟩
theorem MX.enter (hM : P.follows .mixedOrders = true) {f : FuncId} {af : AFunc} {args : List AV} {s : St} {Q : AV → St → Prop} (hc : comp P f = some af) (hle : args.length ≤ af.ntmps) (h : awp P nd af.body (frOf 0 args) s (Done af.results Q)) : MX P nd f args s Q := by
 unfold comp at hc
 split at hc
 ·rename_i fn hf
  cases nd with
  | true => exact mcall_of hM hf hc hle h
  | false =>
   obtain ⟨x, fr', s', ⟨hk, hx, vs, hvs, hQ⟩, h1⟩ := awp_det (awp_keeps h)
   refine ⟨oneOf vs, s', MDet.of hk (mcall_of (nd := false) hM hf hc hle (awp_mono h1 ?_)), hQ⟩
   rintro x1 f1 s1 ⟨rfl, rfl, rfl⟩
   exact ⟨hx, vs, hvs, rfl, rfl⟩
 ·simp at hc
end
end Go.Abs
