/- From the evaluator to a law's row. -/
import Derived.Test.YtiiajdfjnamfcaaGreatAbsDraw
import Derived.Carry
import Derived.ChangeOld
import Derived.ProofKit
import Derived.SizedLaws
set_option autoImplicit false
set_option linter.unusedSimpArgs false
set_option linter.unusedVariables false
namespace Go.Abs
open Go Go.RowKit Go.ChangeShapes
section
variable {P : Program}
def ι0 : IM := fun _ _ => none
theorem view_start : (⟨.e, 0⟩ : St).view (fun _ => none) = fun _ => none := rfl
theorem SR_start (W : World) : SR ι0 W ((⟨.e, 0⟩ : St).view (fun _ => none)) 0 W where
 low := Below.refl _ _
 obj := fun id o h => by rw [view_start] at h; simp at h
 non := fun _ _ _ => rfl
 sep := fun i j gi gj p q h => by simp [ι0] at h
 fresh := fun _ _ => rfl
 blk := fun id g p h => by simp [ι0] at h
theorem Sound.at {g : CallF} (hg : Sound P g) (f : FuncId) : SoundF P f (g f) := fun args s v s' h => hg f args s v s' h
theorem start_calls {f : FuncId} {g : List AV → St → Option (AV × St)} (hg : SoundF P f g) {args : List AV} {v : AV} {s' : St} (h : g args ⟨.e, 0⟩ = some (v, s')) {W : World} {args' : Array Value} (hr : relL ι0 W args args'.toList) :
  Calls P f args' W fun e W' => ∃ v' κ, e = .returned v' ∧ rel κ W v v' ∧ Below W.heap.size W W' := by
 obtain ⟨_, _, k⟩ := hg args _ v s' h
 refine (k ι0 W (fun _ => none) W args' (SR_start W) hr).mono ?_
 rintro e w' ⟨v', κ, rfl, _, k2, k3⟩
 exact ⟨v', κ, rfl, k2, k3.low⟩
def ans : Option (AV × St) → Option AV
 | some (v, _) => some v
 | none => none
theorem ans_some {o : Option (AV × St)} {v : AV} (h : ans o = some v) : ∃ s, o = some (v, s) := by
 cases o with
 | none => simp [ans] at h
 | some p => obtain ⟨a, s⟩ := p; simp [ans] at h; exact ⟨s, by rw [h]⟩
def flatV : AV → Bool
 | .bool _ | .int _ _ | .str _ | .nilptr | .nilslc | .nilmap | .nilfn | .nilifc => true
 | _ => false
theorem flat_rel {ι κ : IM} {w0 w1 : World} {x : AV} {y : Value} (hx : flatV x = true) (h : rel ι w0 x y) : rel κ w1 x y := by
 cases x <;> simp [flatV] at hx <;> (simp only [rel] at h ⊢; exact h)
theorem SR_below {ι : IM} {w0 w w' : World} {H : Nat → Option AObj} {nx : Nat} (hs : SR ι w0 H nx w) (hb : Below w.heap.size w w') : SR ι w0 H nx w' where
 low := hs.low.trans (hb.mono hs.low.size)
 obj := fun id o h => OR_keep (hs.obj id o h) (IM.le_refl _) (fun _ => rfl) (fun g p hp => hb.block _ (hs.blk _ _ _ hp).2)
 non := hs.non
 sep := hs.sep
 fresh := hs.fresh
 blk := fun id g p h => ⟨(hs.blk id g p h).1, Nat.lt_of_lt_of_le (hs.blk id g p h).2 hb.size⟩
def closed (v : AV) : List AV → St → Option (AV × St) := fun args s => match args with
 | [] => some (v, s)
 | _ => none
theorem closed_sound {g : CallF} (hg : Sound P g) {f : FuncId} {v : AV} (h : ans (g f [] ⟨.e, 0⟩) = some v) (hv : flatV v = true) : SoundF P f (closed v) := by
 obtain ⟨s1, h⟩ := ans_some h
 intro args s v' s' h'
 cases args with
 | cons x xs => simp [closed] at h'
 | nil =>
  simp [closed] at h'
  obtain ⟨rfl, rfl⟩ := h'
  obtain ⟨k1, _, _⟩ := hg f [] _ v s1 h
  refine ⟨k1, Keeps.refl _ _, ?_⟩
  intro ι w0 X w args' hs hr
  refine (start_calls (hg.at f) h (W := w) (args' := args') (by simp only [relL] at hr ⊢; exact hr)).mono ?_
  rintro e w' ⟨v', κ, rfl, r1, r2⟩
  exact ⟨v', ι, rfl, IM.le_refl _, flat_rel hv r1, SR_below hs r2⟩
end
section
variable {H : Type} {enc : TypeId × Value → H} {P : Program}
theorem args_stay (hl : laidOutB P = true) {W W' : World} (hb : Below W.heap.size W W') : ∀ {ts : List TypeId} {vs : List Value} {ds : List (DataW H)} {ps : List MemPlace}, (∀ t ∈ ts, P.readableRec t = true ∧ t < P.types.size) →
  DataW.TrodAll enc P W 0 (fun _ => true) true ts vs ds ps → (∀ x ∈ ps, x.block < W.heap.size) → DataW.TrodAll enc P W' 0 (fun b => decide (b < W.heap.size)) true ts vs ds ps
 | [], vs, ds, ps, ht, h, hlt => by
  obtain ⟨rfl, rfl, rfl⟩ := trodAll_nil h
  exact trodAll_mk0
 | t :: ts, vs, ds, ps, ht, h, hlt => by
  obtain ⟨v, vs', d, ds', p, q, rfl, rfl, rfl, h1, h2⟩ := trodAll_cons h
  have h3 := ht t (by simp)
  exact ⟨_, _, Below.trod hl h3.1 h3.2 h1 hb fun x hx => hlt x (by simp [hx]),
   args_stay hl hb (fun t1 h4 => ht t1 (by simp [h4])) h2 fun x hx => hlt x (by simp [hx]), rfl⟩
theorem law_post {fn : Func} {s : ChangeSpec} {apart fresh handsOn : Bool} {W W' : World} {args : Array Value} {ds gs : List (DataW H)} {before : List MemPlace} (hl : laidOutB P = true) (hv : s.vars = [])
  (hp : (fn.params.toList.all fun t => P.readableRec t && decide (t < P.types.size)) = true) {rt : TypeId} (hr : fn.resultTypes = #[rt]) (hu : P.underlying rt = some .bool) (hs : s.fn H (ds ++ gs) = { results := [.lit (.bool true)], args := ds })
  (hW : DataW.Whole enc P fn.params.toList s.vars apart W args.toList ds gs before) (hb : Below W.heap.size W W') :
  s.post enc P fn apart fresh handsOn false W args (.bool true) W' := by
 have hlt := hW.lt
 have hW' := hW
 obtain ⟨p, q, hA, hV, rfl, hfz, hnd⟩ := hW
 refine ⟨ds, gs, p ++ q, [], p, q, hW', ?_, ?_, ?_, hb.frame _, fun h => by cases h⟩
 ·rw [hr, hs]
  exact trodAll_mk1 (shut_bool hu _)
 ·rw [hs]
  refine args_stay hl hb ?_ hA fun x hx => hlt x (by simp [hx])
  intro t ht
  have := List.all_eq_true.1 hp t ht
  simpa using this
 ·rw [hs]
  rw [hv] at hV ⊢
  obtain ⟨rfl, rfl⟩ := trodVars_none hV
  rfl
end
end Go.Abs
