/- Both tables tell the same. -/
import Derived.Test.YtlimjjilakldgaaGreatPlnG
import Derived.Test.YtlimjjilakldgaaGreatPlnA
set_option autoImplicit false
set_option maxRecDepth 100000
set_option maxHeartbeats 4000000
set_option linter.unusedVariables false
set_option linter.unusedSimpArgs false
namespace Go.Proofs.YtlimjjilakldgaaGreat
open Go Go.Abs
attribute [local irreducible] Cmp Rg Dw Cd Lp Ev Rdk CT Upd InK
theorem fM_self {s : MS} (hs : s.ok) {x : MO} (hx : x ∈ s.L) : fM s x.nm = some x := by
 cases hf : fM s x.nm with
 | none => exact absurd rfl (fM_none hf x hx)
 | some y =>
  obtain ⟨h1, h2⟩ := fM_mem hf
  rw [hs.uniq h1 hx h2]
section
variable {b r : Nat} {s : MS} {P c d : Chk}
theorem alike9_in {O : OS} {Q : AX → SL → Mem → Prop} (h : PlK b r s P c d) (hO : O.ok 1) (hOr : O.rows = s.L.map nmR)
  (hend : ∀ l', Q (.ext 0) l' [c, d, O.c]) :
  ∀ (k i : Nat), s.L.length < i + k → i ≤ s.L.length → Lp Try.prog false b9_0 k [(0, mP b), (1, rP r), (5, O.v 1), (6, .int .i64 (.ofNat i))] [c, d, O.c] Q := by
 have hlen := hO.len
 rw [hOr, List.length_map] at hlen
 have h16 := h.ok.len
 have e0 : aeq (.flat false [.b]) (.bool true) (.bool true) = some true := rfl
 have e1 : aeq (.flat false [.b]) (.bool false) (.bool false) = some true := rfl
 intro k
 induction k with
 | zero => intro i h1 h2; omega
 | succ k ih =>
  intro i h1 h2
  refine Lp.round ?_
  by_cases hi : i < s.L.length
  ·obtain ⟨x, hx⟩ : ∃ x, s.L[i]? = some x := ⟨_, List.getElem?_eq_getElem hi⟩
   have hri : (s.L.map nmR)[i]? = some (nmR x) := by rw [List.getElem?_map, hx]; rfl
   have hrow : ∀ r, r ∈ s.L.map nmR → r.length = 1 := by
    intro r h; obtain ⟨x, _, rfl⟩ := List.mem_map.1 h; rfl
   have hf := fM_self h.ok (List.mem_iff_getElem?.2 ⟨_, hx⟩)
   obtain ⟨ia, ga, ea⟩ := hO.at (i := i) (r := nmR x) (by rw [hOr]; exact hri)
   rw [hOr] at ea
   subst ea
   have q1 := iadr_slc (sz := 1) (b := ia) (g := ga) (off := 0) (len := (s.L.map nmR).length) (cap := (s.L.map nmR).length) (i := i) (k := .i64) (by rw [List.length_map]; exact hi)
   have ra : ∀ K, InK K ia (.cells (s.L.map nmR).flatten ga ga true) → Rdk K .load1 (.ptr ia ga (0 + i * 1) 1) (.ptr ia ga (0 + i * 1) 1) (.str x.nm) := fun K h => Rdk.cel0 (lm := 0) h hrow hri rfl
   have c1 := curM (n := x.nm) h.m
   have c2 := curR (n := x.nm) h.r h.ok
   have o1 := oldM (n := x.nm) h.m
   have o2 := oldR (n := x.nm) h.r h.ok
   have s1 := stateM (n := x.nm) h.m
   have s2 := stateR (n := x.nm) h.r h.ok
   have n0 := neq_self x.st
   obtain ⟨nm, cur, old, st⟩ := x
   simp only [mCur, mOld, mState, hf, Option.map_some, Option.bind_some, toldA, stA] at c1 c2 o1 o2 s1 s2
   cases old with
   | none =>
    simp only [toldA] at o1 o2
    repeat' (first|(refine zz ?_ (by refine iPb (o := .neq) (a:=?_) (b:=?_) (v:=?_) ?_ ?_ ?_; rotate_left 3; exact rfl; exact rfl; exact n0))|(refine Rg.callM rfl c1 (.cons (.here) (.nil)) ?_; rintro _ _ ⟨rfl, rfl⟩)|(refine Rg.callM rfl c2 (.cons (.there (.here)) (.nil)) ?_; rintro _ _ ⟨rfl, rfl⟩)|(refine Rg.callM rfl o1 (.cons (.there (.here)) (.nil)) ?_; rintro _ _ ⟨rfl, rfl⟩)|(refine Rg.callM rfl o2 (.cons (.there (.here)) (.nil)) ?_; rintro _ _ ⟨rfl, rfl⟩)|(refine Rg.callM rfl s1 (.cons (.there (.here)) (.nil)) ?_; rintro _ _ ⟨rfl, rfl⟩)|(refine Rg.callM rfl s2 (.cons (.there (.here)) (.nil)) ?_; rintro _ _ ⟨rfl, rfl⟩)|refine yR ra ?_|intro _|refine yS ?_|(apply YB.mk<;>intro hc)|(apply YA.mk;intro cv hv)|(refine yT ?_ ?_<;>(intro e;(try simp only [nbT,nbF] at e);subst e;try contradiction)))
    exact Lp.drop (.cons (.there (.here)) (.cons (.here) (.cons (.here) (.nil)))) (Lp.weak (by exact ⟨rfl, rfl, rfl, rfl, trivial⟩) (ih (i + 1) (by omega) (by omega)))
   | some o =>
    simp only [toldA] at o1 o2
    repeat' (first|(refine zz ?_ (by refine iPb (o := .neq) (a:=?_) (b:=?_) (v:=?_) ?_ ?_ ?_; rotate_left 3; exact rfl; exact rfl; exact n0))|(refine Rg.callM rfl c1 (.cons (.here) (.nil)) ?_; rintro _ _ ⟨rfl, rfl⟩)|(refine Rg.callM rfl c2 (.cons (.there (.here)) (.nil)) ?_; rintro _ _ ⟨rfl, rfl⟩)|(refine Rg.callM rfl o1 (.cons (.there (.here)) (.nil)) ?_; rintro _ _ ⟨rfl, rfl⟩)|(refine Rg.callM rfl o2 (.cons (.there (.here)) (.nil)) ?_; rintro _ _ ⟨rfl, rfl⟩)|(refine Rg.callM rfl s1 (.cons (.there (.here)) (.nil)) ?_; rintro _ _ ⟨rfl, rfl⟩)|(refine Rg.callM rfl s2 (.cons (.there (.here)) (.nil)) ?_; rintro _ _ ⟨rfl, rfl⟩)|refine yR ra ?_|intro _|refine yS ?_|(apply YB.mk<;>intro hc)|(apply YA.mk;intro cv hv)|(refine yT ?_ ?_<;>(intro e;(try simp only [nbT,nbF] at e);subst e;try contradiction)))
    exact Lp.drop (.cons (.there (.here)) (.cons (.here) (.cons (.here) (.nil)))) (Lp.weak (by exact ⟨rfl, rfl, rfl, rfl, trivial⟩) (ih (i + 1) (by omega) (by omega)))
  ·obtain rfl : i = s.L.length := by omega
   repeat' (first|intro _|refine yS ?_|(apply YB.mk<;>intro hc)|(apply YA.mk;intro cv hv)|(refine yT ?_ ?_<;>(intro e;(try simp only [nbT,nbF] at e);subst e;try contradiction)))
   exact hend _
theorem alike9 (h : PlK b r s P c d) : CT Try.prog false 9 [mP b, rP r] [c, d] fun w K' => w = .bool true ∧ K' = [c, d] := by
 have h16 := h.ok.len
 have k1 := namesM h.m (by omega)
 have k2 := namesR h.r h.ok
 have k3 : ∀ {A B : OS}, A.ok 1 → A.rows = s.L.map nmR → B.ok 1 → B.rows = s.L.map nmR → _ := fun {A B} h1 h2 h3 h4 => texts29 (A := A) (B := B) (l := s.L) h1 h3 h2 h4 (by omega)
 refine CT.enterS mixed comp9 (Nat.le_of_ble_eq_true rfl) ?_
 repeat' (first|(refine Rg.callM rfl k1 (.cons (.here) (.nil)) ?_; rintro _ _ ⟨O, hO, hOr, rfl, rfl⟩)|(refine Rg.callM rfl k2 (.cons (.there (.there (.here))) (.nil)) ?_; rintro _ _ ⟨N, hN, hNr, rfl, rfl⟩)|intro _|refine yS ?_|(apply YB.mk<;>intro hc)|(apply YA.mk;intro cv hv)|(refine yT ?_ ?_<;>(intro e;(try simp only [nbT,nbF] at e);subst e;try contradiction)))
 refine Rg.callM rfl (k3 hO hOr hN hNr) (.cons (.there (.there (.there (.here)))) (.cons (.there (.here)) (.nil))) ?_
 rintro _ _ ⟨rfl, rfl⟩
 repeat' (first|intro _|refine yS ?_|(apply YB.mk<;>intro hc)|(apply YA.mk;intro cv hv)|(refine yT ?_ ?_<;>(intro e;(try simp only [nbT,nbF] at e);subst e;try contradiction)))
 refine Cd.weak (l2 := [(0, mP b), (1, rP r), (5, O.v 1), (6, .int .i64 (.ofNat 0))]) ⟨rfl, rfl, rfl, rfl, trivial⟩ ?_
 refine Cd.drop (m := [c, d, O.c]) (.cons (.there (.there (.there (.here)))) (.cons (.there (.there (.here))) (.cons (.here) (.nil)))) ?_
 refine Cd.loop (k := s.L.length + 1) (alike9_in h hO hOr ?_ (s.L.length + 1) 0 (by omega) (Nat.zero_le _))
 intro l'
 show Cd _ _ _ _ _ _
 refine Cd.weak (l2 := []) trivial ?_
 repeat' (first|intro _|refine yS ?_|(apply YB.mk<;>intro hc)|(apply YA.mk;intro cv hv)|(refine yT ?_ ?_<;>(intro e;(try simp only [nbT,nbF] at e);subst e;try contradiction)))
 refine yX ?_
 exact ⟨_, _, (.cons (.here) (.cons (.here) (.nil))), rfl, rfl⟩
end
end Go.Proofs.YtlimjjilakldgaaGreat
namespace Go.Proofs.YtlimjjilakldgaaGreat
open Go Go.Abs
open Classical in
theorem PT.det {f : FuncId} {args : List AV} {v : AV} (h : PT Try.prog false f args v) (ha : args.all flatV = true) (hv : flatV v = true) (s : St) : MDet Try.prog f args s v s := by
 obtain ⟨w, s1, h1, _, _, _, _, rfl⟩ := h ⟨.e, 0⟩ ⟨by simp [idsM], by simp⟩
 have hg : SoundF Try.prog f (fun a t => if a = args ∧ t = ⟨.e, 0⟩ then some (w, s1) else none) := by
  intro a t v' s' e
  dsimp only at e
  split at e
  ·rename_i h2
   obtain ⟨rfl, rfl⟩ := h2
   cases e
   exact h1
  ·cases e
 refine ⟨h1.1, Keeps.refl _ _, ?_⟩
 intro ι w0 X w' args' hs hr
 refine (start_calls hg (if_pos ⟨rfl, rfl⟩) (W := w') (args' := args') (flat_relL ha hr)).mono ?_
 rintro e w2 ⟨v', κ, rfl, r1, r2⟩
 exact ⟨v', ι, rfl, IM.le_refl _, flat_rel hv r1, SR_below hs r2⟩
def g56 : List AV → St → Option (AV × St)
 | [.str [x]], s => bif Nat.beq x 109 then some (.bool true, s) else bif Nat.beq x 102 then some (.bool true, s) else bif Nat.beq x 103 then some (.bool true, s) else none
 | [.str []], s => some (.bool false, s)
 | _, _ => none
theorem g56_sound : SoundF Try.prog 56 g56 := by
 intro args s v s' h
 unfold g56 at h
 split at h
 ·rename_i x
  cases e : Nat.beq x 109 with
  | true =>
   rw [e] at h; cases h
   rw [Nat.eq_of_beq_eq_true e]
   exact PT.det (v := .bool true) (name17 (s := [109]) ⟨by decide, by decide⟩) rfl rfl s
  | false =>
   cases e2 : Nat.beq x 102 with
   | true =>
    rw [e, e2] at h; cases h
    rw [Nat.eq_of_beq_eq_true e2]
    exact PT.det (v := .bool true) (name17 (s := [102]) ⟨by decide, by decide⟩) rfl rfl s
   | false =>
    cases e3 : Nat.beq x 103 with
    | true =>
     rw [e, e2, e3] at h; cases h
     rw [Nat.eq_of_beq_eq_true e3]
     exact PT.det (v := .bool true) (name17 (s := [103]) ⟨by decide, by decide⟩) rfl rfl s
    | false => rw [e, e2, e3] at h; cases h
 ·cases h
  exact PT.det (v := .bool false) (name17 (s := []) ⟨by decide, by decide⟩) rfl rfl s
 ·cases h
theorem plain56 : Sound Try.prog (acall (comp Try.prog) (single 56 g56) 60) := acall_ok mixed (single_sound g56_sound) 60
set_option maxRecDepth 1000000 in
theorem known10_run : ans (acall (comp Try.prog) (single 56 g56) 60 10 [] ⟨.e, 0⟩) = some (.bool true) := by kernel_rfl
theorem known10 : PT Try.prog false 10 [] (.bool true) := PT.run plain56 known10_run rfl rfl
end Go.Proofs.YtlimjjilakldgaaGreat
namespace Go.Proofs.YtlimjjilakldgaaGreat
open Go Go.Abs
attribute [local irreducible] Cmp Rg Dw Cd Lp Ev Rdk CT Upd InK
structure OkX (o : OpM) : Prop where
 u : OkU o.u
 nm : Txt o.nm
 st : Txt o.st
 fn : Txt o.fn
section
variable {sv : AV} {ops : List OpM} {br : Nat}
theorem plays3_in {Q : AX → SL → Mem → Prop} (hsv : ASl 10 sv (ops.map opR)) (hl : ops.length ≤ 9223372036854775807) (hop : ∀ o, o ∈ ops → OkX o) (hend : ∀ l' K, Q (.ext 0) l' K) :
  ∀ (k i b : Nat) (s : MS) (P c d : Chk), 40 < i + k → i ≤ 40 → i ≤ ops.length → PlK b br s P c d → s.U.length ≤ i →
   Lp Try.prog true b3_0 k [(0, sv), (3, mP b), (4, rP br), (5, .int .i64 (.ofNat i))] [c, d, P] Q := by
 have hlen := hsv.len
 rw [List.length_map] at hlen
 intro k
 induction k with
 | zero => intro i b s P c d h1 h2; omega
 | succ k ih =>
  intro i b s P c d h1 h2 h3 h hU
  refine Lp.round ?_
  by_cases hi : i < ops.length
  ·by_cases h40 : i < 40
   ·obtain ⟨o, hx⟩ : ∃ o, ops[i]? = some o := ⟨_, List.getElem?_eq_getElem hi⟩
    have hri : (ops.map opR)[i]? = some (opR o) := by rw [List.getElem?_map, hx]; rfl
    obtain ⟨hu, hn1, hs1, hf1⟩ := hop o (List.mem_iff_getElem?.2 ⟨_, hx⟩)
    have q1 := hsv.iadr (k := .i64) hri
    have l1 := hn1.1
    have l2 := hs1.1
    have l3 := hf1.1
    have kl := (light6 hu).up (nd := true)
    have m1 := mayM (n := o.u.name) (ver := o.u.version) h.m
    have m2 := mayR (n := o.u.name) (ver := o.u.version) h.r h.ok
    repeat' (first|refine Rg.r (v := .agg (opR o)) rfl rfl (Rdk.in rfl) ?_|intro _|refine yS ?_|(apply YB.mk<;>intro hc)|(apply YA.mk;intro cv hv)|(refine yT ?_ ?_<;>(intro e;(try simp only [nbT,nbF] at e);subst e;try contradiction)))
    refine Rg.r (v := .agg (unitR o.u)) rfl rfl (Rdk.bn (off := 1) (n := 5) .here rfl) ?_
    refine Rg.callM (m := []) rfl kl .nil ?_
    rintro _ _ ⟨rfl, cv, rfl⟩
    cases cv with
    | false =>
     repeat' (first|intro _|refine yS ?_|(apply YB.mk<;>intro hc)|(apply YA.mk;intro cv hv)|(refine yT ?_ ?_<;>(intro e;(try simp only [nbT,nbF] at e);subst e;try contradiction)))
     refine Lp.drop (.cons (.there (.here)) (.cons (.there (.here)) (.cons (.there (.here)) (.nil)))) (Lp.weak ?hw (ih (i + 1) b s P c d (by omega) (by omega) (by omega) h (by omega)))
     case hw => exact ⟨rfl, rfl, rfl, rfl, trivial⟩
    | true =>
     repeat' (first|intro _|refine yS ?_|(apply YB.mk<;>intro hc)|(apply YA.mk;intro cv hv)|(refine yT ?_ ?_<;>(intro e;(try simp only [nbT,nbF] at e);subst e;try contradiction)))
     all_goals first | exact Lp.drop (.cons (.there (.here)) (.cons (.there (.here)) (.cons (.there (.here)) (.nil)))) (Lp.weak (by exact ⟨rfl, rfl, rfl, rfl, trivial⟩) (ih (i + 1) b s P c d (by omega) (by omega) (by omega) h (by omega))) | skip
     repeat' (first|(refine Dw.callM rfl m1 (.cons (.there (.here)) (.nil)) ?_; rintro _ _ ⟨rfl, rfl⟩; refine yO ?_)|(refine Dw.callM rfl m2 (.cons (.there (.there (.here))) (.nil)) ?_; rintro _ _ ⟨rfl, rfl⟩; refine yO ?_)|intro _|refine yS ?_|(apply YB.mk<;>intro hc)|(apply YA.mk;intro cv hv)|(refine yT ?_ ?_<;>(intro e;(try simp only [nbT,nbF] at e);subst e;try contradiction)))
     refine Rg.callM rfl (does8 h ⟨hu, hn1, hs1, by omega⟩ (by omega)) (.cons (.there (.here)) (.cons (.here) (.cons (.there (.here)) (.nil)))) ?_
     rintro _ _ ⟨b', s', P', c', d', rfl, h', hU', rfl⟩
     repeat' (first|(refine Rg.callM rfl ((alike9 h').up (nd := true)) (.cons (.here) (.cons (.here) (.nil))) ?_; rintro _ _ ⟨rfl, rfl⟩)|intro _|refine yS ?_|(apply YB.mk<;>intro hc)|(apply YA.mk;intro cv hv)|(refine yT ?_ ?_<;>(intro e;(try simp only [nbT,nbF] at e);subst e;try contradiction)))
     exact Lp.drop (.cons (.here) (.cons (.here) (.cons (.here) (.nil)))) (Lp.weak (by exact ⟨rfl, rfl, rfl, rfl, trivial⟩) (ih (i + 1) b' s' P' c' d' (by omega) (by omega) (by omega) h' (by omega)))
   ·obtain rfl : i = 40 := by omega
    repeat' (first|intro _|refine yS ?_|(apply YB.mk<;>intro hc)|(apply YA.mk;intro cv hv)|(refine yT ?_ ?_<;>(intro e;(try simp only [nbT,nbF] at e);subst e;try contradiction)))
    exact hend _ _
  ·obtain rfl : i = ops.length := by omega
   repeat' (first|intro _|refine yS ?_|(apply YB.mk<;>intro hc)|(apply YA.mk;intro cv hv)|(refine yT ?_ ?_<;>(intro e;(try simp only [nbT,nbF] at e);subst e;try contradiction)))
   exact hend _ _
theorem plays3 (hsv : ASl 10 sv (ops.map opR)) (hl : ops.length ≤ 9223372036854775807) (hop : ∀ o, o ∈ ops → OkX o) : CT Try.prog true 3 [sv] [] fun v _ => v = .bool true := by
 have k4 := (newM (P := [])).up (nd := true)
 have k10 := known10.up (nd := true)
 refine CT.enter mixed comp3 (Nat.le_of_ble_eq_true rfl) ?_
 repeat' (first|(refine Rg.callM rfl k4 .nil ?_; rintro _ _ ⟨b, c, rfl, hc, rfl⟩)|intro _|refine yS ?_|(apply YB.mk<;>intro hc)|(apply YA.mk;intro cv hv)|(refine yT ?_ ?_<;>(intro e;(try simp only [nbT,nbF] at e);subst e;try contradiction)))
 rename_i br
 refine Cd.weak (l2 := [(0, sv), (3, mP b), (4, rP br), (5, .int .i64 (.ofNat 0))]) ⟨rfl, rfl, rfl, rfl, trivial⟩ ?_
 refine Cd.perm (K2 := [c, [(br, .cells [.nilslc, .nilslc] 0 0 false)], []]) ?_ ?_
 ·have := chunk_perm [c, [(br, AObj.cells [.nilslc, .nilslc] 0 0 false)]] [1, 0] [0, 1] (by decide)
  show ([(br, AObj.cells [.nilslc, .nilslc] 0 0 false)] :: [c] : Mem).flatten.Perm _
  simpa using this
 refine Cd.loop (k := 41) (plays3_in hsv hl hop ?_ 41 0 b s0 [] c _ (by omega) (by omega) (Nat.zero_le _) ⟨hc, newR, s0_ok, fun x hx => by cases hx⟩ (Nat.le_refl _))
 intro l' K
 show Cd _ _ _ _ _ _
 refine Cd.weak (l2 := []) trivial ?_
 repeat' (first|intro _|refine yS ?_|(apply YB.mk<;>intro hc)|(apply YA.mk;intro cv hv)|(refine yT ?_ ?_<;>(intro e;(try simp only [nbT,nbF] at e);subst e;try contradiction)))
 refine yX ?_
 subst hv
 rfl
end
end Go.Proofs.YtlimjjilakldgaaGreat
