/- Fresh data as data of before: a contract of a function that only reads holds of what the caller has made, too. -/
import Derived.Test.YtiiajdfjnamfcaaGreatAbsU
set_option autoImplicit false
set_option linter.unusedVariables false
set_option linter.unusedSimpArgs false
namespace Go.Abs
open Go
section
variable {s : St} {ι : IM} {w0 : World} {X : Nat → Option AObj} {nx : Nat} {w : World}
end
section
variable {P : Program} {nd : Bool}
end
end Go.Abs
namespace Go.Abs
open Go
section
variable {P : Program} {nd : Bool} {l : SL} {K : Mem}
theorem beq_no {a b : Nat} (h : a ≠ b) : Nat.beq a b = false := by
 cases e : Nat.beq a b with
 | false => rfl
 | true => exact absurd (Nat.eq_of_beq_eq_true e) h
end
end Go.Abs
namespace Go.Abs
open Go
section
variable {s : St}
end
end Go.Abs
namespace Go.Abs
open Go
theorem row_seg {sz i : Nat} {rows : List (List AV)} {r : List AV} (h : ∀ r, r ∈ rows → r.length = sz) (hi : rows[i]? = some r) : seg rows.flatten (0 + i * sz) sz = some r := by
 obtain ⟨h1, h2⟩ := flatten_at h hi
 simp only [seg]
 rw [Nat.zero_add, Nat.ble_eq_true_of_le (by rw [Nat.add_mul] at h2; omega), cond_true, h1]
section
variable {P : Program} {nd : Bool} {l : SL} {K : Mem}
theorem Rdk.row {id g i sz : Nat} {gr : Bool} {rows : List (List AV)} {r : List AV} {y : AV} (h : InK K id (.cells rows.flatten g g gr)) (hr : ∀ r, r ∈ rows → r.length = sz) (hi : rows[i]? = some r) : Rdk K (.loadn sz) (.ptr id g (0 + i * sz) sz) y (.agg r) :=
 Rdk.ldn h (Nat.le_refl _) (Nat.le_refl _) (Nat.le_refl _) (row_seg hr hi)
theorem Take.in {K K1 : Mem} {c : Chk} (h : Take K c K1) : ∀ id o, (id, o) ∈ c → InK K id o := by
 intro id o hi
 simp only [InK]
 exact h.perm.mem_iff.2 (List.mem_append_left _ hi)
theorem Ef.perm {e : EOp} {K2 : Mem} {R : AV → Mem → Prop} (hp : K.flatten.Perm K2.flatten) (h : Ef P l K2 e R) : Ef P l K e R := by
 intro fr s hf hd
 obtain ⟨c, v, s', K3, h1, h2, h3, h4, h5⟩ := h fr s hf (hd.perm hp)
 exact ⟨c, v, s', K3, h1, h2, h3, ⟨h4.next, fun id hi hn => h4.old id hi fun hm => hn ((ids_perm hp).mem_iff.2 hm), fun id hi => (h4.new id hi).imp_left fun h => (ids_perm hp).mem_iff.2 h⟩, h5⟩
theorem Ef.post {e : EOp} {R T : AV → Mem → Prop} (h : Ef P l K e R) (k : ∀ v K2, R v K2 → ∃ K3, K2.flatten.Perm K3.flatten ∧ T v K3) : Ef P l K e T := by
 intro fr s hf hd
 obtain ⟨c, v, s', K2, h1, h2, h3, h4, h5⟩ := h fr s hf hd
 obtain ⟨K3, hp, h6⟩ := k v K2 h5
 exact ⟨c, v, s', K3, h1, h2, h3.perm hp, ⟨h4.next, h4.old, fun id hi => h4.new id ((ids_perm hp).mem_iff.2 hi)⟩, h6⟩
theorem Rdk.mlen {m ck : Nat} {es : List Ent} {y : AV} (h : InK K m (.map (entsA es) ck)) : Rdk K .mlen (.map m) y (.int .i64 (.ofNat es.length)) := by
 intro s hs
 simp only [aread, (hs.got _ _ h).1]
 simp [entsA]
theorem Ef.mupd {x y z : AO} {m ck : Nat} {es : List Ent} {k v : Val} {K' : Mem} (hx : x.evL l = some (.map m)) (hy : y.evL l = some (valA k)) (hz : z.evL l = some (valA v)) (hK : Upd K m (.map (entsA es) ck) (.map (entsA (putE k v ck es)) (putC k ck es)) K') :
  Ef P l K (.mupd true ksV x y z) fun w K2 => w = .tup [] ∧ K2 = K' := by
 refine Ef.put hK fun s hs => ?_
 simp only [aeff, ev_frL, hx, hy, hz, keyVal, cond_true, hs, mset_V]
theorem Ef.mdel {x y : AO} {m ck : Nat} {es : List Ent} {k : Val} {K' : Mem} (hx : x.evL l = some (.map m)) (hy : y.evL l = some (valA k)) (hK : Upd K m (.map (entsA es) ck) (.map (entsA (delE k es)) ck) K') :
  Ef P l K (.mdel true ksV x y) fun w K2 => w = .tup [] ∧ K2 = K' := by
 refine Ef.put hK fun s hs => ?_
 simp only [aeff, ev_frL, hx, hy, keyVal, cond_true, hs, mdel_V]
theorem CT.enterS (hM : P.follows .mixedOrders = true) {f : FuncId} {fn : AFunc} {args : List AV} {Q : AV → Mem → Prop} (hc : comp P f = some fn) (hn : args.length ≤ fn.ntmps) (h : Cd P nd fn.body (args.zipIdx 0 |>.map fun p => (p.2, p.1)) K (DoneK fn.results fun w K' => ∃ m r, Sel K' m r ∧ Q w m)) : CT P nd f args K Q :=
 (CT.enter hM hc hn h).dropR fun _ _ h => h
theorem Sel.all : ∀ K : Mem, Sel K K []
 | [] => .nil
 | _ :: K => .cons .here (Sel.all K)
theorem Cd.perm {c : ACode} {K2 : Mem} {Q : AX → SL → Mem → Prop} (hp : K.flatten.Perm K2.flatten) (h : Cd P nd c l K2 Q) : Cd P nd c l K Q := by
 intro fr s hf hd
 refine awp_mono (h fr s hf (hd.perm hp)) ?_
 rintro x fr' s' ⟨l', K', h1, h2, h3, h4⟩
 exact ⟨l', K', h1, h2, ⟨h3.next, fun id hi hn => h3.old id hi fun hm => hn ((ids_perm hp).mem_iff.2 hm), fun id hi => (h3.new id hi).imp_left fun h => (ids_perm hp).mem_iff.2 h⟩, h4⟩
theorem Lp.perm {b : ACode} {k : Nat} {K2 : Mem} {Q : AX → SL → Mem → Prop} (hp : K.flatten.Perm K2.flatten) (h : Lp P nd b k l K2 Q) : Lp P nd b k l K Q := by
 intro fr s hf hd
 refine awlp_mono (h fr s hf (hd.perm hp)) ?_
 rintro x fr' s' ⟨l', K', h1, h2, h3, h4⟩
 exact ⟨l', K', h1, h2, ⟨h3.next, fun id hi hn => h3.old id hi fun hm => hn ((ids_perm hp).mem_iff.2 hm), fun id hi => (h3.new id hi).imp_left fun h => (ids_perm hp).mem_iff.2 h⟩, h4⟩
end
end Go.Abs
namespace Go.Abs
open Go
section
variable {P : Program} {nd : Bool} {l : SL} {K : Mem}
theorem byStamp_at : ∀ {es : List (AV × AV × Nat)} {a v : AV} {n : Nat}, (a, v, n) ∈ es → (es.map fun e => e.2.2).Nodup → byStamp n es = some (a, v)
 | [], _, _, _, h, _ => by cases h
 | (b, w, m) :: r, a, v, n, h, hn => by
  simp only [List.map_cons, List.nodup_cons] at hn
  simp only [byStamp]
  rcases List.mem_cons.1 h with e | h
  ·cases e
   rw [show Nat.beq m m = true by simp, cond_true]
  ·rw [beq_no (fun e => hn.1 (List.mem_map.2 ⟨(a, v, n), h, e.symm⟩)), cond_false]
   exact byStamp_at h hn.2
theorem Rdk.ment {id m since last : Nat} {seen : List Nat} {es : List (AV × AV × Nat)} {y a v : AV} {n : Nat} (h1 : InK K id (.mit (some m) since (seen ++ [n]) last)) (h2 : InK K m (.map es last)) (he : (a, v, n) ∈ es) (hn : (es.map fun e => e.2.2).Nodup) : Rdk K .ment (.it id) y (.tup [a, v]) := by
 intro s hs
 simp only [aread, (hs.got _ _ h1).1, (hs.got _ _ h2).1]
 rw [show Nat.beq last last = true by simp, cond_true]
 simp only [List.getLast?_append, List.getLast?_singleton, Option.some_or, byStamp_at he hn]
end
end Go.Abs
