/- Rules by which code is gone through with a memory that is known in part: chunks of objects, all else stays as it is. -/
import Derived.Test.YtiiajdfjnamfcaaGreatAbsM
import Derived.Test.YtiiajdfjnamfcaaGreatAbsVal
import Derived.Test.YtiiajdfjnamfcaaGreatAbsLaw
set_option autoImplicit false
set_option linter.unusedSimpArgs false
set_option linter.unusedVariables false
namespace Go.Abs
open Go
abbrev Chk := List (Nat × AObj)
abbrev Mem := List Chk
def idsM (K : Mem) : List Nat := K.flatten.map (·.1)
structure Hd (s : St) (K : Mem) : Prop where
 nodup : (idsM K).Nodup
 got : ∀ b o, (b, o) ∈ K.flatten → s.objs.get b = some o ∧ b < s.next
structure Frm (B : Nat) (s : St) (K : Mem) (s' : St) (K' : Mem) : Prop where
 next : s.next ≤ s'.next
 old : ∀ id, id < B → id ∉ idsM K → s'.objs.get id = s.objs.get id
 new : ∀ id, id ∈ idsM K' → id ∈ idsM K ∨ B ≤ id
theorem Frm.refl (B : Nat) (s : St) (K : Mem) : Frm B s K s K := ⟨Nat.le_refl _, fun _ _ _ => rfl, fun _ h => .inl h⟩
theorem Frm.trans {B C : Nat} {s s1 s2 : St} {K K1 K2 : Mem} (h : Frm B s K s1 K1) (k : Frm C s1 K1 s2 K2) (hc : B ≤ C) : Frm B s K s2 K2 :=
 ⟨Nat.le_trans h.next k.next, fun id hi hn => (k.old id (by omega) (fun hm => by rcases h.new id hm with h1 | h1; exact hn h1; omega)).trans (h.old id hi hn),
  fun id hm => by rcases k.new id hm with h1 | h1; exact h.new id h1; exact .inr (by omega)⟩
theorem Hd.lt {s : St} {K : Mem} (h : Hd s K) {id : Nat} (hi : id ∈ idsM K) : id < s.next := by
 obtain ⟨⟨b, o⟩, h1, rfl⟩ := List.mem_map.1 hi
 exact (h.got b o h1).2
inductive Take : Mem → Chk → Mem → Prop
 | here {c : Chk} {r : Mem} : Take (c :: r) c r
 | there {c d : Chk} {r r' : Mem} : Take r c r' → Take (d :: r) c (d :: r')
inductive Sel : Mem → Mem → Mem → Prop
 | nil {K : Mem} : Sel K [] K
 | cons {K K1 m r : Mem} {c : Chk} : Take K c K1 → Sel K1 m r → Sel K (c :: m) r
theorem Take.perm {K r : Mem} {c : Chk} (h : Take K c r) : K.flatten.Perm (c ++ r.flatten) := by
 induction h with
 | here => simp
 | @there c d r r' _ ih =>
  simp only [List.flatten_cons]
  refine (List.Perm.append_left d ih).trans ?_
  rw [← List.append_assoc, ← List.append_assoc]
  exact List.Perm.append_right _ List.perm_append_comm
theorem Sel.perm {K m r : Mem} (h : Sel K m r) : K.flatten.Perm (m ++ r).flatten := by
 induction h with
 | nil => exact List.Perm.refl _
 | @cons K K1 m r c h _ ih =>
  refine h.perm.trans ?_
  simp only [List.cons_append, List.flatten_cons]
  exact List.Perm.append_left c ih
theorem ids_perm {K K' : Mem} (h : K.flatten.Perm K'.flatten) : (idsM K).Perm (idsM K') := h.map _
theorem Hd.perm {s : St} {K K' : Mem} (h : Hd s K) (p : K.flatten.Perm K'.flatten) : Hd s K' :=
 ⟨(ids_perm p).nodup_iff.1 h.nodup, fun b o hb => h.got b o (p.mem_iff.2 hb)⟩
theorem ids_app (m r : Mem) : idsM (m ++ r) = idsM m ++ idsM r := by simp [idsM]
theorem ids_cons (c : Chk) (r : Mem) : idsM (c :: r) = c.map (·.1) ++ idsM r := by simp [idsM]
theorem Hd.left {s : St} {m r : Mem} (h : Hd s (m ++ r)) : Hd s m := by
 have hn := h.nodup
 rw [ids_app] at hn
 exact ⟨(List.nodup_append.1 hn).1, fun b o hb => h.got b o (by rw [List.flatten_append]; exact List.mem_append_left _ hb)⟩
theorem Hd.right {s : St} {m r : Mem} (h : Hd s (m ++ r)) : Hd s r := by
 have hn := h.nodup
 rw [ids_app] at hn
 exact ⟨(List.nodup_append.1 hn).2.1, fun b o hb => h.got b o (by rw [List.flatten_append]; exact List.mem_append_right _ hb)⟩
theorem Hd.frame {B : Nat} {s s' : St} {m m' r : Mem} (h : Hd s (m ++ r)) (h' : Hd s' m') (f : Frm B s m s' m') (hB : ∀ id, id ∈ idsM r → id < B) : Hd s' (m' ++ r) ∧ Frm B s (m ++ r) s' (m' ++ r) := by
 have hn := h.nodup
 rw [ids_app] at hn
 obtain ⟨n1, n2, n3⟩ := List.nodup_append.1 hn
 have hr : ∀ id, id ∈ idsM r → id ∉ idsM m := fun id h1 h2 => n3 id h2 id h1 rfl
 refine ⟨⟨?_, ?_⟩, f.next, ?_, ?_⟩
 ·rw [ids_app]
  refine List.nodup_append.2 ⟨h'.nodup, n2, ?_⟩
  rintro id h1 id2 h2 rfl
  rcases f.new id h1 with h3 | h3
  ·exact hr id h2 h3
  ·have := hB id h2; omega
 ·intro b o hb
  rw [List.flatten_append] at hb
  rcases List.mem_append.1 hb with hb | hb
  ·exact h'.got b o hb
  ·obtain ⟨g1, g2⟩ := h.right.got b o hb
   have hi : b ∈ idsM r := List.mem_map.2 ⟨_, hb, rfl⟩
   exact ⟨by rw [f.old b (hB b hi) (hr b hi)]; exact g1, Nat.lt_of_lt_of_le g2 f.next⟩
 ·intro id hi hm
  rw [ids_app] at hm
  exact f.old id hi fun h1 => hm (List.mem_append_left _ h1)
 ·intro id hm
  rw [ids_app] at hm ⊢
  rcases List.mem_append.1 hm with hm | hm
  ·rcases f.new id hm with h1 | h1
   ·exact .inl (List.mem_append_left _ h1)
   ·exact .inr h1
  ·exact .inl (List.mem_append_right _ hm)
def InK (K : Mem) (b : Nat) (o : AObj) : Prop := (b, o) ∈ K.flatten
theorem InK.here {K : Mem} {b : Nat} {o : AObj} : InK ([(b, o)] :: K) b o := by simp [InK]
theorem InK.there {K : Mem} {c : Chk} {b : Nat} {o : AObj} (h : InK K b o) : InK (c :: K) b o := by simp only [InK, List.flatten_cons]; exact List.mem_append_right _ h
def Upd (K : Mem) (b : Nat) (o o' : AObj) (K' : Mem) : Prop := ∃ A B, K.flatten = A ++ (b, o) :: B ∧ K'.flatten = A ++ (b, o') :: B
theorem Upd.here {K : Mem} {b : Nat} {o o' : AObj} : Upd ([(b, o)] :: K) b o o' ([(b, o')] :: K) := ⟨[], K.flatten, by simp, by simp⟩
theorem Upd.chunk {K : Mem} {A B : Chk} {b : Nat} {o o' : AObj} : Upd ((A ++ (b, o) :: B) :: K) b o o' ((A ++ (b, o') :: B) :: K) := ⟨A, B ++ K.flatten, by simp, by simp⟩
theorem Upd.there {K K' : Mem} {c : Chk} {b : Nat} {o o' : AObj} (h : Upd K b o o' K') : Upd (c :: K) b o o' (c :: K') := by
 obtain ⟨A, B, h1, h2⟩ := h
 exact ⟨c ++ A, B, by simp [h1], by simp [h2]⟩
theorem Upd.in {K K' : Mem} {b : Nat} {o o' : AObj} (h : Upd K b o o' K') : InK K b o := by
 obtain ⟨A, B, h1, _⟩ := h
 simp [InK, h1]
theorem Upd.ids {K K' : Mem} {b : Nat} {o o' : AObj} (h : Upd K b o o' K') : idsM K' = idsM K := by
 obtain ⟨A, B, h1, h2⟩ := h
 simp [idsM, h1, h2]
theorem Hd.upd {s : St} {K K' : Mem} {b : Nat} {o o' : AObj} (h : Hd s K) (u : Upd K b o o' K') (B : Nat) : Hd (s.put b o') K' ∧ Frm B s K (s.put b o') K' := by
 have hin := u.in
 have hids := u.ids
 obtain ⟨A, C, h1, h2⟩ := u
 have hn := h.nodup
 refine ⟨⟨by rw [hids]; exact hn, ?_⟩, Nat.le_refl _, ?_, fun id hi => .inl (by rw [← hids]; exact hi)⟩
 ·intro b1 o1 hb
  rw [h2] at hb
  have hne : ∀ p, p ∈ A ∨ p ∈ C → p.1 ≠ b := by
   intro p hp e
   unfold idsM at hn
   rw [h1, List.map_append, List.map_cons] at hn
   obtain ⟨n1, n2, n3⟩ := List.nodup_append.1 hn
   rcases hp with hp | hp
   ·exact n3 p.1 (List.mem_map.2 ⟨p, hp, rfl⟩) b (by simp) e
   ·exact (List.nodup_cons.1 n2).1 (List.mem_map.2 ⟨p, hp, e⟩)
  have keep : ∀ p, (p ∈ A ∨ p ∈ C) → (s.put b o').objs.get p.1 = some p.2 ∧ p.1 < s.next := by
   intro p hp
   rw [get_put, if_neg (hne p hp)]
   exact h.got p.1 p.2 (by rw [h1]; rcases hp with hp | hp; exact List.mem_append_left _ hp; exact List.mem_append_right _ (List.mem_cons_of_mem _ hp))
  rcases List.mem_append.1 hb with hb | hb
  ·exact keep (b1, o1) (.inl hb)
  ·rcases List.mem_cons.1 hb with e | hb
   ·cases e
    exact ⟨by rw [get_put, if_pos rfl], (h.got b o hin).2⟩
   ·exact keep (b1, o1) (.inr hb)
 ·intro id _ hi
  rw [get_put, if_neg]
  rintro rfl
  exact hi (List.mem_map.2 ⟨_, hin, rfl⟩)
theorem Hd.alloc {s : St} {K : Mem} {id B : Nat} (h : Hd s K) (hi : id ∉ idsM K) (hl : id < s.next) (hB : B ≤ id) (o : AObj) : Hd (s.put id o) ([(id, o)] :: K) ∧ Frm B s K (s.put id o) ([(id, o)] :: K) := by
 refine ⟨⟨?_, ?_⟩, Nat.le_refl _, ?_, ?_⟩
 ·rw [ids_cons]
  exact List.nodup_cons.2 ⟨hi, h.nodup⟩
 ·intro b1 o1 hb
  simp only [List.flatten_cons, List.singleton_append, List.mem_cons] at hb
  rcases hb with e | hb
  ·cases e
   exact ⟨by rw [get_put, if_pos rfl], hl⟩
  ·obtain ⟨g1, g2⟩ := h.got b1 o1 hb
   refine ⟨?_, g2⟩
   rw [get_put, if_neg]
   ·exact g1
   ·rintro rfl
    exact hi (List.mem_map.2 ⟨_, hb, rfl⟩)
 ·intro j hj _
  rw [get_put, if_neg (by omega)]
 ·intro j hj
  rw [ids_cons] at hj
  simp only [List.map_cons, List.map_nil, List.singleton_append, List.mem_cons] at hj
  rcases hj with rfl | hj
  ·exact .inr hB
  ·exact .inl hj
def Rdk (K : Mem) (kk : RK) (x y v : AV) : Prop := ∀ s, Hd s K → aread kk x y s = some v
theorem Rdk.ld1 {K : Mem} {b g gen wg off lm : Nat} {gr : Bool} {cs : List AV} {v y : AV} (h : InK K b (.cells cs gen wg gr)) (h1 : wg ≤ g) (h2 : g ≤ gen) (hl : 1 ≤ lm) (hv : cs[off]? = some v) : Rdk K .load1 (.ptr b g off lm) y v := by
 intro s hs
 have := (hs.got _ _ h).1
 simp only [aread, St.cells, this, Nat.ble_eq_true_of_le h1, Nat.ble_eq_true_of_le h2, Nat.ble_eq_true_of_le hl, Bool.and_self, cond_true]
 exact hv
theorem Rdk.ldn {K : Mem} {b g gen wg off lm n : Nat} {gr : Bool} {cs cs' : List AV} {y : AV} (h : InK K b (.cells cs gen wg gr)) (h1 : wg ≤ g) (h2 : g ≤ gen) (hl : n ≤ lm) (hv : seg cs off n = some cs') : Rdk K (.loadn n) (.ptr b g off lm) y (.agg cs') := by
 intro s hs
 have := (hs.got _ _ h).1
 simp only [aread, St.cells, this, Nat.ble_eq_true_of_le h1, Nat.ble_eq_true_of_le h2, Nat.ble_eq_true_of_le hl, Bool.and_self, cond_true, hv]
theorem Rdk.i1 {K : Mem} {v y : AV} {r : List AV} : Rdk K .load1 (.iptr (v :: r)) y v := fun _ _ => rfl
theorem Rdk.in {K : Mem} {n : Nat} {cs : List AV} {y : AV} (h : cs.length = n) : Rdk K (.loadn n) (.iptr cs) y (.agg cs) := by
 intro s _
 subst h
 simp only [aread, Nat.ble_eq_true_of_le (Nat.le_refl _), cond_true, List.take_length]
theorem Rdk.sub {K m r : Mem} {kk : RK} {x y v : AV} (h : Rdk m kk x y v) (hs : Sel K m r) : Rdk K kk x y v := fun s hd => h s (hd.perm hs.perm).left
def evoL (l : SL) : Option AO → Option (Option AV)
 | none => some none
 | some x => match x.evL l with
  | none => none
  | some v => some (some v)
theorem evoL_eq (l : SL) (x : Option AO) : evo (frL l) x = evoL l x := by
 cases x with
 | none => rfl
 | some x => simp only [evo, evoL, ev_frL]; cases x.evL l <;> rfl
theorem evsL_eq (l : SL) : ∀ xs : List AO, evs (frL l) xs = evsL l xs
 | [] => rfl
 | x :: xs => by
  simp only [evs, evsL, ev_frL, evsL_eq l xs]
  cases x.evL l with
  | none => rfl
  | some v => cases evsL l xs <;> rfl
def Ev (l : SL) (p : POp) (v : AV) : Prop := apure (frL l) p = some v
section
variable {l : SL}
theorem Ev.mov {x : AO} {v : AV} (h : x.evL l = some v) : Ev l (.mov x) v := by simp only [Ev, apure, ev_frL, h]
theorem Ev.const {v : AV} : Ev l (.const v) v := rfl
theorem Ev.bin {o : BinOp} {x y : AO} {a b v : AV} (hx : x.evL l = some a) (hy : y.evL l = some b) (h : abin o a b = some v) : Ev l (.bin o x y) v := by simp only [Ev, apure, ev_frL, hx, hy, h]
theorem Ev.eq {neg : Bool} {ek : EK} {x y : AO} {a b v : AV} {r : Bool} (hx : x.evL l = some a) (hy : y.evL l = some b) (h : aeq ek a b = some r) (hv : AV.bool (bif neg then !r else r) = v) : Ev l (.eq neg ek x y) v := by subst hv; simp only [Ev, apure, ev_frL, hx, hy, h]
theorem Ev.pick {c x y : AO} {b : Bool} {u v : AV} (hc : c.evL l = some (.bool b)) (hx : x.evL l = some u) (hy : y.evL l = some v) : Ev l (.pick c x y) (bif b then u else v) := by cases b <;> simp only [Ev, apure, ev_frL, hc, hx, hy, cond_true, cond_false]
theorem Ev.build {zs : List AV} {parts : List (Nat × Nat × AO)} {cs : List AV} (h : fillL l zs parts = some cs) : Ev l (.build zs parts) (.agg cs) := by simp only [Ev, apure, fillL_eq, h]
theorem Ev.nilchk {x : AO} {a v : AV} (hx : x.evL l = some a) (h : apure .e (.nilchk (.c a)) = some v) : Ev l (.nilchk x) v := by rw [Ev, ← h]; simp only [apure, ev_frL, hx, ev_c]
theorem Ev.un {o : UnOp} {x : AO} {a v : AV} (hx : x.evL l = some a) (h : apure .e (.un o (.c a)) = some v) : Ev l (.un o x) v := by rw [Ev, ← h]; simp only [apure, ev_frL, hx, ev_c]
theorem Ev.toInt {k : IntKind} {x : AO} {a v : AV} (hx : x.evL l = some a) (h : apure .e (.toInt k (.c a)) = some v) : Ev l (.toInt k x) v := by rw [Ev, ← h]; simp only [apure, ev_frL, hx, ev_c]
theorem Ev.same {x : AO} {a v : AV} (hx : x.evL l = some a) (h : apure .e (.same (.c a)) = some v) : Ev l (.same x) v := by rw [Ev, ← h]; simp only [apure, ev_frL, hx, ev_c]
theorem Ev.mkifc {t : TypeId} {x : AO} {a v : AV} (hx : x.evL l = some a) (hv : AV.ifc t a = v) : Ev l (.mkifc t x) v := by subst hv; simp only [Ev, apure, ev_frL, hx]
theorem Ev.mkfn {f : FuncId} {xs ys : List AO} {as bs : List AV} {v : AV} (hx : evsL l xs = some as) (hy : evsL l ys = some bs) (hv : AV.fn f as bs = v) : Ev l (.mkfn f xs ys) v := by subst hv; simp only [Ev, apure, evsL_eq, hx, hy]
theorem Ev.len {str : Bool} {x : AO} {a v : AV} (hx : x.evL l = some a) (h : apure .e (.len str (.c a)) = some v) : Ev l (.len str x) v := by rw [Ev, ← h]; simp only [apure, ev_frL, hx, ev_c]
theorem Ev.ext {i : Nat} {x : AO} {a v : AV} (hx : x.evL l = some a) (h : apure .e (.ext (.c a) i) = some v) : Ev l (.ext x i) v := by rw [Ev, ← h]; simp only [apure, ev_frL, hx, ev_c]
theorem Ev.fadr {o sz : Nat} {x : AO} {a v : AV} (hx : x.evL l = some a) (h : apure .e (.fadr o sz (.c a)) = some v) : Ev l (.fadr o sz x) v := by rw [Ev, ← h]; simp only [apure, ev_frL, hx, ev_c]
theorem Ev.field {ag : Bool} {o sz : Nat} {x : AO} {a v : AV} (hx : x.evL l = some a) (h : apure .e (.field ag o sz (.c a)) = some v) : Ev l (.field ag o sz x) v := by rw [Ev, ← h]; simp only [apure, ev_frL, hx, ev_c]
theorem Ev.iadr {sz : Nat} {x y : AO} {a b v : AV} (hx : x.evL l = some a) (hy : y.evL l = some b) (h : apure .e (.iadr sz (.c a) (.c b)) = some v) : Ev l (.iadr sz x y) v := by rw [Ev, ← h]; simp only [apure, ev_frL, hx, hy, ev_c]
theorem Ev.aadr {n sz : Nat} {x y : AO} {a b v : AV} (hx : x.evL l = some a) (hy : y.evL l = some b) (h : apure .e (.aadr n sz (.c a) (.c b)) = some v) : Ev l (.aadr n sz x y) v := by rw [Ev, ← h]; simp only [apure, ev_frL, hx, hy, ev_c]
theorem Ev.idxs {x y : AO} {a b v : AV} (hx : x.evL l = some a) (hy : y.evL l = some b) (h : apure .e (.idxs (.c a) (.c b)) = some v) : Ev l (.idxs x y) v := by rw [Ev, ← h]; simp only [apure, ev_frL, hx, hy, ev_c]
theorem Ev.idxa {ag : Bool} {n sz : Nat} {x y : AO} {a b v : AV} (hx : x.evL l = some a) (hy : y.evL l = some b) (h : apure .e (.idxa ag n sz (.c a) (.c b)) = some v) : Ev l (.idxa ag n sz x y) v := by rw [Ev, ← h]; simp only [apure, ev_frL, hx, hy, ev_c]
theorem Ev.sstr {x : AO} {lo hi : Option AO} {s : List Nat} {a b : Option AV} {v : AV} (hx : x.evL l = some (.str s)) (h1 : evoL l lo = some a) (h2 : evoL l hi = some b) (h : Go.Abs.sstr s a b = some v) : Ev l (.sstr x lo hi) v := by simp only [Ev, apure, ev_frL, evoL_eq, hx, h1, h2, h]
theorem Ev.sslc {sz : Nat} {x : AO} {lo hi mx : Option AO} {u : AV} {a b c : Option AV} {v : AV} (hx : x.evL l = some u) (h1 : evoL l lo = some a) (h2 : evoL l hi = some b) (h3 : evoL l mx = some c) (h : aslice sz u a b c = some v) : Ev l (.sslc sz x lo hi mx) v := by simp only [Ev, apure, ev_frL, evoL_eq, hx, h1, h2, h3, h]
theorem Ev.sarr {n sz : Nat} {x : AO} {lo hi mx : Option AO} {u : AV} {a b c : Option AV} {v : AV} (hx : x.evL l = some u) (h1 : evoL l lo = some a) (h2 : evoL l hi = some b) (h3 : evoL l mx = some c) (h : Go.Abs.sarr n sz u a b c = some v) : Ev l (.sarr n sz x lo hi mx) v := by simp only [Ev, apure, ev_frL, evoL_eq, hx, h1, h2, h3, h]
theorem Ev.mmax {xs : List AO} {k : IntKind} {a : Int} {r : List AV} {v : AV} (hx : evsL l xs = some (.int k a :: r)) (h : amax k a r = some v) : Ev l (.mmax xs) v := by simp only [Ev, apure, evsL_eq, hx, h]
theorem Ev.mmin {xs : List AO} {k : IntKind} {a : Int} {r : List AV} {v : AV} (hx : evsL l xs = some (.int k a :: r)) (h : amin k a r = some v) : Ev l (.mmin xs) v := by simp only [Ev, apure, evsL_eq, hx, h]
theorem Ev.tas {t : TypeId} {z : AV} {ok : Bool} {x : AO} {a v : AV} (hx : x.evL l = some a) (h : apure .e (.tas t z ok (.c a)) = some v) : Ev l (.tas t z ok x) v := by rw [Ev, ← h]; simp only [apure, ev_frL, hx, ev_c]
theorem Ev.app {fr : Fr} {p : POp} {v : AV} (h : Ev l p v) (hf : Has fr l) : apure fr p = some v := apure_mono hf.sub h
end
end Go.Abs
namespace Go.Abs
open Go
section
variable (P : Program) (nd : Bool)
def CT (f : FuncId) (args : List AV) (K : Mem) (Q : AV → Mem → Prop) : Prop := ∀ s, Hd s K → MX P nd f args s fun v s' => ∃ K', Hd s' K' ∧ Frm s.next s K s' K' ∧ Q v K'
def Rg (ops : List AOper) (l : SL) (K : Mem) (Q : SL → Mem → Prop) : Prop := ∀ B id fr s, Has fr l → Hd s K → B ≤ id → id + ops.length ≤ s.next → (∀ j, id ≤ j → j < id + ops.length → j ∉ idsM K) →
 awregs P nd id ops fr s fun fr' s' => ∃ l' K', Has fr' l' ∧ Hd s' K' ∧ Frm B s K s' K' ∧ Q l' K'
def Cd (c : ACode) (l : SL) (K : Mem) (Q : AX → SL → Mem → Prop) : Prop := ∀ fr s, Has fr l → Hd s K → awp P nd c fr s fun x fr' s' => ∃ l' K', Has fr' l' ∧ Hd s' K' ∧ Frm s.next s K s' K' ∧ Q x l' K'
def Lp (b : ACode) (k : Nat) (l : SL) (K : Mem) (Q : AX → SL → Mem → Prop) : Prop := ∀ fr s, Has fr l → Hd s K → awl (awp P nd b) k fr s fun x fr' s' => ∃ l' K', Has fr' l' ∧ Hd s' K' ∧ Frm s.next s K s' K' ∧ Q x l' K'
end
section
variable {P : Program} {nd : Bool} {l : SL} {K : Mem}
theorem CT.up {f : FuncId} {args : List AV} {Q : AV → Mem → Prop} (h : CT P false f args K Q) : CT P nd f args K Q := fun s hs => (h s hs).up
theorem CT.mono {f : FuncId} {args : List AV} {Q R : AV → Mem → Prop} (h : CT P nd f args K Q) (k : ∀ v K, Q v K → R v K) : CT P nd f args K R :=
 fun s hs => (h s hs).mono fun v s' _ ⟨K', h1, h2, h3⟩ => ⟨K', h1, h2, k _ _ h3⟩
theorem CT.sel {f : FuncId} {args : List AV} {m r : Mem} {Q : AV → Mem → Prop} (h : CT P nd f args m Q) (hs : Sel K m r) : CT P nd f args K fun v K' => ∃ m', K' = m' ++ r ∧ Q v m' := by
 intro s hd
 have hd2 := hd.perm hs.perm
 refine (h s hd2.left).mono fun v s' _ ⟨K', h1, h2, h3⟩ => ?_
 obtain ⟨h4, h5⟩ := hd2.frame h1 h2 fun id hi => hd2.right.lt hi
 refine ⟨K' ++ r, h4, ⟨h5.next, fun id hi hn => h5.old id hi fun hm => hn ((ids_perm hs.perm).mem_iff.2 hm), fun id hi => ?_⟩, K', rfl, h3⟩
 rcases h5.new id hi with h6 | h6
 ·exact .inl ((ids_perm hs.perm).mem_iff.2 h6)
 ·exact .inr h6
theorem CT.told {g : CallF} (hg : Sound P g) {f : FuncId} {args : List AV} {v : AV} (h : ans (g f args ⟨.e, 0⟩) = some v) (hv : flatV v = true) (ha : args = []) : CT P nd f args [] fun w K' => K' = [] ∧ w = v := by
 intro s hs
 subst ha
 have := closed_sound hg h hv [] s v s rfl
 exact MX.of_det this ⟨[], hs, Frm.refl _ _ _, rfl, rfl⟩
theorem Rg.nil {Q : SL → Mem → Prop} (h : Q l K) : Rg P nd [] l K Q := fun B id fr s hf hd _ _ _ => ⟨l, K, hf, hd, Frm.refl _ _ _, h⟩
theorem Rg.gen {o : AOp} {os : List AOper} {d : Option Nat} {pre : Nat} {Q : SL → Mem → Prop}
  (h : ∀ B id fr s, Has fr l → Hd s K → B ≤ id → id < s.next → id ∉ idsM K → awop P nd id fr s o fun v s' => ∃ K2, Hd s' K2 ∧ Frm B s K s' K2 ∧ (∀ j, id < j → j < s.next → j ∉ idsM K → j ∉ idsM K2) ∧ Rg P nd os (putL l d v) K2 Q) : Rg P nd (⟨d, o, none, pre⟩ :: os) l K Q := by
 intro B id fr s hf hd hB hl hfree
 simp only [List.length_cons] at hl hfree
 simp only [awregs, wants]
 refine awop_mono (h B id fr s hf hd hB (by omega) (hfree id (Nat.le_refl _) (by omega))) ?_
 rintro v s' ⟨K2, h1, h2, h3, h4⟩
 refine awregs_mono (h4 B (id + 1) _ s' (hf.put d v) h1 (by omega) (by have := h2.next; omega) (fun j j1 j2 => h3 j (by omega) (by omega) (hfree j (by omega) (by omega)))) ?_
 rintro fr' s2 ⟨l', K', g1, g2, g3, g4⟩
 exact ⟨l', K', g1, g2, h2.trans g3 (Nat.le_refl _), g4⟩
theorem Rg.p {p : POp} {os : List AOper} {d : Option Nat} {pre : Nat} {v : AV} {Q : SL → Mem → Prop} (h : Ev l p v) (k : Rg P nd os (putL l d v) K Q) : Rg P nd (⟨d, .p p, none, pre⟩ :: os) l K Q := by
 refine Rg.gen fun B id fr s hf hd hB hl hi => .inl ⟨noCall, v, s, noCall_sound, ?_, K, hd, Frm.refl _ _ _, fun j _ _ hj => hj, k⟩
 simp only [aop, h.app hf]
theorem Rg.r {kk : RK} {x y : AO} {os : List AOper} {d : Option Nat} {pre : Nat} {a b v : AV} {Q : SL → Mem → Prop} (hx : x.evL l = some a) (hy : y.evL l = some b) (h : Rdk K kk a b v) (k : Rg P nd os (putL l d v) K Q) : Rg P nd (⟨d, .r kk x y, none, pre⟩ :: os) l K Q := by
 refine Rg.gen fun B id fr s hf hd hB hl hi => .inl ⟨noCall, v, s, noCall_sound, ?_, K, hd, Frm.refl _ _ _, fun j _ _ hj => hj, k⟩
 simp only [aop, evL_ev hf hx, evL_ev hf hy, h s hd]
def Mk (l : SL) (p : LOp) (o : AObj) (v : Nat → AV) : Prop := ∀ id, amake (frL l) id p = some (o, v id)
theorem Mk.alloc {zs : List AV} : Mk l (.alloc zs) (.cells zs 0 0 false) fun b => .ptr b 0 0 zs.length := fun _ => rfl
theorem Mk.box {x : AO} {a : AV} (hx : x.evL l = some a) (hp : plainV a = true) : Mk l (.box x) (.cells (cellsOf a) 0 0 false) fun b => .ptr b 0 0 (cellsOf a).length := fun id => by simp only [amake, ev_frL, hx, hp, cond_true]
theorem Mk.lits {len sz : Nat} {zs : List AV} {parts : List (Nat × Nat × AO)} {cs : List AV} (h : fillL l (rep zs len) parts = some cs) : Mk l (.lits len sz zs parts) (.cells cs 0 0 false) fun b => .slc b 0 0 len len sz := fun id => by simp only [amake, fillL_eq, h]
theorem Mk.mkmap : Mk l .mkmap (.map [] 0) fun b => .map b := fun _ => rfl
theorem Mk.mkslc {sz bytes : Nat} {zs : List AV} {x y : AO} {kx ky : IntKind} {m c : Nat} (hx : x.evL l = some (.int kx (.ofNat m))) (hy : y.evL l = some (.int ky (.ofNat c))) (h1 : m ≤ c) (h2 : c * (bytes + 1) ≤ lim) :
  Mk l (.mkslc sz bytes zs x y) (.cells (rep zs c) 0 0 false) fun b => .slc b 0 0 m c sz := fun id => by
 simp only [amake, ev_frL, hx, hy, natOf]
 rw [show (Nat.ble m c && Nat.ble (c * (bytes + 1)) lim) = true by rw [Nat.ble_eq_true_of_le h1, Nat.ble_eq_true_of_le h2]; rfl]
 rfl
theorem Mk.s2b {x : AO} {b : List Nat} (hx : x.evL l = some (.str b)) (hl : b.length ≤ lim) : Mk l (.s2b x) (.cells (b.map fun c => .int .u8 (.ofNat c)) 0 0 true) fun id => .slc id 0 0 b.length b.length 1 := fun id => by
 simp only [amake, ev_frL, hx, Nat.ble_eq_true_of_le hl, cond_true]
theorem Rg.a {p : LOp} {os : List AOper} {d : Option Nat} {pre : Nat} {o : AObj} {v : Nat → AV} {Q : SL → Mem → Prop} (h : Mk l p o v) (k : ∀ b, Rg P nd os (putL l d (v b)) ([(b, o)] :: K) Q) : Rg P nd (⟨d, .a p, none, pre⟩ :: os) l K Q := by
 refine Rg.gen fun B id fr s hf hd hB hl hi => .inl ⟨noCall, v id, s.put id o, noCall_sound, ?_, _, (hd.alloc hi hl hB o).1, (hd.alloc hi hl hB o).2, ?_, k id⟩
 ·simp only [aop, amake_mono hf.sub (h id)]
 ·intro j h1 h2 hj hm
  rw [ids_cons] at hm
  simp only [List.map_cons, List.map_nil, List.singleton_append, List.mem_cons] at hm
  rcases hm with rfl | hm
  ·omega
  ·exact hj hm
theorem Rg.alloc {zs : List AV} {os : List AOper} {d : Option Nat} {pre : Nat} {Q : SL → Mem → Prop} (k : ∀ b, Rg P nd os (putL l d (.ptr b 0 0 zs.length)) ([(b, .cells zs 0 0 false)] :: K) Q) : Rg P nd (⟨d, .a (.alloc zs), none, pre⟩ :: os) l K Q := Rg.a Mk.alloc k
theorem Rg.box {x : AO} {a : AV} {os : List AOper} {d : Option Nat} {pre : Nat} {Q : SL → Mem → Prop} (hx : x.evL l = some a) (hp : plainV a = true) (k : ∀ b, Rg P nd os (putL l d (.ptr b 0 0 (cellsOf a).length)) ([(b, .cells (cellsOf a) 0 0 false)] :: K) Q) : Rg P nd (⟨d, .a (.box x), none, pre⟩ :: os) l K Q := Rg.a (Mk.box hx hp) k
def Ef (P : Program) (l : SL) (M : Mem) (e : EOp) (R : AV → Mem → Prop) : Prop := ∀ fr s, Has fr l → Hd s M → ∃ call v s' K2, Sound P call ∧ aeff call fr s e = some (v, s') ∧ Hd s' K2 ∧ Frm s.next s M s' K2 ∧ R v K2
theorem Ef.mono {M : Mem} {e : EOp} {R T : AV → Mem → Prop} (h : Ef P l M e R) (k : ∀ v K, R v K → T v K) : Ef P l M e T := fun fr s hf hd => by
 obtain ⟨c, v, s', K2, h1, h2, h3, h4, h5⟩ := h fr s hf hd
 exact ⟨c, v, s', K2, h1, h2, h3, h4, k _ _ h5⟩
theorem Ef.put {M K' : Mem} {e : EOp} {v : AV} {b : Nat} {o o' : AObj} (hK : Upd M b o o' K') (h : ∀ s, s.objs.get b = some o → aeff noCall (frL l) s e = some (v, s.put b o')) : Ef P l M e fun v1 K2 => v1 = v ∧ K2 = K' := fun fr s hf hd =>
 ⟨noCall, v, _, K', noCall_sound, aeff_mono hf.sub (h s (hd.got _ _ hK.in).1), (hd.upd hK s.next).1, (hd.upd hK s.next).2, rfl, rfl⟩
theorem Ef.zero {M : Mem} {e : EOp} {v : AV} (h : ∀ s, Hd s M → aeff noCall (frL l) s e = some (v, s)) : Ef P l M e fun v1 K2 => v1 = v ∧ K2 = M := fun fr s hf hd =>
 ⟨noCall, v, s, M, noCall_sound, aeff_mono hf.sub (h s hd), hd, Frm.refl _ _ _, rfl, rfl⟩
theorem Hd.more {s : St} {K : Mem} (h : Hd s K) (n : Nat) : Hd { s with next := s.next + n } K := ⟨h.nodup, fun b o hb => ⟨(h.got b o hb).1, Nat.lt_of_lt_of_le (h.got b o hb).2 (Nat.le_add_right _ _)⟩⟩
theorem Ef.new {M : Mem} {e : EOp} {v : Nat → AV} {o : AObj} (h : ∀ s, Hd s M → aeff noCall (frL l) s e = some (v s.next, s.new o)) : Ef P l M e fun v1 K2 => ∃ b, v1 = v b ∧ K2 = [(b, o)] :: M := fun fr s hf hd => by
 obtain ⟨a1, a2⟩ := (hd.more 1).alloc (id := s.next) (B := s.next) (fun hm => Nat.lt_irrefl _ (hd.lt hm)) (Nat.lt_succ_self _) (Nat.le_refl _) o
 exact ⟨noCall, v s.next, s.new o, _, noCall_sound, aeff_mono hf.sub (h s hd), a1, ⟨Nat.le_succ _, a2.old, a2.new⟩, s.next, rfl, rfl⟩
theorem Ef.call {M m r : Mem} {f : FuncId} {xs : List AO} {vs : List AV} {R : AV → Mem → Prop} (hx : evsL l xs = some vs) (h : CT P false f vs m R) (hs : Sel M m r) : Ef P l M (.call f xs) fun v K2 => ∃ m', K2 = m' ++ r ∧ R v m' := fun fr s hf hd => by
 obtain ⟨v, s', hm, K', h1, h2, h3⟩ := h.sel hs s hd
 refine ⟨detOne f vs s v s', v, s', K', detOne_sound hm, ?_, h1, h2, h3⟩
 simp only [aeff, evsL_evs hf hx, detOne_at]
theorem Ef.callv {M m r : Mem} {f : AO} {g : FuncId} {first cap : List AV} {xs : List AO} {vs : List AV} {R : AV → Mem → Prop} (hf1 : f.evL l = some (.fn g first cap)) (hx : evsL l xs = some vs) (h : CT P false g (first ++ vs ++ cap) m R) (hs : Sel M m r) : Ef P l M (.callv f xs) fun v K2 => ∃ m', K2 = m' ++ r ∧ R v m' := fun fr s hf hd => by
 obtain ⟨v, s', hm, K', h1, h2, h3⟩ := h.sel hs s hd
 refine ⟨detOne g (first ++ vs ++ cap) s v s', v, s', K', detOne_sound hm, ?_, h1, h2, h3⟩
 simp only [aeff, evL_ev hf hf1, evsL_evs hf hx, detOne_at]
theorem Ef.store {M K' : Mem} {m : Nat} {x y : AO} {b g w off lm : Nat} {gr : Bool} {cs : List AV} {v : AV} (hx : x.evL l = some (.ptr b g off lm)) (hy : y.evL l = some v)
  (hK : Upd M b (.cells cs g w gr) (.cells (setSeg cs off (cellsOf v)) g g gr) K') (h1 : plainV v = true) (h2 : (cellsOf v).length = m) (h3 : m ≤ lm) (h4 : off + m ≤ cs.length) : Ef P l M (.store m x y) fun v1 K2 => v1 = .tup [] ∧ K2 = K' := by
 refine Ef.put hK fun s hs => ?_
 have e2 : Nat.beq (cellsOf v).length m = true := by rw [h2]; simp
 have e3 : Nat.ble m lm = true := Nat.ble_eq_true_of_le h3
 have e4 : wr s b g off (cellsOf v) = some (s.put b (.cells (setSeg cs off (cellsOf v)) g g gr)) := wr_some hs (by rw [h2]; exact h4)
 simp only [aeff, ev_frL, hx, hy, h1, e2, e3, Bool.and_self, cond_true, e4]
theorem Rg.e {e : EOp} {os : List AOper} {d : Option Nat} {pre : Nat} {R : AV → Mem → Prop} {Q : SL → Mem → Prop} (h : Ef P l K e R) (k : ∀ v K2, R v K2 → Rg P nd os (putL l d v) K2 Q) : Rg P nd (⟨d, .e e, none, pre⟩ :: os) l K Q := by
 refine Rg.gen fun B id fr s hf hd hB hl hi => ?_
 obtain ⟨c, v, s', K2, h1, h2, h3, h4, h5⟩ := h fr s hf hd
 refine .inl ⟨c, v, s', h1, h2, K2, h3, ⟨h4.next, fun id hi => h4.old id (by omega), fun id hm => (h4.new id hm).imp_right fun h => by omega⟩, ?_, k v K2 h5⟩
 intro j j1 j2 hj hm
 rcases h4.new j hm with h | h
 ·exact hj h
 ·omega
theorem Rg.store {m : Nat} {x y : AO} {os : List AOper} {d : Option Nat} {pre b g w off lm : Nat} {gr : Bool} {cs : List AV} {v : AV} {K' : Mem} {Q : SL → Mem → Prop} (hx : x.evL l = some (.ptr b g off lm)) (hy : y.evL l = some v)
  (hK : Upd K b (.cells cs g w gr) (.cells (setSeg cs off (cellsOf v)) g g gr) K') (h1 : plainV v = true) (h2 : (cellsOf v).length = m) (h3 : m ≤ lm) (h4 : off + m ≤ cs.length) (k : Rg P nd os (putL l d (.tup [])) K' Q) :
  Rg P nd (⟨d, .e (.store m x y), none, pre⟩ :: os) l K Q := Rg.e (Ef.store hx hy hK h1 h2 h3 h4) fun v K2 ⟨e1, e2⟩ => by subst e1 e2; exact k
theorem Rg.callM {f : FuncId} {xs : List AO} {os : List AOper} {d : Option Nat} {pre : Nat} {vs : List AV} {m r : Mem} {R : AV → Mem → Prop} {Q : SL → Mem → Prop} (hx : evsL l xs = some vs) (h : CT P nd f vs m R) (hs : Sel K m r) (k : ∀ v m', R v m' → Rg P nd os (putL l d v) (m' ++ r) Q) :
  Rg P nd (⟨d, .e (.call f xs), none, pre⟩ :: os) l K Q := by
 refine Rg.gen fun B id fr s hf hd hB hl hi => .inr ⟨vs, evsL_evs hf hx, ?_⟩
 refine (h.sel hs s hd).mono fun v s' _ ⟨K', h1, h2, m', e, h3⟩ => ?_
 subst e
 refine ⟨_, h1, ⟨h2.next, fun id hi => h2.old id (by omega), fun id hm => (h2.new id hm).imp_right fun h => by omega⟩, ?_, k v m' h3⟩
 intro j j1 j2 hj hm
 rcases h2.new j hm with h | h
 ·exact hj h
 ·omega
theorem Rg.callvM {f : AO} {g : FuncId} {first cap : List AV} {xs : List AO} {os : List AOper} {d : Option Nat} {pre : Nat} {vs : List AV} {m r : Mem} {R : AV → Mem → Prop} {Q : SL → Mem → Prop} (hf : f.evL l = some (.fn g first cap)) (hx : evsL l xs = some vs) (h : CT P nd g (first ++ vs ++ cap) m R) (hs : Sel K m r) (k : ∀ v m', R v m' → Rg P nd os (putL l d v) (m' ++ r) Q) :
  Rg P nd (⟨d, .e (.callv f xs), none, pre⟩ :: os) l K Q := by
 refine Rg.gen fun B id fr s hfr hd hB hl hi => .inr ⟨g, first, cap, vs, evL_ev hfr hf, evsL_evs hfr hx, ?_⟩
 refine (h.sel hs s hd).mono fun v s' _ ⟨K', h1, h2, m', e, h3⟩ => ?_
 subst e
 refine ⟨_, h1, ⟨h2.next, fun id hi => h2.old id (by omega), fun id hm => (h2.new id hm).imp_right fun h => by omega⟩, ?_, k v m' h3⟩
 intro j j1 j2 hj hm
 rcases h2.new j hm with h | h
 ·exact hj h
 ·omega
abbrev PT (P : Program) (nd : Bool) (f : FuncId) (args : List AV) (v : AV) : Prop := CT P nd f args [] fun w K' => K' = [] ∧ w = v
theorem Rg.call {f : FuncId} {xs : List AO} {os : List AOper} {d : Option Nat} {pre : Nat} {vs : List AV} {v : AV} {Q : SL → Mem → Prop} (hx : evsL l xs = some vs) (h : PT P nd f vs v) (k : Rg P nd os (putL l d v) K Q) : Rg P nd (⟨d, .e (.call f xs), none, pre⟩ :: os) l K Q :=
 Rg.callM hx h .nil fun w m' ⟨e1, e2⟩ => by subst e1 e2; exact k
theorem Rg.callv {f : AO} {g : FuncId} {first cap : List AV} {xs : List AO} {os : List AOper} {d : Option Nat} {pre : Nat} {vs : List AV} {v : AV} {Q : SL → Mem → Prop} (hf : f.evL l = some (.fn g first cap)) (hx : evsL l xs = some vs) (h : PT P nd g (first ++ vs ++ cap) v) (k : Rg P nd os (putL l d v) K Q) : Rg P nd (⟨d, .e (.callv f xs), none, pre⟩ :: os) l K Q :=
 Rg.callvM hf hx h .nil fun w m' ⟨e1, e2⟩ => by subst e1 e2; exact k
theorem Rg.guardT {op : AOp} {os : List AOper} {d : Option Nat} {pre t : Nat} {w : Bool} {Q : SL → Mem → Prop} (ht : lkS l t = some (.tup [])) (h : Rg P nd os (putL l d (.tup [])) K Q) : Rg P nd (⟨d, op, some (t, w), pre⟩ :: os) l K Q := by
 intro B id fr s hf hd hB hl hfree
 simp only [List.length_cons] at hl hfree
 simp only [awregs, wants, hf t _ ht]
 exact h B (id + 1) _ s (hf.put d _) hd (by omega) (by omega) fun j h1 h2 => hfree j (by omega) (by omega)
theorem Rg.guardY {op : AOp} {os : List AOper} {d : Option Nat} {pre t : Nat} {w : Bool} {Q : SL → Mem → Prop} (ht : lkS l t = some (.bool w)) (h : Rg P nd (⟨d, op, none, pre⟩ :: os) l K Q) : Rg P nd (⟨d, op, some (t, w), pre⟩ :: os) l K Q := by
 intro B id fr s hf hd hB hl hfree
 have := h B id fr s hf hd hB hl hfree
 simp only [awregs, wants] at this
 simp only [awregs, wants, hf t _ ht, beq_self_eq_true]
 exact this
theorem Rg.guardN {op : AOp} {os : List AOper} {d : Option Nat} {pre t : Nat} {w : Bool} {Q : SL → Mem → Prop} (ht : lkS l t = some (.bool !w)) (h : Rg P nd os (putL l d (.tup [])) K Q) : Rg P nd (⟨d, op, some (t, w), pre⟩ :: os) l K Q := by
 intro B id fr s hf hd hB hl hfree
 simp only [List.length_cons] at hl hfree
 simp only [awregs, wants, hf t _ ht]
 rw [show ((!w) == w) = false by cases w <;> rfl]
 exact h B (id + 1) _ s (hf.put d _) hd (by omega) (by omega) fun j h1 h2 => hfree j (by omega) (by omega)
theorem frm_sel {s s' : St} {m r K' : Mem} (hs : Sel K m r) (h : Frm s.next s m s' K') : Frm s.next s K s' K' :=
 ⟨h.next, fun id hi hn => h.old id hi fun hm => hn ((ids_perm hs.perm).mem_iff.2 (by rw [ids_app]; exact List.mem_append_left _ hm)), fun id hm => (h.new id hm).imp_left fun h => (ids_perm hs.perm).mem_iff.2 (by rw [ids_app]; exact List.mem_append_left _ h)⟩
theorem Cd.drop {c : ACode} {m r : Mem} {Q : AX → SL → Mem → Prop} (hs : Sel K m r) (h : Cd P nd c l m Q) : Cd P nd c l K Q := by
 intro fr s hf hd
 refine awp_mono (h fr s hf (hd.perm hs.perm).left) ?_
 rintro x fr' s' ⟨l', K', h1, h2, h3, h4⟩
 exact ⟨l', K', h1, h2, frm_sel hs h3, h4⟩
theorem Cd.mono {c : ACode} {Q R : AX → SL → Mem → Prop} (h : Cd P nd c l K Q) (k : ∀ x l K, Q x l K → R x l K) : Cd P nd c l K R :=
 fun fr s hf hd => awp_mono (h fr s hf hd) fun x fr' s' ⟨l', K', h1, h2, h3, h4⟩ => ⟨l', K', h1, h2, h3, k _ _ _ h4⟩
theorem Cd.skip {Q : AX → SL → Mem → Prop} (h : Q .nrm l K) : Cd P nd .skip l K Q := fun fr s hf hd => ⟨l, K, hf, hd, Frm.refl _ _ _, h⟩
theorem Cd.ret {Q : AX → SL → Mem → Prop} (h : Q .ret l K) : Cd P nd .ret l K Q := fun fr s hf hd => ⟨l, K, hf, hd, Frm.refl _ _ _, h⟩
theorem Cd.ext {j : Nat} {Q : AX → SL → Mem → Prop} (h : Q (.ext j) l K) : Cd P nd (.ext j) l K Q := fun fr s hf hd => ⟨l, K, hf, hd, Frm.refl _ _ _, h⟩
theorem Cd.goto {j : Nat} {Q : AX → SL → Mem → Prop} (h : Q (.goto j) l K) : Cd P nd (.goto j) l K Q := fun fr s hf hd => ⟨l, K, hf, hd, Frm.refl _ _ _, h⟩
theorem Cd.reg {ops : List AOper} {Q : AX → SL → Mem → Prop} (h : Rg P nd ops l K (fun l K => Q .nrm l K)) : Cd P nd (.reg ops) l K Q := by
 intro fr s hf hd
 refine awregs_mono (h s.next s.next fr _ hf (hd.more _) (Nat.le_refl _) (Nat.le_refl _) fun j h1 h2 hm => by have := hd.lt hm; omega) ?_
 rintro fr' s' ⟨l', K', h1, h2, h3, h4⟩
 exact ⟨l', K', h1, h2, ⟨by have := h3.next; simp at this; omega, h3.old, h3.new⟩, h4⟩
theorem Cd.seq {a b : ACode} {Q : AX → SL → Mem → Prop} (h : Cd P nd a l K (fun x l K => thenW x (Cd P nd b l K Q) (Q x l K))) : Cd P nd (.seq a b) l K Q := by
 intro fr s hf hd
 show awp P nd a fr s _
 refine awp_mono (h fr s hf hd) ?_
 rintro x fr' s' ⟨l', K', h1, h2, h3, h4⟩
 cases x with
 | nrm =>
  refine awp_mono (h4 fr' s' h1 h2) ?_
  rintro x fr2 s2 ⟨l2, K2, g1, g2, g3, g4⟩
  exact ⟨l2, K2, g1, g2, h3.trans g3 h3.next, g4⟩
 | ext j => exact ⟨l', K', h1, h2, h3, h4⟩
 | goto j => exact ⟨l', K', h1, h2, h3, h4⟩
 | ret => exact ⟨l', K', h1, h2, h3, h4⟩
theorem Cd.cond {c : AO} {a b : ACode} {t : Bool} {Q : AX → SL → Mem → Prop} (hc : c.evL l = some (.bool t)) (h1 : t = true → Cd P nd a l K Q) (h2 : t = false → Cd P nd b l K Q) : Cd P nd (.cond c a b) l K Q := by
 intro fr s hf hd
 have := evL_ev hf hc
 simp only [awp, this]
 cases t with
 | true => exact h1 rfl fr s hf hd
 | false => exact h2 rfl fr s hf hd
theorem Cd.condT {c : AO} {a b : ACode} {Q : AX → SL → Mem → Prop} (hc : c.evL l = some (.bool true)) (h1 : Cd P nd a l K Q) : Cd P nd (.cond c a b) l K Q := Cd.cond hc (fun _ => h1) (fun e => by cases e)
theorem Cd.condF {c : AO} {a b : ACode} {Q : AX → SL → Mem → Prop} (hc : c.evL l = some (.bool false)) (h1 : Cd P nd b l K Q) : Cd P nd (.cond c a b) l K Q := Cd.cond hc (fun e => by cases e) (fun _ => h1)
theorem Cd.blk {i : Nat} {b : ACode} {Q : AX → SL → Mem → Prop} (h : Cd P nd b l K (fun x l K => outW i x (fun x => Q x l K))) : Cd P nd (.blk i b) l K Q := by
 intro fr s hf hd
 show awp P nd b fr s _
 refine awp_mono (h fr s hf hd) ?_
 rintro x fr' s' ⟨l', K', h1, h2, h3, h4⟩
 exact outW_mono h4 fun x h4 => ⟨l', K', h1, h2, h3, h4⟩
theorem Cd.scp {b : ACode} {Q : AX → SL → Mem → Prop} (h : Cd P nd b l K (fun x l K => noGoto x (fun x => Q x l K))) : Cd P nd (.scp b) l K Q := by
 intro fr s hf hd
 show awp P nd b fr s _
 refine awp_mono (h fr s hf hd) ?_
 rintro x fr' s' ⟨l', K', h1, h2, h3, h4⟩
 exact noGoto_mono h4 fun x h4 => ⟨l', K', h1, h2, h3, h4⟩
theorem Cd.scpj {lb : Nat} {b c : ACode} {Q : AX → SL → Mem → Prop} (h : Cd P nd b l K (fun x l K => jumpW lb x (Cd P nd c l K (fun x l K => noGoto x (fun x => Q x l K))) (fun x => Q x l K))) : Cd P nd (.scpj lb b c) l K Q := by
 intro fr s hf hd
 show awp P nd b fr s _
 refine awp_mono (h fr s hf hd) ?_
 rintro x fr' s' ⟨l', K', h1, h2, h3, h4⟩
 refine jumpW_mono h4 ?_ fun x h4 => ⟨l', K', h1, h2, h3, h4⟩
 intro h4
 refine awp_mono (h4 fr' s' h1 h2) ?_
 rintro x fr2 s2 ⟨l2, K2, g1, g2, g3, g4⟩
 exact noGoto_mono g4 fun x g4 => ⟨l2, K2, g1, g2, h3.trans g3 h3.next, g4⟩
theorem Cd.loop {b : ACode} {k : Nat} {Q : AX → SL → Mem → Prop} (h : Lp P nd b k l K Q) : Cd P nd (.loop b) l K Q := fun fr s hf hd => ⟨k, h fr s hf hd⟩
theorem awlp_mono {b : ACode} {n : Nat} {fr : Fr} {s : St} {Q R : AX → Fr → St → Prop} (h : awl (awp P nd b) n fr s Q) (k : ∀ x fr s, Q x fr s → R x fr s) : awl (awp P nd b) n fr s R :=
 awl_mono (b := awp P nd b) (fun fr s Q R h k => awp_mono (c := b) h k) h k
theorem Lp.drop {b : ACode} {k : Nat} {m r : Mem} {Q : AX → SL → Mem → Prop} (hs : Sel K m r) (h : Lp P nd b k l m Q) : Lp P nd b k l K Q := by
 intro fr s hf hd
 refine awlp_mono (h fr s hf (hd.perm hs.perm).left) ?_
 rintro x fr' s' ⟨l', K', h1, h2, h3, h4⟩
 exact ⟨l', K', h1, h2, frm_sel hs h3, h4⟩
theorem Lp.mono {b : ACode} {k : Nat} {Q R : AX → SL → Mem → Prop} (h : Lp P nd b k l K Q) (j : ∀ x l K, Q x l K → R x l K) : Lp P nd b k l K R :=
 fun fr s hf hd => awlp_mono (h fr s hf hd) fun x fr' s' ⟨l', K', h1, h2, h3, h4⟩ => ⟨l', K', h1, h2, h3, j _ _ _ h4⟩
theorem Lp.round {b : ACode} {k : Nat} {Q : AX → SL → Mem → Prop} (h : Cd P nd b l K (fun x l K => thenW x (Lp P nd b k l K Q) (Q x l K))) : Lp P nd b (k + 1) l K Q := by
 intro fr s hf hd
 refine awp_mono (h fr s hf hd) ?_
 rintro x fr' s' ⟨l', K', h1, h2, h3, h4⟩
 cases x with
 | nrm =>
  refine awlp_mono (h4 fr' s' h1 h2) ?_
  rintro x fr2 s2 ⟨l2, K2, g1, g2, g3, g4⟩
  exact ⟨l2, K2, g1, g2, h3.trans g3 h3.next, g4⟩
 | ext j => exact ⟨l', K', h1, h2, h3, h4⟩
 | goto j => exact ⟨l', K', h1, h2, h3, h4⟩
 | ret => exact ⟨l', K', h1, h2, h3, h4⟩
theorem Lp.frame {b : ACode} {k : Nat} {m r : Mem} {Q : AX → SL → Mem → Prop} (hs : Sel K m r) (h : Lp P nd b k l m Q) : Lp P nd b k l K (fun x l K' => ∃ m', K' = m' ++ r ∧ Q x l m') := by
 intro fr s hf hd
 have hd2 := hd.perm hs.perm
 refine awlp_mono (h fr s hf hd2.left) ?_
 rintro x fr' s' ⟨l', K', h1, h2, h3, h4⟩
 obtain ⟨h5, h6⟩ := hd2.frame h2 h3 fun id hi => hd2.right.lt hi
 refine ⟨l', K' ++ r, h1, h5, ⟨h6.next, fun id hi hn => h6.old id hi fun hm => hn ((ids_perm hs.perm).mem_iff.2 hm), fun id hi => (h6.new id hi).imp_left fun h => (ids_perm hs.perm).mem_iff.2 h⟩, K', rfl, h4⟩
inductive ResK (l : SL) (K : Mem) : List RV → List AV → Prop
 | nil : ResK l K [] []
 | t {n : Nat} {v : AV} {rs : List RV} {vs : List AV} : lkS l n = some v → ResK l K rs vs → ResK l K (.t n :: rs) (v :: vs)
 | c1 {n : Nat} {a v : AV} {rs : List RV} {vs : List AV} : lkS l n = some a → Rdk K .load1 a a v → ResK l K rs vs → ResK l K (.c1 n :: rs) (v :: vs)
 | cn {n k : Nat} {a v : AV} {rs : List RV} {vs : List AV} : lkS l n = some a → Rdk K (.loadn k) a a v → ResK l K rs vs → ResK l K (.cn n k :: rs) (v :: vs)
theorem ResK.res {fr : Fr} {s : St} (hf : Has fr l) (hd : Hd s K) {rs : List RV} {vs : List AV} (h : ResK l K rs vs) : aress fr s rs = some vs := by
 induction h with
 | nil => rfl
 | t h1 _ ih => simp only [aress, ares, hf _ _ h1, ih]
 | c1 h1 h2 _ ih => simp only [aress, ares, hf _ _ h1, h2 s hd, ih]
 | cn h1 h2 _ ih => simp only [aress, ares, hf _ _ h1, h2 s hd, ih]
def DoneK (rs : List RV) (Q : AV → Mem → Prop) (x : AX) (l : SL) (K : Mem) : Prop := (x = .nrm ∨ x = .ret) ∧ ∃ vs, ResK l K rs vs ∧ Q (packL vs) K
theorem CT.enter (hM : P.follows .mixedOrders = true) {f : FuncId} {fn : AFunc} {args : List AV} {Q : AV → Mem → Prop} (hc : comp P f = some fn) (hn : args.length ≤ fn.ntmps) (h : Cd P nd fn.body (args.zipIdx 0 |>.map fun p => (p.2, p.1)) K (DoneK fn.results Q)) : CT P nd f args K Q := by
 intro s hd
 refine MX.enter hM hc hn (awp_mono (h _ s (has_frOf 0 args) hd) ?_)
 rintro x fr' s' ⟨l', K', h1, h2, h3, hx, vs, h4, h5⟩
 refine ⟨hx, vs, h4.res h1 h2, K', h2, h3, ?_⟩
 rcases vs with _ | ⟨v, _ | ⟨w, vs⟩⟩ <;> exact h5
theorem CT.law {f : FuncId} {args : List AV} (h : CT P nd f args [] fun v _ => v = .bool true) : MCall P f args ⟨.e, 0⟩ fun v _ => v = .bool true := by
 have := (h ⟨.e, 0⟩ ⟨by simp [idsM], by simp⟩).call
 exact this.mono fun v s' _ ⟨K', _, _, e⟩ => e
end
end Go.Abs
namespace Go.Abs
open Go
def EffsR : List (Nat × Mem) → List (Nat × St) → Prop
 | [], [] => True
 | (i, K) :: a, (j, s) :: b => i = j ∧ Hd s K ∧ EffsR a b
 | _, _ => False
def rdsOkK (pre : Nat) (K : Mem) : List Rd → Prop
 | [] => True
 | r :: rs => (Nat.testBit pre r.i = true ∨ Rdk K r.k r.x r.y r.v) ∧ rdsOkK pre K rs
def efsOkK (pre : Nat) (kk : RK) (x y v : AV) : List (Nat × Mem) → Prop
 | [] => True
 | (j, K) :: rs => (Nat.testBit pre j = true ∨ Rdk K kk x y v) ∧ efsOkK pre kk x y v rs
theorem rdsOkK_ok {pre : Nat} {K : Mem} {s : St} (hd : Hd s K) : ∀ {rs : List Rd}, rdsOkK pre K rs → readsOk pre s rs = true
 | [], _ => rfl
 | r :: rs, h => by
  obtain ⟨h1, h2⟩ := h
  rcases h1 with h1 | h1
  ·exact readsOk_bit h1 (rdsOkK_ok hd h2)
  ·exact readsOk_re (h1 s hd) (rdsOkK_ok hd h2)
theorem efsOkK_ok {pre : Nat} {kk : RK} {x y v : AV} : ∀ {a : List (Nat × Mem)} {b : List (Nat × St)}, EffsR a b → efsOkK pre kk x y v a → effsOk pre kk x y v b = true
 | [], [], _, _ => rfl
 | [], _ :: _, h, _ => h.elim
 | (i, K) :: a, [], h, _ => h.elim
 | (i, K) :: a, (j, s) :: b, h, k => by
  obtain ⟨rfl, hd, h⟩ := h
  obtain ⟨k1, k2⟩ := k
  rcases k1 with k1 | k1
  ·exact effsOk_bit k1 (efsOkK_ok h k2)
  ·exact effsOk_re (k1 s hd) (efsOkK_ok h k2)
def Dw (P : Program) (i : Nat) (ops : List AOper) (l : SL) (K Kp : Mem) (efs : List (Nat × Mem)) (rds : List Rd) (Q : SL → Mem → Prop) : Prop :=
 ∀ B id fr s pend effs, Has fr l → Hd s K → Hd (flush s pend) (Kp ++ K) → EffsR efs effs → B ≤ id → id + ops.length ≤ s.next → (∀ j, id ≤ j → j < id + ops.length → j ∉ idsM (Kp ++ K)) →
  awdraws P id i ops ⟨fr, s, pend, effs, rds⟩ fun d => ∃ l' K', Has d.fr l' ∧ Hd (flush d.s d.pend) K' ∧ Frm B (flush s pend) (Kp ++ K) (flush d.s d.pend) K' ∧ Q l' K'
section
variable {P : Program} {nd : Bool} {i : Nat} {l : SL} {K Kp : Mem} {efs : List (Nat × Mem)} {rds : List Rd}
theorem Cd.draw {ops : List AOper} {Q : AX → SL → Mem → Prop} (h : Dw P 0 ops l K [] [] [] (fun l K => Q .nrm l K)) : Cd P nd (.draw ops) l K Q := by
 intro fr s hf hd
 refine awdraws_mono (h s.next s.next fr _ [] [] hf (hd.more _) (hd.more _) trivial (Nat.le_refl _) (Nat.le_refl _) fun j h1 h2 hm => by have := hd.lt (id := j) hm; omega) ?_
 rintro d ⟨l', K', h1, h2, h3, h4⟩
 exact ⟨l', K', h1, h2, ⟨by have := h3.next; simp only [flush] at this; omega, h3.old, h3.new⟩, h4⟩
theorem Dw.nil {Q : SL → Mem → Prop} (h : Q l (Kp ++ K)) : Dw P i [] l K Kp efs rds Q := fun B id fr s pend effs hf hd hp he hB hl hi => ⟨l, _, hf, hp, Frm.refl _ _ _, h⟩
theorem Dw.p {p : POp} {os : List AOper} {d : Option Nat} {pre : Nat} {v : AV} {Q : SL → Mem → Prop} (h : Ev l p v) (k : Dw P (i + 1) os (putL l d v) K Kp efs rds Q) : Dw P i (⟨d, .p p, none, pre⟩ :: os) l K Kp efs rds Q := by
 intro B id fr s pend effs hf hd hp he hB hl hi
 simp only [List.length_cons] at hl hi
 simp only [awdraws, wants]
 refine ⟨noCall, _, noCall_sound, ?_, k B (id + 1) _ s pend effs (hf.put d v) hd hp he (by omega) (by omega) fun j h1 h2 => hi j (by omega) (by omega)⟩
 simp only [adop, h.app hf]
theorem Dw.r {kk : RK} {x y : AO} {os : List AOper} {d : Option Nat} {pre : Nat} {a b v : AV} {Q : SL → Mem → Prop} (hx : x.evL l = some a) (hy : y.evL l = some b) (h : Rdk K kk a b v) (ho : efsOkK pre kk a b v efs)
  (k : Dw P (i + 1) os (putL l d v) K Kp efs (⟨i, kk, a, b, v⟩ :: rds) Q) : Dw P i (⟨d, .r kk x y, none, pre⟩ :: os) l K Kp efs rds Q := by
 intro B id fr s pend effs hf hd hp he hB hl hi
 simp only [List.length_cons] at hl hi
 simp only [awdraws, wants]
 refine ⟨noCall, _, noCall_sound, ?_, k B (id + 1) _ s pend effs (hf.put d v) hd hp he (by omega) (by omega) fun j h1 h2 => hi j (by omega) (by omega)⟩
 simp only [adop, evL_ev hf hx, evL_ev hf hy, h s hd, efsOkK_ok he ho, cond_true]
theorem Dw.a {p : LOp} {os : List AOper} {d : Option Nat} {pre : Nat} {o : AObj} {v : Nat → AV} {Q : SL → Mem → Prop} (h : Mk l p o v) (k : ∀ b, Dw P (i + 1) os (putL l d (v b)) K ([(b, o)] :: Kp) efs rds Q) : Dw P i (⟨d, .a p, none, pre⟩ :: os) l K Kp efs rds Q := by
 intro B id fr s pend effs hf hd hp he hB hl hi
 simp only [List.length_cons] at hl hi
 simp only [awdraws, wants]
 have hi0 := hi id (Nat.le_refl _) (by omega)
 have hlt : id < (flush s pend).next := by rw [flush_next]; omega
 obtain ⟨a1, a2⟩ := hp.alloc (B := B) hi0 hlt hB o
 refine ⟨noCall, ⟨putO fr d (v id), s, (id, o) :: pend, effs, rds⟩, noCall_sound, ?_, awdraws_mono (k id B (id + 1) _ s ((id, o) :: pend) effs (hf.put d _) hd a1 he (by omega) (by omega) ?_) ?_⟩
 ·simp only [adop, amake_mono hf.sub (h id)]
 ·intro j h1 h2 hm
  rw [List.cons_append, ids_cons] at hm
  simp only [List.map_cons, List.map_nil, List.singleton_append, List.mem_cons] at hm
  rcases hm with rfl | hm
  ·omega
  ·exact hi j (by omega) (by omega) hm
 ·rintro d' ⟨l', K', h1, h2, h3, h4⟩
  exact ⟨l', K', h1, h2, a2.trans h3 (Nat.le_refl _), h4⟩
theorem Dw.e {e : EOp} {os : List AOper} {d : Option Nat} {pre : Nat} {R : AV → Mem → Prop} {Q : SL → Mem → Prop} (h : Ef P l (Kp ++ K) e R) (k : ∀ v K2, R v K2 → rdsOkK pre K2 rds ∧ Dw P (i + 1) os (putL l d v) K2 [] ((i, K) :: efs) rds Q) : Dw P i (⟨d, .e e, none, pre⟩ :: os) l K Kp efs rds Q := by
 intro B id fr s pend effs hf hd hp he hB hl hi
 simp only [List.length_cons] at hl hi
 simp only [awdraws, wants]
 obtain ⟨c, v, s', K2, h1, h2, h3, h4, h5⟩ := h fr (flush s pend) hf hp
 obtain ⟨k1, k2⟩ := k v K2 h5
 have hn : (flush s pend).next = s.next := flush_next _ _
 have hnx : s.next ≤ s'.next := by have := h4.next; omega
 have hf4 : Frm B (flush s pend) (Kp ++ K) s' K2 := ⟨h4.next, fun id hi => h4.old id (by omega), fun id hm => (h4.new id hm).imp_right fun h => by omega⟩
 refine ⟨c, ⟨putO fr d v, s', [], (i, s) :: effs, rds⟩, h1, ?_, awdraws_mono (k2 B (id + 1) _ s' [] ((i, s) :: effs) (hf.put d v) h3 h3 ⟨rfl, hd, he⟩ (by omega) (by omega) ?_) ?_⟩
 ·simp only [adop, h2, rdsOkK_ok h3 k1, cond_true]
 ·intro j j1 j2 hm
  rcases h4.new j hm with h6 | h6
  ·exact hi j (by omega) (by omega) h6
  ·omega
 ·rintro d' ⟨l', K', g1, g2, g3, g4⟩
  exact ⟨l', K', g1, g2, hf4.trans g3 (Nat.le_refl _), g4⟩
theorem Dw.call {f : FuncId} {xs : List AO} {os : List AOper} {d : Option Nat} {pre : Nat} {vs : List AV} {v : AV} {Q : SL → Mem → Prop} (hx : evsL l xs = some vs) (h : PT P false f vs v) (ho : rdsOkK pre (Kp ++ K) rds) (k : Dw P (i + 1) os (putL l d v) (Kp ++ K) [] ((i, K) :: efs) rds Q) : Dw P i (⟨d, .e (.call f xs), none, pre⟩ :: os) l K Kp efs rds Q :=
 Dw.e (Ef.call hx h .nil) fun w K2 ⟨m', e1, e2, e3⟩ => by subst e2 e3 e1; exact ⟨ho, k⟩
theorem Dw.callM {f : FuncId} {xs : List AO} {os : List AOper} {d : Option Nat} {pre : Nat} {vs : List AV} {m r : Mem} {R : AV → Mem → Prop} {Q : SL → Mem → Prop} (hx : evsL l xs = some vs) (h : CT P false f vs m R) (hs : Sel (Kp ++ K) m r)
  (k : ∀ v m', R v m' → rdsOkK pre (m' ++ r) rds ∧ Dw P (i + 1) os (putL l d v) (m' ++ r) [] ((i, K) :: efs) rds Q) : Dw P i (⟨d, .e (.call f xs), none, pre⟩ :: os) l K Kp efs rds Q :=
 Dw.e (Ef.call hx h hs) fun w K2 ⟨m', e1, e2⟩ => by subst e1; exact k w m' e2
theorem Dw.store {m : Nat} {x y : AO} {os : List AOper} {d : Option Nat} {pre b g w off lm : Nat} {gr : Bool} {cs : List AV} {v : AV} {K' : Mem} {Q : SL → Mem → Prop} (hx : x.evL l = some (.ptr b g off lm)) (hy : y.evL l = some v)
  (hK : Upd (Kp ++ K) b (.cells cs g w gr) (.cells (setSeg cs off (cellsOf v)) g g gr) K') (h1 : plainV v = true) (h2 : (cellsOf v).length = m) (h3 : m ≤ lm) (h4 : off + m ≤ cs.length) (ho : rdsOkK pre K' rds) (k : Dw P (i + 1) os (putL l d (.tup [])) K' [] ((i, K) :: efs) rds Q) :
  Dw P i (⟨d, .e (.store m x y), none, pre⟩ :: os) l K Kp efs rds Q := Dw.e (Ef.store hx hy hK h1 h2 h3 h4) fun v K2 ⟨e1, e2⟩ => by subst e1 e2; exact ⟨ho, k⟩
theorem Dw.guardT {op : AOp} {os : List AOper} {d : Option Nat} {pre t : Nat} {w : Bool} {Q : SL → Mem → Prop} (ht : lkS l t = some (.tup [])) (h : Dw P (i + 1) os (putL l d (.tup [])) K Kp efs rds Q) : Dw P i (⟨d, op, some (t, w), pre⟩ :: os) l K Kp efs rds Q := by
 intro B id fr s pend effs hf hd hp he hB hl hi
 simp only [List.length_cons] at hl hi
 simp only [awdraws, wants, hf t _ ht]
 exact h B (id + 1) _ s pend effs (hf.put d _) hd hp he (by omega) (by omega) fun j h1 h2 => hi j (by omega) (by omega)
theorem Dw.guardY {op : AOp} {os : List AOper} {d : Option Nat} {pre t : Nat} {w : Bool} {Q : SL → Mem → Prop} (ht : lkS l t = some (.bool w)) (h : Dw P i (⟨d, op, none, pre⟩ :: os) l K Kp efs rds Q) : Dw P i (⟨d, op, some (t, w), pre⟩ :: os) l K Kp efs rds Q := by
 intro B id fr s pend effs hf hd hp he hB hl hi
 have := h B id fr s pend effs hf hd hp he hB hl hi
 simp only [awdraws, wants] at this
 simp only [awdraws, wants, hf t _ ht, beq_self_eq_true]
 exact this
theorem Dw.guardN {op : AOp} {os : List AOper} {d : Option Nat} {pre t : Nat} {w : Bool} {Q : SL → Mem → Prop} (ht : lkS l t = some (.bool !w)) (h : Dw P (i + 1) os (putL l d (.tup [])) K Kp efs rds Q) : Dw P i (⟨d, op, some (t, w), pre⟩ :: os) l K Kp efs rds Q := by
 intro B id fr s pend effs hf hd hp he hB hl hi
 simp only [List.length_cons] at hl hi
 simp only [awdraws, wants, hf t _ ht]
 rw [show ((!w) == w) = false by cases w <;> rfl]
 exact h B (id + 1) _ s pend effs (hf.put d _) hd hp he (by omega) (by omega) fun j h1 h2 => hi j (by omega) (by omega)
end
end Go.Abs
namespace Go.Abs
open Go Go.RowKit Go.ChangeShapes
section
variable {P : Program} {nd : Bool} {l : SL} {K : Mem}
theorem PT.of {f : FuncId} {args : List AV} {v : AV} (h : CT P nd f args [] fun w _ => w = v) : PT P nd f args v := fun s hs => (h s hs).mono fun w s' _ ⟨K', h1, h2, h3⟩ =>
 ⟨[], ⟨by simp [idsM], by simp⟩, ⟨h2.next, fun id hi _ => h2.old id hi (by simp [idsM]), by simp [idsM]⟩, rfl, h3⟩
theorem CT.dropR {f : FuncId} {args : List AV} {Q R : AV → Mem → Prop} (h : CT P nd f args K Q) (k : ∀ v K', Q v K' → ∃ m r, Sel K' m r ∧ R v m) : CT P nd f args K R := fun s hs => (h s hs).mono fun w s' _ ⟨K', h1, h2, h3⟩ => by
 obtain ⟨m, r, hs, h4⟩ := k _ _ h3
 exact ⟨m, (h1.perm hs.perm).left, ⟨h2.next, h2.old, fun id hi => h2.new id ((ids_perm hs.perm).mem_iff.2 (by rw [ids_app]; exact List.mem_append_left _ hi))⟩, h4⟩
theorem CT.nil {f : FuncId} {args : List AV} {Q : AV → Mem → Prop} (h : ∀ s, MX P nd f args s fun v s' => ∃ K', Hd s' K' ∧ Frm s.next s [] s' K' ∧ Q v K') : CT P nd f args [] Q := fun s _ => h s
def Cmp (o : BinOp) (a b : AV) (p : Prop) : Prop := ∃ t, abin o a b = some (.bool t) ∧ (t = true ↔ p)
theorem keq_self (k : IntKind) : keq k k = true := by cases k <;> rfl
theorem cmpI {o : BinOp} {k : IntKind} {x y : Int} {t : Bool} (h : abin o (.int k x) (.int k y) = bif keq k k then aint o k x y else none) (h2 : aint o k x y = some (.bool t)) : abin o (.int k x) (.int k y) = some (.bool t) := by rw [h, keq_self, h2]; rfl
theorem Cmp.lss {k : IntKind} {x y : Int} : Cmp .lss (.int k x) (.int k y) (x < y) := ⟨_, cmpI rfl rfl, by rw [ilt_dec]; simp⟩
theorem Cmp.eql {k : IntKind} {x y : Int} : Cmp .eql (.int k x) (.int k y) (x = y) := ⟨_, cmpI rfl rfl, by rw [ieq_dec]; simp⟩
theorem Cmp.neq {k : IntKind} {x y : Int} : Cmp .neq (.int k x) (.int k y) (x ≠ y) := ⟨_, cmpI rfl rfl, by rw [ieq_dec]; simp⟩
theorem Cmp.leq {k : IntKind} {x y : Int} : Cmp .leq (.int k x) (.int k y) (x ≤ y) := ⟨_, cmpI rfl rfl, by rw [ilt_dec, ieq_dec]; simp; omega⟩
theorem Cmp.gtr {k : IntKind} {x y : Int} : Cmp .gtr (.int k x) (.int k y) (y < x) := ⟨_, cmpI rfl rfl, by rw [ilt_dec, ieq_dec]; simp; omega⟩
theorem Cmp.geq {k : IntKind} {x y : Int} : Cmp .geq (.int k x) (.int k y) (y ≤ x) := ⟨_, cmpI rfl rfl, by rw [ilt_dec]; simp⟩
theorem Cmp.lssN {k : IntKind} {x y : Nat} : Cmp .lss (.int k (.ofNat x)) (.int k (.ofNat y)) (x < y) := ⟨_, cmpI rfl rfl, by rw [ilt_nat]; simp⟩
theorem Cmp.eqlN {k : IntKind} {x y : Nat} : Cmp .eql (.int k (.ofNat x)) (.int k (.ofNat y)) (x = y) := ⟨_, cmpI rfl rfl, by rw [ieq_nat]; simp⟩
theorem Cmp.neqN {k : IntKind} {x y : Nat} : Cmp .neq (.int k (.ofNat x)) (.int k (.ofNat y)) (x ≠ y) := ⟨_, cmpI rfl rfl, by rw [ieq_nat]; simp⟩
theorem Cmp.leqN {k : IntKind} {x y : Nat} : Cmp .leq (.int k (.ofNat x)) (.int k (.ofNat y)) (x ≤ y) := ⟨_, cmpI rfl rfl, by rw [ilt_nat, ieq_nat]; simp; omega⟩
theorem Cmp.gtrN {k : IntKind} {x y : Nat} : Cmp .gtr (.int k (.ofNat x)) (.int k (.ofNat y)) (y < x) := ⟨_, cmpI rfl rfl, by rw [ilt_nat, ieq_nat]; simp; omega⟩
theorem Cmp.geqN {k : IntKind} {x y : Nat} : Cmp .geq (.int k (.ofNat x)) (.int k (.ofNat y)) (y ≤ x) := ⟨_, cmpI rfl rfl, by rw [ilt_nat]; simp⟩
theorem Cmp.eqS {x y : List Nat} : Cmp .eql (.str x) (.str y) (x = y) := ⟨_, rfl, by rw [neq_dec]; simp⟩
theorem Cmp.neS {x y : List Nat} : Cmp .neq (.str x) (.str y) (x ≠ y) := ⟨_, rfl, by rw [neq_dec]; simp⟩
theorem Cmp.ltS {x y : List Nat} : Cmp .lss (.str x) (.str y) (nless x y = true) := ⟨_, rfl, Iff.rfl⟩
theorem Cmp.lssL {k : IntKind} {x : Int} {n : Nat} : Cmp .lss (.int k x) (.int k (.ofNat n)) (x < (n : Int)) := Cmp.lss
theorem Cmp.eqlL {k : IntKind} {x : Int} {n : Nat} : Cmp .eql (.int k x) (.int k (.ofNat n)) (x = (n : Int)) := Cmp.eql
theorem Cmp.neqL {k : IntKind} {x : Int} {n : Nat} : Cmp .neq (.int k x) (.int k (.ofNat n)) (x ≠ (n : Int)) := Cmp.neq
theorem Cmp.leqL {k : IntKind} {x : Int} {n : Nat} : Cmp .leq (.int k x) (.int k (.ofNat n)) (x ≤ (n : Int)) := Cmp.leq
theorem Cmp.gtrL {k : IntKind} {x : Int} {n : Nat} : Cmp .gtr (.int k x) (.int k (.ofNat n)) ((n : Int) < x) := Cmp.gtr
theorem Cmp.geqL {k : IntKind} {x : Int} {n : Nat} : Cmp .geq (.int k x) (.int k (.ofNat n)) ((n : Int) ≤ x) := Cmp.geq
theorem Cmp.T {o : BinOp} {a b : AV} {p : Prop} (h : Cmp o a b p) (hp : p) : abin o a b = some (.bool true) := by
 obtain ⟨t, h1, h2⟩ := h
 rw [h1, h2.2 hp]
theorem Cmp.F {o : BinOp} {a b : AV} {p : Prop} (h : Cmp o a b p) (hp : ¬ p) : abin o a b = some (.bool false) := by
 obtain ⟨t, h1, h2⟩ := h
 cases t with
 | true => exact absurd (h2.1 rfl) hp
 | false => exact h1
theorem Rg.cmp {o : BinOp} {x y : AO} {os : List AOper} {d : Option Nat} {pre : Nat} {a b : AV} {p : Prop} {Q : SL → Mem → Prop} (hx : x.evL l = some a) (hy : y.evL l = some b) (h : Cmp o a b p) (k : ∀ c : Bool, (c = true ↔ p) → Rg P nd os (putL l d (.bool c)) K Q) : Rg P nd (⟨d, .p (.bin o x y), none, pre⟩ :: os) l K Q := by
 obtain ⟨t, h1, h2⟩ := h
 exact Rg.p (Ev.bin hx hy h1) (k t h2)
theorem Dw.cmp {i : Nat} {Kp : Mem} {efs : List (Nat × Mem)} {rds : List Rd} {o : BinOp} {x y : AO} {os : List AOper} {d : Option Nat} {pre : Nat} {a b : AV} {p : Prop} {Q : SL → Mem → Prop} (hx : x.evL l = some a) (hy : y.evL l = some b) (h : Cmp o a b p) (k : ∀ c : Bool, (c = true ↔ p) → Dw P (i + 1) os (putL l d (.bool c)) K Kp efs rds Q) : Dw P i (⟨d, .p (.bin o x y), none, pre⟩ :: os) l K Kp efs rds Q := by
 obtain ⟨t, h1, h2⟩ := h
 exact Dw.p (Ev.bin hx hy h1) (k t h2)
theorem Rg.guardS {op : AOp} {os : List AOper} {d : Option Nat} {pre t : Nat} {w c : Bool} {Q : SL → Mem → Prop} (ht : lkS l t = some (.bool c)) (h1 : c = true → Rg P nd (⟨d, op, some (t, w), pre⟩ :: os) l K Q) (h2 : c = false → Rg P nd (⟨d, op, some (t, w), pre⟩ :: os) l K Q) : Rg P nd (⟨d, op, some (t, w), pre⟩ :: os) l K Q := by
 cases c with
 | true => exact h1 rfl
 | false => exact h2 rfl
theorem Dw.guardS {i : Nat} {Kp : Mem} {efs : List (Nat × Mem)} {rds : List Rd} {op : AOp} {os : List AOper} {d : Option Nat} {pre t : Nat} {w c : Bool} {Q : SL → Mem → Prop} (ht : lkS l t = some (.bool c)) (h1 : c = true → Dw P i (⟨d, op, some (t, w), pre⟩ :: os) l K Kp efs rds Q) (h2 : c = false → Dw P i (⟨d, op, some (t, w), pre⟩ :: os) l K Kp efs rds Q) : Dw P i (⟨d, op, some (t, w), pre⟩ :: os) l K Kp efs rds Q := by
 cases c with
 | true => exact h1 rfl
 | false => exact h2 rfl
theorem add_int {x y : Int} (h1 : -9223372036854775808 ≤ x + y) (h2 : x + y ≤ 9223372036854775807) : abin .add (.int .i64 x) (.int .i64 y) = some (.int .i64 (x + y)) := by
 show some (AV.int .i64 (awrap .i64 (x + y))) = _
 congr 2
 generalize x + y = z at h1 h2
 cases z with
 | ofNat a =>
  simp only [Int.ofNat_eq_natCast] at h2
  simp only [awrap, top, Nat.ble_eq_true_of_le (show a ≤ 9223372036854775807 by omega), cond_true]
 | negSucc a =>
  rw [Int.negSucc_eq] at h1
  simp only [awrap, Nat.ble_eq_true_of_le (show a ≤ 9223372036854775807 by omega), cond_true]
end
section
variable {H : Type} {enc : TypeId × Value → H} {P : Program}
theorem law_contractM {nd : Bool} {f : FuncId} {fn : Func} {s : ChangeSpec} {handsOn fresh apart : Bool} (hl : laidOutB P = true) (hv : s.vars = []) (hp : (fn.params.toList.all fun t => P.readableRec t && decide (t < P.types.size)) = true)
  {rt : TypeId} (hr : fn.resultTypes = #[rt]) (hu : P.underlying rt = some .bool) (hs : ∀ ds : List (DataW H), ds.length = fn.params.toList.length → s.fn H (ds ++ []) = { results := [.lit (.bool true)], args := ds })
  {specs : List (Bool × List Sh)} (hspec : fn.params.toList.map (fun t => (aggT P t, shs P 8 t)) = specs.map (fun s => (some s.1, some s.2))) (told : ∀ xs, okArgs specs xs → CT P nd f xs [] fun v _ => v = .bool true)
  (W : World) (base : Nat) (args : Array Value) (ds gs : List (DataW H)) (before : List MemPlace) (hval : ∀ (j : Nat) t v, fn.params[j]? = some t → args[j]? = some v → Value.okWide P W .any base t v)
  (hW : DataW.Whole enc P fn.params.toList s.vars apart W args.toList ds gs before) : Calls P f args W fun e W' => ∃ v, e = .returned v ∧ s.post enc P fn apart fresh handsOn false W args v W' := by
 have hW2 := hW
 obtain ⟨p, q, hA, hV, rfl, hfz, hnd⟩ := hW
 rw [hv] at hV
 obtain ⟨rfl, rfl⟩ := trodVars_none hV
 obtain ⟨xs, rx, ox, hlen⟩ := args_open hspec (fun j t v h1 h2 => hval j t v (by simpa using h1) (by simpa using h2)) hA
 refine ((told xs ox).law.2 ι0 W (fun _ => none) W args (SR_start W) rx).mono ?_
 rintro e W' ⟨v, s', rfl, _, v', κ, rfl, _, k2, k3⟩
 simp only [rel] at k2
 subst k2
 exact ⟨_, rfl, law_post hl hv hp hr hu (hs ds hlen) hW2 k3.low⟩
end
end Go.Abs
namespace Go.Abs
open Go
section
variable {P : Program} {nd : Bool} {l : SL} {K : Mem}
theorem Rdk.b1 {b off lm : Nat} {cs : List AV} {v y : AV} (h : InK K b (.cells cs 0 0 false)) (hv : cs[off]? = some v) : Rdk K .load1 (.ptr b 0 off (lm + 1)) y v := Rdk.ld1 h (Nat.le_refl _) (Nat.le_refl _) (Nat.le_add_left _ _) hv
theorem Rdk.bn {b off n : Nat} {cs cs' : List AV} {y : AV} (h : InK K b (.cells cs 0 0 false)) (hv : seg cs off n = some cs') : Rdk K (.loadn n) (.ptr b 0 off n) y (.agg cs') := Rdk.ldn h (Nat.le_refl _) (Nat.le_refl _) (Nat.le_refl _) hv
theorem Rg.storeB {m : Nat} {x y : AO} {os : List AOper} {d : Option Nat} {pre b off lm : Nat} {cs : List AV} {v : AV} {K' : Mem} {Q : SL → Mem → Prop} (hx : x.evL l = some (.ptr b 0 off lm)) (hy : y.evL l = some v)
  (hK : Upd K b (.cells cs 0 0 false) (.cells (setSeg cs off (cellsOf v)) 0 0 false) K') (h1 : plainV v = true) (h2 : (cellsOf v).length = m) (h3 : m ≤ lm) (h4 : off + m ≤ cs.length) (k : Rg P nd os (putL l d (.tup [])) K' Q) :
  Rg P nd (⟨d, .e (.store m x y), none, pre⟩ :: os) l K Q := Rg.store hx hy hK h1 h2 h3 h4 k
theorem seg_all {cs : List AV} {n : Nat} (h : cs.length = n) : seg cs 0 n = some cs := by
 subst h
 unfold seg
 rw [show Nat.ble (0 + cs.length) cs.length = true from Nat.ble_eq_true_of_le (by omega)]
 simp
theorem setSeg_all {cs r : List AV} (h : r.length = cs.length) : setSeg cs 0 r = r := by
 unfold setSeg
 simp [h]
theorem Rdk.bw {b n : Nat} {cs : List AV} {y : AV} (h : InK K b (.cells cs 0 0 false)) (hn : cs.length = n) : Rdk K (.loadn n) (.ptr b 0 0 n) y (.agg cs) := Rdk.bn h (seg_all hn)
theorem Ef.storeW {m : Nat} {x y : AO} {b lm : Nat} {cs r : List AV} {M K' : Mem} (hx : x.evL l = some (.ptr b 0 0 lm)) (hy : y.evL l = some (.agg r))
  (hK : Upd M b (.cells cs 0 0 false) (.cells r 0 0 false) K') (h2 : r.length = m) (h3 : m ≤ lm) (h4 : cs.length = m) : Ef P l M (.store m x y) fun v1 K2 => v1 = .tup [] ∧ K2 = K' :=
 Ef.store hx hy (by rw [show setSeg cs 0 (cellsOf (.agg r)) = r from setSeg_all (h2.trans h4.symm)]; exact hK) rfl h2 h3 (by omega)
theorem Rg.storeW {m : Nat} {x y : AO} {os : List AOper} {d : Option Nat} {pre b lm : Nat} {cs r : List AV} {K' : Mem} {Q : SL → Mem → Prop} (hx : x.evL l = some (.ptr b 0 0 lm)) (hy : y.evL l = some (.agg r))
  (hK : Upd K b (.cells cs 0 0 false) (.cells r 0 0 false) K') (h2 : r.length = m) (h3 : m ≤ lm) (h4 : cs.length = m) (k : Rg P nd os (putL l d (.tup [])) K' Q) :
  Rg P nd (⟨d, .e (.store m x y), none, pre⟩ :: os) l K Q := Rg.e (Ef.storeW hx hy hK h2 h3 h4) fun v K2 ⟨e1, e2⟩ => by subst e1 e2; exact k
theorem Rg.callB {f : FuncId} {xs : List AO} {os : List AOper} {d : Option Nat} {pre : Nat} {vs : List AV} {g : Bool} {Q : SL → Mem → Prop} (hx : evsL l xs = some vs) (h : PT P nd f vs (.bool g)) (k : ∀ c : Bool, g = c → Rg P nd os (putL l d (.bool c)) K Q) : Rg P nd (⟨d, .e (.call f xs), none, pre⟩ :: os) l K Q :=
 Rg.call hx h (k g rfl)
theorem Rg.callvB {f : AO} {g : FuncId} {first cap : List AV} {xs : List AO} {os : List AOper} {d : Option Nat} {pre : Nat} {vs : List AV} {w : Bool} {Q : SL → Mem → Prop} (hf : f.evL l = some (.fn g first cap)) (hx : evsL l xs = some vs) (h : PT P nd g (first ++ vs ++ cap) (.bool w)) (k : ∀ c : Bool, w = c → Rg P nd os (putL l d (.bool c)) K Q) : Rg P nd (⟨d, .e (.callv f xs), none, pre⟩ :: os) l K Q :=
 Rg.callv hf hx h (k w rfl)
theorem Dw.callB {i : Nat} {Kp : Mem} {efs : List (Nat × Mem)} {rds : List Rd} {f : FuncId} {xs : List AO} {os : List AOper} {d : Option Nat} {pre : Nat} {vs : List AV} {g : Bool} {Q : SL → Mem → Prop} (hx : evsL l xs = some vs) (h : PT P false f vs (.bool g)) (ho : rdsOkK pre (Kp ++ K) rds) (k : ∀ c : Bool, g = c → Dw P (i + 1) os (putL l d (.bool c)) (Kp ++ K) [] ((i, K) :: efs) rds Q) : Dw P i (⟨d, .e (.call f xs), none, pre⟩ :: os) l K Kp efs rds Q :=
 Dw.call hx h ho (k g rfl)
end
end Go.Abs
