/- Two heaps with four tables: what is kept. Plain laws. -/
import Derived.Test.YtlflpjjmkigepaaPlnG
set_option autoImplicit false
set_option linter.unusedVariables false
set_option linter.unusedSimpArgs false
set_option maxRecDepth 100000
set_option maxHeartbeats 4000000
namespace Go.Proofs.Ytlflpjjmkigepaa
open Go Go.Abs
theorem MH.ok.tabs {H : MH} (h : H.ok) : ∀ L, L ∈ H.tabs → L.length ≤ H.used := by
  intro L hL
  obtain ⟨j, hj, e⟩ := List.getElem_of_mem hL
  have := len_le hj
  rw [tabL, List.getElem?_eq_getElem hj, e] at this
  have hu := h.used
  simp only [Option.getD_some] at *
  omega
theorem mem_setL2 {k v : Val} {L : List KV} {e : KV} (h : e ∈ setL k v L) : e ∈ L ∨ e = (k, v) ∧ v.k ≠ 0 := by
  by_cases hv : v.k = 0
  · rw [setL, if_pos hv] at h
    exact .inl (List.mem_filter.1 h).1
  · rcases mem_setL h with h | h
    · exact .inl h
    · exact .inr ⟨h, hv⟩
theorem ScOk.can {k : Val} (h : ScOk k) (hk : keyB k = true) : Can k := by
  rcases h with rfl | ⟨h1, h2, _⟩ | ⟨h1, h2, _⟩
  · exact absurd hk (by decide)
  · exact .inl ⟨h1, h2⟩
  · exact .inr ⟨h1, h2⟩
theorem mPut_cases (H : MH) (t k v : Val) : (mPut H t k v).1 = H ∨ ∃ i, tabI H t = some i ∧ keyB k = true ∧ (mPut H t k v).1 = { H with used := H.used - (tabL H i).length + (setL k v (tabL H i)).length, tabs := H.tabs.set i (setL k v (tabL H i)) } := by
  unfold mPut
  split
  · exact .inl rfl
  · rename_i i hi
    split
    · rename_i hk
      split
      · exact .inl rfl
      · exact .inr ⟨i, hi, hk, rfl⟩
    · exact .inl rfl
theorem WOk.put {H : MH} {t k v : Val} (h : WOk H) (hk : ScOk k) (hv : VOk v) (hu : (mPut H t k v).1.used ≤ 1000) : WOk (mPut H t k v).1 := by
  have hok : (mPut H t k v).1.ok := h.ok.put (fun hb => hk.can hb) (fun _ => hk.len)
  have hl := hok.tabs
  rcases mPut_cases H t k v with e | ⟨i, hi, hkb, e⟩
  · rw [e]; exact h
  · refine ⟨hok, fun L hL => Nat.le_trans (hl L hL) hu, ?_, ?_⟩
    · intro L hL x hx
      rw [e] at hL
      rcases List.mem_or_eq_of_mem_set hL with hL | rfl
      · exact h.key L hL x hx
      · rcases mem_setL2 hx with hx | ⟨rfl, _⟩
        · exact h.key _ (tabL_mem (tabI_some hi).2) x hx
        · exact ⟨hk, hkb⟩
    · intro L hL x hx
      rw [e] at hL
      rcases List.mem_or_eq_of_mem_set hL with hL | rfl
      · exact h.val L hL x hx
      · rcases mem_setL2 hx with hx | ⟨rfl, hv0⟩
        · exact h.val _ (tabL_mem (tabI_some hi).2) x hx
        · exact ⟨hv, hv0⟩
theorem WOk.table {H : MH} (h : WOk H) : WOk (mTable H).1 := by
  have hok := h.ok.table
  unfold mTable at hok ⊢
  split
  · rename_i hr
    rw [if_pos hr] at hok
    refine ⟨hok, ?_, ?_, ?_⟩
    all_goals
      intro L hL
      rcases List.mem_append.1 hL with hL | hL
    · exact h.len L hL
    · rw [List.mem_singleton] at hL; subst hL; simp
    · exact h.key L hL
    · rw [List.mem_singleton] at hL; subst hL; intro e he; cases he
    · exact h.val L hL
    · rw [List.mem_singleton] at hL; subst hL; intro e he; cases he
  · exact h
theorem WOk.new {room : Nat} (h : room ≤ 1000000) : WOk (mNew room) := ⟨MH.ok.new h, (fun _ h => by cases h), (fun _ h => by cases h), (fun _ h => by cases h)⟩
theorem put_used {H : MH} {t k v : Val} (h : H.ok) (hk : ScOk k) : (mPut H t k v).1.used ≤ H.used + 1 ∧ (mPut H t k v).1.used ≤ H.room ∧ (mPut H t k v).1.room = H.room ∧ (mPut H t k v).1.tabs.length = H.tabs.length ∧ (mPut H t k v).1.fns = H.fns := by
  have hok : (mPut H t k v).1.ok := h.put (fun hb => hk.can hb) (fun _ => hk.len)
  have hle := hok.le
  rcases mPut_cases H t k v with e | ⟨i, hi, hkb, e⟩
  · rw [e] at hle ⊢
    exact ⟨by omega, hle, rfl, rfl, rfl⟩
  · rw [e] at hle ⊢
    have hlen := setL_len (v := v) (h.srt _ (tabL_mem (tabI_some hi).2)) (hk.can hkb)
    have hle2 := len_le (tabI_some hi).2
    have hu := h.used
    refine ⟨?_, hle, rfl, by simp, rfl⟩
    show H.used - (tabL H i).length + (setL k v (tabL H i)).length ≤ H.used + 1
    split at hlen <;> split at hlen <;> omega
/-- What is kept while values are put. -/
structure Jv (i : Nat) (H : MH) : Prop where
  wok : WOk H
  room : H.room = 1000
  tl : H.tabs.length = 4
  used : H.used ≤ 4 + i
  fns : H.fns = []
theorem Jv.put {i : Nat} {H : MH} {t k v : Val} (h : Jv i H) (hk : ScOk k) (hv : VOk v) : Jv (i + 1) (mPut H t k v).1 := by
  obtain ⟨h1, h2, h3, h4, h5⟩ := put_used (t := t) (v := v) h.wok.ok hk
  refine ⟨h.wok.put hk hv (by rw [h.room] at h2; exact h2), h3.trans h.room, h4.trans h.tl, by have := h.used; omega, h5.trans h.fns⟩
theorem Jv.next {i : Nat} {H : MH} (h : Jv i H) : Jv (i + 1) H := ⟨h.wok, h.room, h.tl, by have := h.used; omega, h.fns⟩
/-- Tables are made. -/
def tabsM : Nat → MH → MH
  | 0, H => H
  | n + 1, H => (mTable (tabsM n H)).1
theorem tabsM_ok {n : Nat} (hn : n ≤ 1000) : WOk (tabsM n (mNew 1000)) ∧ (tabsM n (mNew 1000)).room = 1000 ∧ (tabsM n (mNew 1000)).tabs.length = n ∧ (tabsM n (mNew 1000)).used = n ∧ (tabsM n (mNew 1000)).fns = [] := by
  induction n with
  | zero => exact ⟨WOk.new (by omega), rfl, rfl, rfl, rfl⟩
  | succ n ih =>
    obtain ⟨h1, h2, h3, h4, h5⟩ := ih (by omega)
    have hw := h1.table
    simp only [tabsM]
    have e : mTable (tabsM n (mNew 1000)) = ({ tabsM n (mNew 1000) with used := (tabsM n (mNew 1000)).used + 1, tabs := (tabsM n (mNew 1000)).tabs ++ [[]] }, ⟨3, (tabsM n (mNew 1000)).tabs.length, []⟩, 0) := by
      unfold mTable; rw [if_pos (by rw [h4, h2]; omega)]
    refine ⟨hw, ?_⟩
    rw [e]
    exact ⟨h2, by simp [h3], by simp [h4], h5⟩
/-- A value that is put. -/
structure PO where
  t : Int
  k : Val
  v : Val
  tab : Bool
  to : Int
def poR (o : PO) : List AV := [.int .i64 o.t, .int .i64 o.k.k, .int .i64 o.k.n, .str o.k.s, .int .i64 o.v.k, .int .i64 o.v.n, .str o.v.s, .bool o.tab, .int .i64 o.to]
structure PO.ok (o : PO) : Prop where
  t : rng o.t
  to : rng o.to
  kn : rng o.k.n
  vn : rng o.v.n
  ks : ∀ x, x ∈ o.k.s → x < 256
  vs : ∀ x, x ∈ o.v.s → x < 256
theorem isB_ok {v : Val} (h : isB v = true) (hn : rng v.n) (hs : ∀ x, x ∈ v.s → x < 256) : VOk v := by
  obtain ⟨k, n, s⟩ := v
  simp only [isB] at h
  split at h
  · rename_i h0
    simp only [Bool.and_eq_true, decide_eq_true_eq] at h
    obtain ⟨rfl, rfl⟩ := h
    subst h0
    exact .inl (.inl rfl)
  · split at h
    · rename_i h2
      simp only [Bool.and_eq_true, decide_eq_true_eq] at h
      exact .inl (.inr (.inr ⟨h2, h.1, h.2, hs⟩))
    · rename_i h0 h2
      simp only [Bool.and_eq_true, decide_eq_true_eq] at h h0 h2
      by_cases h1 : k = 1
      · exact .inl (.inr (.inl ⟨h1, h.2, hn⟩))
      · exact .inr ⟨by show k = 3 ∨ k = 4 ∨ k = 5; omega, h.2⟩
/-- A number below another one. -/
def cnt (n : Int) (m : Nat) : Nat := ((if n < 0 then -(n + 1) else n) % m).toNat
end Go.Proofs.Ytlflpjjmkigepaa

namespace Go.Proofs.Ytlflpjjmkigepaa
open Go Go.Abs
attribute [local irreducible] Cmp Rg Dw Cd Lp Ev Rdk CT Upd InK
theorem rem_i {a m : Nat} (hm : 0 < m) : abin .rem (.int .i64 (.ofNat a)) (.int .i64 (.ofNat m)) = some (.int .i64 (.ofNat (a % m))) := by
  have e : abin .rem (.int .i64 (.ofNat a)) (.int .i64 (.ofNat m)) = (bif ieq (.ofNat m) 0 then none else some (.int .i64 ((Int.ofNat a).tmod (.ofNat m)))) := rfl
  have e2 : ieq (.ofNat m) 0 = false := by
    rw [ieq_dec]; simp; omega
  rw [e, e2, cond_false]
  rfl
theorem count18 {n : Int} {m : Nat} (hn : rng n) (hm : 0 < m) : PT Try.prog false 18 [.int .i64 n, .int .i64 (.ofNat m)] (.int .i64 (.ofNat (cnt n m))) := by
  unfold rng at hn
  refine PT.of (CT.enter mixed comp18 (Nat.le_of_ble_eq_true rfl) ?_)
  by_cases h : n < 0
  · obtain ⟨a, ha⟩ : ∃ a : Nat, -(n + 1) = .ofNat a := ⟨(-(n + 1)).toNat, by simp; omega⟩
    have p1 := add_int (x := n) (y := 1) (by omega) (by omega)
    have p2 : apure .e (.un .neg (.c (.int .i64 (n + 1)))) = some (.int .i64 (.ofNat a)) := by
      have e : apure .e (.un .neg (.c (.int .i64 (n + 1)))) = some (.int .i64 (awrap .i64 (0 - (n + 1)))) := rfl
      rw [e, Int.zero_sub, ha, awrap_eq]
      congr 2
      simp only [IntKind.wrap, IntKind.bits, IntKind.signed]
      simp at ha ⊢
      omega
    have p3 := rem_i (a := a) hm
    have e : cnt n m = a % m := by
      unfold cnt
      rw [if_pos h, ha]
      exact Int.toNat_natCast _
    rw [e]
    repeat' (first|(refine zz ?_ (by refine iP (v:=?_) ?_; rotate_left; refine Ev.un rfl ?_; exact p2))|refine zz ?_|(refine zw ?_;refine And.intro ?_ ?_<;>intro hc)|(refine zv ?_;intro cv hv)|(refine za ?_;intro _)|refine zc ?_|(refine zd ?_;refine And.intro ?_ ?_<;>(intro e;(try simp only [Bool.not_eq_true',Bool.not_eq_false'] at e);subst e;try contradiction)))
    (first|refine ⟨.inr rfl,_,.t rfl .nil,?_⟩|refine ⟨.inr rfl,_,.t rfl (.t rfl .nil),?_⟩|refine ⟨.inr rfl,_,.t rfl (.t rfl (.t rfl .nil)),?_⟩|refine ⟨.inr rfl,_,.nil,?_⟩|refine ⟨.inl rfl,_,.t rfl .nil,?_⟩|refine ⟨.inl rfl,_,.nil,?_⟩|refine ⟨.inr rfl,_,.cn rfl (by exact zN) .nil,?_⟩|refine ⟨.inr rfl,_,.cn rfl (by exact zN) (.t rfl .nil),?_⟩)
    rfl
  · obtain ⟨a, rfl⟩ : ∃ a : Nat, n = .ofNat a := ⟨n.toNat, by simp; omega⟩
    have p3 := rem_i (a := a) hm
    have e : cnt (.ofNat a) m = a % m := by
      unfold cnt
      rw [if_neg h]
      exact Int.toNat_natCast _
    rw [e]
    repeat' (first|refine zz ?_|(refine zw ?_;refine And.intro ?_ ?_<;>intro hc)|(refine zv ?_;intro cv hv)|(refine za ?_;intro _)|refine zc ?_|(refine zd ?_;refine And.intro ?_ ?_<;>(intro e;(try simp only [Bool.not_eq_true',Bool.not_eq_false'] at e);subst e;try contradiction)))
    (first|refine ⟨.inr rfl,_,.t rfl .nil,?_⟩|refine ⟨.inr rfl,_,.t rfl (.t rfl .nil),?_⟩|refine ⟨.inr rfl,_,.t rfl (.t rfl (.t rfl .nil)),?_⟩|refine ⟨.inr rfl,_,.nil,?_⟩|refine ⟨.inl rfl,_,.t rfl .nil,?_⟩|refine ⟨.inl rfl,_,.nil,?_⟩|refine ⟨.inr rfl,_,.cn rfl (by exact zN) .nil,?_⟩|refine ⟨.inr rfl,_,.cn rfl (by exact zN) (.t rfl .nil),?_⟩)
    rfl
theorem m13 {o : PO} {b13 : Nat} {z1 z7 z9 z12 : AV} (h1 : o.k.s.length ≤ 1024) (h2 : isB o.k = true) (h3 : isB o.v = true) (h4 : ¬ o.v.k = 3) : Cd Try.prog false (.reg r9_13) [(1, z1), (7, z7), (9, z9), (12, z12), (13, .ptr b13 0 0 9)] [[(b13, .cells (poR o) 0 0 false)]] fun e l K => e = .nrm ∧ Sub2 [(1, z1), (7, z7), (9, z9), (12, z12), (13, .ptr b13 0 0 9), (81, .bool false)] l ∧ K = [[(b13, .cells (poR o) 0 0 false)]] := by
  have k1 := is21 (v := o.k)
  have k2 := is21 (v := o.v)
  rw [h2] at k1
  rw [h3] at k2
  have hrk : ∀ K, InK K b13 (.cells (poR o) 0 0 false) → Rdk K (.loadn 3) (.ptr b13 0 1 3) (.ptr b13 0 1 3) (valA o.k) := fun K h => Rdk.bn h rfl
  have hrv : ∀ K, InK K b13 (.cells (poR o) 0 0 false) → Rdk K (.loadn 3) (.ptr b13 0 4 3) (.ptr b13 0 4 3) (valA o.v) := fun K h => Rdk.bn h rfl
  repeat' (first|(refine Rg.r rfl rfl (hrk _ (by repeat (first | exact InK.here | refine InK.there ?_))) ?_)|(refine Rg.r rfl rfl (hrv _ (by repeat (first | exact InK.here | refine InK.there ?_))) ?_)|refine zz ?_|(refine zw ?_;refine And.intro ?_ ?_<;>intro hc)|(refine zv ?_;intro cv hv)|(refine za ?_;intro _)|refine zc ?_|(refine zd ?_;refine And.intro ?_ ?_<;>(intro e;(try simp only [Bool.not_eq_true',Bool.not_eq_false'] at e);subst e;try contradiction)))
  exact ⟨rfl, ⟨rfl, rfl, rfl, rfl, rfl, rfl, trivial⟩, rfl⟩
def poV (o : PO) : Val := if o.tab then ⟨3, (cnt o.to 4 : Nat), []⟩ else o.v
theorem m14 {o : PO} {b13 : Nat} {z1 z7 z9 z12 : AV} (h1 : PT Try.prog false 18 [.int .i64 o.t, .int .i64 (.ofNat 4)] (.int .i64 (.ofNat (cnt o.t 4)))) (h2 : PT Try.prog false 18 [.int .i64 o.to, .int .i64 (.ofNat 4)] (.int .i64 (.ofNat (cnt o.to 4)))) {c d : Chk} {X : ACode} {Q : AX → SL → Mem → Prop}
    (h : ∀ b14 b15 l, Sub2 [(1, z1), (7, z7), (9, z9), (12, z12), (13, .ptr b13 0 0 9), (14, .ptr b14 0 0 3), (15, .ptr b15 0 0 3)] l → Cd Try.prog false X l [[(b15, .cells (valR (poV o)) 0 0 false)], [(b14, .cells (valR ⟨3, (cnt o.t 4 : Nat), []⟩) 0 0 false)], [(b13, .cells (poR o) 0 0 false)], c, d] Q) :
    Cd Try.prog false (.seq (.reg r9_14) (.seq (.reg r9_15) (.seq (.seq (.reg r9_16) (.cond (.t 89) (.reg r9_17) .skip)) X))) [(1, z1), (7, z7), (9, z9), (12, z12), (13, .ptr b13 0 0 9)] [[(b13, .cells (poR o) 0 0 false)], c, d] Q := by
  have hrk : ∀ K, InK K b13 (.cells (poR o) 0 0 false) → Rdk K (.loadn 3) (.ptr b13 0 1 3) (.ptr b13 0 1 3) (valA o.k) := fun K h => Rdk.bn h rfl
  have hrv : ∀ K, InK K b13 (.cells (poR o) 0 0 false) → Rdk K (.loadn 3) (.ptr b13 0 4 3) (.ptr b13 0 4 3) (valA o.v) := fun K h => Rdk.bn h rfl
  obtain ⟨t, k, v, tab, to⟩ := o
  cases tab
  · repeat' (first|(refine Rg.r rfl rfl (hrk _ (by repeat (first | exact InK.here | refine InK.there ?_))) ?_)|(refine Rg.r rfl rfl (hrv _ (by repeat (first | exact InK.here | refine InK.there ?_))) ?_)|refine zz ?_|(refine zw ?_;refine And.intro ?_ ?_<;>intro hc)|(refine zv ?_;intro cv hv)|(refine za ?_;intro _)|refine zc ?_|(refine zd ?_;refine And.intro ?_ ?_<;>(intro e;(try simp only [Bool.not_eq_true',Bool.not_eq_false'] at e);subst e;try contradiction)))
    exact h _ _ _ ⟨rfl, rfl, rfl, rfl, rfl, rfl, rfl, trivial⟩
  · repeat' (first|(refine Rg.r rfl rfl (hrk _ (by repeat (first | exact InK.here | refine InK.there ?_))) ?_)|(refine Rg.r rfl rfl (hrv _ (by repeat (first | exact InK.here | refine InK.there ?_))) ?_)|refine zz ?_|(refine zw ?_;refine And.intro ?_ ?_<;>intro hc)|(refine zv ?_;intro cv hv)|(refine za ?_;intro _)|refine zc ?_|(refine zd ?_;refine And.intro ?_ ?_<;>(intro e;(try simp only [Bool.not_eq_true',Bool.not_eq_false'] at e);subst e;try contradiction)))
    exact h _ _ _ ⟨rfl, rfl, rfl, rfl, rfl, rfl, rfl, trivial⟩
theorem m18 {o : PO} {b13 b14 b15 b r : Nat} {H : MH} {c d : Chk} {V : Val} {z1 z12 : AV} (hX : HC b H [] c) (hY : RC r H [] d) (hok : H.ok) (hk : keyB o.k = true → ScOk o.k) :
    Cd Try.prog false (.draw r9_18) [(1, z1), (7, hP b), (9, rP r), (12, z12), (13, .ptr b13 0 0 9), (14, .ptr b14 0 0 3), (15, .ptr b15 0 0 3)] [[(b15, .cells (valR V) 0 0 false)], [(b14, .cells (valR ⟨3, (cnt o.t 4 : Nat), []⟩) 0 0 false)], [(b13, .cells (poR o) 0 0 false)], c, d]
    fun e l K => e = .nrm ∧ Sub2 [(1, z1), (7, hP b), (9, rP r), (12, z12), (106, .bool false)] l ∧ ∃ c' d' R, HC b (mPut H ⟨3, (cnt o.t 4 : Nat), []⟩ o.k V).1 [] c' ∧ RC r (mPut H ⟨3, (cnt o.t 4 : Nat), []⟩ o.k V).1 [] d' ∧ Sel K [c', d'] R := by
  have hrk : ∀ K, InK K b13 (.cells (poR o) 0 0 false) → Rdk K (.loadn 3) (.ptr b13 0 1 3) (.ptr b13 0 1 3) (valA o.k) := fun K h => Rdk.bn h rfl
  have p1 := putH hX hok (t := ⟨3, (cnt o.t 4 : Nat), []⟩) (k := o.k) (v := V) (fun hb => (hk hb).can hb)
  have p2 := putR hY hok (t := ⟨3, (cnt o.t 4 : Nat), []⟩) (k := o.k) (v := V) (fun hb => (hk hb).can hb) (fun hb => (hk hb).len)
  have hr4 : ∀ K, InK K b14 (.cells (valR ⟨3, (cnt o.t 4 : Nat), []⟩) 0 0 false) → Rdk K (.loadn 3) (.ptr b14 0 0 3) (.ptr b14 0 0 3) (valA ⟨3, (cnt o.t 4 : Nat), []⟩) := fun K h => Rdk.bn h rfl
  have hr5 : ∀ K, InK K b15 (.cells (valR V) 0 0 false) → Rdk K (.loadn 3) (.ptr b15 0 0 3) (.ptr b15 0 0 3) (valA V) := fun K h => Rdk.bn h rfl
  repeat' (first|(refine Dw.r rfl rfl (hrk _ (by repeat (first | exact InK.here | refine InK.there ?_))) (by repeat (first | exact trivial | refine And.intro (Or.inl rfl) ?_ | (refine And.intro (Or.inr ?_) ?_; (focus (first | exact hrk _ (by repeat (first | exact InK.here | refine InK.there ?_)) | first | exact Rdk.i1 | assumption | (refine Rdk.in ?_; first | assumption | exact rfl) | (refine Rdk.b1 (cs := ?_) ?_ ?_; rotate_left; (repeat (first | exact InK.here | refine InK.there ?_)); exact rfl) | (refine Rdk.bw ?_ ?_; (repeat (first | exact InK.here | refine InK.there ?_)); first | assumption | exact rfl) | (refine Rdk.bw (cs := ?_) ?_ ?_; rotate_left; (repeat (first | exact InK.here | refine InK.there ?_)); first | assumption | exact rfl) | (refine Rdk.bn ?_ ?_; (repeat (first | exact InK.here | refine InK.there ?_)); exact rfl) | (refine Rdk.bn (cs := ?_) ?_ ?_; rotate_left; (repeat (first | exact InK.here | refine InK.there ?_)); exact rfl)))))) ?_)|(refine Dw.r rfl rfl (hr4 _ (by repeat (first | exact InK.here | refine InK.there ?_))) (by repeat (first | exact trivial | refine And.intro (Or.inl rfl) ?_ | (refine And.intro (Or.inr ?_) ?_; (focus (first | exact hr4 _ (by repeat (first | exact InK.here | refine InK.there ?_)) | first | exact Rdk.i1 | assumption | (refine Rdk.in ?_; first | assumption | exact rfl) | (refine Rdk.b1 (cs := ?_) ?_ ?_; rotate_left; (repeat (first | exact InK.here | refine InK.there ?_)); exact rfl) | (refine Rdk.bw ?_ ?_; (repeat (first | exact InK.here | refine InK.there ?_)); first | assumption | exact rfl) | (refine Rdk.bw (cs := ?_) ?_ ?_; rotate_left; (repeat (first | exact InK.here | refine InK.there ?_)); first | assumption | exact rfl) | (refine Rdk.bn ?_ ?_; (repeat (first | exact InK.here | refine InK.there ?_)); exact rfl) | (refine Rdk.bn (cs := ?_) ?_ ?_; rotate_left; (repeat (first | exact InK.here | refine InK.there ?_)); exact rfl)))))) ?_)|(refine Dw.r rfl rfl (hr5 _ (by repeat (first | exact InK.here | refine InK.there ?_))) (by repeat (first | exact trivial | refine And.intro (Or.inl rfl) ?_ | (refine And.intro (Or.inr ?_) ?_; (focus (first | exact hr5 _ (by repeat (first | exact InK.here | refine InK.there ?_)) | first | exact Rdk.i1 | assumption | (refine Rdk.in ?_; first | assumption | exact rfl) | (refine Rdk.b1 (cs := ?_) ?_ ?_; rotate_left; (repeat (first | exact InK.here | refine InK.there ?_)); exact rfl) | (refine Rdk.bw ?_ ?_; (repeat (first | exact InK.here | refine InK.there ?_)); first | assumption | exact rfl) | (refine Rdk.bw (cs := ?_) ?_ ?_; rotate_left; (repeat (first | exact InK.here | refine InK.there ?_)); first | assumption | exact rfl) | (refine Rdk.bn ?_ ?_; (repeat (first | exact InK.here | refine InK.there ?_)); exact rfl) | (refine Rdk.bn (cs := ?_) ?_ ?_; rotate_left; (repeat (first | exact InK.here | refine InK.there ?_)); exact rfl)))))) ?_)|refine zz ?_|(refine zw ?_;refine And.intro ?_ ?_<;>intro hc)|(refine zv ?_;intro cv hv)|(refine za ?_;intro _)|refine zc ?_|(refine zd ?_;refine And.intro ?_ ?_<;>(intro e;(try simp only [Bool.not_eq_true',Bool.not_eq_false'] at e);subst e;try contradiction)))
  refine Dw.callM rfl p1 (.cons (.there (.there (.there (.here)))) (.nil)) ?_
  rintro _ _ ⟨rfl, c', hX', rfl⟩
  refine ⟨by repeat (first | exact trivial | refine rdsB rfl ?_ | (refine rdsR ?_ ?_; (focus (first | assumption | (refine Rdk.b1 (cs := ?_) ?_ ?_; rotate_left; (repeat (first | exact InK.here | refine InK.there ?_)); exact rfl) | (refine Rdk.bw ?_ ?_; (repeat (first | exact InK.here | refine InK.there ?_)); first | assumption | exact rfl) | (refine Rdk.bn ?_ ?_; (repeat (first | exact InK.here | refine InK.there ?_)); exact rfl) | (refine Rdk.in ?_; first | assumption | exact rfl) | exact Rdk.i1)))), ?_⟩
  repeat' (first|(refine Dw.r rfl rfl (hrk _ (by repeat (first | exact InK.here | refine InK.there ?_))) (by repeat (first | exact trivial | refine And.intro (Or.inl rfl) ?_ | (refine And.intro (Or.inr ?_) ?_; (focus (first | exact hrk _ (by repeat (first | exact InK.here | refine InK.there ?_)) | first | exact Rdk.i1 | assumption | (refine Rdk.in ?_; first | assumption | exact rfl) | (refine Rdk.b1 (cs := ?_) ?_ ?_; rotate_left; (repeat (first | exact InK.here | refine InK.there ?_)); exact rfl) | (refine Rdk.bw ?_ ?_; (repeat (first | exact InK.here | refine InK.there ?_)); first | assumption | exact rfl) | (refine Rdk.bw (cs := ?_) ?_ ?_; rotate_left; (repeat (first | exact InK.here | refine InK.there ?_)); first | assumption | exact rfl) | (refine Rdk.bn ?_ ?_; (repeat (first | exact InK.here | refine InK.there ?_)); exact rfl) | (refine Rdk.bn (cs := ?_) ?_ ?_; rotate_left; (repeat (first | exact InK.here | refine InK.there ?_)); exact rfl)))))) ?_)|(refine Dw.r rfl rfl (hr4 _ (by repeat (first | exact InK.here | refine InK.there ?_))) (by repeat (first | exact trivial | refine And.intro (Or.inl rfl) ?_ | (refine And.intro (Or.inr ?_) ?_; (focus (first | exact hr4 _ (by repeat (first | exact InK.here | refine InK.there ?_)) | first | exact Rdk.i1 | assumption | (refine Rdk.in ?_; first | assumption | exact rfl) | (refine Rdk.b1 (cs := ?_) ?_ ?_; rotate_left; (repeat (first | exact InK.here | refine InK.there ?_)); exact rfl) | (refine Rdk.bw ?_ ?_; (repeat (first | exact InK.here | refine InK.there ?_)); first | assumption | exact rfl) | (refine Rdk.bw (cs := ?_) ?_ ?_; rotate_left; (repeat (first | exact InK.here | refine InK.there ?_)); first | assumption | exact rfl) | (refine Rdk.bn ?_ ?_; (repeat (first | exact InK.here | refine InK.there ?_)); exact rfl) | (refine Rdk.bn (cs := ?_) ?_ ?_; rotate_left; (repeat (first | exact InK.here | refine InK.there ?_)); exact rfl)))))) ?_)|(refine Dw.r rfl rfl (hr5 _ (by repeat (first | exact InK.here | refine InK.there ?_))) (by repeat (first | exact trivial | refine And.intro (Or.inl rfl) ?_ | (refine And.intro (Or.inr ?_) ?_; (focus (first | exact hr5 _ (by repeat (first | exact InK.here | refine InK.there ?_)) | first | exact Rdk.i1 | assumption | (refine Rdk.in ?_; first | assumption | exact rfl) | (refine Rdk.b1 (cs := ?_) ?_ ?_; rotate_left; (repeat (first | exact InK.here | refine InK.there ?_)); exact rfl) | (refine Rdk.bw ?_ ?_; (repeat (first | exact InK.here | refine InK.there ?_)); first | assumption | exact rfl) | (refine Rdk.bw (cs := ?_) ?_ ?_; rotate_left; (repeat (first | exact InK.here | refine InK.there ?_)); first | assumption | exact rfl) | (refine Rdk.bn ?_ ?_; (repeat (first | exact InK.here | refine InK.there ?_)); exact rfl) | (refine Rdk.bn (cs := ?_) ?_ ?_; rotate_left; (repeat (first | exact InK.here | refine InK.there ?_)); exact rfl)))))) ?_)|refine zz ?_|(refine zw ?_;refine And.intro ?_ ?_<;>intro hc)|(refine zv ?_;intro cv hv)|(refine za ?_;intro _)|refine zc ?_|(refine zd ?_;refine And.intro ?_ ?_<;>(intro e;(try simp only [Bool.not_eq_true',Bool.not_eq_false'] at e);subst e;try contradiction)))
  refine Dw.callM rfl p2 (.cons (.there (.there (.there (.there (.here))))) (.nil)) ?_
  rintro _ _ ⟨rfl, d', hY', rfl⟩
  refine ⟨by repeat (first | exact trivial | refine rdsB rfl ?_ | (refine rdsR ?_ ?_; (focus (first | assumption | (refine Rdk.b1 (cs := ?_) ?_ ?_; rotate_left; (repeat (first | exact InK.here | refine InK.there ?_)); exact rfl) | (refine Rdk.bw ?_ ?_; (repeat (first | exact InK.here | refine InK.there ?_)); first | assumption | exact rfl) | (refine Rdk.bn ?_ ?_; (repeat (first | exact InK.here | refine InK.there ?_)); exact rfl) | (refine Rdk.in ?_; first | assumption | exact rfl) | exact Rdk.i1)))), ?_⟩
  repeat' (first|refine zz ?_|(refine zw ?_;refine And.intro ?_ ?_<;>intro hc)|(refine zv ?_;intro cv hv)|(refine za ?_;intro _)|refine zc ?_|(refine zd ?_;refine And.intro ?_ ?_<;>(intro e;(try simp only [Bool.not_eq_true',Bool.not_eq_false'] at e);subst e;try contradiction)))
  exact ⟨rfl, ⟨rfl, rfl, rfl, rfl, rfl, trivial⟩, c', d', _, hX', hY', (.cons (.there (.here)) (.cons (.here) (.nil)))⟩
section
variable {b r : Nat} {H : MH} {c d : Chk}
theorem laid9_tabs {Q : AX → SL → Mem → Prop} {z1 : AV} (hend : ∀ l' c d, Sub2 [(1, z1), (7, hP b), (9, rP r)] l' → HC b (tabsM 4 (mNew 1000)) [] c → RC r (tabsM 4 (mNew 1000)) [] d → Q (.ext 0) l' [c, d]) :
    ∀ (f i : Nat) (c d : Chk), 4 < i + f → i ≤ 4 → HC b (tabsM i (mNew 1000)) [] c → RC r (tabsM i (mNew 1000)) [] d → Lp Try.prog false b9_0 f [(1, z1), (7, hP b), (9, rP r), (11, .int .i64 (.ofNat i))] [c, d] Q := by
  intro f
  induction f with
  | zero => intro i c d h1; omega
  | succ f ih =>
    intro i c d h1 h2 hX hY
    refine Lp.round ?_
    by_cases hi : i < 4
    · obtain ⟨hW, _⟩ := tabsM_ok (n := i) (by omega)
      have k1 := tableH hX hW.ok
      have k2 := tableR hY hW.ok
      repeat' (first|(refine Rg.callM rfl k1 (.cons (.here) (.nil)) ?_; rintro _ _ ⟨rfl, c', hX', rfl⟩)|(refine Rg.callM rfl k2 (.cons (.there (.here)) (.nil)) ?_; rintro _ _ ⟨rfl, d', hY', rfl⟩)|refine zz ?_|(refine zw ?_;refine And.intro ?_ ?_<;>intro hc)|(refine zv ?_;intro cv hv)|(refine za ?_;intro _)|refine zc ?_|(refine zd ?_;refine And.intro ?_ ?_<;>(intro e;(try simp only [Bool.not_eq_true',Bool.not_eq_false'] at e);subst e;try contradiction)))
      refine Lp.drop (.cons (.there (.here)) (.cons (.here) (.nil))) (Lp.weak ?hw (ih (i + 1) c' d' (by omega) hi hX' hY'))
      case hw => exact ⟨rfl, rfl, rfl, rfl, trivial⟩
    · obtain rfl : i = 4 := by omega
      repeat' (first|refine zz ?_|(refine zw ?_;refine And.intro ?_ ?_<;>intro hc)|(refine zv ?_;intro cv hv)|(refine za ?_;intro _)|refine zc ?_|(refine zd ?_;refine And.intro ?_ ?_<;>(intro e;(try simp only [Bool.not_eq_true',Bool.not_eq_false'] at e);subst e;try contradiction)))
      exact hend _ c d ⟨rfl, rfl, rfl, trivial⟩ hX hY
theorem VOk.sc {k : Val} (h : VOk k) (hk : keyB k = true) : ScOk k := by
  rcases h with h | ⟨h, _⟩
  · exact h
  · simp only [keyB, Bool.or_eq_true, decide_eq_true_eq] at hk
    omega
theorem mPut_no {H : MH} {t k v : Val} (hk : ¬ keyB k = true) : (mPut H t k v).1 = H := by
  rcases mPut_cases H t k v with e | ⟨_, _, h, _⟩
  · exact e
  · exact absurd h hk
theorem Jv.putV {i : Nat} {H : MH} {t k v : Val} (h : Jv i H) (hk : VOk k) (hv : VOk v) : Jv (i + 1) (mPut H t k v).1 := by
  by_cases hb : keyB k = true
  · exact h.put (hk.sc hb) hv
  · rw [mPut_no hb]; exact h.next
def skipB (o : PO) : Prop := 1024 < o.k.s.length ∨ isB o.k = false ∨ isB o.v = false ∨ o.v.k = 3
theorem laid9_puts {Q : AX → SL → Mem → Prop} {lv : AV} {ls : List PO} (hL : ASl 9 lv (ls.map poR)) (hO : ∀ o, o ∈ ls → o.ok) (hll : ls.length ≤ 9223372036854775807)
    (hend : ∀ l' c d H, Sub2 [(7, hP b), (9, rP r)] l' → HC b H [] c → RC r H [] d → Jv 60 H → Q (.ext 2) l' [c, d]) :
    ∀ (f i : Nat) (c d : Chk) (H : MH), 60 < i + f → i ≤ 60 → HC b H [] c → RC r H [] d → Jv i H → Lp Try.prog false b9_1 f [(1, lv), (7, hP b), (9, rP r), (12, .int .i64 (.ofNat i))] [c, d] Q := by
  have hln := hL.len
  rw [List.length_map] at hln
  intro f
  induction f with
  | zero => intro i c d H h1; omega
  | succ f ih =>
    intro i c d H h1 h2 hX hY hJ
    refine Lp.round ?_
    by_cases hi : i < ls.length ∧ i < 60
    · obtain ⟨hi1, hi2⟩ := hi
      obtain ⟨o, ho⟩ : ∃ o, ls[i]? = some o := ⟨_, List.getElem?_eq_getElem hi1⟩
      have hOk := hO o (List.mem_of_getElem? ho)
      have q1 := hL.iadr (i := i) (r := poR o) (k := .i64) (by rw [List.getElem?_map, ho]; rfl)
      have k1 := is21 (v := o.k)
      have k2 := is21 (v := o.v)
      by_cases hA : skipB o
      · unfold skipB at hA
        repeat' (first|(refine Rg.r rfl rfl (Rdk.bn (n := 3) (cs := poR o) (by repeat (first | exact InK.here | refine InK.there ?_)) (by exact rfl)) ?_)|refine zz ?_|(refine zw ?_;refine And.intro ?_ ?_<;>intro hc)|(refine zv ?_;intro cv hv)|(refine za ?_;intro _)|refine zc ?_|(refine zd ?_;refine And.intro ?_ ?_<;>(intro e;(try simp only [Bool.not_eq_true',Bool.not_eq_false'] at e);subst e;try contradiction)))
        all_goals first
          | exact Lp.drop (.cons (.there (.here)) (.cons (.there (.here)) (.nil))) (Lp.weak (by exact ⟨rfl, rfl, rfl, rfl, trivial⟩) (ih (i + 1) c d H (by omega) hi2 hX hY hJ.next))
          | (exfalso; simp_all)
      · unfold skipB at hA
        simp only [not_or, Nat.not_lt, Bool.not_eq_false] at hA
        obtain ⟨hA1, hA2, hA3, hA4⟩ := hA
        rw [hA2] at k1
        rw [hA3] at k2
        have hv := isB_ok hA3 hOk.vn hOk.vs
        have hk := isB_ok hA2 hOk.kn hOk.ks
        have c1 := count18 (m := 4) hOk.t (by decide)
        have c2 := count18 (m := 4) hOk.to (by decide)
        have hvV : VOk (poV o) := by
          unfold poV
          split
          · exact .inr ⟨.inl rfl, rfl⟩
          · exact hv
        have hJ' := hJ.putV (t := ⟨3, (cnt o.t 4 : Nat), []⟩) (v := poV o) hk hvV
        repeat' (first|(refine stopAt (c := r9_13) ?_)|refine zz ?_|(refine zw ?_;refine And.intro ?_ ?_<;>intro hc)|(refine zv ?_;intro cv hv)|(refine za ?_;intro _)|refine zc ?_|(refine zd ?_;refine And.intro ?_ ?_<;>(intro e;(try simp only [Bool.not_eq_true',Bool.not_eq_false'] at e);subst e;try contradiction)))
        rename_i b13
        refine ⟨?_⟩
        refine Cd.seq (Cd.weak (l2 := [(1, lv), (7, hP b), (9, rP r), (12, .int .i64 (.ofNat i)), (13, .ptr b13 0 0 9)]) ⟨rfl, rfl, rfl, rfl, rfl, trivial⟩ (Cd.framed (.cons (.here) (.nil)) (m13 (by omega) hA2 hA3 hA4) ?_))
        rintro _ l _ ⟨rfl, hs, rfl⟩
        show Cd _ _ _ _ _ _
        refine Cd.weak hs ?_
        repeat' (first|(refine stopAt (c := r9_14) ?_)|refine zz ?_|(refine zw ?_;refine And.intro ?_ ?_<;>intro hc)|(refine zv ?_;intro cv hv)|(refine za ?_;intro _)|refine zc ?_|(refine zd ?_;refine And.intro ?_ ?_<;>(intro e;(try simp only [Bool.not_eq_true',Bool.not_eq_false'] at e);subst e;try contradiction)))
        refine ⟨?_⟩
        refine Cd.weak (l2 := [(1, lv), (7, hP b), (9, rP r), (12, .int .i64 (.ofNat i)), (13, .ptr b13 0 0 9)]) ⟨rfl, rfl, rfl, rfl, rfl, trivial⟩ (m14 c1 c2 ?_)
        intro b14 b15 l hs
        refine Cd.weak hs (Cd.seq (Cd.mono (m18 hX hY hJ.wok.ok fun hb => hk.sc hb) ?_))
        rintro _ l _ ⟨rfl, hs, c', d', R, hX', hY', hsel⟩
        show Cd _ _ _ _ _ _
        refine Cd.weak hs (Cd.drop hsel ?_)
        repeat' (first|refine zz ?_|(refine zw ?_;refine And.intro ?_ ?_<;>intro hc)|(refine zv ?_;intro cv hv)|(refine za ?_;intro _)|refine zc ?_|(refine zd ?_;refine And.intro ?_ ?_<;>(intro e;(try simp only [Bool.not_eq_true',Bool.not_eq_false'] at e);subst e;try contradiction)))
        exact Lp.weak (by exact ⟨rfl, rfl, rfl, rfl, trivial⟩) (ih (i + 1) c' d' _ (by omega) hi2 hX' hY' hJ')
    · have hJ' : Jv 60 H := ⟨hJ.wok, hJ.room, hJ.tl, by have := hJ.used; omega, hJ.fns⟩
      repeat' (first|refine zz ?_|(refine zw ?_;refine And.intro ?_ ?_<;>intro hc)|(refine zv ?_;intro cv hv)|(refine za ?_;intro _)|refine zc ?_|(refine zd ?_;refine And.intro ?_ ?_<;>(intro e;(try simp only [Bool.not_eq_true',Bool.not_eq_false'] at e);subst e;try contradiction)))
      all_goals first | exact hend _ _ _ _ ⟨rfl, rfl, trivial⟩ hX hY hJ' | (exfalso; omega)
theorem new19 {room : Nat} (h : room ≤ 1000000) : CT Try.prog false 19 [.int .i64 (.ofNat room)] [] fun v K' => ∃ b c, v = .tup [hP b, .int .i64 (.ofNat 0)] ∧ HC b (mNew room) [] c ∧ K' = [c] := by
  refine CT.mono newH ?_
  rintro v K' (⟨h1, _⟩ | ⟨room2, b, c, hr, _, rfl, hX, rfl⟩)
  · exfalso; simp at h1; omega
  · have : room = room2 := by rw [Int.ofNat_eq_natCast, Int.ofNat_eq_natCast] at hr; omega
    subst this
    exact ⟨b, c, rfl, hX, rfl⟩
theorem new20 {room : Nat} (h : room ≤ 1000000) : CT Try.prog false 20 [.int .i64 (.ofNat room)] [] fun v K' => ∃ b c, v = .tup [rP b, .int .i64 (.ofNat 0)] ∧ RC b (mNew room) [] c ∧ K' = [c] := by
  refine CT.mono newR ?_
  rintro v K' (⟨h1, _⟩ | ⟨room2, b, c, hr, _, rfl, hX, rfl⟩)
  · exfalso; simp at h1; omega
  · have : room = room2 := by rw [Int.ofNat_eq_natCast, Int.ofNat_eq_natCast] at hr; omega
    subst this
    exact ⟨b, c, rfl, hX, rfl⟩
theorem laid9 {lv : AV} {ls : List PO} (hL : ASl 9 lv (ls.map poR)) (hO : ∀ o, o ∈ ls → o.ok) (hll : ls.length ≤ 9223372036854775807) (hv1 : OneC lv) : CT Try.prog false 9 [.int .i64 (.ofNat 1000), lv] [] fun w K' => ∃ b r H c d, w = .tup [hP b, rP r, .bool true] ∧ HC b H [] c ∧ RC r H [] d ∧ Jv 60 H ∧ K' = [c, d] := by
  have n1 := new19 (room := 1000) (by decide)
  have n2 := new20 (room := 1000) (by decide)
  refine CT.enterS mixed comp9 (Nat.le_of_ble_eq_true rfl) ?_
  repeat' (first|refine zz ?_|(refine zw ?_;refine And.intro ?_ ?_<;>intro hc)|(refine zv ?_;intro cv hv)|(refine za ?_;intro _)|refine zc ?_|(refine zd ?_;refine And.intro ?_ ?_<;>(intro e;(try simp only [Bool.not_eq_true',Bool.not_eq_false'] at e);subst e;try contradiction)))
  refine Rg.callM (m := []) rfl n1 .nil ?_
  rintro _ _ ⟨b, c, rfl, hX, rfl⟩
  repeat' (first|refine zz ?_|(refine zw ?_;refine And.intro ?_ ?_<;>intro hc)|(refine zv ?_;intro cv hv)|(refine za ?_;intro _)|refine zc ?_|(refine zd ?_;refine And.intro ?_ ?_<;>(intro e;(try simp only [Bool.not_eq_true',Bool.not_eq_false'] at e);subst e;try contradiction)))
  refine Rg.callM (m := []) rfl n2 .nil ?_
  rintro _ _ ⟨r, d, rfl, hY, rfl⟩
  repeat' (first|refine zz ?_|(refine zw ?_;refine And.intro ?_ ?_<;>intro hc)|(refine zv ?_;intro cv hv)|(refine za ?_;intro _)|refine zc ?_|(refine zd ?_;refine And.intro ?_ ?_<;>(intro e;(try simp only [Bool.not_eq_true',Bool.not_eq_false'] at e);subst e;try contradiction)))
  refine Cd.loop (k := 5) (Lp.drop (.cons (.there (.here)) (.cons (.here) (.nil))) (Lp.weak (l2 := [(1, lv), (7, hP b), (9, rP r), (11, .int .i64 (.ofNat 0))]) ⟨rfl, rfl, rfl, rfl, trivial⟩ (laid9_tabs ?_ 5 0 c d (by omega) (by omega) hX hY)))
  intro l c d hs hX hY
  show Cd _ _ _ _ _ _
  refine Cd.weak hs ?_
  repeat' (first|refine zz ?_|(refine zw ?_;refine And.intro ?_ ?_<;>intro hc)|(refine zv ?_;intro cv hv)|(refine za ?_;intro _)|refine zc ?_|(refine zd ?_;refine And.intro ?_ ?_<;>(intro e;(try simp only [Bool.not_eq_true',Bool.not_eq_false'] at e);subst e;try contradiction)))
  obtain ⟨w1, w2, w3, w4, w5⟩ := tabsM_ok (n := 4) (by omega)
  refine Cd.loop (k := 61) (Lp.weak (l2 := [(1, lv), (7, hP b), (9, rP r), (12, .int .i64 (.ofNat 0))]) ⟨rfl, rfl, rfl, rfl, trivial⟩ (laid9_puts hL hO hll ?_ 61 0 c d _ (by omega) (by omega) hX hY ⟨w1, w2, w3, by omega, w5⟩))
  intro l c d H hs hX hY hJ
  show Cd _ _ _ _ _ _
  refine Cd.weak hs ?_
  repeat' (first|refine zz ?_|(refine zw ?_;refine And.intro ?_ ?_<;>intro hc)|(refine zv ?_;intro cv hv)|(refine za ?_;intro _)|refine zc ?_|(refine zd ?_;refine And.intro ?_ ?_<;>(intro e;(try simp only [Bool.not_eq_true',Bool.not_eq_false'] at e);subst e;try contradiction)))
  (first|refine ⟨.inr rfl,_,.t rfl .nil,?_⟩|refine ⟨.inr rfl,_,.t rfl (.t rfl .nil),?_⟩|refine ⟨.inr rfl,_,.t rfl (.t rfl (.t rfl .nil)),?_⟩|refine ⟨.inr rfl,_,.nil,?_⟩|refine ⟨.inl rfl,_,.t rfl .nil,?_⟩|refine ⟨.inl rfl,_,.nil,?_⟩|refine ⟨.inr rfl,_,.cn rfl (by exact zN) .nil,?_⟩|refine ⟨.inr rfl,_,.cn rfl (by exact zN) (.t rfl .nil),?_⟩)
  exact ⟨_, _, (.cons (.here) (.cons (.here) (.nil))), b, r, H, c, d, rfl, hX, hY, hJ, rfl⟩
end
end Go.Proofs.Ytlflpjjmkigepaa

namespace Go.Proofs.Ytlflpjjmkigepaa
open Go Go.Abs
attribute [local irreducible] Cmp Rg Dw Cd Lp Ev Rdk CT Upd InK
theorem known11 : PT Try.prog false 11 [] (.bool true) := PT.run plain0 (by kernel_rfl) rfl rfl
section
variable {b r : Nat} {H : MH} {c d : Chk}
theorem saves3_loop {Q : AX → SL → Mem → Prop} {z3 : AV} (hX : HC b H [] c) (hY : RC r H [] d) (hW : WOk H) (hend : ∀ l', Sub2 [(3, z3), (5, hP b), (6, rP r)] l' → Q (.ext 0) l' [c, d]) :
    ∀ (f i : Nat), 4 < i + f → i ≤ 4 → Lp Try.prog true b3_0 f [(3, z3), (5, hP b), (6, rP r), (8, .int .i64 (.ofNat i))] [c, d] Q := by
  intro f
  induction f with
  | zero => intro i h1; omega
  | succ f ih =>
    intro i h1 h2
    refine Lp.round ?_
    by_cases hi : i < 4
    · have hv : VOk ⟨3, (i : Int), []⟩ := .inr ⟨.inl rfl, rfl⟩
      have k1 := save12 hX hW hv
      have k2 := (save13 hY hW hv).up (nd := true)
      cases he : enc H 200 ⟨3, (i : Int), []⟩ 200 with
      | none =>
        rw [he] at k1 k2
        simp only [svE] at k1 k2
        repeat' (first|(refine Rg.callM rfl k1 (.cons (.there (.here)) (.nil)) ?_; rintro _ _ ⟨rfl, rfl⟩)|(refine Rg.callM rfl k2 (.cons (.there (.there (.here))) (.nil)) ?_; rintro _ _ ⟨rfl, rfl⟩)|refine zz ?_|(refine zw ?_;refine And.intro ?_ ?_<;>intro hc)|(refine zv ?_;intro cv hv)|(refine za ?_;intro _)|refine zc ?_|(refine zd ?_;refine And.intro ?_ ?_<;>(intro e;(try simp only [Bool.not_eq_true',Bool.not_eq_false'] at e);subst e;try contradiction)))
        all_goals first
          | exact absurd rfl hc
          | (exfalso; exact hc rfl)
          | exact Lp.drop (.cons (.there (.here)) (.cons (.here) (.nil))) (Lp.weak (by exact ⟨rfl, rfl, rfl, rfl, trivial⟩) (ih (i + 1) (by omega) hi))
      | some p =>
        obtain ⟨s, l, m⟩ := p
        rw [he] at k1 k2
        simp only [svE] at k1 k2
        repeat' (first|(refine Rg.callM rfl k1 (.cons (.there (.here)) (.nil)) ?_; rintro _ _ ⟨rfl, rfl⟩)|(refine Rg.callM rfl k2 (.cons (.there (.there (.here))) (.nil)) ?_; rintro _ _ ⟨rfl, rfl⟩)|refine zz ?_|(refine zw ?_;refine And.intro ?_ ?_<;>intro hc)|(refine zv ?_;intro cv hv)|(refine za ?_;intro _)|refine zc ?_|(refine zd ?_;refine And.intro ?_ ?_<;>(intro e;(try simp only [Bool.not_eq_true',Bool.not_eq_false'] at e);subst e;try contradiction)))
        all_goals first
          | exact absurd rfl hc
          | (exfalso; exact hc rfl)
          | exact Lp.drop (.cons (.there (.here)) (.cons (.here) (.nil))) (Lp.weak (by exact ⟨rfl, rfl, rfl, rfl, trivial⟩) (ih (i + 1) (by omega) hi))
    · repeat' (first|refine zz ?_|(refine zw ?_;refine And.intro ?_ ?_<;>intro hc)|(refine zv ?_;intro cv hv)|(refine za ?_;intro _)|refine zc ?_|(refine zd ?_;refine And.intro ?_ ?_<;>(intro e;(try simp only [Bool.not_eq_true',Bool.not_eq_false'] at e);subst e;try contradiction)))
      exact hend _ ⟨rfl, rfl, rfl, trivial⟩
theorem saves3 {lv : AV} {ls : List PO} {v : Val} (hL : ASl 9 lv (ls.map poR)) (hO : ∀ o, o ∈ ls → o.ok) (hll : ls.length ≤ 9223372036854775807) (hn : rng v.n) (hs1 : ∀ x, x ∈ v.s → x < 256) : CT Try.prog true 3 [lv, valA v] [] fun w _ => w = .bool true := by
  have k9 := (laid9 hL hO hll hL.one).up (nd := true)
  have k11 := known11.up (nd := true)
  have k10 := (is21 (v := v)).up (nd := true)
  refine CT.enter mixed comp3 (Nat.le_of_ble_eq_true rfl) ?_
  repeat' (first|refine zz ?_|(refine zw ?_;refine And.intro ?_ ?_<;>intro hc)|(refine zv ?_;intro cv hv)|(refine za ?_;intro _)|refine zc ?_|(refine zd ?_;refine And.intro ?_ ?_<;>(intro e;(try simp only [Bool.not_eq_true',Bool.not_eq_false'] at e);subst e;try contradiction)))
  refine Rg.callM (m := []) rfl k9 .nil ?_
  rintro _ _ ⟨b, r, H, c, d, rfl, hX, hY, hJ, rfl⟩
  have hW := hJ.wok
  cases hb : isB v with
  | false =>
    rw [hb] at k10
    repeat' (first|refine zz ?_|(refine zw ?_;refine And.intro ?_ ?_<;>intro hc)|(refine zv ?_;intro cv hv)|(refine za ?_;intro _)|refine zc ?_|(refine zd ?_;refine And.intro ?_ ?_<;>(intro e;(try simp only [Bool.not_eq_true',Bool.not_eq_false'] at e);subst e;try contradiction)))
    (first|refine ⟨.inr rfl,_,.t rfl .nil,?_⟩|refine ⟨.inr rfl,_,.t rfl (.t rfl .nil),?_⟩|refine ⟨.inr rfl,_,.t rfl (.t rfl (.t rfl .nil)),?_⟩|refine ⟨.inr rfl,_,.nil,?_⟩|refine ⟨.inl rfl,_,.t rfl .nil,?_⟩|refine ⟨.inl rfl,_,.nil,?_⟩|refine ⟨.inr rfl,_,.cn rfl (by exact zN) .nil,?_⟩|refine ⟨.inr rfl,_,.cn rfl (by exact zN) (.t rfl .nil),?_⟩)
    subst hv
    rfl
  | true =>
    rw [hb] at k10
    repeat' (first|refine zz ?_|(refine zw ?_;refine And.intro ?_ ?_<;>intro hc)|(refine zv ?_;intro cv hv)|(refine za ?_;intro _)|refine zc ?_|(refine zd ?_;refine And.intro ?_ ?_<;>(intro e;(try simp only [Bool.not_eq_true',Bool.not_eq_false'] at e);subst e;try contradiction)))
    rename_i vb
    refine Cd.loop (k := 5) (Lp.fr (m := [c, d]) (.cons (.here) (.cons (.here) (.nil))) (Lp.weak (l2 := [(3, .ptr vb 0 0 3), (5, hP b), (6, rP r), (8, .int .i64 (.ofNat 0))]) ⟨rfl, rfl, rfl, rfl, trivial⟩ (saves3_loop hX hY hW ?_ 5 0 (by omega) (by omega))))
    intro l hs
    show Cd _ _ _ _ _ _
    refine Cd.weak hs ?_
    have hv := isB_ok hb hn hs1
    have k1 := save12 hX hW hv
    have k2 := (save13 hY hW hv).up (nd := true)
    cases he : enc H 200 v 200 with
    | none =>
      rw [he] at k1 k2
      simp only [svE] at k1 k2
      repeat' (first|(refine Rg.callM rfl k1 (.cons (.here) (.nil)) ?_; rintro _ _ ⟨rfl, rfl⟩)|(refine Rg.callM rfl k2 (.cons (.there (.here)) (.nil)) ?_; rintro _ _ ⟨rfl, rfl⟩)|refine zz ?_|(refine zw ?_;refine And.intro ?_ ?_<;>intro hc)|(refine zv ?_;intro cv hv)|(refine za ?_;intro _)|refine zc ?_|(refine zd ?_;refine And.intro ?_ ?_<;>(intro e;(try simp only [Bool.not_eq_true',Bool.not_eq_false'] at e);subst e;try contradiction)))
      all_goals (first|refine ⟨.inr rfl,_,.t rfl .nil,?_⟩|refine ⟨.inr rfl,_,.t rfl (.t rfl .nil),?_⟩|refine ⟨.inr rfl,_,.t rfl (.t rfl (.t rfl .nil)),?_⟩|refine ⟨.inr rfl,_,.nil,?_⟩|refine ⟨.inl rfl,_,.t rfl .nil,?_⟩|refine ⟨.inl rfl,_,.nil,?_⟩|refine ⟨.inr rfl,_,.cn rfl (by exact zN) .nil,?_⟩|refine ⟨.inr rfl,_,.cn rfl (by exact zN) (.t rfl .nil),?_⟩)
      all_goals (rename_i hv; subst hv; rfl)
    | some p =>
      obtain ⟨s, l, m⟩ := p
      rw [he] at k1 k2
      simp only [svE] at k1 k2
      repeat' (first|(refine Rg.callM rfl k1 (.cons (.here) (.nil)) ?_; rintro _ _ ⟨rfl, rfl⟩)|(refine Rg.callM rfl k2 (.cons (.there (.here)) (.nil)) ?_; rintro _ _ ⟨rfl, rfl⟩)|refine zz ?_|(refine zw ?_;refine And.intro ?_ ?_<;>intro hc)|(refine zv ?_;intro cv hv)|(refine za ?_;intro _)|refine zc ?_|(refine zd ?_;refine And.intro ?_ ?_<;>(intro e;(try simp only [Bool.not_eq_true',Bool.not_eq_false'] at e);subst e;try contradiction)))
      all_goals (first|refine ⟨.inr rfl,_,.t rfl .nil,?_⟩|refine ⟨.inr rfl,_,.t rfl (.t rfl .nil),?_⟩|refine ⟨.inr rfl,_,.t rfl (.t rfl (.t rfl .nil)),?_⟩|refine ⟨.inr rfl,_,.nil,?_⟩|refine ⟨.inl rfl,_,.t rfl .nil,?_⟩|refine ⟨.inl rfl,_,.nil,?_⟩|refine ⟨.inr rfl,_,.cn rfl (by exact zN) .nil,?_⟩|refine ⟨.inr rfl,_,.cn rfl (by exact zN) (.t rfl .nil),?_⟩)
      all_goals (rename_i hv; subst hv; rfl)
end
end Go.Proofs.Ytlflpjjmkigepaa
