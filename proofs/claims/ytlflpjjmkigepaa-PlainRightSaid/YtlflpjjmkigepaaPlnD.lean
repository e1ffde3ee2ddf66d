/- The document's heap in memory: its tables are found, read, counted, their keys told. -/
import Derived.Test.YtlflpjjmkigepaaPlnC
set_option autoImplicit false
set_option maxRecDepth 100000
set_option maxHeartbeats 4000000
set_option linter.unusedVariables false
set_option linter.unusedSimpArgs false
namespace Go.Proofs.Ytlflpjjmkigepaa
open Go Go.Abs
attribute [local irreducible] Cmp Rg Dw Cd Lp Ev Rdk CT Upd InK
theorem _root_.Go.Abs.row_part {sz i o n : Nat} {rows : List (List AV)} {r cs : List AV} (h : ∀ r, r ∈ rows → r.length = sz) (hi : rows[i]? = some r) (hs : seg r o n = some cs) : seg rows.flatten (0 + i * sz + o) n = some cs := by
  obtain ⟨h1, h2⟩ := flatten_at h hi
  have hr : r.length = sz := h r (List.mem_of_getElem? hi)
  simp only [seg] at hs ⊢
  cases hb : Nat.ble (o + n) r.length with
  | false => rw [hb] at hs; cases hs
  | true =>
    rw [hb, cond_true] at hs
    have hle := Nat.le_of_ble_eq_true hb
    rw [Nat.zero_add, Nat.ble_eq_true_of_le (by rw [Nat.add_mul] at h2; omega), cond_true, ← hs, ← h1, ← List.drop_drop, List.drop_take, List.take_take, Nat.min_eq_left (by omega)]
theorem _root_.Go.Abs.Rdk.part {K : Mem} {id g i o n sz : Nat} {gr : Bool} {rows : List (List AV)} {r cs : List AV} {y : AV} (h : InK K id (.cells rows.flatten g g gr)) (hr : ∀ r, r ∈ rows → r.length = sz) (hi : rows[i]? = some r) (hs : seg r o n = some cs) : Rdk K (.loadn n) (.ptr id g (0 + i * sz + o) n) y (.agg cs) :=
  Rdk.ldn h (Nat.le_refl _) (Nat.le_refl _) (Nat.le_refl _) (row_part hr hi hs)
abbrev rB (r : Nat) (vt vf vc : AV) (n room : Nat) : Chk := [(r, .cells [vt, vf, vc, .int .i64 (.ofNat n), .int .i64 (.ofNat room)] 0 0 false)]
abbrev tP (m : Nat) : AV := .ptr m 0 0 1
abbrev tO (m : Nat) (v : AV) : Chk := [(m, .cells [v] 0 0 false)]
def pairR (e : KV) : List AV := valR e.1 ++ valR e.2
section
variable {r n room : Nat} {vf vc : AV} {T : OS} {t k v : Val}
end
section
variable {r n room i m : Nat} {s : List Nat} {vf vc : AV} {T l : OS} {L : List KV} {k v : Val}
end
end Go.Proofs.Ytlflpjjmkigepaa

namespace Go.Proofs.Ytlflpjjmkigepaa
open Go Go.Abs
attribute [local irreducible] Cmp Rg Dw Cd Lp Ev Rdk CT Upd InK
section
variable {r n room i m : Nat} {s : List Nat} {vf vc : AV} {T l : OS} {L : List KV} {k v : Val}
theorem Srt.behind {e : KV} {r : List KV} (h : Srt (e :: r)) {k : Val} (he : aheadB k e.1 = true ∨ e.1 = k) : (r.filter fun e => aheadB e.1 k) = [] ∧ (r.filter fun e => aheadB k e.1) = r ∧ (r.filter fun e => !decide (e.1 = k)) = r := by
  have hx : ∀ x, x ∈ r → aheadB k x.1 = true := fun x hx => by
    have := (List.pairwise_cons.1 h.ord).1 x hx
    rcases he with he | he
    · exact ahead_trans he this
    · rwa [he] at this
  refine ⟨?_, ?_, ?_⟩
  · rw [List.filter_eq_nil_iff]
    intro x hm
    rw [ahead_asym (hx x hm)]
    simp
  · rw [List.filter_eq_self]
    exact hx
  · rw [List.filter_eq_self]
    intro x hm
    have := (ahead_ne (hx x hm)).symm
    simp [this]
end
end Go.Proofs.Ytlflpjjmkigepaa
