/-
  Plain helps for the functions that cc.py writes.
-/
import Derived.Test.YtohhaibbbnobpaaSh10
import Derived.Laws.Runes
import Derived.Laws.Bits64
namespace Go.Proofs.Ytohhaibbbnobpaa
open Go.RowKit

theorem beqF {α : Type} [BEq α] [LawfulBEq α] {a b : α} (h : ¬ a = b) : (a == b) = false := by simpa using h
theorem wi {x : Int} (h0 : -9223372036854775808 ≤ x) (h1 : x ≤ 9223372036854775807) : IntKind.wrap .i64 x = x := by
  simp [IntKind.wrap, IntKind.bits, IntKind.signed]
  omega
theorem wu {x : Int} (h0 : 0 ≤ x) (h1 : x < 18446744073709551616) : IntKind.wrap .u64 x = x := by
  simp [IntKind.wrap, IntKind.bits, IntKind.signed]
  omega
theorem wu32 {x : Int} (h0 : 0 ≤ x) (h1 : x < 4294967296) : IntKind.wrap .u32 x = x := by
  simp [IntKind.wrap, IntKind.bits, IntKind.signed]
  omega
theorem loop_done {σ ρ : Type} {step : σ → Option (σ ⊕ ρ)} {s : σ} {r : ρ} (h : step s = some (.inr r)) : loopO step s = some r := by
  rw [loopO_eq, h]
theorem loop_next {σ ρ : Type} {step : σ → Option (σ ⊕ ρ)} {s s' : σ} (h : step s = some (.inl s')) : loopO step s = loopO step s' := by
  rw [loopO_eq, h]
/-- a loop that keeps I and ends with Q -/
theorem loop_inv {σ ρ : Type} {step : σ → Option (σ ⊕ ρ)} (I : σ → Prop) (Q : ρ → Prop) (m : σ → Nat) (hs : ∀ s, I s → (∃ s', step s = some (.inl s') ∧ I s' ∧ m s' < m s) ∨ (∃ r, step s = some (.inr r) ∧ Q r)) (s : σ) (h : I s) : ∃ r, loopO step s = some r ∧ Q r := by
  induction hn : m s using Nat.strongRecOn generalizing s with
  | ind n ih =>
    subst hn
    rcases hs s h with ⟨s', h1, h2, h3⟩ | ⟨r, h1, h2⟩
    · obtain ⟨r, hr, hq⟩ := ih (m s') h3 s' h2 rfl
      exact ⟨r, by rw [loop_next h1]; exact hr, hq⟩
    · exact ⟨r, loop_done h1, h2⟩
end Go.Proofs.Ytohhaibbbnobpaa
