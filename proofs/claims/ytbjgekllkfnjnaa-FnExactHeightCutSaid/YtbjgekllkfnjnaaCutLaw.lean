/- Texts that belong together; each under its stated conditions. -/
import Derived.Test.YtbjgekllkfnjnaaMergeLaw
set_option linter.all false
section
namespace Go.Xw
theorem marked_mem (B : List Bool) : ∀ i, ∀ z : Int, z ∈ markedTo B i ↔ ∃ k : Nat, k < i ∧ z = k ∧ B.getD k default = true
 | 0, z => by simp [markedTo]
 | i + 1, z => by
  have ih := marked_mem B i z
  unfold markedTo
  split
  ·rename_i hb
   rw [List.mem_append, ih]
   constructor
   ·rintro (⟨k, h1, h2, h3⟩ | h)
    ·exact ⟨k, by omega, h2, h3⟩
    ·simp at h; exact ⟨i, by omega, h, hb⟩
   ·rintro ⟨k, h1, h2, h3⟩
    by_cases hk : k < i
    ·exact .inl ⟨k, hk, h2, h3⟩
    ·obtain rfl : k = i := by omega
     exact .inr (by simp [h2])
  ·rename_i hb
   rw [ih]
   constructor
   ·rintro ⟨k, h1, h2, h3⟩; exact ⟨k, by omega, h2, h3⟩
   ·rintro ⟨k, h1, h2, h3⟩
    refine ⟨k, ?_, h2, h3⟩
    rcases Nat.lt_or_ge k i with h4 | h4
    ·exact h4
    ·obtain rfl : k = i := by omega
     exact absurd h3 hb
end Go.Xw
end
section
namespace Go.Xw
end Go.Xw
end
