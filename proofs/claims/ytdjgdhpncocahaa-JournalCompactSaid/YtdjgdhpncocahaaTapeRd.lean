/- Reading a number: plain Lean. -/
import Derived.Test.YtdjgdhpncocahaaTapePure
set_option linter.unusedVariables false
set_option linter.unusedSimpArgs false
namespace Go.Proofs.Ytdjgdhpncocahaa.TapeP

/-- The number at a text's beginning, from its i-th byte on: it, how many bytes it has, the error's number. -/
def rd : List UInt8 → Nat → Nat → Nat × Nat × Nat
  | [], _, _ => (0, 0, 2)
  | b :: r, i, n =>
    if 128 ≤ b.toNat ∧ i + 1 < 8 then rd r (i + 1) (n + b.toNat % 128 * 2 ^ (7 * i))
    else if 128 ≤ b.toNat ∨ (b.toNat = 0 ∧ 1 < i + 1) ∨ 9007199254740991 < n + b.toNat % 128 * 2 ^ (7 * i) then (0, 0, 6)
    else (n + b.toNat % 128 * 2 ^ (7 * i), i + 1, 0)
def pk (l : List UInt8) : Nat × Nat × Nat := rd l 0 0
theorem rd_nil (i n : Nat) : rd [] i n = (0, 0, 2) := rfl
theorem rd_more {b : UInt8} (r : List UInt8) {i : Nat} (n : Nat) (h1 : 128 ≤ b.toNat) (h2 : i + 1 < 8) : rd (b :: r) i n = rd r (i + 1) (n + b.toNat % 128 * 2 ^ (7 * i)) := by
  rw [rd, if_pos ⟨h1, h2⟩]
theorem rd_form {b : UInt8} (r : List UInt8) {i : Nat} (n : Nat) (h1 : ¬ (128 ≤ b.toNat ∧ i + 1 < 8)) (h2 : 128 ≤ b.toNat ∨ (b.toNat = 0 ∧ 1 < i + 1) ∨ 9007199254740991 < n + b.toNat % 128 * 2 ^ (7 * i)) : rd (b :: r) i n = (0, 0, 6) := by
  rw [rd, if_neg h1, if_pos h2]
theorem rd_last {b : UInt8} (r : List UInt8) {i : Nat} (n : Nat) (h1 : ¬ (128 ≤ b.toNat ∧ i + 1 < 8)) (h2 : ¬ (128 ≤ b.toNat ∨ (b.toNat = 0 ∧ 1 < i + 1) ∨ 9007199254740991 < n + b.toNat % 128 * 2 ^ (7 * i))) : rd (b :: r) i n = (n + b.toNat % 128 * 2 ^ (7 * i), i + 1, 0) := by
  rw [rd, if_neg h1, if_neg h2]
/-- What is told of it: it is small, and it lies in the text; or there is an error and nothing else. -/
theorem rd_facts (l : List UInt8) : ∀ i n, (rd l i n).1 ≤ 9007199254740991 ∧ ((rd l i n).2.2 = 0 → i < (rd l i n).2.1 ∧ (rd l i n).2.1 ≤ i + l.length) ∧ ((rd l i n).2.2 ≠ 0 → (rd l i n).1 = 0 ∧ (rd l i n).2.1 = 0 ∧ ((rd l i n).2.2 = 2 ∨ (rd l i n).2.2 = 6)) := by
  induction l with
  | nil => intro i n; rw [rd_nil]; simp
  | cons b r ih =>
    intro i n
    by_cases h1 : 128 ≤ b.toNat ∧ i + 1 < 8
    · rw [rd_more r n h1.1 h1.2]
      obtain ⟨a, c, d⟩ := ih (i + 1) (n + b.toNat % 128 * 2 ^ (7 * i))
      exact ⟨a, fun h => by have := c h; simp only [List.length_cons]; omega, d⟩
    · by_cases h2 : 128 ≤ b.toNat ∨ (b.toNat = 0 ∧ 1 < i + 1) ∨ 9007199254740991 < n + b.toNat % 128 * 2 ^ (7 * i)
      · rw [rd_form r n h1 h2]; simp
      · rw [rd_last r n h1 h2]
        refine ⟨by simp only []; omega, fun _ => by simp only [List.length_cons]; omega, fun h => absurd rfl h⟩
theorem pk_le (l : List UInt8) : (pk l).1 ≤ 9007199254740991 := (rd_facts l 0 0).1
theorem pk_in (l : List UInt8) (h : (pk l).2.2 = 0) : 0 < (pk l).2.1 ∧ (pk l).2.1 ≤ l.length := by
  have := (rd_facts l 0 0).2.1 h
  simpa [pk] using this
theorem pk_err (l : List UInt8) (h : (pk l).2.2 ≠ 0) : (pk l).1 = 0 ∧ (pk l).2.1 = 0 ∧ ((pk l).2.2 = 2 ∨ (pk l).2.2 = 6) := (rd_facts l 0 0).2.2 h
theorem pk_ilen (l : List UInt8) : (pk l).2.1 ≤ l.length := by
  by_cases h : (pk l).2.2 = 0
  · exact (pk_in l h).2
  · have := (pk_err l h).2.1; omega
end Go.Proofs.Ytdjgdhpncocahaa.TapeP
