/- Numbers and texts as bytes: plain Lean. -/
import Derived.KernelRfl
set_option linter.unusedVariables false
set_option linter.unusedSimpArgs false
namespace Go.Proofs.Ytdjgdhpncocahaa.TapeP

/-- A number's bytes. -/
def num (n : Nat) : List UInt8 := if h : n < 128 then [UInt8.ofNat n] else UInt8.ofNat (128 + n % 128) :: num (n / 128)
termination_by n
decreasing_by omega
theorem num_small {n : Nat} (h : n < 128) : num n = [UInt8.ofNat n] := by rw [num, dif_pos h]
theorem num_big {n : Nat} (h : ¬ n < 128) : num n = UInt8.ofNat (128 + n % 128) :: num (n / 128) := by rw [num, dif_neg h]
theorem num_length (k : Nat) : ∀ n : Nat, n < 128 ^ (k + 1) → (num n).length ≤ k + 1 := by
  induction k with
  | zero => intro n h; rw [num_small (by simpa using h)]; simp
  | succ k ih =>
    intro n h
    by_cases h1 : n < 128
    · rw [num_small h1]; simp
    · rw [num_big h1, List.length_cons]
      have : n / 128 < 128 ^ (k + 1) := by
        rw [Nat.div_lt_iff_lt_mul (by omega)]
        rw [Nat.pow_succ] at h
        exact h
      have := ih _ this
      omega
theorem num_ne (n : Nat) : num n ≠ [] := by
  by_cases h : n < 128
  · rw [num_small h]; simp
  · rw [num_big h]; simp
/-- As the program has it: of any whole number. -/
def numI (n : Int) : List UInt8 := if n < 0 ∨ 9007199254740991 < n then [] else num n.toNat
theorem numI_length (n : Int) : (numI n).length ≤ 8 := by
  unfold numI
  split
  · simp
  · exact num_length 7 _ (by omega)
/-- A whole number's bytes. -/
def wholeI (n : Int) : List UInt8 := if n < -4503599627370496 ∨ 4503599627370496 ≤ n then [] else if n < 0 then numI (-2 * n - 1) else numI (2 * n)
/-- A text's bytes. -/
def text (l : List UInt8) : List UInt8 := num l.length ++ l
theorem byte_big {n : Nat} (h : n < 128) : ((UInt8.ofNat (128 + n)).toNat) = 128 + n := by
  rw [UInt8.toNat_ofNat']; omega
theorem byte_small {n : Nat} (h : n < 128) : ((UInt8.ofNat n).toNat) = n := by
  rw [UInt8.toNat_ofNat']; omega
/-- What stands behind two numbers' bytes is one text: then it is one number. -/
theorem num_once : ∀ (n m : Nat) (x y : List UInt8), num n ++ x = num m ++ y → n = m ∧ x = y := by
  intro n
  induction n using Nat.strongRecOn with
  | _ n ih =>
    intro m x y h
    by_cases h1 : n < 128
    · by_cases h2 : m < 128
      · rw [num_small h1, num_small h2] at h
        simp only [List.cons_append, List.nil_append, List.cons.injEq] at h
        obtain ⟨h3, h4⟩ := h
        have h5 := congrArg UInt8.toNat h3
        rw [byte_small h1, byte_small h2] at h5
        exact ⟨h5, h4⟩
      · rw [num_small h1, num_big h2] at h
        simp only [List.cons_append, List.nil_append, List.cons.injEq] at h
        have h5 := congrArg UInt8.toNat h.1
        rw [byte_small h1, byte_big (by omega)] at h5
        omega
    · by_cases h2 : m < 128
      · rw [num_big h1, num_small h2] at h
        simp only [List.cons_append, List.nil_append, List.cons.injEq] at h
        have h5 := congrArg UInt8.toNat h.1
        rw [byte_big (by omega), byte_small h2] at h5
        omega
      · rw [num_big h1, num_big h2] at h
        simp only [List.cons_append, List.cons.injEq] at h
        have h5 := congrArg UInt8.toNat h.1
        rw [byte_big (by omega), byte_big (by omega)] at h5
        obtain ⟨h6, h7⟩ := ih (n / 128) (by omega) (m / 128) x y h.2
        exact ⟨by omega, h7⟩
theorem numI_in {n : Int} (h0 : 0 ≤ n) (h : n ≤ 9007199254740991) : numI n = num n.toNat := by unfold numI; rw [if_neg (by omega)]
theorem numI_out {n : Int} (h : n < 0 ∨ 9007199254740991 < n) : numI n = [] := by unfold numI; rw [if_pos h]
end Go.Proofs.Ytdjgdhpncocahaa.TapeP
