/- The document's product, inverse, power and log come to the tables'. -/
import Derived.Test.YtalinkpfklhgaaaGfPure
set_option linter.unusedVariables false
set_option linter.unusedSimpArgs false
namespace Go.Proofs.Ytalinkpfklhgaaa.GfP

/-- The document's sum once so many bits were looked at. -/
def rm (a b : Nat) : Nat → Nat
  | 0 => 0
  | k + 1 => if b / 2 ^ k % 2 = 1 then rm a b k ^^^ dit k a else rm a b k
theorem low_bits : ∀ b, b < 256 → ∀ k, k < 8 → b % 2 ^ (k + 1) = (b % 2 ^ k) ^^^ (if b / 2 ^ k % 2 = 1 then 2 ^ k else 0) := by decide +kernel
theorem pw_small : ∀ k, k < 8 → pw k = 2 ^ k := by decide +kernel
theorem rm_low {a b : Nat} (ha : a ≤ 255) (hb : b ≤ 255) (k : Nat) (hk : k ≤ 8) : rm a b k = mul a (b % 2 ^ k) := by
  induction k with
  | zero => rw [Nat.pow_zero, Nat.mod_one, mul_zero]; rfl
  | succ k ih =>
    have h1 := low_bits b (by omega) k (by omega)
    have h2 : b % 2 ^ k ≤ 255 := Nat.le_trans (Nat.mod_le _ _) hb
    rw [rm, ih (by omega), h1]
    by_cases h : b / 2 ^ k % 2 = 1
    · have h3 : pw k ≤ 255 := (pw_pos k).2
      rw [if_pos h, if_pos h, ← pw_small k (by omega), mul_xor ha (by rw [pw_small k (by omega)]; exact h2) h3, mul_comm a (pw k), mul_dit k ha]
    · rw [if_neg h, if_neg h, Nat.xor_zero]
theorem rm_mul {a b : Nat} (ha : a ≤ 255) (hb : b ≤ 255) : rm a b 8 = mul a b := by
  rw [rm_low ha hb 8 (by omega), Nat.mod_eq_of_lt (by omega)]
theorem rm_le {a : Nat} (b : Nat) (ha : a ≤ 255) (k : Nat) : rm a b k ≤ 255 := by
  induction k with
  | zero => exact Nat.zero_le _
  | succ k ih =>
    rw [rm]; split
    · exact xor_le ih (dit_le k ha)
    · exact ih
theorem inv_zero : inv 0 = 0 := rfl
theorem inv_uniq {a b : Nat} (ha : a ≤ 255) (hb : b ≤ 255) (h : mul a b = 1) : b = inv a := by
  have h0 : ¬ a = 0 := by intro h0; rw [h0, zero_mul] at h; omega
  refine mul_cancel ha hb (inv_le a) h0 ?_
  rw [h, mul_inv ha h0]
theorem inv_pos {a : Nat} (ha : a ≤ 255) (h0 : ¬ a = 0) : 0 < inv a := by
  have := mul_inv ha h0
  by_cases h : inv a = 0
  · rw [h, mul_zero] at this; omega
  · omega
theorem mul_inv_all {a b : Nat} (ha : a ≤ 255) (hb : b ≤ 255) : quo a b = mul a (inv b) := by
  by_cases h : b = 0
  · subst h; rw [inv_zero, mul_zero]; simp [quo]
  · exact quo_eq ha hb h
/-- The document's power. -/
def rp (a : Nat) : Nat → Nat
  | 0 => 1
  | k + 1 => mul (rp a k) a
theorem rp_le (a k : Nat) : rp a k ≤ 255 := by
  cases k with
  | zero => simp [rp]
  | succ k => exact mul_le _ _
theorem rp_pow {a : Nat} (ha : a ≤ 255) (h0 : ¬ a = 0) (k : Nat) : rp a k = pw (lg a * k) := by
  induction k with
  | zero => rw [Nat.mul_zero]; rfl
  | succ k ih =>
    rw [rp, ih]
    have h := mul_pw (lg a * k) (lg a)
    rw [pw_lg (by omega) ha] at h
    rw [h, Nat.mul_succ]
theorem rp_two (k : Nat) : rp 2 k = pw k := by
  rw [rp_pow (by omega) (by omega), show lg 2 = 1 from by decide +kernel, Nat.one_mul]
theorem rp_rest {a : Nat} (ha : a ≤ 255) (h0 : ¬ a = 0) (n : Int) : pow a n = rp a (n % 255).toNat := by
  rw [pow_pw h0, rp_pow ha h0]
  unfold pwi
  refine pw_congr ?_
  have h : ((lg a : Int) * n) % 255 = ((lg a : Int) * (n % 255)) % 255 := by rw [Int.mul_emod, Int.mul_emod (lg a : Int) (n % 255), Int.emod_emod]
  have e : ((lg a * (n % 255).toNat : Nat) : Int) = (lg a : Int) * (n % 255) := by
    rw [Int.natCast_mul, Int.toNat_of_nonneg (by omega)]
  rw [h, ← e]
  omega
theorem rp_nat {a : Nat} (ha : a ≤ 255) (k : Nat) : pow a k = rp a k := by
  by_cases h0 : a = 0
  · subst h0
    cases k with
    | zero => rfl
    | succ k =>
      unfold pow
      rw [if_neg (by omega), if_pos rfl, rp, mul_zero]
  · rw [pow_pw h0, rp_pow ha h0]
    rw [← Int.natCast_mul]
    exact pwi_nat _
theorem pwi_rest (n : Int) : pwi n = rp 2 (n % 255).toNat := by rw [rp_two]; rfl
end Go.Proofs.Ytalinkpfklhgaaa.GfP
