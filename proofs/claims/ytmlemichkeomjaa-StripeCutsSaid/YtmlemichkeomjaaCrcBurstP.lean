/- Bursts of changed bits, as plain Lean: a text is one number, and a change of bits within 32 side by side is told by the sum. -/
import Derived.Test.YtmlemichkeomjaaCrcPure
set_option linter.unusedVariables false
set_option linter.unusedSimpArgs false
namespace Go.Proofs.Ytmlemichkeomjaa.CrcP

/-- A text as one number, the first byte the lowest. -/
def whole : List UInt8 → Nat
  | [] => 0
  | b :: l => b.toNat ^^^ whole l * 256
theorem mul_xor (a b k : Nat) : (a ^^^ b) * 2 ^ k = a * 2 ^ k ^^^ b * 2 ^ k := by
  rw [← Nat.shiftLeft_eq, ← Nat.shiftLeft_eq, ← Nat.shiftLeft_eq, Nat.shiftLeft_xor_distrib]
theorem mul_xor8 (a b : Nat) : (a ^^^ b) * 256 = a * 256 ^^^ b * 256 := mul_xor a b 8
theorem sts_high8 (x : Nat) : sts 8 (x * 256) = x := sts_high 8 x
theorem reg_whole (l : List UInt8) (x : Nat) : reg x l = sts (8 * l.length) (x ^^^ whole l) := by
  induction l generalizing x with
  | nil => show x = sts 0 (x ^^^ 0); rw [Nat.xor_zero]; rfl
  | cons b l ih =>
    show reg (sts 8 (x ^^^ b.toNat)) l = sts (8 * (l.length + 1)) (x ^^^ (b.toNat ^^^ whole l * 256))
    rw [ih, Nat.mul_add, ← Nat.xor_assoc x, show 8 * l.length + 8 * 1 = 8 * l.length + 8 from rfl, sts_add, sts_xor 8 (x ^^^ b.toNat) (whole l * 256), sts_high8]
theorem xor_cancel (a b : Nat) : a ^^^ (a ^^^ b) = b := by rw [← Nat.xor_assoc, Nat.xor_self, Nat.zero_xor]
theorem whole_inj (l m : List UInt8) (h : l.length = m.length) (e : whole l = whole m) : l = m := by
  induction l generalizing m with
  | nil => exact (List.eq_nil_of_length_eq_zero (by simpa using h.symm)).symm
  | cons b l ih =>
    match m, h with
    | c :: m, h =>
      have e1 : b.toNat ^^^ whole l * 256 = c.toNat ^^^ whole m * 256 := e
      have em : ∀ x y : Nat, y < 256 → (y ^^^ x * 256) % 256 = y := fun x y hy => by
        have := Nat.xor_mod_two_pow (a := y) (b := x * 256) (n := 8)
        rw [show (2 : Nat) ^ 8 = 256 from rfl] at this
        rw [this, Nat.mul_mod_left, Nat.mod_eq_of_lt hy, Nat.xor_zero]
      have hb := em (whole l) b.toNat (byte_lt b)
      have hc := em (whole m) c.toNat (byte_lt c)
      rw [e1, hc] at hb
      have hbc : b = c := UInt8.toNat_inj.1 hb.symm
      subst hbc
      have e2 : whole l * 256 = whole m * 256 := by
        have h1 := congrArg (fun z => b.toNat ^^^ z) e1
        simp only [xor_cancel] at h1
        exact h1
      rw [ih m (by simpa using h) (by omega)]
theorem whole_set (l : List UInt8) (j : Nat) (v : UInt8) (h : j < l.length) : whole (l.set j (l[j] ^^^ v)) = whole l ^^^ v.toNat * 2 ^ (8 * j) := by
  induction l generalizing j with
  | nil => simp at h
  | cons b l ih =>
    cases j with
    | zero =>
      show (b ^^^ v).toNat ^^^ whole l * 256 = (b.toNat ^^^ whole l * 256) ^^^ v.toNat * 1
      rw [UInt8.toNat_xor, Nat.mul_one, Nat.xor_assoc, Nat.xor_comm v.toNat, Nat.xor_assoc]
    | succ j =>
      show b.toNat ^^^ whole (l.set j (l[j]'(by simpa using h) ^^^ v)) * 256 = (b.toNat ^^^ whole l * 256) ^^^ v.toNat * 2 ^ (8 * (j + 1))
      rw [ih j (by simpa using h), mul_xor8, Nat.xor_assoc]
      congr 2
      rw [Nat.mul_assoc]
      congr 1
      rw [Nat.mul_add, Nat.pow_add]
/-- The bit flipped: what the number becomes. -/
theorem whole_flip (l : List UInt8) (p : Nat) (h : p / 8 < l.length) : whole (l.set (p / 8) (l[p / 8] ^^^ UInt8.ofNat (2 ^ (p % 8)))) = whole l ^^^ 2 ^ p := by
  rw [whole_set _ _ _ h]
  congr 1
  have : (UInt8.ofNat (2 ^ (p % 8))).toNat = 2 ^ (p % 8) := by
    rw [UInt8.toNat_ofNat']
    exact Nat.mod_eq_of_lt (Nat.pow_lt_pow_right (by omega) (by omega))
  rw [this, ← Nat.pow_add]
  congr 1
  omega
/-- A change of bits that lie within 32 side by side changes the sum. -/
theorem crc_burst (l m : List UInt8) (first u : Nat) (h : l.length = m.length) (hf : first ≤ 8 * l.length) (hu : u < 4294967296) (e : whole m = whole l ^^^ u * 2 ^ first) (hne : ¬ m = l) : ¬ crc m = crc l := by
  intro hc
  rw [crc_eq, crc_eq] at hc
  have h1 : reg 4294967295 m = reg 4294967295 l := by
    have := congrArg (fun z => z ^^^ 4294967295) hc
    simpa [Nat.xor_assoc] using this
  rw [reg_whole, reg_whole, ← h, e, ← Nat.xor_assoc, sts_xor, Nat.xor_comm] at h1
  have h2 : sts (8 * l.length) (u * 2 ^ first) = 0 := by
    have h3 := congrArg (fun z => z ^^^ sts (8 * l.length) (4294967295 ^^^ whole l)) h1
    simpa [Nat.xor_assoc] using h3
  have h3 : 8 * l.length = (8 * l.length - first) + first := by omega
  rw [h3, sts_add, sts_high] at h2
  have h4 := sts_inj0 _ hu h2
  subst h4
  rw [Nat.zero_mul, Nat.xor_zero] at e
  exact hne (whole_inj m l h.symm e)
theorem two_lt (i : Nat) (h : i < 32) : 2 ^ i < 4294967296 := Nat.pow_lt_pow_right (n := 32) (by omega) h
/-- One more bit of the change. -/
theorem burst_step (x u first i p : Nat) (hi : i < 32) (hu : u < 4294967296) (hp : p = first + i) : ∃ u', u' < 4294967296 ∧ x ^^^ u * 2 ^ first ^^^ 2 ^ p = x ^^^ u' * 2 ^ first := by
  refine ⟨u ^^^ 2 ^ i, xor_lt hu (two_lt i hi), ?_⟩
  rw [mul_xor, Nat.xor_assoc, ← Nat.pow_add, hp, Nat.add_comm]
end Go.Proofs.Ytmlemichkeomjaa.CrcP
