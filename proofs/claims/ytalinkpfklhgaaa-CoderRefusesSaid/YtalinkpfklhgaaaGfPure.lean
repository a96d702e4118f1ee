/- The field of 256 elements as plain Lean: its tables, and the laws that they obey. -/
import Derived.KernelRfl
set_option linter.unusedVariables false
set_option linter.unusedSimpArgs false
namespace Go.Proofs.Ytalinkpfklhgaaa.GfP

/-- Doubling in the field. -/
def dbl (x : Nat) : Nat := if 2 * x > 255 then (2 * x) ^^^ 285 else 2 * x
/-- The n-th power of 2. -/
def pw : Nat → Nat
  | 0 => 1
  | n + 1 => dbl (pw n)
def tbl : List Nat := [1, 2, 4, 8, 16, 32, 64, 128, 29, 58, 116, 232, 205, 135, 19, 38, 76, 152, 45, 90, 180, 117, 234, 201, 143, 3, 6, 12, 24, 48, 96, 192, 157, 39, 78, 156, 37, 74, 148, 53, 106, 212, 181, 119, 238, 193, 159, 35, 70, 140, 5, 10, 20, 40, 80, 160, 93, 186, 105, 210, 185, 111, 222, 161, 95, 190, 97, 194, 153, 47, 94, 188, 101, 202, 137, 15, 30, 60, 120, 240, 253, 231, 211, 187, 107, 214, 177, 127, 254, 225, 223, 163, 91, 182, 113, 226, 217, 175, 67, 134, 17, 34, 68, 136, 13, 26, 52, 104, 208, 189, 103, 206, 129, 31, 62, 124, 248, 237, 199, 147, 59, 118, 236, 197, 151, 51, 102, 204, 133, 23, 46, 92, 184, 109, 218, 169, 79, 158, 33, 66, 132, 21, 42, 84, 168, 77, 154, 41, 82, 164, 85, 170, 73, 146, 57, 114, 228, 213, 183, 115, 230, 209, 191, 99, 198, 145, 63, 126, 252, 229, 215, 179, 123, 246, 241, 255, 227, 219, 171, 75, 150, 49, 98, 196, 149, 55, 110, 220, 165, 87, 174, 65, 130, 25, 50, 100, 200, 141, 7, 14, 28, 56, 112, 224, 221, 167, 83, 166, 81, 162, 89, 178, 121, 242, 249, 239, 195, 155, 43, 86, 172, 69, 138, 9, 18, 36, 72, 144, 61, 122, 244, 245, 247, 243, 251, 235, 203, 139, 11, 22, 44, 88, 176, 125, 250, 233, 207, 131, 27, 54, 108, 216, 173, 71, 142]
def lgL : List Nat := [0, 0, 1, 25, 2, 50, 26, 198, 3, 223, 51, 238, 27, 104, 199, 75, 4, 100, 224, 14, 52, 141, 239, 129, 28, 193, 105, 248, 200, 8, 76, 113, 5, 138, 101, 47, 225, 36, 15, 33, 53, 147, 142, 218, 240, 18, 130, 69, 29, 181, 194, 125, 106, 39, 249, 185, 201, 154, 9, 120, 77, 228, 114, 166, 6, 191, 139, 98, 102, 221, 48, 253, 226, 152, 37, 179, 16, 145, 34, 136, 54, 208, 148, 206, 143, 150, 219, 189, 241, 210, 19, 92, 131, 56, 70, 64, 30, 66, 182, 163, 195, 72, 126, 110, 107, 58, 40, 84, 250, 133, 186, 61, 202, 94, 155, 159, 10, 21, 121, 43, 78, 212, 229, 172, 115, 243, 167, 87, 7, 112, 192, 247, 140, 128, 99, 13, 103, 74, 222, 237, 49, 197, 254, 24, 227, 165, 153, 119, 38, 184, 180, 124, 17, 68, 146, 217, 35, 32, 137, 46, 55, 63, 209, 91, 149, 188, 207, 205, 144, 135, 151, 178, 220, 252, 190, 97, 242, 86, 211, 171, 20, 42, 93, 158, 132, 60, 57, 83, 71, 109, 65, 162, 31, 45, 67, 216, 183, 123, 164, 118, 196, 23, 73, 236, 127, 12, 111, 246, 108, 161, 59, 82, 41, 157, 85, 170, 251, 96, 134, 177, 187, 204, 62, 90, 203, 89, 95, 176, 156, 169, 160, 81, 11, 245, 22, 235, 122, 117, 44, 215, 79, 174, 213, 233, 230, 231, 173, 232, 116, 214, 244, 234, 168, 80, 88, 175]
/-- Which power of 2 a byte is. -/
def lg (x : Nat) : Nat := lgL.getD x 0

theorem tbl_pw : ∀ n, n < 255 → tbl.getD n 0 = pw n := by decide +kernel
theorem tbl_pos : ∀ n, n < 255 → 0 < tbl.getD n 0 ∧ tbl.getD n 0 ≤ 255 := by decide +kernel
theorem tbl_lg : ∀ x, x < 256 → 0 < x → tbl.getD (lg x) 0 = x ∧ lg x < 255 := by decide +kernel
theorem lg_tbl : ∀ n, n < 255 → lg (tbl.getD n 0) = n := by decide +kernel
theorem pw_round : pw 255 = 1 := by decide +kernel
theorem lg_zero : lg 0 = 0 := by decide +kernel
theorem pw_none : pw 0 = 1 := rfl
theorem pw_succ (n : Nat) : pw (n + 1) = dbl (pw n) := rfl
attribute [local irreducible] pw lg

/-- Doubled so many times. -/
def dit : Nat → Nat → Nat
  | 0, x => x
  | i + 1, x => dbl (dit i x)
theorem dit_pw (i j : Nat) : dit i (pw j) = pw (i + j) := by
  induction i with
  | zero => rw [Nat.zero_add]; rfl
  | succ i ih =>
    have h : i + 1 + j = (i + j) + 1 := by omega
    rw [h, pw_succ, ← ih]; rfl
theorem pw_add255 (n : Nat) : pw (n + 255) = pw n := by
  have h1 := dit_pw n 255
  have h2 := dit_pw n 0
  rw [pw_round] at h1
  rw [pw_none, Nat.add_zero] at h2
  exact h1.symm.trans h2
theorem pw_mod (n : Nat) : pw (n % 255) = pw n := by
  induction n using Nat.strongRecOn with
  | _ n ih =>
    by_cases h : n < 255
    · rw [Nat.mod_eq_of_lt h]
    · have h1 := ih (n - 255) (by omega)
      have h2 := pw_add255 (n - 255)
      have h3 : n - 255 + 255 = n := by omega
      rw [h3] at h2
      have h4 : (n - 255) % 255 = n % 255 := by omega
      rw [h4] at h1
      exact h1.trans h2.symm
theorem pw_pos (n : Nat) : 0 < pw n ∧ pw n ≤ 255 := by
  rw [← pw_mod n, ← tbl_pw _ (Nat.mod_lt _ (by omega))]
  exact tbl_pos _ (Nat.mod_lt _ (by omega))
theorem pw_lg {x : Nat} (h0 : 0 < x) (h : x ≤ 255) : pw (lg x) = x := by
  have h1 := tbl_lg x (by omega) h0
  rw [← tbl_pw _ h1.2]
  exact h1.1
theorem lg_lt {x : Nat} (h : x ≤ 255) : lg x < 255 := by
  by_cases h0 : 0 < x
  · exact (tbl_lg x (by omega) h0).2
  · have : x = 0 := by omega
    rw [this, lg_zero]; omega
theorem lg_pw (n : Nat) : lg (pw n) = n % 255 := by
  rw [← pw_mod n, ← tbl_pw _ (Nat.mod_lt _ (by omega))]
  rw [lg_tbl _ (Nat.mod_lt _ (by omega))]
theorem pw_inj {n m : Nat} (h : pw n = pw m) : n % 255 = m % 255 := by rw [← lg_pw, ← lg_pw, h]
theorem pw_congr {n m : Nat} (h : n % 255 = m % 255) : pw n = pw m := by rw [← pw_mod n, ← pw_mod m, h]

/-- What the log of a byte is, once so many powers have been laid. -/
def logAt : Nat → Nat → Nat
  | 0, _ => 0
  | i + 1, x => if x = pw i then i else logAt i x
theorem logAt_pw (i n : Nat) (hi : i ≤ 255) (hn : n < i) : logAt i (pw n) = n := by
  induction i with
  | zero => omega
  | succ i ih =>
    unfold logAt
    by_cases h : pw n = pw i
    · rw [if_pos h]
      have := pw_inj h
      rw [Nat.mod_eq_of_lt (by omega), Nat.mod_eq_of_lt (by omega)] at this
      omega
    · rw [if_neg h]
      refine ih (by omega) ?_
      by_cases h1 : n = i
      · rw [h1] at h; exact absurd rfl h
      · omega
theorem logAt_zero (i : Nat) : logAt i 0 = 0 := by
  induction i with
  | zero => rfl
  | succ i ih =>
    unfold logAt
    rw [if_neg (by have := pw_pos i; omega), ih]
theorem logAt_end (x : Nat) (h : x ≤ 255) : logAt 255 x = lg x := by
  by_cases h0 : 0 < x
  · have := logAt_pw 255 (lg x) (by omega) (lg_lt h)
    rwa [pw_lg h0 h] at this
  · have : x = 0 := by omega
    rw [this, logAt_zero, lg_zero]

/-- The product. -/
def mul (a b : Nat) : Nat := if a = 0 ∨ b = 0 then 0 else pw (lg a + lg b)
theorem mul_le (a b : Nat) : mul a b ≤ 255 := by
  unfold mul; split
  · omega
  · exact (pw_pos _).2
theorem mul_zero (a : Nat) : mul a 0 = 0 := by simp [mul]
theorem zero_mul (a : Nat) : mul 0 a = 0 := by simp [mul]
theorem mul_pw (i j : Nat) : mul (pw i) (pw j) = pw (i + j) := by
  have h1 := (pw_pos i).1
  have h2 := (pw_pos j).1
  unfold mul
  rw [if_neg (by omega), lg_pw, lg_pw]
  exact pw_congr (by omega)
theorem mul_comm (a b : Nat) : mul a b = mul b a := by
  unfold mul
  by_cases h : a = 0 ∨ b = 0
  · rw [if_pos h, if_pos (Or.comm.1 h)]
  · rw [if_neg h, if_neg (fun h' => h (Or.comm.1 h')), Nat.add_comm]
theorem is_pw {a : Nat} (h0 : ¬ a = 0) (h : a ≤ 255) : ∃ i, i < 255 ∧ a = pw i := ⟨lg a, lg_lt h, (pw_lg (by omega) h).symm⟩
theorem mul_assoc {a b c : Nat} (ha : a ≤ 255) (hb : b ≤ 255) (hc : c ≤ 255) : mul a (mul b c) = mul (mul a b) c := by
  by_cases ha0 : a = 0
  · subst ha0; rw [zero_mul, zero_mul, zero_mul]
  by_cases hb0 : b = 0
  · subst hb0; rw [zero_mul, mul_zero, zero_mul]
  by_cases hc0 : c = 0
  · subst hc0; rw [mul_zero, mul_zero, mul_zero]
  obtain ⟨i, _, rfl⟩ := is_pw ha0 ha
  obtain ⟨j, _, rfl⟩ := is_pw hb0 hb
  obtain ⟨k, _, rfl⟩ := is_pw hc0 hc
  rw [mul_pw, mul_pw, mul_pw, mul_pw, Nat.add_assoc]
theorem mul_one {a : Nat} (h : a ≤ 255) : mul a 1 = a := by
  by_cases h0 : a = 0
  · subst h0; exact zero_mul 1
  · obtain ⟨i, _, rfl⟩ := is_pw h0 h
    have h := mul_pw i 0
    rwa [pw_none, Nat.add_zero] at h
theorem one_mul {a : Nat} (h : a ≤ 255) : mul 1 a = a := by rw [mul_comm, mul_one h]
theorem mul_eq_zero {a b : Nat} (h : mul a b = 0) : a = 0 ∨ b = 0 := by
  unfold mul at h
  by_cases h1 : a = 0 ∨ b = 0
  · exact h1
  · rw [if_neg h1] at h
    have := (pw_pos (lg a + lg b)).1
    omega

theorem dbl_le (x : Nat) (h : x ≤ 255) : dbl x ≤ 255 := by
  have : ∀ x, x < 256 → dbl x ≤ 255 := by decide +kernel
  exact this x (by omega)
theorem xor_le {a b : Nat} (ha : a ≤ 255) (hb : b ≤ 255) : a ^^^ b ≤ 255 := by
  have := Nat.xor_lt_two_pow (n := 8) (x := a) (y := b) (by omega) (by omega)
  omega
theorem dbl_bits (x : Nat) (h : x ≤ 255) : dbl x = (2 * x) ^^^ (if x.testBit 7 then 285 else 0) := by
  have : ∀ x, x < 256 → dbl x = (2 * x) ^^^ (if x.testBit 7 then 285 else 0) := by decide +kernel
  exact this x (by omega)
theorem two_xor (x y : Nat) : 2 * (x ^^^ y) = 2 * x ^^^ 2 * y := by
  have h : ∀ n : Nat, 2 * n = n <<< 1 := fun n => by rw [Nat.shiftLeft_eq]; omega
  rw [h, h, h, Nat.shiftLeft_xor_distrib]
theorem dbl_xor {x y : Nat} (hx : x ≤ 255) (hy : y ≤ 255) : dbl (x ^^^ y) = dbl x ^^^ dbl y := by
  rw [dbl_bits _ (xor_le hx hy), dbl_bits x hx, dbl_bits y hy, two_xor, Nat.testBit_xor]
  have e : ∀ a b : Nat, (a ^^^ 285) ^^^ (b ^^^ 285) = a ^^^ b := fun a b => by
    rw [Nat.xor_assoc, Nat.xor_comm b 285, ← Nat.xor_assoc 285 285 b, Nat.xor_self, Nat.zero_xor]
  have e1 : ∀ a b : Nat, (a ^^^ b) ^^^ 285 = (a ^^^ 285) ^^^ b := fun a b => by
    rw [Nat.xor_assoc, Nat.xor_assoc, Nat.xor_comm b 285]
  cases x.testBit 7 <;> cases y.testBit 7 <;> simp only [Bool.xor_false, Bool.xor_true, Bool.not_true, Bool.not_false, if_true, if_false, Nat.xor_zero, Bool.false_eq_true, e, e1]
  · rw [← e1, Nat.xor_assoc]
theorem dit_le (i : Nat) {x : Nat} (h : x ≤ 255) : dit i x ≤ 255 := by
  induction i with
  | zero => exact h
  | succ i ih => exact dbl_le _ ih
theorem dit_xor (i : Nat) {x y : Nat} (hx : x ≤ 255) (hy : y ≤ 255) : dit i (x ^^^ y) = dit i x ^^^ dit i y := by
  induction i with
  | zero => rfl
  | succ i ih =>
    show dbl _ = dbl _ ^^^ dbl _
    rw [ih, dbl_xor (dit_le i hx) (dit_le i hy)]
theorem dit_zero (i : Nat) : dit i 0 = 0 := by
  induction i with
  | zero => rfl
  | succ i ih =>
    show dbl _ = 0
    rw [ih]; rfl
theorem mul_dit (i : Nat) {x : Nat} (h : x ≤ 255) : mul (pw i) x = dit i x := by
  by_cases h0 : x = 0
  · subst h0; rw [mul_zero, dit_zero]
  · obtain ⟨j, _, rfl⟩ := is_pw h0 h
    rw [mul_pw, dit_pw]
theorem mul_xor {a b c : Nat} (ha : a ≤ 255) (hb : b ≤ 255) (hc : c ≤ 255) : mul a (b ^^^ c) = mul a b ^^^ mul a c := by
  by_cases ha0 : a = 0
  · subst ha0; rw [zero_mul, zero_mul, zero_mul]; rfl
  obtain ⟨i, _, rfl⟩ := is_pw ha0 ha
  rw [mul_dit i (xor_le hb hc), mul_dit i hb, mul_dit i hc, dit_xor i hb hc]
theorem xor_mul {a b c : Nat} (ha : a ≤ 255) (hb : b ≤ 255) (hc : c ≤ 255) : mul (a ^^^ b) c = mul a c ^^^ mul b c := by
  rw [mul_comm, mul_xor hc ha hb, mul_comm c a, mul_comm c b]
/-- What makes a with b. -/
def quo (a b : Nat) : Nat := if b = 0 ∨ a = 0 then 0 else pw (lg a + 255 - lg b)
theorem quo_le (a b : Nat) : quo a b ≤ 255 := by
  unfold quo; split
  · omega
  · exact (pw_pos _).2
theorem quo_mul {a b : Nat} (ha : a ≤ 255) (hb : b ≤ 255) (hb0 : ¬ b = 0) : mul (quo a b) b = a := by
  unfold quo
  by_cases h : a = 0
  · rw [if_pos (Or.inr h), zero_mul, h]
  · rw [if_neg (by omega)]
    obtain ⟨i, hi, rfl⟩ := is_pw h ha
    obtain ⟨j, hj, rfl⟩ := is_pw hb0 hb
    rw [mul_pw, lg_pw, lg_pw]
    exact pw_congr (by omega)
/-- What makes 1 with a. -/
def inv (a : Nat) : Nat := quo 1 a
theorem inv_le (a : Nat) : inv a ≤ 255 := quo_le 1 a
theorem inv_mul {a : Nat} (h : a ≤ 255) (h0 : ¬ a = 0) : mul (inv a) a = 1 := quo_mul (by omega) h h0
theorem mul_inv {a : Nat} (h : a ≤ 255) (h0 : ¬ a = 0) : mul a (inv a) = 1 := by rw [mul_comm, inv_mul h h0]
theorem mul_cancel {a b c : Nat} (ha : a ≤ 255) (hb : b ≤ 255) (hc : c ≤ 255) (h0 : ¬ a = 0) (h : mul a b = mul a c) : b = c := by
  have h1 : mul (inv a) (mul a b) = mul (inv a) (mul a c) := by rw [h]
  rwa [mul_assoc (inv_le a) ha hb, mul_assoc (inv_le a) ha hc, inv_mul ha h0, one_mul hb, one_mul hc] at h1
theorem quo_eq {a b : Nat} (ha : a ≤ 255) (hb : b ≤ 255) (hb0 : ¬ b = 0) : quo a b = mul a (inv b) := by
  refine mul_cancel (a := b) hb (quo_le a b) (mul_le _ _) hb0 ?_
  rw [mul_comm b, quo_mul ha hb hb0, mul_comm b, ← mul_assoc ha (inv_le b) hb, inv_mul hb hb0, mul_one ha]
/-- The n-th power of 2, of any whole number. -/
def pwi (n : Int) : Nat := pw (n % 255).toNat
theorem pwi_add (n m : Int) : mul (pwi n) (pwi m) = pwi (n + m) := by
  unfold pwi
  rw [mul_pw]
  exact pw_congr (by omega)
theorem pwi_nat (n : Nat) : pwi n = pw n := by
  unfold pwi
  exact pw_congr (by omega)
theorem pwi_pos (n : Int) : 0 < pwi n ∧ pwi n ≤ 255 := pw_pos _
/-- A power of a byte. -/
def pow (a : Nat) (n : Int) : Nat := if n = 0 then 1 else if a = 0 then 0 else pwi (lg a * n)
theorem pow_le (a : Nat) (n : Int) : pow a n ≤ 255 := by
  unfold pow; split
  · omega
  · split
    · omega
    · exact (pwi_pos _).2
theorem pow_pw {a : Nat} (h0 : ¬ a = 0) (n : Int) : pow a n = pwi (lg a * n) := by
  unfold pow
  by_cases h : n = 0
  · subst h
    rw [if_pos rfl, Int.mul_zero]
    exact (pw_none.symm.trans (pwi_nat 0).symm)
  · rw [if_neg h, if_neg h0]
theorem pow_add {a : Nat} (h0 : ¬ a = 0) (n m : Int) : mul (pow a n) (pow a m) = pow a (n + m) := by
  rw [pow_pw h0, pow_pw h0, pow_pw h0, pwi_add, Int.mul_add]
end Go.Proofs.Ytalinkpfklhgaaa.GfP
