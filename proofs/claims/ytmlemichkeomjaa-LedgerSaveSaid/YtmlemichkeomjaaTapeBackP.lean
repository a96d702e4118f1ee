/- What was laid is read: plain Lean. -/
import Derived.Test.YtmlemichkeomjaaTapeTexts
import Derived.Test.YtmlemichkeomjaaM6
set_option linter.unusedVariables false
set_option linter.unusedSimpArgs false
namespace Go.Proofs.Ytmlemichkeomjaa.TapeW
open Go.RowKit Go.Proofs.Ytmlemichkeomjaa.Base Go.Proofs.Ytmlemichkeomjaa.TapeP

theorem rd_num : ∀ (n i acc : Nat) (x : List UInt8), i < 8 → n < 128 ^ (8 - i) → (0 < i → n ≠ 0) → acc + n * 2 ^ (7 * i) ≤ 9007199254740991 →
    rd (num n ++ x) i acc = (acc + n * 2 ^ (7 * i), i + (num n).length, 0) := by
  intro n
  induction n using Nat.strongRecOn with
  | _ n ih =>
    intro i acc x hi hn h0 hm
    by_cases h : n < 128
    · rw [num_small h, List.singleton_append]
      have e : (UInt8.ofNat n).toNat = n := byte_small h
      have hmod : n % 128 = n := Nat.mod_eq_of_lt h
      rw [rd_last (b := UInt8.ofNat n) x acc (by rw [e]; omega) (by
        rw [e, hmod]
        rintro (h1 | ⟨h1, h2⟩ | h1)
        · omega
        · exact h0 (by omega) h1
        · omega), e, hmod]
      rfl
    · rw [num_big h, List.cons_append]
      have e : (UInt8.ofNat (128 + n % 128)).toNat = 128 + n % 128 := byte_big (Nat.mod_lt _ (by omega))
      have hmod : (128 + n % 128) % 128 = n % 128 := by omega
      have hi2 : i + 1 < 8 := by
        rcases Nat.lt_or_ge (i + 1) 8 with h1 | h1
        · exact h1
        · have h2 : 8 - i = 1 := by omega
          rw [h2, Nat.pow_one] at hn
          omega
      rw [rd_more (b := UInt8.ofNat (128 + n % 128)) _ acc (by rw [e]; omega) hi2, e, hmod]
      have hp : 2 ^ (7 * (i + 1)) = 128 * 2 ^ (7 * i) := by rw [Nat.mul_add, Nat.pow_add, Nat.mul_comm]
      have hs : acc + n % 128 * 2 ^ (7 * i) + n / 128 * 2 ^ (7 * (i + 1)) = acc + n * 2 ^ (7 * i) := by
        rw [hp, ← Nat.mul_assoc, Nat.add_assoc, ← Nat.add_mul]
        congr 2
        omega
      have hlt : n / 128 < 128 ^ (8 - (i + 1)) := by
        rw [Nat.div_lt_iff_lt_mul (by omega), ← Nat.pow_succ]
        have : 8 - (i + 1) + 1 = 8 - i := by omega
        rw [Nat.succ_eq_add_one, this]; exact hn
      rw [ih (n / 128) (by omega) (i + 1) _ x hi2 hlt (fun _ => by omega) (by rw [hs]; exact hm), hs, List.length_cons]
      congr 2
      omega
theorem pk_num (n : Nat) (x : List UInt8) (hn : n ≤ 9007199254740991) : pk (num n ++ x) = (n, (num n).length, 0) := by
  unfold pk
  rw [rd_num n 0 0 x (by omega) (by omega) (by omega) (by omega)]
  simp
/-- .. wherever it stands. -/
theorem pk_at {l pre x : List UInt8} {n p : Nat} (h : l = pre ++ (num n ++ x)) (hp : p = pre.length) (hn : n ≤ 9007199254740991) : pk (l.drop p) = (n, (num n).length, 0) := by
  subst hp
  rw [h, List.drop_left]
  exact pk_num n x hn
theorem take_at {l pre t x : List UInt8} {n p : Nat} (h : l = pre ++ (num n ++ (t ++ x))) (hp : p = pre.length) (hn : n = t.length) : (l.drop (p + (num n).length)).take n = t := by
  have e : l = (pre ++ num n) ++ (t ++ x) := by rw [h, List.append_assoc]
  have e2 : p + (num n).length = (pre ++ num n).length := by rw [List.length_append, hp]
  rw [e2, e, List.drop_left, hn, List.take_left]
theorem sgn_even (m : Nat) : sgn (2 * m) = (m : Int) := by unfold sgn; rw [if_neg (by omega)]; omega
theorem whole_is (m : Int) (h1 : -4503599627370496 ≤ m) (h2 : m < 4503599627370496) : ∃ z : Nat, z ≤ 9007199254740991 ∧ wholeI m = num z ∧ sgn z = m := by
  unfold wholeI
  rw [if_neg (by omega)]
  by_cases h : m < 0
  · rw [if_pos h, numI_in (by omega) (by omega)]
    refine ⟨_, by omega, rfl, ?_⟩
    unfold sgn
    rw [if_pos (by omega)]
    omega
  · rw [if_neg h, numI_in (by omega) (by omega)]
    refine ⟨_, by omega, rfl, ?_⟩
    unfold sgn
    rw [if_neg (by omega)]
    omega
theorem and_mask (n : Int) : ∃ k : Nat, bits .and .i64 n 9007199254740991 = (k : Int) ∧ k ≤ 9007199254740991 := by
  refine ⟨(BitVec.ofInt 64 n &&& BitVec.ofInt 64 9007199254740991).toNat, ?_, ?_⟩
  · have hle : (BitVec.ofInt 64 n &&& BitVec.ofInt 64 9007199254740991).toNat ≤ 9007199254740991 := by
      rw [BitVec.toNat_and]; exact Nat.and_le_right
    show IntKind.i64.wrap ((BitVec.ofInt 64 n &&& BitVec.ofInt 64 9007199254740991).toNat : Int) = _
    exact IntWalk.i64_in _ (by omega)
  · rw [BitVec.toNat_and]; exact Nat.and_le_right
end Go.Proofs.Ytmlemichkeomjaa.TapeW
