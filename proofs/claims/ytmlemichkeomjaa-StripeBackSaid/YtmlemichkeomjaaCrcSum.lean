/- The law CrcSums of chapter 4 walked. -/
import Derived.Test.YtmlemichkeomjaaCrcLaw2
import Derived.Test.YtmlemichkeomjaaM1
import Derived.Deep.RegionLaw
set_option linter.unusedVariables false
set_option linter.unusedSimpArgs false
namespace Go.Proofs.Ytmlemichkeomjaa.CrcL
open Go.RowKit Go.Proofs.Ytmlemichkeomjaa.Base Go.Proofs.Ytmlemichkeomjaa.CrcP Go.Proofs.Ytmlemichkeomjaa.CrcW Go.Proofs.Ytmlemichkeomjaa.CrcR

def x3 : List UInt8 → List UInt8 → List UInt8 → List UInt8
  | a :: l, b :: m, c :: n => (a ^^^ b ^^^ c) :: x3 l m n
  | _, _, _ => []
theorem xor_swap (x y a b : Nat) : (x ^^^ y) ^^^ (a ^^^ b) = (x ^^^ a) ^^^ (y ^^^ b) := by
  rw [Nat.xor_assoc, ← Nat.xor_assoc y, Nat.xor_comm y a, Nat.xor_assoc a, ← Nat.xor_assoc x]
theorem xor_swap3 (x y z a b c : Nat) : (x ^^^ a) ^^^ (y ^^^ b) ^^^ (z ^^^ c) = (x ^^^ y ^^^ z) ^^^ (a ^^^ b ^^^ c) := by
  rw [xor_swap x a y b, xor_swap (x ^^^ y) (a ^^^ b) z c]
theorem reg_x3 (l m n : List UInt8) (x y z : Nat) (h1 : l.length = m.length) (h2 : m.length = n.length) :
    reg x l ^^^ reg y m ^^^ reg z n = reg (x ^^^ y ^^^ z) (x3 l m n) := by
  induction l generalizing m n x y z with
  | nil =>
    have : m = [] := List.eq_nil_of_length_eq_zero (by simpa using h1.symm)
    subst this
    have : n = [] := List.eq_nil_of_length_eq_zero (by simpa using h2.symm)
    subst this
    rfl
  | cons a l ih =>
    match m, n, h1, h2 with
    | b :: m, c :: n, h1, h2 =>
      show reg _ l ^^^ reg _ m ^^^ reg _ n = reg _ (x3 l m n)
      rw [ih m n _ _ _ (by simpa using h1) (by simpa using h2), ← sts_xor, ← sts_xor, UInt8.toNat_xor, UInt8.toNat_xor, xor_swap3]
theorem crc_x3 (l m n : List UInt8) (h1 : l.length = m.length) (h2 : m.length = n.length) :
    crc l ^^^ crc m ^^^ crc n = crc (x3 l m n) := by
  rw [crc_eq, crc_eq, crc_eq, crc_eq, xor_swap3, reg_x3 l m n _ _ _ h1 h2]
  rfl
theorem x3_snoc (l m n : List UInt8) (a b c : UInt8) (h1 : l.length = m.length) (h2 : m.length = n.length) :
    x3 (l ++ [a]) (m ++ [b]) (n ++ [c]) = x3 l m n ++ [a ^^^ b ^^^ c] := by
  induction l generalizing m n with
  | nil =>
    have : m = [] := List.eq_nil_of_length_eq_zero (by simpa using h1.symm)
    subst this
    have : n = [] := List.eq_nil_of_length_eq_zero (by simpa using h2.symm)
    subst this
    rfl
  | cons d l ih =>
    match m, n, h1, h2 with
    | e :: m, f :: n, h1, h2 =>
      show (d ^^^ e ^^^ f) :: x3 (l ++ [a]) (m ++ [b]) (n ++ [c]) = _
      rw [ih m n (by simpa using h1) (by simpa using h2)]
      rfl
theorem x3_length (l m n : List UInt8) (h1 : l.length = m.length) (h2 : m.length = n.length) : (x3 l m n).length = l.length := by
  induction l generalizing m n with
  | nil => rfl
  | cons a l ih =>
    match m, n, h1, h2 with
    | b :: m, c :: n, h1, h2 =>
      show (x3 l m n).length + 1 = l.length + 1
      rw [ih m n (by simpa using h1) (by simpa using h2)]

theorem info_u8 : (Try.prog.info? 5).map (fun i => (i.zero, i.size, i.bytes)) = some (some (.int .u8 0), 1, 1) := by kernel_rfl
theorem xor3_u8 (a b c : UInt8) : bits BinOp.xor IntKind.u8 (bits BinOp.xor IntKind.u8 ((a.toNat : Nat) : Int) ((b.toNat : Nat) : Int)) ((c.toNat : Nat) : Int) = (((a ^^^ b ^^^ c).toNat : Nat) : Int) := by
  have h := u8_xor_nat a.toNat b.toNat (byte_lt a) (byte_lt b)
  have h2 := u8_xor_nat (a.toNat ^^^ b.toNat) c.toNat (Nat.xor_lt_two_pow (n := 8) (byte_lt a) (byte_lt b)) (byte_lt c)
  rw [h, h2, UInt8.toNat_xor, UInt8.toNat_xor]

end Go.Proofs.Ytmlemichkeomjaa.CrcL
