/- The laws of chapter 1 walked. -/
import Derived.Test.YtalinkpfklhgaaaGfRef
set_option linter.unusedVariables false
set_option linter.unusedSimpArgs false
namespace Go.Proofs.Ytalinkpfklhgaaa.GfL
open Go.RowKit Go.Proofs.Ytalinkpfklhgaaa.Base Go.Proofs.Ytalinkpfklhgaaa.GfP Go.Proofs.Ytalinkpfklhgaaa.GfW Go.Proofs.Ytalinkpfklhgaaa.GfR

theorem quo_29 : quo 29 2 = 128 := by decide +kernel
theorem mul_2 : mul 2 128 = 29 := by decide +kernel
theorem pwi_8 : pwi 8 = 29 := by decide +kernel

set_option maxHeartbeats 400000 in
theorem awake_any (w : World) :
    Calls Try.prog 21 #[] w fun e w' => e = .returned (.bool true) ∧ Below w.heap.size w w' := by
  go_enter Try.func21, Try.ntmps21
  go_wp2_with fail
  refine (new_field _).mono ?_
  rintro e w1 ⟨b, rfl, hF, hb, HB⟩
  go_wp2_with fail
  refine (div_any b 29 2 _ (by omega) (by omega) hF).mono ?_
  rintro e w2 ⟨rfl, hd⟩
  replace hF := hF.drawn hd
  replace HB := HB.trans hd.below
  clear hd
  rw [quo_29]
  go_wp2_with fail
  refine (mul_any b 2 128 _ (by omega) (by omega) hF).mono ?_
  rintro e w3 ⟨rfl, hd⟩
  replace hF := hF.drawn hd
  replace HB := HB.trans hd.below
  clear hd
  rw [mul_2]
  go_wp2_with fail
  refine (exp_any b 8 _ hF).mono ?_
  rintro e w4 ⟨rfl, hd⟩
  replace HB := HB.trans hd.below
  clear hd
  rw [pwi_8]
  go_wp2_with fail
  go_ret
  exact ⟨rfl, HB⟩

set_option maxHeartbeats 1000000 in
theorem field_any (x y z : Nat) (w : World) (hx : x ≤ 255) (hy : y ≤ 255) (hz : z ≤ 255) :
    Calls Try.prog 3 #[.int .u8 x, .int .u8 y, .int .u8 z] w fun e w' => e = .returned (.bool true) ∧ Below w.heap.size w w' := by
  have t1 : (((x ^^^ x : Nat) : Int) != 0) = false := by rw [Nat.xor_self]; rfl
  have t2 : (((mul x y : Nat) : Int) != ((mul y x : Nat) : Int)) = false := by rw [mul_comm]; simp
  have t3 : (((mul x (mul y z) : Nat) : Int) != ((mul (mul x y) z : Nat) : Int)) = false := by rw [mul_assoc hx hy hz]; simp
  have t4 : (((mul x (y ^^^ z) : Nat) : Int) != ((mul x y ^^^ mul x z : Nat) : Int)) = false := by rw [mul_xor hx hy hz]; simp
  have t5 : (((mul x 1 : Nat) : Int) != (x : Int)) = false := by rw [mul_one hx]; simp
  have t6 : (decide (0 < y) == ((y : Int) != 0)) = true := by
    by_cases h : y = 0
    · subst h; rfl
    · rw [decide_eq_true (by omega), int_bne (by omega)]; rfl
  have t7 : 0 < y → (((mul (quo x y) y : Nat) : Int) == (x : Int)) = true := fun h => by rw [quo_mul hx hy (by omega)]; simp
  have k1 := xor_le hy hz
  have k2 := mul_le y z
  have k3 := mul_le x y
  have k4 := mul_le x z
  have k5 := quo_le x y
  go_enter Try.func3, Try.ntmps3
  go_wp2_with fail
  refine (new_field _).mono ?_
  rintro e w1 ⟨b, rfl, hF, hb, HB⟩
  go_wp2_with (first | (go_at_call 21; refine (awake_any _).mono ?_; rintro e w2 ⟨rfl, hd⟩; replace hF := hF.below hd; replace HB := HB.trans (hd.mono HB.size); clear hd) | (go_at_call 22; refine (add_any _ _ _ (by omega) (by omega)).mono ?_; rintro e w2 ⟨rfl, rfl⟩) | (go_at_call 23; refine (mul_any b _ _ _ (by omega) (by omega) hF).mono ?_; rintro e w2 ⟨rfl, hd⟩; replace hF := hF.drawn hd; replace HB := HB.trans hd.below; clear hd) | (go_at_call 23; refine (mul_any b _ 1 _ (by omega) (by omega) hF).mono ?_; rintro e w2 ⟨rfl, hd⟩; replace hF := hF.drawn hd; replace HB := HB.trans hd.below; clear hd) | (go_at_call 24; refine (div_any b _ _ _ (by omega) (by omega) hF).mono ?_; rintro e w2 ⟨rfl, hd⟩; replace hF := hF.drawn hd; replace HB := HB.trans hd.below; clear hd))
  all_goals go_outline
  all_goals (go_ret; exact ⟨rfl, HB⟩)

theorem pow_255 {x : Nat} (h0 : ¬ x = 0) : pow x 255 = 1 := by
  rw [pow_pw h0]
  have : ((lg x : Int) * 255) = ((lg x * 255 : Nat) : Int) := by omega
  rw [this, pwi_nat, ← pw_mod, Nat.mul_mod_left]
  rfl
theorem pow_neg {x : Nat} (h0 : ¬ x = 0) (m : Int) : mul (pow x m) (pow x (-m)) = 1 := by
  rw [pow_add h0, Int.add_right_neg]
  rfl
theorem mul_sq {x y : Nat} (hx : x ≤ 255) (hy : y ≤ 255) : mul (x ^^^ y) (x ^^^ y) = mul x x ^^^ mul y y := by
  have h := xor_le hx hy
  rw [mul_xor h hx hy, xor_mul hx hy hx, xor_mul hx hy hy, mul_comm y x]
  rw [Nat.xor_assoc, ← Nat.xor_assoc (mul x y) (mul x y), Nat.xor_self, Nat.zero_xor]
theorem tmod_bd (n : Int) : -100000 < n.tmod 100000 ∧ n.tmod 100000 < 100000 := by
  have h4 : n.tmod 100000 < 100000 := Int.tmod_lt_of_pos n (by omega)
  have h5 : -100000 < n.tmod 100000 := by have := Int.lt_tmod_of_pos n (show (0:Int) < 100000 by omega); omega
  exact ⟨h5, h4⟩

set_option maxRecDepth 100000 in
set_option maxHeartbeats 1000000 in
theorem round_any (x y : Nat) (n : Int) (w : World) (hx : x ≤ 255) (hy : y ≤ 255) :
    Calls Try.prog 5 #[.int .u8 x, .int .u8 y, .int .i64 n] w fun e w' => e = .returned (.bool true) ∧ Below w.heap.size w w' := by
  have t1 : (((mul (x ^^^ y) (x ^^^ y) : Nat) : Int) == ((mul x x ^^^ mul y y : Nat) : Int)) = true := by rw [mul_sq hx hy]; simp
  have k1 := xor_le hx hy
  have k2 := mul_le x x
  have k3 := mul_le y y
  obtain ⟨m1, m2⟩ := tmod_bd n
  generalize hm : n.tmod 100000 = m at m1 m2
  by_cases h0 : x = 0
  · have z : ((x : Int) != 0) = false := int_beq (by omega)
    have H0 := Lib.hid h0
    clear h0
    go_enter Try.func5, Try.ntmps5
    go_wp2_with fail
    refine (new_field _).mono ?_
    rintro e w1 ⟨b, rfl, hF, hb, HB⟩
    go_wp2_with (first | (go_at_call 21; (with_reducible refine (awake_any _).mono ?_); rintro e w2 ⟨rfl, hd⟩; replace hF := hF.below hd; replace HB := HB.trans (hd.mono HB.size); clear hd) | (go_at_call 22; (with_reducible refine (add_any _ _ _ (by omega) (by omega)).mono ?_); rintro e w2 ⟨rfl, rfl⟩) | (go_at_call 23; (with_reducible refine (mul_any b _ _ _ (by omega) (by omega) hF).mono ?_); rintro e w2 ⟨rfl, hd⟩; replace hF := hF.drawn hd; replace HB := HB.trans hd.below; clear hd) | (go_at_call 24; (with_reducible refine (div_any b _ _ _ (by omega) (by omega) hF).mono ?_); rintro e w2 ⟨rfl, hd⟩; replace hF := hF.drawn hd; replace HB := HB.trans hd.below; clear hd) | (go_at_call 29; (with_reducible refine (exp_any b _ _ hF).mono ?_); rintro e w2 ⟨rfl, hd⟩; replace hF := hF.drawn hd; replace HB := HB.trans hd.below; clear hd) | (go_at_call 27; (with_reducible refine (pow_any b _ _ _ (by omega) hF).mono ?_); rintro e w2 ⟨rfl, hd⟩; replace hF := hF.drawn hd; replace HB := HB.trans hd.below; clear hd) | (go_at_call 28; (with_reducible refine (log_any b _ _ (by omega) hF).mono ?_); rintro e w2 ⟨rfl, hd⟩; replace hF := hF.drawn hd; replace HB := HB.trans hd.below; clear hd))
    all_goals (go_ret; exact ⟨rfl, HB⟩)
  · have z : ((x : Int) != 0) = true := int_bne (by omega)
    have z2 : (((pow x 255 : Nat) : Int) != 1) = false := by rw [pow_255 h0]; rfl
    have z3 : (((mul (pow x m) (pow x (-m)) : Nat) : Int) != 1) = false := by rw [pow_neg h0]; rfl
    have k4 := pow_le x m
    have k5 := pow_le x (-m)
    have H0 := Lib.hid h0
    clear h0
    go_enter Try.func5, Try.ntmps5
    go_wp2_with fail
    refine (new_field _).mono ?_
    rintro e w1 ⟨b, rfl, hF, hb, HB⟩
    go_wp2_with (first | (go_at_call 21; (with_reducible refine (awake_any _).mono ?_); rintro e w2 ⟨rfl, hd⟩; replace hF := hF.below hd; replace HB := HB.trans (hd.mono HB.size); clear hd) | (go_at_call 22; (with_reducible refine (add_any _ _ _ (by omega) (by omega)).mono ?_); rintro e w2 ⟨rfl, rfl⟩) | (go_at_call 23; (with_reducible refine (mul_any b _ _ _ (by omega) (by omega) hF).mono ?_); rintro e w2 ⟨rfl, hd⟩; replace hF := hF.drawn hd; replace HB := HB.trans hd.below; clear hd) | (go_at_call 24; (with_reducible refine (div_any b _ _ _ (by omega) (by omega) hF).mono ?_); rintro e w2 ⟨rfl, hd⟩; replace hF := hF.drawn hd; replace HB := HB.trans hd.below; clear hd) | (go_at_call 29; (with_reducible refine (exp_any b _ _ hF).mono ?_); rintro e w2 ⟨rfl, hd⟩; replace hF := hF.drawn hd; replace HB := HB.trans hd.below; clear hd) | (go_at_call 27; (with_reducible refine (pow_any b _ _ _ (by omega) hF).mono ?_); rintro e w2 ⟨rfl, hd⟩; replace hF := hF.drawn hd; replace HB := HB.trans hd.below; clear hd) | (go_at_call 28; (with_reducible refine (log_any b _ _ (by omega) hF).mono ?_); rintro e w2 ⟨rfl, hd⟩; replace hF := hF.drawn hd; replace HB := HB.trans hd.below; clear hd))
    all_goals (go_ret; exact ⟨rfl, HB⟩)

set_option maxRecDepth 100000 in
set_option maxHeartbeats 1000000 in
theorem powers_any (x : Nat) (n n' : Int) (w : World) (hx : x ≤ 255) :
    Calls Try.prog 6 #[.int .u8 x, .int .i64 n, .int .i64 n'] w fun e w' => e = .returned (.bool true) ∧ Below w.heap.size w w' := by
  obtain ⟨m1, m2⟩ := tmod_bd n
  obtain ⟨m3, m4⟩ := tmod_bd n'
  generalize hm : n.tmod 100000 = m at m1 m2
  generalize hm' : n'.tmod 100000 = m' at m3 m4
  have t1 : (((mul (pwi m) (pwi m') : Nat) : Int) != ((pwi (m + m') : Nat) : Int)) = false := by rw [pwi_add]; simp
  have k1 := (pwi_pos m).2
  have k2 := (pwi_pos m').2
  by_cases h0 : x = 0
  · have z : ((x : Int) != 0) = false := int_beq (by omega)
    have z1 : ((x : Int) == 0) = true := int_eq (by omega)
    have z2 : decide (0 < x) = false := decide_eq_false (by omega)
    have H0 := Lib.hid h0
    clear h0
    go_enter Try.func6, Try.ntmps6
    go_wp2_with fail
    refine (new_field _).mono ?_
    rintro e w1 ⟨b, rfl, hF, hb, HB⟩
    go_wp2_with (first | (go_at_call 21; (with_reducible refine (awake_any _).mono ?_); rintro e w2 ⟨rfl, hd⟩; replace hF := hF.below hd; replace HB := HB.trans (hd.mono HB.size); clear hd) | (go_at_call 22; (with_reducible refine (add_any _ _ _ (by omega) (by omega)).mono ?_); rintro e w2 ⟨rfl, rfl⟩) | (go_at_call 23; (with_reducible refine (mul_any b _ _ _ (by omega) (by omega) hF).mono ?_); rintro e w2 ⟨rfl, hd⟩; replace hF := hF.drawn hd; replace HB := HB.trans hd.below; clear hd) | (go_at_call 24; (with_reducible refine (div_any b _ _ _ (by omega) (by omega) hF).mono ?_); rintro e w2 ⟨rfl, hd⟩; replace hF := hF.drawn hd; replace HB := HB.trans hd.below; clear hd) | (go_at_call 29; (with_reducible refine (exp_any b _ _ hF).mono ?_); rintro e w2 ⟨rfl, hd⟩; replace hF := hF.drawn hd; replace HB := HB.trans hd.below; clear hd) | (go_at_call 27; (with_reducible refine (pow_any b _ _ _ (by omega) hF).mono ?_); rintro e w2 ⟨rfl, hd⟩; replace hF := hF.drawn hd; replace HB := HB.trans hd.below; clear hd) | (go_at_call 28; (with_reducible refine (log_any b _ _ (by omega) hF).mono ?_); rintro e w2 ⟨rfl, hd⟩; replace hF := hF.drawn hd; replace HB := HB.trans hd.below; clear hd))
    all_goals (go_ret; exact ⟨rfl, HB⟩)
  · have z : ((x : Int) != 0) = true := int_bne (by omega)
    have z1 : ((x : Int) == 0) = false := int_ne (by omega)
    have z2 : decide (0 < x) = true := decide_eq_true (by omega)
    have z3 : (((pwi (lg x : Nat) : Nat) : Int) != (x : Int)) = false := by rw [pwi_nat, pw_lg (by omega) hx]; simp
    have z4 : (((mul (pow x m) (pow x m') : Nat) : Int) == ((pow x (m + m') : Nat) : Int)) = true := by rw [pow_add h0]; simp
    have k4 := pow_le x m
    have k5 := pow_le x m'
    have H0 := Lib.hid h0
    clear h0
    go_enter Try.func6, Try.ntmps6
    go_wp2_with fail
    refine (new_field _).mono ?_
    rintro e w1 ⟨b, rfl, hF, hb, HB⟩
    go_wp2_with (first | (go_at_call 21; (with_reducible refine (awake_any _).mono ?_); rintro e w2 ⟨rfl, hd⟩; replace hF := hF.below hd; replace HB := HB.trans (hd.mono HB.size); clear hd) | (go_at_call 22; (with_reducible refine (add_any _ _ _ (by omega) (by omega)).mono ?_); rintro e w2 ⟨rfl, rfl⟩) | (go_at_call 23; (with_reducible refine (mul_any b _ _ _ (by omega) (by omega) hF).mono ?_); rintro e w2 ⟨rfl, hd⟩; replace hF := hF.drawn hd; replace HB := HB.trans hd.below; clear hd) | (go_at_call 24; (with_reducible refine (div_any b _ _ _ (by omega) (by omega) hF).mono ?_); rintro e w2 ⟨rfl, hd⟩; replace hF := hF.drawn hd; replace HB := HB.trans hd.below; clear hd) | (go_at_call 29; (with_reducible refine (exp_any b _ _ hF).mono ?_); rintro e w2 ⟨rfl, hd⟩; replace hF := hF.drawn hd; replace HB := HB.trans hd.below; clear hd) | (go_at_call 27; (with_reducible refine (pow_any b _ _ _ (by omega) hF).mono ?_); rintro e w2 ⟨rfl, hd⟩; replace hF := hF.drawn hd; replace HB := HB.trans hd.below; clear hd) | (go_at_call 28; (with_reducible refine (log_any b _ _ (by omega) hF).mono ?_); rintro e w2 ⟨rfl, hd⟩; replace hF := hF.drawn hd; replace HB := HB.trans hd.below; clear hd))
    all_goals (go_ret; exact ⟨rfl, HB⟩)
end Go.Proofs.Ytalinkpfklhgaaa.GfL
