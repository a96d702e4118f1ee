/- The laws of chapter 1 walked: GfPlays, GfNil, GfDots. -/
import Derived.Test.YtalinkpfklhgaaaGfLaw1
set_option linter.unusedVariables false
set_option linter.unusedSimpArgs false
namespace Go.Proofs.Ytalinkpfklhgaaa.GfL
open Go.RowKit Go.Proofs.Ytalinkpfklhgaaa.Base Go.Proofs.Ytalinkpfklhgaaa.GfP Go.Proofs.Ytalinkpfklhgaaa.GfW Go.Proofs.Ytalinkpfklhgaaa.GfR


theorem rlog_nz (a : Nat) (w : World) (ha : a ≤ 255) (h0 : 0 < a) :
    Calls Try.prog 30 #[.int .i64 a] w fun e w' => e = .returned (.int .i64 (lg a : Nat)) ∧ w = w' := by
  have h := rlog a w ha
  unfold rl at h
  rwa [if_neg (by omega)] at h
theorem rlog_z (w : World) :
    Calls Try.prog 30 #[.int .i64 0] w fun e w' => e = .returned (.int .i64 (-1)) ∧ w = w' := rlog 0 w (by omega)
theorem lg0 : lg 0 = 0 := lg_zero
theorem pow0 (n : Int) : pow 0 n = if n = 0 then 1 else 0 := by
  unfold pow
  by_cases h : n = 0
  · rw [if_pos h, if_pos h]
  · rw [if_neg h, if_neg h, if_pos rfl]

set_option maxRecDepth 100000 in
set_option maxHeartbeats 1000000 in
theorem plays_nz (x y : Nat) (n : Int) (w : World) (hx : x ≤ 255) (hy : y ≤ 255) (h0 : ¬ x = 0) :
    Calls Try.prog 7 #[.int .u8 x, .int .u8 y, .int .i64 n] w fun e w' => e = .returned (.bool true) ∧ Below w.heap.size w w' := by
  have t2 : (((pwi n : Nat) : Int) != ((rp 2 (n % 255).toNat : Nat) : Int)) = false := by rw [pwi_rest]; simp
  have t6 : (((quo x y : Nat) : Int) != ((mul x (inv y) : Nat) : Int)) = false := by rw [mul_inv_all hx hy]; simp
  have k1 := quo_le x y
  have k2 := mul_le x y
  have k3 := inv_le y
  have k4 := (pwi_pos n).2
  have k5 := pow_le x n
  have t7 : (((pow x n : Nat) : Int) == ((rp x (n % 255).toNat : Nat) : Int)) = true := by rw [rp_rest hx h0]; simp
  have z : ((x : Int) == 0) = false := int_ne (by omega)
  have z1 : ((x : Int) != 0) = true := int_bne (by omega)
  have z2 : decide (0 < x) = true := decide_eq_true (by omega)
  have z3 : 0 < x := by omega
  obtain ⟨r1, r2⟩ : 0 ≤ n % 255 ∧ n % 255 < 255 := by omega
  generalize hr : n % 255 = r at t2 r1 r2 t7
  clear h0
  by_cases hy0 : y = 0
  · have y1 : decide (0 < y) = false := decide_eq_false (by omega)
    have y2 : ((y : Int) != 0) = false := int_beq (by omega)
    have Y := Lib.hid hy0
    clear hy0
    go_enter Try.func7, Try.ntmps7
    go_wp2_with fail
    refine (new_field _).mono ?_
    rintro e w1 ⟨b, rfl, hF, hb, HB⟩
    go_wp2_with (first | (go_at_call 21; (with_reducible refine (awake_any _).mono ?_); rintro e w2 ⟨rfl, hd⟩; replace hF := hF.below hd; replace HB := HB.trans (hd.mono HB.size); clear hd) | (go_at_call 22; (with_reducible refine (add_any _ _ _ (by omega) (by omega)).mono ?_); rintro e w2 ⟨rfl, rfl⟩) | (go_at_call 23; (with_reducible refine (mul_any b _ _ _ (by omega) (by omega) hF).mono ?_); rintro e w2 ⟨rfl, hd⟩; replace hF := hF.drawn hd; replace HB := HB.trans hd.below; clear hd) | (go_at_call 24; (with_reducible refine (div_any b _ _ _ (by omega) (by omega) hF).mono ?_); rintro e w2 ⟨rfl, hd⟩; replace hF := hF.drawn hd; replace HB := HB.trans hd.below; clear hd) | (go_at_call 29; (with_reducible refine (exp_any b _ _ hF).mono ?_); rintro e w2 ⟨rfl, hd⟩; replace hF := hF.drawn hd; replace HB := HB.trans hd.below; clear hd) | (go_at_call 27; (with_reducible refine (pow_any b _ _ _ (by omega) hF).mono ?_); rintro e w2 ⟨rfl, hd⟩; replace hF := hF.drawn hd; replace HB := HB.trans hd.below; clear hd) | (go_at_call 28; (with_reducible refine (log_any b _ _ (by omega) hF).mono ?_); rintro e w2 ⟨rfl, hd⟩; replace hF := hF.drawn hd; replace HB := HB.trans hd.below; clear hd) | (go_at_call 26; (with_reducible refine (rmul _ _ _ (by omega) (by omega)).mono ?_); rintro e w2 ⟨rfl, rfl⟩) | (go_at_call 33; (with_reducible refine (rinv _ _ (by omega)).mono ?_); rintro e w2 ⟨rfl, rfl⟩) | (go_at_call 32; (with_reducible refine (rrest _ _).mono ?_); rintro e w2 ⟨rfl, rfl⟩) | (go_at_call 31; (with_reducible refine (rpow _ _ _ (by omega) (by omega) (by omega)).mono ?_); rintro e w2 ⟨rfl, rfl⟩) | (go_at_call 31; refine (rpow 2 _ _ (by omega) (by omega) (by omega)).mono ?_; rintro e w2 ⟨rfl, rfl⟩) | (go_at_call 30; (with_reducible refine (rlog_nz _ _ (by omega) (by omega)).mono ?_); rintro e w2 ⟨rfl, rfl⟩))
    all_goals (go_ret; exact ⟨rfl, HB⟩)
  · have y1 : decide (0 < y) = true := decide_eq_true (by omega)
    have y2 : ((y : Int) != 0) = true := int_bne (by omega)
    have Y := Lib.hid hy0
    clear hy0
    go_enter Try.func7, Try.ntmps7
    go_wp2_with fail
    refine (new_field _).mono ?_
    rintro e w1 ⟨b, rfl, hF, hb, HB⟩
    go_wp2_with (first | (go_at_call 21; (with_reducible refine (awake_any _).mono ?_); rintro e w2 ⟨rfl, hd⟩; replace hF := hF.below hd; replace HB := HB.trans (hd.mono HB.size); clear hd) | (go_at_call 22; (with_reducible refine (add_any _ _ _ (by omega) (by omega)).mono ?_); rintro e w2 ⟨rfl, rfl⟩) | (go_at_call 23; (with_reducible refine (mul_any b _ _ _ (by omega) (by omega) hF).mono ?_); rintro e w2 ⟨rfl, hd⟩; replace hF := hF.drawn hd; replace HB := HB.trans hd.below; clear hd) | (go_at_call 24; (with_reducible refine (div_any b _ _ _ (by omega) (by omega) hF).mono ?_); rintro e w2 ⟨rfl, hd⟩; replace hF := hF.drawn hd; replace HB := HB.trans hd.below; clear hd) | (go_at_call 29; (with_reducible refine (exp_any b _ _ hF).mono ?_); rintro e w2 ⟨rfl, hd⟩; replace hF := hF.drawn hd; replace HB := HB.trans hd.below; clear hd) | (go_at_call 27; (with_reducible refine (pow_any b _ _ _ (by omega) hF).mono ?_); rintro e w2 ⟨rfl, hd⟩; replace hF := hF.drawn hd; replace HB := HB.trans hd.below; clear hd) | (go_at_call 28; (with_reducible refine (log_any b _ _ (by omega) hF).mono ?_); rintro e w2 ⟨rfl, hd⟩; replace hF := hF.drawn hd; replace HB := HB.trans hd.below; clear hd) | (go_at_call 26; (with_reducible refine (rmul _ _ _ (by omega) (by omega)).mono ?_); rintro e w2 ⟨rfl, rfl⟩) | (go_at_call 33; (with_reducible refine (rinv _ _ (by omega)).mono ?_); rintro e w2 ⟨rfl, rfl⟩) | (go_at_call 32; (with_reducible refine (rrest _ _).mono ?_); rintro e w2 ⟨rfl, rfl⟩) | (go_at_call 31; (with_reducible refine (rpow _ _ _ (by omega) (by omega) (by omega)).mono ?_); rintro e w2 ⟨rfl, rfl⟩) | (go_at_call 31; refine (rpow 2 _ _ (by omega) (by omega) (by omega)).mono ?_; rintro e w2 ⟨rfl, rfl⟩) | (go_at_call 30; (with_reducible refine (rlog_nz _ _ (by omega) (by omega)).mono ?_); rintro e w2 ⟨rfl, rfl⟩))
    all_goals (go_ret; exact ⟨rfl, HB⟩)

set_option maxRecDepth 100000 in
set_option maxHeartbeats 1000000 in
theorem plays_z (x y : Nat) (n : Int) (w : World) (hx : x ≤ 255) (hy : y ≤ 255) (h0 : x = 0) :
    Calls Try.prog 7 #[.int .u8 x, .int .u8 y, .int .i64 n] w fun e w' => e = .returned (.bool true) ∧ Below w.heap.size w w' := by
  have t2 : (((pwi n : Nat) : Int) != ((rp 2 (n % 255).toNat : Nat) : Int)) = false := by rw [pwi_rest]; simp
  have t6 : (((quo x y : Nat) : Int) != ((mul x (inv y) : Nat) : Int)) = false := by rw [mul_inv_all hx hy]; simp
  have k1 := quo_le x y
  have k2 := mul_le x y
  have k3 := inv_le y
  have k4 := (pwi_pos n).2
  have k5 := pow_le x n
  have z : ((x : Int) == 0) = true := int_eq (by omega)
  have z1 : ((x : Int) != 0) = false := int_beq (by omega)
  have z2 : decide (0 < x) = false := decide_eq_false (by omega)
  have z3 : ¬ 0 < x := by omega
  have z4 : rl x = -1 := by rw [h0]; rfl
  have z5 : ((lg x : Nat) : Int) = 0 := by rw [h0, lg_zero]; rfl
  have z6 : ((pow x n : Nat) : Int) = if n = 0 then 1 else 0 := by rw [h0, pow0]; split <;> rfl
  obtain ⟨r1, r2⟩ : 0 ≤ n % 255 ∧ n % 255 < 255 := by omega
  generalize hr : n % 255 = r at t2 r1 r2
  have Z := Lib.hid h0
  clear h0
  by_cases hn : n = 0
  · have n1 : (n == 0) = true := int_eq hn
    have n2 : (n != 0) = false := int_beq hn
    rw [if_pos hn] at z6
    have hN := Lib.hid hn
    clear hn
    by_cases hy0 : y = 0
    · have y1 : decide (0 < y) = false := decide_eq_false (by omega)
      have y2 : ((y : Int) != 0) = false := int_beq (by omega)
      have Y := Lib.hid hy0
      clear hy0
      go_enter Try.func7, Try.ntmps7
      go_wp2_with fail
      refine (new_field _).mono ?_
      rintro e w1 ⟨b, rfl, hF, hb, HB⟩
      go_wp2_with (first | (go_at_call 21; (with_reducible refine (awake_any _).mono ?_); rintro e w2 ⟨rfl, hd⟩; replace hF := hF.below hd; replace HB := HB.trans (hd.mono HB.size); clear hd) | (go_at_call 22; (with_reducible refine (add_any _ _ _ (by omega) (by omega)).mono ?_); rintro e w2 ⟨rfl, rfl⟩) | (go_at_call 23; (with_reducible refine (mul_any b _ _ _ (by omega) (by omega) hF).mono ?_); rintro e w2 ⟨rfl, hd⟩; replace hF := hF.drawn hd; replace HB := HB.trans hd.below; clear hd) | (go_at_call 24; (with_reducible refine (div_any b _ _ _ (by omega) (by omega) hF).mono ?_); rintro e w2 ⟨rfl, hd⟩; replace hF := hF.drawn hd; replace HB := HB.trans hd.below; clear hd) | (go_at_call 29; (with_reducible refine (exp_any b _ _ hF).mono ?_); rintro e w2 ⟨rfl, hd⟩; replace hF := hF.drawn hd; replace HB := HB.trans hd.below; clear hd) | (go_at_call 27; (with_reducible refine (pow_any b _ _ _ (by omega) hF).mono ?_); rintro e w2 ⟨rfl, hd⟩; replace hF := hF.drawn hd; replace HB := HB.trans hd.below; clear hd) | (go_at_call 28; (with_reducible refine (log_any b _ _ (by omega) hF).mono ?_); rintro e w2 ⟨rfl, hd⟩; replace hF := hF.drawn hd; replace HB := HB.trans hd.below; clear hd) | (go_at_call 26; (with_reducible refine (rmul _ _ _ (by omega) (by omega)).mono ?_); rintro e w2 ⟨rfl, rfl⟩) | (go_at_call 33; (with_reducible refine (rinv _ _ (by omega)).mono ?_); rintro e w2 ⟨rfl, rfl⟩) | (go_at_call 32; (with_reducible refine (rrest _ _).mono ?_); rintro e w2 ⟨rfl, rfl⟩) | (go_at_call 31; (with_reducible refine (rpow _ _ _ (by omega) (by omega) (by omega)).mono ?_); rintro e w2 ⟨rfl, rfl⟩) | (go_at_call 31; refine (rpow 2 _ _ (by omega) (by omega) (by omega)).mono ?_; rintro e w2 ⟨rfl, rfl⟩) | (go_at_call 30; (with_reducible refine (rlog _ _ (by omega)).mono ?_); rintro e w2 ⟨rfl, rfl⟩))
      all_goals (go_ret; exact ⟨rfl, HB⟩)
    · have y1 : decide (0 < y) = true := decide_eq_true (by omega)
      have y2 : ((y : Int) != 0) = true := int_bne (by omega)
      have Y := Lib.hid hy0
      clear hy0
      go_enter Try.func7, Try.ntmps7
      go_wp2_with fail
      refine (new_field _).mono ?_
      rintro e w1 ⟨b, rfl, hF, hb, HB⟩
      go_wp2_with (first | (go_at_call 21; (with_reducible refine (awake_any _).mono ?_); rintro e w2 ⟨rfl, hd⟩; replace hF := hF.below hd; replace HB := HB.trans (hd.mono HB.size); clear hd) | (go_at_call 22; (with_reducible refine (add_any _ _ _ (by omega) (by omega)).mono ?_); rintro e w2 ⟨rfl, rfl⟩) | (go_at_call 23; (with_reducible refine (mul_any b _ _ _ (by omega) (by omega) hF).mono ?_); rintro e w2 ⟨rfl, hd⟩; replace hF := hF.drawn hd; replace HB := HB.trans hd.below; clear hd) | (go_at_call 24; (with_reducible refine (div_any b _ _ _ (by omega) (by omega) hF).mono ?_); rintro e w2 ⟨rfl, hd⟩; replace hF := hF.drawn hd; replace HB := HB.trans hd.below; clear hd) | (go_at_call 29; (with_reducible refine (exp_any b _ _ hF).mono ?_); rintro e w2 ⟨rfl, hd⟩; replace hF := hF.drawn hd; replace HB := HB.trans hd.below; clear hd) | (go_at_call 27; (with_reducible refine (pow_any b _ _ _ (by omega) hF).mono ?_); rintro e w2 ⟨rfl, hd⟩; replace hF := hF.drawn hd; replace HB := HB.trans hd.below; clear hd) | (go_at_call 28; (with_reducible refine (log_any b _ _ (by omega) hF).mono ?_); rintro e w2 ⟨rfl, hd⟩; replace hF := hF.drawn hd; replace HB := HB.trans hd.below; clear hd) | (go_at_call 26; (with_reducible refine (rmul _ _ _ (by omega) (by omega)).mono ?_); rintro e w2 ⟨rfl, rfl⟩) | (go_at_call 33; (with_reducible refine (rinv _ _ (by omega)).mono ?_); rintro e w2 ⟨rfl, rfl⟩) | (go_at_call 32; (with_reducible refine (rrest _ _).mono ?_); rintro e w2 ⟨rfl, rfl⟩) | (go_at_call 31; (with_reducible refine (rpow _ _ _ (by omega) (by omega) (by omega)).mono ?_); rintro e w2 ⟨rfl, rfl⟩) | (go_at_call 31; refine (rpow 2 _ _ (by omega) (by omega) (by omega)).mono ?_; rintro e w2 ⟨rfl, rfl⟩) | (go_at_call 30; (with_reducible refine (rlog _ _ (by omega)).mono ?_); rintro e w2 ⟨rfl, rfl⟩))
      all_goals (go_ret; exact ⟨rfl, HB⟩)
  · have n1 : (n == 0) = false := int_ne hn
    have n2 : (n != 0) = true := int_bne hn
    rw [if_neg hn] at z6
    have hN := Lib.hid hn
    clear hn
    by_cases hy0 : y = 0
    · have y1 : decide (0 < y) = false := decide_eq_false (by omega)
      have y2 : ((y : Int) != 0) = false := int_beq (by omega)
      have Y := Lib.hid hy0
      clear hy0
      go_enter Try.func7, Try.ntmps7
      go_wp2_with fail
      refine (new_field _).mono ?_
      rintro e w1 ⟨b, rfl, hF, hb, HB⟩
      go_wp2_with (first | (go_at_call 21; (with_reducible refine (awake_any _).mono ?_); rintro e w2 ⟨rfl, hd⟩; replace hF := hF.below hd; replace HB := HB.trans (hd.mono HB.size); clear hd) | (go_at_call 22; (with_reducible refine (add_any _ _ _ (by omega) (by omega)).mono ?_); rintro e w2 ⟨rfl, rfl⟩) | (go_at_call 23; (with_reducible refine (mul_any b _ _ _ (by omega) (by omega) hF).mono ?_); rintro e w2 ⟨rfl, hd⟩; replace hF := hF.drawn hd; replace HB := HB.trans hd.below; clear hd) | (go_at_call 24; (with_reducible refine (div_any b _ _ _ (by omega) (by omega) hF).mono ?_); rintro e w2 ⟨rfl, hd⟩; replace hF := hF.drawn hd; replace HB := HB.trans hd.below; clear hd) | (go_at_call 29; (with_reducible refine (exp_any b _ _ hF).mono ?_); rintro e w2 ⟨rfl, hd⟩; replace hF := hF.drawn hd; replace HB := HB.trans hd.below; clear hd) | (go_at_call 27; (with_reducible refine (pow_any b _ _ _ (by omega) hF).mono ?_); rintro e w2 ⟨rfl, hd⟩; replace hF := hF.drawn hd; replace HB := HB.trans hd.below; clear hd) | (go_at_call 28; (with_reducible refine (log_any b _ _ (by omega) hF).mono ?_); rintro e w2 ⟨rfl, hd⟩; replace hF := hF.drawn hd; replace HB := HB.trans hd.below; clear hd) | (go_at_call 26; (with_reducible refine (rmul _ _ _ (by omega) (by omega)).mono ?_); rintro e w2 ⟨rfl, rfl⟩) | (go_at_call 33; (with_reducible refine (rinv _ _ (by omega)).mono ?_); rintro e w2 ⟨rfl, rfl⟩) | (go_at_call 32; (with_reducible refine (rrest _ _).mono ?_); rintro e w2 ⟨rfl, rfl⟩) | (go_at_call 31; (with_reducible refine (rpow _ _ _ (by omega) (by omega) (by omega)).mono ?_); rintro e w2 ⟨rfl, rfl⟩) | (go_at_call 31; refine (rpow 2 _ _ (by omega) (by omega) (by omega)).mono ?_; rintro e w2 ⟨rfl, rfl⟩) | (go_at_call 30; (with_reducible refine (rlog _ _ (by omega)).mono ?_); rintro e w2 ⟨rfl, rfl⟩))
      all_goals (go_ret; exact ⟨rfl, HB⟩)
    · have y1 : decide (0 < y) = true := decide_eq_true (by omega)
      have y2 : ((y : Int) != 0) = true := int_bne (by omega)
      have Y := Lib.hid hy0
      clear hy0
      go_enter Try.func7, Try.ntmps7
      go_wp2_with fail
      refine (new_field _).mono ?_
      rintro e w1 ⟨b, rfl, hF, hb, HB⟩
      go_wp2_with (first | (go_at_call 21; (with_reducible refine (awake_any _).mono ?_); rintro e w2 ⟨rfl, hd⟩; replace hF := hF.below hd; replace HB := HB.trans (hd.mono HB.size); clear hd) | (go_at_call 22; (with_reducible refine (add_any _ _ _ (by omega) (by omega)).mono ?_); rintro e w2 ⟨rfl, rfl⟩) | (go_at_call 23; (with_reducible refine (mul_any b _ _ _ (by omega) (by omega) hF).mono ?_); rintro e w2 ⟨rfl, hd⟩; replace hF := hF.drawn hd; replace HB := HB.trans hd.below; clear hd) | (go_at_call 24; (with_reducible refine (div_any b _ _ _ (by omega) (by omega) hF).mono ?_); rintro e w2 ⟨rfl, hd⟩; replace hF := hF.drawn hd; replace HB := HB.trans hd.below; clear hd) | (go_at_call 29; (with_reducible refine (exp_any b _ _ hF).mono ?_); rintro e w2 ⟨rfl, hd⟩; replace hF := hF.drawn hd; replace HB := HB.trans hd.below; clear hd) | (go_at_call 27; (with_reducible refine (pow_any b _ _ _ (by omega) hF).mono ?_); rintro e w2 ⟨rfl, hd⟩; replace hF := hF.drawn hd; replace HB := HB.trans hd.below; clear hd) | (go_at_call 28; (with_reducible refine (log_any b _ _ (by omega) hF).mono ?_); rintro e w2 ⟨rfl, hd⟩; replace hF := hF.drawn hd; replace HB := HB.trans hd.below; clear hd) | (go_at_call 26; (with_reducible refine (rmul _ _ _ (by omega) (by omega)).mono ?_); rintro e w2 ⟨rfl, rfl⟩) | (go_at_call 33; (with_reducible refine (rinv _ _ (by omega)).mono ?_); rintro e w2 ⟨rfl, rfl⟩) | (go_at_call 32; (with_reducible refine (rrest _ _).mono ?_); rintro e w2 ⟨rfl, rfl⟩) | (go_at_call 31; (with_reducible refine (rpow _ _ _ (by omega) (by omega) (by omega)).mono ?_); rintro e w2 ⟨rfl, rfl⟩) | (go_at_call 31; refine (rpow 2 _ _ (by omega) (by omega) (by omega)).mono ?_; rintro e w2 ⟨rfl, rfl⟩) | (go_at_call 30; (with_reducible refine (rlog _ _ (by omega)).mono ?_); rintro e w2 ⟨rfl, rfl⟩))
      all_goals (go_ret; exact ⟨rfl, HB⟩)

theorem plays_any (x y : Nat) (n : Int) (w : World) (hx : x ≤ 255) (hy : y ≤ 255) :
    Calls Try.prog 7 #[.int .u8 x, .int .u8 y, .int .i64 n] w fun e w' => e = .returned (.bool true) ∧ Below w.heap.size w w' := by
  by_cases h0 : x = 0
  · exact plays_z x y n w hx hy h0
  · exact plays_nz x y n w hx hy h0

/-- What is no field has nothing. -/
theorem nil_div (x y : Nat) (w : World) : Calls Try.prog 24 #[.pointer none, .int .u8 x, .int .u8 y] w fun e w' => e = .returned (.tuple #[.int .u8 0, .bool false]) ∧ w = w' := by
  go_enter Try.func24, Try.ntmps24
  go_wp2
  go_ret2
  exact ⟨rfl, rfl⟩
theorem nil_mul (x y : Nat) (w : World) : Calls Try.prog 23 #[.pointer none, .int .u8 x, .int .u8 y] w fun e w' => e = .returned (.int .u8 0) ∧ w = w' := by
  go_enter Try.func23, Try.ntmps23
  go_wp2
  go_ret
  exact ⟨rfl, rfl⟩
theorem nil_log (x : Nat) (w : World) : Calls Try.prog 28 #[.pointer none, .int .u8 x] w fun e w' => e = .returned (.tuple #[.int .i64 0, .bool false]) ∧ w = w' := by
  go_enter Try.func28, Try.ntmps28
  go_wp2
  go_ret2
  exact ⟨rfl, rfl⟩
theorem nil_exp (n : Int) (w : World) : Calls Try.prog 29 #[.pointer none, .int .i64 n] w fun e w' => e = .returned (.int .u8 0) ∧ w = w' := by
  go_enter Try.func29, Try.ntmps29
  go_wp2
  go_ret
  exact ⟨rfl, rfl⟩
theorem nil_pow (x : Nat) (n : Int) (w : World) : Calls Try.prog 27 #[.pointer none, .int .u8 x, .int .i64 n] w fun e w' => e = .returned (.int .u8 0) ∧ w = w' := by
  go_enter Try.func27, Try.ntmps27
  go_wp2
  go_ret
  exact ⟨rfl, rfl⟩
theorem nil_dot (a b : Value) (w : World) : Calls Try.prog 25 #[.pointer none, a, b] w fun e w' => e = .returned (.tuple #[.int .u8 0, .bool false]) ∧ w = w' := by
  go_enter Try.func25, Try.ntmps25
  go_wp2
  go_ret2
  exact ⟨rfl, rfl⟩
set_option maxRecDepth 100000 in
set_option maxHeartbeats 1000000 in
theorem nil_any (x y : Nat) (n : Int) (w : World) :
    Calls Try.prog 8 #[.int .u8 x, .int .u8 y, .int .i64 n] w fun e w' => e = .returned (.bool true) ∧ Below w.heap.size w w' := by
  go_enter Try.func8, Try.ntmps8
  go_wp2_with (first | (go_at_call 24; (with_reducible refine (nil_div _ _ _).mono ?_); rintro e w2 ⟨rfl, rfl⟩) | (go_at_call 23; (with_reducible refine (nil_mul _ _ _).mono ?_); rintro e w2 ⟨rfl, rfl⟩) | (go_at_call 28; (with_reducible refine (nil_log _ _).mono ?_); rintro e w2 ⟨rfl, rfl⟩) | (go_at_call 29; (with_reducible refine (nil_exp _ _).mono ?_); rintro e w2 ⟨rfl, rfl⟩) | (go_at_call 27; (with_reducible refine (nil_pow _ _ _).mono ?_); rintro e w2 ⟨rfl, rfl⟩) | (go_at_call 25; (with_reducible refine (nil_dot _ _ _).mono ?_); rintro e w2 ⟨rfl, rfl⟩) | (go_at_call 21; (with_reducible refine (awake_any _).mono ?_); rintro e w2 ⟨rfl, HB⟩))
  all_goals (go_ret; exact ⟨rfl, HB⟩)
end Go.Proofs.Ytalinkpfklhgaaa.GfL
