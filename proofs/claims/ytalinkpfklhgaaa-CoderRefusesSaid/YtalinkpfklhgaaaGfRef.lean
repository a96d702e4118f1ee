/- The document's functions of chapter 1, walked. -/
import Derived.Test.YtalinkpfklhgaaaGfRefP
import Derived.Test.YtalinkpfklhgaaaGfFns
set_option linter.unusedVariables false
set_option linter.unusedSimpArgs false
namespace Go.Proofs.Ytalinkpfklhgaaa.GfR
open Go.RowKit Go.Proofs.Ytalinkpfklhgaaa.Base Go.Proofs.Ytalinkpfklhgaaa.GfP Go.Proofs.Ytalinkpfklhgaaa.GfW

theorem bit_of {q : Nat} (h : q % 2 = 1) : (((q : Nat) : Int) % 2 == 1) = true := int_eq (by omega)
theorem bit_no {q : Nat} (h : ¬ q % 2 = 1) : (((q : Nat) : Int) % 2 == 1) = false := int_ne (by omega)
set_option maxRecDepth 100000 in
set_option maxHeartbeats 400000 in
theorem rmul (a b : Nat) (w : World) (ha : a ≤ 255) (hb : b ≤ 255) :
    Calls Try.prog 26 #[.int .i64 a, .int .i64 b] w fun e w' => e = .returned (.int .i64 (mul a b : Nat)) ∧ w = w' := by
  rw [← rm_mul ha hb]
  go_enter Try.func26, Try.ntmps26
  go_wp2
  go_loop [0, 1, 5, 6] (fun x y n i => ∃ k : Nat, k ≤ 8 ∧ i = .int .i64 k ∧ n = .int .i64 (rm a b k : Nat) ∧ y = .int .i64 (b / 2 ^ k : Nat) ∧ x = .int .i64 (dit k a : Nat)) (fun _ _ _ i => 8 - (intOf i).toNat)
  case atStart => exact ⟨0, by omega, rfl, rfl, by rw [Nat.pow_zero, Nat.div_one], rfl⟩
  case round =>
    obtain ⟨k, hk, rfl, rfl, rfl, rfl⟩ := hrel
    by_cases hlt : k < 8
    · have d1 := dit_le k ha
      have d2 := rm_le b ha k
      have d3 : b / 2 ^ k ≤ 255 := Nat.le_trans (Nat.div_le_self _ _) hb
      have e1 : b / 2 ^ (k + 1) = b / 2 ^ k / 2 := by rw [Nat.pow_succ, Nat.div_div_eq_div_mul]
      have e2 : rm a b (k + 1) = if b / 2 ^ k % 2 = 1 then rm a b k ^^^ dit k a else rm a b k := rfl
      have e3 : dit (k + 1) a = dbl (dit k a) := rfl
      have hx := i64_xor_nat (rm a b k) (dit k a) (by omega) (by omega)
      generalize dit k a = x at *
      generalize rm a b k = n at *
      generalize b / 2 ^ k = q at *
      have E1 := Lib.hid e1
      have E2 := Lib.hid e2
      have E3 := Lib.hid e3
      clear e1 e2 e3
      have e4 : ((q / 2 : Nat) : Int) = (q : Int) / 2 := by omega
      have E4 := Lib.hid e4
      clear e4
      by_cases hq : q % 2 = 1
      · have hq1 := bit_of hq
        have HQ := Lib.hid hq
        clear hq
        go_wp2
        · have hbig : (255 : Int) < ((x : Nat) : Int) * 2 := by assumption
          go_round
          case rel => exact ⟨k + 1, by omega, by go_num, by rw [E2.out, if_pos HQ.out], by rw [E1.out, E4.out], by rw [E3.out, dbl_big d1 hbig]⟩
          case measure => simp [intOf]; omega
        · have hsm : ((x : Nat) : Int) * 2 ≤ 255 := by assumption
          go_round
          case rel => exact ⟨k + 1, by omega, by go_num, by rw [E2.out, if_pos HQ.out], by rw [E1.out, E4.out], by rw [E3.out, dbl_small hsm]⟩
          case measure => simp [intOf]; omega
      · have hq1 := bit_no hq
        have HQ := Lib.hid hq
        clear hq
        go_wp2
        · have hbig : (255 : Int) < ((x : Nat) : Int) * 2 := by assumption
          go_round
          case rel => exact ⟨k + 1, by omega, by go_num, by rw [E2.out, if_neg HQ.out], by rw [E1.out, E4.out], by rw [E3.out, dbl_big d1 hbig]⟩
          case measure => simp [intOf]; omega
        · have hsm : ((x : Nat) : Int) * 2 ≤ 255 := by assumption
          go_round
          case rel => exact ⟨k + 1, by omega, by go_num, by rw [E2.out, if_neg HQ.out], by rw [E1.out, E4.out], by rw [E3.out, dbl_small hsm]⟩
          case measure => simp [intOf]; omega
    · obtain rfl : k = 8 := by omega
      go_wp2
      go_ret
      exact ⟨rfl, rfl⟩

theorem eq_one {x : Nat} (h : x = 1) : (((x : Nat) : Int) == 1) = true := int_eq (by omega)
theorem ne_one {x : Nat} (h : ¬ x = 1) : (((x : Nat) : Int) == 1) = false := int_ne (by omega)
set_option maxRecDepth 100000 in
set_option maxHeartbeats 400000 in
theorem rinv (a : Nat) (w : World) (ha : a ≤ 255) :
    Calls Try.prog 33 #[.int .i64 a] w fun e w' => e = .returned (.int .i64 (inv a : Nat)) ∧ w = w' := by
  go_enter Try.func33, Try.ntmps33
  go_wp2
  go_loop [3] (fun i => ∃ k : Nat, 1 ≤ k ∧ k ≤ 256 ∧ i = .int .i64 k ∧ ∀ j, j < k → ¬ mul a j = 1) (fun i => 256 - (intOf i).toNat)
  case atStart => exact ⟨1, by omega, by omega, rfl, fun j hj => by obtain rfl : j = 0 := by omega
                                                                    rw [mul_zero]; omega⟩
  case round =>
    obtain ⟨k, hk1, hk, rfl, hno⟩ := hrel
    by_cases hlt : k < 256
    · by_cases h1 : mul a k = 1
      · have hk2 := inv_uniq ha (show k ≤ 255 by omega) h1
        have h2 := eq_one h1
        have HK := Lib.hid hk2
        clear hk2 h1 hno
        go_wp2_with (go_at_call 26; refine (rmul a k _ (by omega) (by omega)).mono ?_; rintro e w' ⟨rfl, rfl⟩)
        go_ret
        exact ⟨by rw [← HK.out]; rfl, rfl⟩
      · have h2 := ne_one h1
        have HN := Lib.hid (show ∀ j, j < k + 1 → ¬ mul a j = 1 from fun j hj => by
          by_cases e : j = k
          · rw [e]; exact h1
          · exact hno j (by omega))
        clear h1 hno
        go_wp2_with (go_at_call 26; refine (rmul a k _ (by omega) (by omega)).mono ?_; rintro e w' ⟨rfl, rfl⟩)
        go_round
        case rel => exact ⟨k + 1, by omega, by omega, by go_num, HN.out⟩
        case measure => simp [intOf]; omega
    · obtain rfl : k = 256 := by omega
      have h0 : inv a = 0 := by
        by_cases h0 : a = 0
        · rw [h0]; rfl
        · exact absurd (mul_inv ha h0) (hno (inv a) (by have := inv_le a; omega))
      have HZ := Lib.hid h0
      clear h0 hno
      go_wp2
      go_ret
      exact ⟨by rw [HZ.out]; rfl, rfl⟩

set_option maxRecDepth 100000 in
set_option maxHeartbeats 400000 in
theorem rpow_nat (a k : Nat) (w : World) (ha : a ≤ 255) (hk : k ≤ 9223372036854775807) :
    Calls Try.prog 31 #[.int .i64 a, .int .i64 k] w fun e w' => e = .returned (.int .i64 (rp a k : Nat)) ∧ w = w' := by
  go_enter Try.func31, Try.ntmps31
  go_wp2
  go_loop [5, 6] (fun x i => ∃ j : Nat, j ≤ k ∧ i = .int .i64 j ∧ x = .int .i64 (rp a j : Nat)) (fun _ i => k - (intOf i).toNat)
  case atStart => exact ⟨0, by omega, rfl, rfl⟩
  case round =>
    obtain ⟨j, hj, rfl, rfl⟩ := hrel
    by_cases hlt : j < k
    · have hle := rp_le a j
      have hs : rp a (j + 1) = mul (rp a j) a := rfl
      have HS := Lib.hid hs
      clear hs
      go_wp2_with (go_at_call 26; refine (rmul _ a _ hle ha).mono ?_; rintro e w' ⟨rfl, rfl⟩)
      go_round
      case rel => exact ⟨j + 1, by omega, by go_num, by rw [HS.out]⟩
      case measure => simp [intOf]; omega
    · obtain rfl : j = k := by omega
      go_wp2
      go_ret
      exact ⟨rfl, rfl⟩

theorem rpow (a : Nat) (k : Int) (w : World) (ha : a ≤ 255) (h0 : 0 ≤ k) (hk : k ≤ 9223372036854775807) :
    Calls Try.prog 31 #[.int .i64 a, .int .i64 k] w fun e w' => e = .returned (.int .i64 (rp a k.toNat : Nat)) ∧ w = w' := by
  obtain ⟨m, rfl⟩ := Int.eq_ofNat_of_zero_le h0
  exact rpow_nat a m w ha (by omega)

/-- Which power of 2 a byte is, or -1. -/
def rl (a : Nat) : Int := if a = 0 then -1 else lg a
theorem eq_nat {x y : Nat} (h : x = y) : (((x : Nat) : Int) == ((y : Nat) : Int)) = true := int_eq (by omega)
theorem ne_nat {x y : Nat} (h : ¬ x = y) : (((x : Nat) : Int) == ((y : Nat) : Int)) = false := int_ne (by omega)
set_option maxRecDepth 100000 in
set_option maxHeartbeats 400000 in
theorem rlog (a : Nat) (w : World) (ha : a ≤ 255) :
    Calls Try.prog 30 #[.int .i64 a] w fun e w' => e = .returned (.int .i64 (rl a)) ∧ w = w' := by
  go_enter Try.func30, Try.ntmps30
  go_wp2
  go_loop [3, 4] (fun x i => ∃ j : Nat, j ≤ 255 ∧ i = .int .i64 j ∧ x = .int .i64 (pw j : Nat) ∧ ∀ i, i < j → ¬ pw i = a) (fun _ i => 255 - (intOf i).toNat)
  case atStart => exact ⟨0, by omega, rfl, rfl, fun i hi => by omega⟩
  case round =>
    obtain ⟨j, hj, rfl, rfl, hno⟩ := hrel
    have hp := pw_pos j
    by_cases hlt : j < 255
    · by_cases h1 : pw j = a
      · have h2 := eq_nat h1
        have h3 : rl a = j := by
          unfold rl
          rw [if_neg (by omega), ← h1, lg_pw, Nat.mod_eq_of_lt hlt]
        have H3 := Lib.hid h3
        clear h1 h3 hno
        go_wp2
        go_ret
        exact ⟨by rw [H3.out]; rfl, rfl⟩
      · have h2 := ne_nat h1
        have hs : pw (j + 1) = mul (pw j) 2 := by
          have := mul_pw j 1
          rw [show pw 1 = 2 from rfl] at this
          exact this.symm
        have HS := Lib.hid hs
        have HN := Lib.hid (show ∀ i, i < j + 1 → ¬ pw i = a from fun i hi => by
          by_cases e : i = j
          · rw [e]; exact h1
          · exact hno i (by omega))
        clear h1 hno hs
        go_wp2_with (go_at_call 26; refine (rmul _ 2 _ hp.2 (by omega)).mono ?_; rintro e w' ⟨rfl, rfl⟩)
        go_round
        case rel => exact ⟨j + 1, by omega, by go_num, by rw [HS.out], HN.out⟩
        case measure => simp [intOf]; omega
    · obtain rfl : j = 255 := by omega
      have h0 : rl a = -1 := by
        unfold rl
        by_cases h0 : a = 0
        · rw [if_pos h0]
        · exact absurd (pw_lg (by omega) ha) (hno (lg a) (lg_lt ha))
      have HZ := Lib.hid h0
      clear h0 hno
      go_wp2
      go_ret
      exact ⟨by rw [HZ.out]; rfl, rfl⟩

set_option maxRecDepth 100000 in
set_option maxHeartbeats 400000 in
theorem rrest (n : Int) (w : World) :
    Calls Try.prog 32 #[.int .i64 n] w fun e w' => e = .returned (.int .i64 (n % 255)) ∧ w = w' := by
  have ht := tmod_facts n
  generalize hm : n.tmod 255 = m at ht
  by_cases h : m < 0
  · have e : n % 255 = m + 255 := by omega
    rw [e]
    clear e
    go_enter Try.func32, Try.ntmps32
    go_wp2
    go_ret
    exact ⟨rfl, rfl⟩
  · have e : n % 255 = m := by omega
    rw [e]
    clear e
    go_enter Try.func32, Try.ntmps32
    go_wp2
    go_ret
    exact ⟨rfl, rfl⟩
end Go.Proofs.Ytalinkpfklhgaaa.GfR
