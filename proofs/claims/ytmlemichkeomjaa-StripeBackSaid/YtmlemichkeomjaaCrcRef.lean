/- The document's functions of chapter 4, walked. -/
import Derived.Test.YtmlemichkeomjaaCrcFns
set_option linter.unusedVariables false
set_option linter.unusedSimpArgs false
namespace Go.Proofs.Ytmlemichkeomjaa.CrcR
open Go.RowKit Go.Proofs.Ytmlemichkeomjaa.Base Go.Proofs.Ytmlemichkeomjaa.CrcP Go.Proofs.Ytmlemichkeomjaa.CrcW

theorem crc_example : crc [49, 50, 51, 52, 53, 54, 55, 56, 57] = 3421780262 := by decide +kernel
theorem crc_none : crc [] = 0 := by decide +kernel
theorem odd_nat {x : Nat} (h : x % 2 = 1) : (((x : Nat) : Int) % 2 == 1) = true := int_eq (by omega)
theorem even_nat {x : Nat} (h : ¬ x % 2 = 1) : (((x : Nat) : Int) % 2 == 1) = false := int_ne (by omega)
set_option maxRecDepth 100000 in
set_option maxHeartbeats 400000 in
theorem rsteps (x : Nat) (w : World) (hx : x < 4294967296) :
    Calls Try.prog 113 #[.int .i64 x] w fun e w' => e = .returned (.int .i64 (sts 8 x : Nat)) ∧ w = w' := by
  go_enter Try.func113, Try.ntmps113
  go_wp2
  go_loop [0, 3] (fun y i => ∃ k : Nat, k ≤ 8 ∧ i = .int .i64 k ∧ y = .int .i64 (sts k x : Nat)) (fun _ i => 8 - (intOf i).toNat)
  case atStart => exact ⟨0, by omega, rfl, rfl⟩
  case round =>
    obtain ⟨k, hk, rfl, rfl⟩ := hrel
    by_cases hlt : k < 8
    · have hl := sts_lt k hx
      have hs : sts (k + 1) x = st (sts k x) := rfl
      generalize sts k x = z at *
      have hst : st z = if z % 2 = 1 then (z / 2) ^^^ 3988292384 else z / 2 := rfl
      have h2 : ((z / 2 : Nat) : Int) = (z : Int) / 2 := by omega
      have hx2 := i64_xor_nat (z / 2) 3988292384 (by omega) (by omega)
      rw [h2] at hx2
      have HX := Lib.hid hx2
      have H2 := Lib.hid h2
      have HT := Lib.hid hst
      have HS := Lib.hid hs
      clear hst h2 hs hx2
      by_cases ho : z % 2 = 1
      · have o1 := odd_nat ho
        have HO := Lib.hid ho
        clear ho
        go_wp2
        go_round
        case rel => exact ⟨k + 1, by omega, by go_num, by rw [HS.out, HT.out, if_pos HO.out, ← HX.out]; rfl⟩
        case measure => simp [intOf]; omega
      · have o1 := even_nat ho
        have HO := Lib.hid ho
        clear ho
        go_wp2
        go_round
        case rel => exact ⟨k + 1, by omega, by go_num, by rw [HS.out, HT.out, if_neg HO.out, H2.out]⟩
        case measure => simp [intOf]; omega
    · obtain rfl : k = 8 := by omega
      go_wp2
      go_ret
      exact ⟨rfl, rfl⟩

set_option maxRecDepth 100000 in
set_option maxHeartbeats 400000 in
theorem rsum (s : ByteArray) (w : World) (hs : s.size ≤ 140737488351232) :
    Calls Try.prog 71 #[.string s] w fun e w' => e = .returned (.int .i64 (crc s.data.toList : Nat)) ∧ w = w' := by
  rw [crc_eq]
  go_enter Try.func71, Try.ntmps71
  go_wp2
  go_loop [3, 4] (fun r i => ∃ k : Nat, k ≤ s.size ∧ i = .int .i64 k ∧ r = .int .i64 (reg 4294967295 (s.data.toList.take k) : Nat)) (fun _ i => s.size - (intOf i).toNat)
  case atStart => exact ⟨0, by omega, rfl, rfl⟩
  case round =>
    obtain ⟨k, hk, rfl, rfl⟩ := hrel
    by_cases hlt : k < s.size
    · have hl := reg_lt (s.data.toList.take k) (show 4294967295 < 4294967296 by omega)
      have hs2 : reg 4294967295 (s.data.toList.take (k + 1)) = sts 8 (reg 4294967295 (s.data.toList.take k) ^^^ s[k].toNat) := by
        rw [take_snoc s k hlt, reg_append]; rfl
      have hb2 := byte_lt s[k]
      generalize reg 4294967295 (s.data.toList.take k) = z at *
      have hx8 := i64_xor_nat z s[k].toNat (by omega) (by omega)
      have hxl : z ^^^ s[k].toNat < 4294967296 := xor_lt hl (by omega)
      have HS := Lib.hid hs2
      clear hs2
      go_wp2_with (go_at_call 113; refine (rsteps _ _ hxl).mono ?_; rintro e w' ⟨rfl, rfl⟩)
      go_round
      case rel => exact ⟨k + 1, by omega, by go_num, by rw [HS.out]⟩
      case measure => simp [intOf]; omega
    · obtain rfl : k = s.size := by omega
      have hl := reg_lt s.data.toList (show 4294967295 < 4294967296 by omega)
      have e : s.data.toList.take s.size = s.data.toList := List.take_of_length_le (by simp)
      rw [e]
      clear e
      have hxx := i64_xor_nat (reg 4294967295 s.data.toList) 4294967295 (by omega) (by omega)
      have HX := Lib.hid hxx
      clear hxx
      go_wp2
      go_ret
      exact ⟨by rw [← HX.out]; rfl, rfl⟩

end Go.Proofs.Ytmlemichkeomjaa.CrcR
