/- The document's functions of chapter 4, walked. -/
import Derived.Test.YtdjgdhpncocahaaCrcFns
set_option linter.unusedVariables false
set_option linter.unusedSimpArgs false
namespace Go.Proofs.Ytdjgdhpncocahaa.CrcR
open Go.RowKit Go.Proofs.Ytdjgdhpncocahaa.Base Go.Proofs.Ytdjgdhpncocahaa.CrcP Go.Proofs.Ytdjgdhpncocahaa.CrcW

theorem crc_example : crc [49, 50, 51, 52, 53, 54, 55, 56, 57] = 3421780262 := by decide +kernel
theorem crc_none : crc [] = 0 := by decide +kernel
set_option maxRecDepth 100000 in
set_option maxHeartbeats 400000 in
theorem awake_any (w : World) :
    Calls Try.prog 33 #[] w fun e w' => e = .returned (.bool true) ∧ Below w.heap.size w w' := by
  go_enter Try.func33, Try.ntmps33
  go_wp2_with fail
  refine (sum_any (str [49, 50, 51, 52, 53, 54, 55, 56, 57]) _ (by rw [str_size]; simp)).mono ?_
  rintro e w1 ⟨rfl, HB⟩
  rw [str_list, crc_example]
  go_wp2_with fail
  refine (sum_any (str []) _ (by rw [str_size]; simp)).mono ?_
  rintro e w2 ⟨rfl, HB2⟩
  rw [str_list, crc_none]
  go_wp2_with fail
  go_ret
  exact ⟨rfl, below_trans HB HB2⟩

theorem odd_nat {x : Nat} (h : x % 2 = 1) : (((x : Nat) : Int) % 2 == 1) = true := int_eq (by omega)
theorem even_nat {x : Nat} (h : ¬ x % 2 = 1) : (((x : Nat) : Int) % 2 == 1) = false := int_ne (by omega)
set_option maxRecDepth 100000 in
set_option maxHeartbeats 400000 in
theorem rsteps (x : Nat) (w : World) (hx : x < 4294967296) :
    Calls Try.prog 38 #[.int .i64 x] w fun e w' => e = .returned (.int .i64 (sts 8 x : Nat)) ∧ w = w' := by
  go_enter Try.func38, Try.ntmps38
  go_wp2
  go_loop [0, 3] (fun y i => ∃ k : Nat, k ≤ 8 ∧ i = .int .i64 k ∧ y = .int .i64 (sts k x : Nat)) (fun _ i => 8 - (intOf i).toNat)
  case atStart => exact ⟨0, by omega, rfl, rfl⟩
  case round =>
    obtain ⟨k, hk, rfl, rfl⟩ := hrel
    by_cases hlt : k < 8
    · have hl := sts_lt k hx
      have hs : sts (k + 1) x = st (sts k x) := rfl
      generalize sts k x = z at *
      have hst : st z = if z % 2 = 1 then (z / 2) ^^^ 3988292384 else z / 2 := rfl
      have h2 : ((z / 2 : Nat) : Int) = (z : Int) / 2 := by omega
      have hx2 := i64_xor_nat (z / 2) 3988292384 (by omega) (by omega)
      rw [h2] at hx2
      have HX := Lib.hid hx2
      have H2 := Lib.hid h2
      have HT := Lib.hid hst
      have HS := Lib.hid hs
      clear hst h2 hs hx2
      by_cases ho : z % 2 = 1
      · have o1 := odd_nat ho
        have HO := Lib.hid ho
        clear ho
        go_wp2
        go_round
        case rel => exact ⟨k + 1, by omega, by go_num, by rw [HS.out, HT.out, if_pos HO.out, ← HX.out]; rfl⟩
        case measure => simp [intOf]; omega
      · have o1 := even_nat ho
        have HO := Lib.hid ho
        clear ho
        go_wp2
        go_round
        case rel => exact ⟨k + 1, by omega, by go_num, by rw [HS.out, HT.out, if_neg HO.out, H2.out]⟩
        case measure => simp [intOf]; omega
    · obtain rfl : k = 8 := by omega
      go_wp2
      go_ret
      exact ⟨rfl, rfl⟩

set_option maxRecDepth 100000 in
set_option maxHeartbeats 400000 in
theorem rsum (s : ByteArray) (w : World) (hs : s.size ≤ 140737488351232) :
    Calls Try.prog 35 #[.string s] w fun e w' => e = .returned (.int .i64 (crc s.data.toList : Nat)) ∧ w = w' := by
  rw [crc_eq]
  go_enter Try.func35, Try.ntmps35
  go_wp2
  go_loop [3, 4] (fun r i => ∃ k : Nat, k ≤ s.size ∧ i = .int .i64 k ∧ r = .int .i64 (reg 4294967295 (s.data.toList.take k) : Nat)) (fun _ i => s.size - (intOf i).toNat)
  case atStart => exact ⟨0, by omega, rfl, rfl⟩
  case round =>
    obtain ⟨k, hk, rfl, rfl⟩ := hrel
    by_cases hlt : k < s.size
    · have hl := reg_lt (s.data.toList.take k) (show 4294967295 < 4294967296 by omega)
      have hs2 : reg 4294967295 (s.data.toList.take (k + 1)) = sts 8 (reg 4294967295 (s.data.toList.take k) ^^^ s[k].toNat) := by
        rw [take_snoc s k hlt, reg_append]; rfl
      have hb2 := byte_lt s[k]
      generalize reg 4294967295 (s.data.toList.take k) = z at *
      have hx8 := i64_xor_nat z s[k].toNat (by omega) (by omega)
      have hxl : z ^^^ s[k].toNat < 4294967296 := xor_lt hl (by omega)
      have HS := Lib.hid hs2
      clear hs2
      go_wp2_with (go_at_call 38; refine (rsteps _ _ hxl).mono ?_; rintro e w' ⟨rfl, rfl⟩)
      go_round
      case rel => exact ⟨k + 1, by omega, by go_num, by rw [HS.out]⟩
      case measure => simp [intOf]; omega
    · obtain rfl : k = s.size := by omega
      have hl := reg_lt s.data.toList (show 4294967295 < 4294967296 by omega)
      have e : s.data.toList.take s.size = s.data.toList := List.take_of_length_le (by simp)
      rw [e]
      clear e
      have hxx := i64_xor_nat (reg 4294967295 s.data.toList) 4294967295 (by omega) (by omega)
      have HX := Lib.hid hxx
      clear hxx
      go_wp2
      go_ret
      exact ⟨by rw [← HX.out]; rfl, rfl⟩

set_option maxRecDepth 100000 in
set_option maxHeartbeats 400000 in
theorem rbytes (x : Nat) (w : World) (hx : x < 4294967296) :
    Calls Try.prog 42 #[.int .i64 x] w fun e w' => e = .returned (.string (str (four x))) ∧ Below w.heap.size w w' := by
  go_enter Try.func42, Try.ntmps42
  go_wp2
  have hB : Bytes (w.alloc (.cells #[.int .u8 ((x : Int) % 256), .int .u8 ((x : Int) / 256 % 256), .int .u8 ((x : Int) / 65536 % 256), .int .u8 ((x : Int) / 16777216)] 5)) (some ⟨w.heap.size, 0, none⟩) [x % 256, x / 256 % 256, x / 65536 % 256, x / 16777216 % 256] := by
    refine ⟨fun y hy => ?_, by simp, Or.inr ⟨_, _, rfl, fun j hj => ?_⟩⟩
    · simp only [List.mem_cons, List.mem_nil_iff, or_false] at hy
      omega
    · rw [cell_of_row _ _ _ _ _ _ (heap_alloc_new _ _)]
      simp only [List.length_cons, List.length_nil] at hj
      have e : ((x / 16777216 % 256 : Nat) : Int) = (x : Int) / 16777216 := by omega
      match j, hj with
      | 0, _ => rfl
      | 1, _ => rfl
      | 2, _ => rfl
      | 3, _ =>
        show _ = some (Value.int .u8 ((x / 16777216 % 256 : Nat) : Int))
        rw [e]
        rfl
  rw [conv_str Try.underlying42 Try.underlying5 Try.underlying9 _ _ _ 4 4 hB rfl]
  go_wp2
  go_ret
  exact ⟨rfl, (Below.refl _ _).alloc (Nat.le_refl _) _⟩

set_option maxRecDepth 100000 in
set_option maxHeartbeats 400000 in
theorem ropen (s : ByteArray) (w : World) (hs : s.size ≤ 140737488351232) :
    Calls Try.prog 41 #[.string s] w fun e w' => e = .returned (.tuple #[.string (str (opened s.data.toList).1), .int .i64 ((opened s.data.toList).2 : Nat)]) ∧ Below w.heap.size w w' := by
  unfold opened
  rw [list_size]
  by_cases h4 : s.size < 4
  · rw [if_pos h4]
    go_enter Try.func41, Try.ntmps41
    go_wp2
    go_ret2
    exact ⟨rfl, Below.refl _ _⟩
  · rw [if_neg h4]
    have hn : ((s.size : Int) - 4).toNat = s.size - 4 := by omega
    have hn1 : (4 : Int) ≤ (s.size : Int) := by omega
    have hn2 : (0 : Int) ≤ (s.size : Int) - 4 := by omega
    have hn3 : (s.size : Int) - 4 ≤ (s.size : Int) := by omega
    have hn4 : IntKind.i64.wrap ((s.size : Int) - 4) = (s.size : Int) - 4 := IntWalk.i64_in _ (by omega)
    have e0 : s.extract 0 (s.size - 4) = str (s.data.toList.take (s.size - 4)) := by rw [extract_str]; rfl
    have e1 : (s.extract (s.size - 4) s.size).data.toList = s.data.toList.drop (s.size - 4) := by
      rw [extract_str, str_list, List.take_of_length_le (by rw [list_size]; exact Nat.le_refl _)]
    by_cases he : s.data.toList.drop (s.size - 4) = four (crc (s.data.toList.take (s.size - 4)))
    · rw [if_pos he]
      have ht : ((s.extract (s.size - 4) s.size).toList == (str (four (crc (s.data.toList.take (s.size - 4))))).toList) = true := str_eq (by rw [e1, he, str_list])
      have E0 := Lib.hid e0
      clear he e0 e1
      go_enter Try.func41, Try.ntmps41
      go_upto_region 4 with (fail)
      go_region_with (first | (go_at_call 35; refine (rsum _ _ (extract_le _ _ hs)).mono ?_; rintro e w1 ⟨rfl, rfl⟩) | (go_at_call 42; refine (rbytes _ _ (crc_lt _)).mono ?_; rintro e w2 ⟨rfl, HB2⟩))
      all_goals go_wp2
      all_goals go_ret2
      all_goals exact ⟨by rw [← E0.out]; rfl, below_of_drew HB2⟩
    · rw [if_neg he]
      have ht : ((s.extract (s.size - 4) s.size).toList == (str (four (crc (s.data.toList.take (s.size - 4))))).toList) = false := str_ne (by rw [e1, str_list]; exact he)
      have E0 := Lib.hid e0
      clear he e0 e1
      go_enter Try.func41, Try.ntmps41
      go_upto_region 4 with (fail)
      go_region_with (first | (go_at_call 35; refine (rsum _ _ (extract_le _ _ hs)).mono ?_; rintro e w1 ⟨rfl, rfl⟩) | (go_at_call 42; refine (rbytes _ _ (crc_lt _)).mono ?_; rintro e w2 ⟨rfl, HB2⟩))
      all_goals go_wp2
      all_goals go_ret2
      all_goals exact ⟨rfl, below_of_drew HB2⟩
end Go.Proofs.Ytdjgdhpncocahaa.CrcR
