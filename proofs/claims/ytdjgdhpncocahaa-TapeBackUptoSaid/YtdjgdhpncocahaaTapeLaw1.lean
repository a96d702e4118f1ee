/- The law TapeOnce walked. -/
import Derived.Test.YtdjgdhpncocahaaTapeNum
set_option linter.unusedVariables false
set_option linter.unusedSimpArgs false
namespace Go.Proofs.Ytdjgdhpncocahaa.TapeL
open Go.RowKit Go.Proofs.Ytdjgdhpncocahaa.Base Go.Proofs.Ytdjgdhpncocahaa.TapeP Go.Proofs.Ytdjgdhpncocahaa.TapeW

theorem num_300 : str (numI 300) = ⟨#[172, 2]⟩ := by
  rw [numI_in (by omega) (by omega), show (300 : Int).toNat = 300 from rfl, num_big (by omega), num_small (by omega)]
  rfl
theorem whole_1 : str (wholeI (-1)) = ⟨#[1]⟩ := by
  unfold wholeI
  rw [if_neg (by omega), if_pos (by omega), numI_in (by omega) (by omega), show (-2 * (-1) - 1 : Int).toNat = 1 from rfl, num_small (by omega)]
  rfl
set_option maxRecDepth 100000 in
set_option maxHeartbeats 400000 in
theorem awake_any (w : World) :
    Calls Try.prog 23 #[] w fun e w' => e = .returned (.bool true) ∧ Below w.heap.size w w' := by
  go_enter Try.func23, Try.ntmps23
  go_wp2_with fail
  refine (num_any 300 _).mono ?_
  rintro e w1 ⟨rfl, HB⟩
  rw [num_300]
  go_wp2_with fail
  refine (whole_any (-1) _).mono ?_
  rintro e w2 ⟨rfl, HB2⟩
  rw [whole_1]
  go_wp2_with fail
  go_ret
  exact ⟨rfl, below_trans HB HB2⟩

theorem emp_yes : (str []).toList.isEmpty = true := by rw [ByteArray.toList_eq]; rfl
theorem emp_no {l : List UInt8} (h : l ≠ []) : (str l).toList.isEmpty = false := by
  rw [ByteArray.toList_eq, str_list]
  cases l with
  | nil => exact absurd rfl h
  | cons => rfl
theorem once_no {n m : Nat} (h : n ≠ m) : ¬ (num m).take (num n).length = num n := by
  intro e
  have h1 : num m = num n ++ (num m).drop (num n).length := by
    have h2 := List.take_append_drop (num n).length (num m)
    rw [e] at h2
    exact h2.symm
  have h3 := num_once n m ((num m).drop (num n).length) [] (by rw [List.append_nil]; exact h1.symm)
  exact h h3.1
set_option maxRecDepth 100000 in
set_option maxHeartbeats 400000 in
theorem once_any (n m : Int) (w : World) :
    Calls Try.prog 3 #[.int .i64 n, .int .i64 m] w fun e w' => e = .returned (.bool true) ∧ Below w.heap.size w w' := by
  have HB : Below w.heap.size w w := Below.refl _ _
  by_cases hn : n < 0 ∨ 9007199254740991 < n
  · have e1 : (str (numI n)).toList.isEmpty = true := by rw [numI_out hn]; exact emp_yes
    by_cases hn1 : n < 0
    · clear hn
      by_cases he : n = m
      · have he1 : (n == m) = true := int_eq he
        have HE := Lib.hid he
        clear he
        go_enter Try.func3, Try.ntmps3
        go_wp2_with (first | (go_at_call 23; (with_reducible refine (awake_any _).mono ?_); rintro e w2 ⟨rfl, hd⟩; (first | replace HB := bt HB HB.size hd | replace HB := bt_drew HB HB.size hd | replace HB := bt_drewN HB HB.size hd); clear hd) | (go_at_call 24; (with_reducible refine (num_any _ _).mono ?_); rintro e w2 ⟨rfl, hd⟩; (first | replace HB := bt HB HB.size hd | replace HB := bt_drew HB HB.size hd | replace HB := bt_drewN HB HB.size hd); clear hd))
        all_goals (go_ret; exact ⟨rfl, HB⟩)
      · have he1 : (n == m) = false := int_ne he
        clear he
        go_enter Try.func3, Try.ntmps3
        go_wp2_with (first | (go_at_call 23; (with_reducible refine (awake_any _).mono ?_); rintro e w2 ⟨rfl, hd⟩; (first | replace HB := bt HB HB.size hd | replace HB := bt_drew HB HB.size hd | replace HB := bt_drewN HB HB.size hd); clear hd) | (go_at_call 24; (with_reducible refine (num_any _ _).mono ?_); rintro e w2 ⟨rfl, hd⟩; (first | replace HB := bt HB HB.size hd | replace HB := bt_drew HB HB.size hd | replace HB := bt_drewN HB HB.size hd); clear hd))
        all_goals (go_ret; exact ⟨rfl, HB⟩)
    · have hn2 : 9007199254740991 < n := by omega
      clear hn
      by_cases he : n = m
      · have he1 : (n == m) = true := int_eq he
        have HE := Lib.hid he
        clear he
        go_enter Try.func3, Try.ntmps3
        go_wp2_with (first | (go_at_call 23; (with_reducible refine (awake_any _).mono ?_); rintro e w2 ⟨rfl, hd⟩; (first | replace HB := bt HB HB.size hd | replace HB := bt_drew HB HB.size hd | replace HB := bt_drewN HB HB.size hd); clear hd) | (go_at_call 24; (with_reducible refine (num_any _ _).mono ?_); rintro e w2 ⟨rfl, hd⟩; (first | replace HB := bt HB HB.size hd | replace HB := bt_drew HB HB.size hd | replace HB := bt_drewN HB HB.size hd); clear hd))
        all_goals (go_ret; exact ⟨rfl, HB⟩)
      · have he1 : (n == m) = false := int_ne he
        clear he
        go_enter Try.func3, Try.ntmps3
        go_wp2_with (first | (go_at_call 23; (with_reducible refine (awake_any _).mono ?_); rintro e w2 ⟨rfl, hd⟩; (first | replace HB := bt HB HB.size hd | replace HB := bt_drew HB HB.size hd | replace HB := bt_drewN HB HB.size hd); clear hd) | (go_at_call 24; (with_reducible refine (num_any _ _).mono ?_); rintro e w2 ⟨rfl, hd⟩; (first | replace HB := bt HB HB.size hd | replace HB := bt_drew HB HB.size hd | replace HB := bt_drewN HB HB.size hd); clear hd))
        all_goals (go_ret; exact ⟨rfl, HB⟩)
  · have h0 : 0 ≤ n := by omega
    have h1 : n ≤ 9007199254740991 := by omega
    have e1 : (str (numI n)).toList.isEmpty = false := by rw [numI_in h0 h1]; exact emp_no (num_ne _)
    have d1 : decide (n < 0) = false := decide_eq_false (by omega)
    have d2 : decide (9007199254740991 < n) = false := decide_eq_false (by omega)
    clear hn
    by_cases he : n = m
    · have he1 : (n == m) = true := int_eq he
      have HE := Lib.hid he
      clear he
      go_enter Try.func3, Try.ntmps3
      go_wp2_with (first | (go_at_call 23; (with_reducible refine (awake_any _).mono ?_); rintro e w2 ⟨rfl, hd⟩; (first | replace HB := bt HB HB.size hd | replace HB := bt_drew HB HB.size hd | replace HB := bt_drewN HB HB.size hd); clear hd) | (go_at_call 24; (with_reducible refine (num_any _ _).mono ?_); rintro e w2 ⟨rfl, hd⟩; (first | replace HB := bt HB HB.size hd | replace HB := bt_drew HB HB.size hd | replace HB := bt_drewN HB HB.size hd); clear hd))
      all_goals (go_ret; exact ⟨rfl, HB⟩)
    · have he1 : (n == m) = false := int_ne he
      by_cases hm : m < 0 ∨ 9007199254740991 < m
      · have e2 : (str (numI m)).toList.isEmpty = true := by rw [numI_out hm]; exact emp_yes
        clear he hm
        go_enter Try.func3, Try.ntmps3
        go_wp2_with (first | (go_at_call 23; (with_reducible refine (awake_any _).mono ?_); rintro e w2 ⟨rfl, hd⟩; (first | replace HB := bt HB HB.size hd | replace HB := bt_drew HB HB.size hd | replace HB := bt_drewN HB HB.size hd); clear hd) | (go_at_call 24; (with_reducible refine (num_any _ _).mono ?_); rintro e w2 ⟨rfl, hd⟩; (first | replace HB := bt HB HB.size hd | replace HB := bt_drew HB HB.size hd | replace HB := bt_drewN HB HB.size hd); clear hd))
        all_goals (go_ret; exact ⟨rfl, HB⟩)
      · have h2 : 0 ≤ m := by omega
        have h3 : m ≤ 9007199254740991 := by omega
        have e2 : (str (numI m)).toList.isEmpty = false := by rw [numI_in h2 h3]; exact emp_no (num_ne _)
        clear hm
        by_cases hl : (str (numI n)).size ≤ (str (numI m)).size
        · have e3 : (((str (numI m)).extract 0 (str (numI n)).size).toList == (str (numI n)).toList) = false := by
            refine str_ne ?_
            rw [extract_str, str_list, str_list, str_list, str_size, numI_in h0 h1, numI_in h2 h3]
            exact once_no (by omega)
          clear he
          go_enter Try.func3, Try.ntmps3
          go_wp2_with (first | (go_at_call 23; (with_reducible refine (awake_any _).mono ?_); rintro e w2 ⟨rfl, hd⟩; (first | replace HB := bt HB HB.size hd | replace HB := bt_drew HB HB.size hd | replace HB := bt_drewN HB HB.size hd); clear hd) | (go_at_call 24; (with_reducible refine (num_any _ _).mono ?_); rintro e w2 ⟨rfl, hd⟩; (first | replace HB := bt HB HB.size hd | replace HB := bt_drew HB HB.size hd | replace HB := bt_drewN HB HB.size hd); clear hd))
          all_goals (go_ret; exact ⟨rfl, HB⟩)
        · clear he
          go_enter Try.func3, Try.ntmps3
          go_wp2_with (first | (go_at_call 23; (with_reducible refine (awake_any _).mono ?_); rintro e w2 ⟨rfl, hd⟩; (first | replace HB := bt HB HB.size hd | replace HB := bt_drew HB HB.size hd | replace HB := bt_drewN HB HB.size hd); clear hd) | (go_at_call 24; (with_reducible refine (num_any _ _).mono ?_); rintro e w2 ⟨rfl, hd⟩; (first | replace HB := bt HB HB.size hd | replace HB := bt_drew HB HB.size hd | replace HB := bt_drewN HB HB.size hd); clear hd))
          all_goals (go_ret; exact ⟨rfl, HB⟩)
end Go.Proofs.Ytdjgdhpncocahaa.TapeL
