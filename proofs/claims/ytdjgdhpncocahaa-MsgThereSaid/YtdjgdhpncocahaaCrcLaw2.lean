/- The laws CrcOpens, CrcCuts of chapter 4 walked. -/
import Derived.Test.YtdjgdhpncocahaaCrcLaw1
set_option linter.unusedVariables false
set_option linter.unusedSimpArgs false
namespace Go.Proofs.Ytdjgdhpncocahaa.CrcL
open Go.RowKit Go.Proofs.Ytdjgdhpncocahaa.Base Go.Proofs.Ytdjgdhpncocahaa.CrcP Go.Proofs.Ytdjgdhpncocahaa.CrcW Go.Proofs.Ytdjgdhpncocahaa.CrcR

theorem opened_sealed (l : List UInt8) : opened (sealed l) = (l, 0) := by
  unfold opened sealed
  have h : (l ++ four (crc l)).length = l.length + 4 := by rw [List.length_append, four_length]
  rw [h, if_neg (by omega), Nat.add_sub_cancel, List.take_left, List.drop_left, if_pos rfl]
theorem open_sealed (s : ByteArray) (w : World) (hs : s.size ≤ 140737488350000) :
    Calls Try.prog 39 #[.string (str (sealed s.data.toList))] w fun e w' => e = .returned (.tuple #[.string s, .int .i64 0]) ∧ Below w.heap.size w w' := by
  have h := open_any (str (sealed s.data.toList)) w (by rw [str_size, sealed, List.length_append, four_length, list_size]; omega)
  rw [str_list, opened_sealed] at h
  exact h
theorem seal_sealed (s : ByteArray) (w : World) (hs : s.size ≤ 140737488350000) :
    Calls Try.prog 40 #[.string (str (sealed s.data.toList))] w fun e w' => e = .returned (.string (str (sealed (sealed s.data.toList)))) ∧ Below w.heap.size w w' := by
  have h := seal_any (str (sealed s.data.toList)) w (by rw [str_size, sealed, List.length_append, four_length, list_size]; omega)
  rw [str_list] at h
  exact h
theorem open_sealed2 (s : ByteArray) (w : World) (hs : s.size ≤ 140737488340000) :
    Calls Try.prog 39 #[.string (str (sealed (sealed s.data.toList)))] w fun e w' => e = .returned (.tuple #[.string (str (sealed s.data.toList)), .int .i64 0]) ∧ Below w.heap.size w w' :=
  open_sealed (str (sealed s.data.toList)) w (by rw [str_size, sealed, List.length_append, four_length, list_size]; omega)

set_option maxRecDepth 100000 in
set_option maxHeartbeats 1000000 in
theorem opens_any (s : ByteArray) (w : World) (hs : s.size ≤ 140737488351232) :
    Calls Try.prog 8 #[.string s] w fun e w' => e = .returned (.bool true) ∧ Below w.heap.size w w' := by
  have HB : Below w.heap.size w w := Below.refl _ _
  by_cases h1 : 3000 < s.size
  · go_enter Try.func8, Try.ntmps8
    go_wp2_with (go_at_call 33; (with_reducible refine (awake_any _).mono ?_); rintro e w2 ⟨rfl, hd⟩; (first | replace HB := bt HB HB.size hd | replace HB := bt_drew HB HB.size hd | replace HB := bt_drewN HB HB.size hd); clear hd)
    all_goals (go_ret; exact ⟨rfl, HB⟩)
  · have hs2 : s.size ≤ 140737488350000 := by omega
    have hc := crc_lt s.data.toList
    have hap : s ++ str (four (crc s.data.toList)) = str (sealed s.data.toList) := by rw [str_append]; rfl
    have hsz : s.size + (str (four (crc s.data.toList))).size ≤ 9223372036854775807 := by rw [str_size, four_length]; omega
    go_enter Try.func8, Try.ntmps8
    go_wp2_with (first | (go_at_call 33; (with_reducible refine (awake_any _).mono ?_); rintro e w2 ⟨rfl, hd⟩; (first | replace HB := bt HB HB.size hd | replace HB := bt_drew HB HB.size hd | replace HB := bt_drewN HB HB.size hd); clear hd) | (go_at_call 40; (with_reducible refine (seal_any _ _ hs).mono ?_); rintro e w2 ⟨rfl, hd⟩; (first | replace HB := bt HB HB.size hd | replace HB := bt_drew HB HB.size hd | replace HB := bt_drewN HB HB.size hd); clear hd) | (go_at_call 39; (with_reducible refine (open_sealed _ _ hs2).mono ?_); rintro e w2 ⟨rfl, hd⟩; (first | replace HB := bt HB HB.size hd | replace HB := bt_drew HB HB.size hd | replace HB := bt_drewN HB HB.size hd); clear hd) | (go_at_call 39; (with_reducible refine (open_any _ _ hs).mono ?_); rintro e w2 ⟨rfl, hd⟩; (first | replace HB := bt HB HB.size hd | replace HB := bt_drew HB HB.size hd | replace HB := bt_drewN HB HB.size hd); clear hd) | (go_at_call 41; (with_reducible refine (ropen _ _ hs).mono ?_); rintro e w2 ⟨rfl, hd⟩; (first | replace HB := bt HB HB.size hd | replace HB := bt_drew HB HB.size hd | replace HB := bt_drewN HB HB.size hd); clear hd) | (go_at_call 35; (with_reducible refine (rsum _ _ hs).mono ?_); rintro e w2 ⟨rfl, rfl⟩) | (go_at_call 42; (with_reducible refine (rbytes _ _ hc).mono ?_); rintro e w2 ⟨rfl, hd⟩; (first | replace HB := bt HB HB.size hd | replace HB := bt_drew HB HB.size hd | replace HB := bt_drewN HB HB.size hd); clear hd))
    all_goals (go_ret; exact ⟨rfl, HB⟩)

theorem cut_more (l : List UInt8) (k : Nat) : more (crc (l.take k)) (l.drop k) = crc l := by
  have := more_append 0 (l.take k) (l.drop k)
  rw [List.take_append_drop] at this
  exact this
set_option maxRecDepth 100000 in
set_option maxHeartbeats 1000000 in
theorem cuts_any (s : ByteArray) (x : Nat) (w : World) (hs : s.size ≤ 140737488351232) (hx : x ≤ 65535) :
    Calls Try.prog 9 #[.string s, .int .u16 x] w fun e w' => e = .returned (.bool true) ∧ Below w.heap.size w w' := by
  have HB : Below w.heap.size w w := Below.refl _ _
  by_cases h1 : 3000 < s.size
  · go_enter Try.func9, Try.ntmps9
    go_wp2_with (go_at_call 33; (with_reducible refine (awake_any _).mono ?_); rintro e w2 ⟨rfl, hd⟩; (first | replace HB := bt HB HB.size hd | replace HB := bt_drew HB HB.size hd | replace HB := bt_drewN HB HB.size hd); clear hd)
    all_goals (go_ret; exact ⟨rfl, HB⟩)
  · have hs2 : s.size ≤ 140737488350000 := by omega
    have hs3 : s.size ≤ 140737488340000 := by omega
    have hk : ((x : Int) % ((s.size : Int) + 1)) = ((x % (s.size + 1) : Nat) : Int) := by rw [Int.natCast_emod, Int.natCast_add]; rfl
    have hk2 : x % (s.size + 1) ≤ s.size := by have := Nat.mod_lt x (show 0 < s.size + 1 by omega); omega
    generalize x % (s.size + 1) = k at hk hk2
    have hlt := crc_lt (s.data.toList.take k)
    have f1 : (((more (crc (s.data.toList.take k)) (s.extract k s.size).data.toList : Nat) : Int) == ((crc s.data.toList : Nat) : Int)) = true := by
      have e : (s.extract k s.size).data.toList = s.data.toList.drop k := by
        rw [extract_str, str_list, List.take_of_length_le (l := s.data.toList) (by rw [list_size]; exact Nat.le_refl _)]
      rw [e, cut_more]
      simp
    have f2 : (((more (crc (s.data.toList.take k)) (s.data.toList.drop k) : Nat) : Int) == ((crc s.data.toList : Nat) : Int)) = true := by rw [cut_more]; simp
    have f3 : (((more (crc (s.data.toList.take k)) ((s.data.toList.drop k).take (s.size - k)) : Nat) : Int) == ((crc s.data.toList : Nat) : Int)) = true := by
      have e : (s.data.toList.drop k).take (s.size - k) = s.data.toList.drop k := List.take_of_length_le (by rw [List.length_drop, list_size]; exact Nat.le_refl _)
      rw [e, cut_more]; simp
    have f4 : (((more (crc (s.data.toList.take k)) ((s.data.toList.take s.size).drop k) : Nat) : Int) == ((crc s.data.toList : Nat) : Int)) = true := by
      have e : s.data.toList.take s.size = s.data.toList := List.take_of_length_le (by rw [list_size]; exact Nat.le_refl _)
      rw [e, cut_more]; simp
    go_enter Try.func9, Try.ntmps9
    go_upto_region 6 with (first | (go_at_call 33; (with_reducible refine (awake_any _).mono ?_); rintro e w2 ⟨rfl, hd⟩; (first | replace HB := bt HB HB.size hd | replace HB := bt_drew HB HB.size hd | replace HB := bt_drewN HB HB.size hd); clear hd) | (go_at_call 40; (with_reducible refine (seal_any _ _ hs).mono ?_); rintro e w2 ⟨rfl, hd⟩; (first | replace HB := bt HB HB.size hd | replace HB := bt_drew HB HB.size hd | replace HB := bt_drewN HB HB.size hd); clear hd) | (go_at_call 40; (with_reducible refine (seal_sealed _ _ hs2).mono ?_); rintro e w2 ⟨rfl, hd⟩; (first | replace HB := bt HB HB.size hd | replace HB := bt_drew HB HB.size hd | replace HB := bt_drewN HB HB.size hd); clear hd) | (go_at_call 39; (with_reducible refine (open_sealed2 _ _ hs3).mono ?_); rintro e w2 ⟨rfl, hd⟩; (first | replace HB := bt HB HB.size hd | replace HB := bt_drew HB HB.size hd | replace HB := bt_drewN HB HB.size hd); clear hd) | (go_at_call 39; (with_reducible refine (open_sealed _ _ hs2).mono ?_); rintro e w2 ⟨rfl, hd⟩; (first | replace HB := bt HB HB.size hd | replace HB := bt_drew HB HB.size hd | replace HB := bt_drewN HB HB.size hd); clear hd))
    (refine wp_region_quiet_below (by kernel_rfl) (by kernel_rfl) ?_; (repeat (go_big_quiet_step ((first | (go_at_call 34; exact Calls.regrown_of (sum_any _ _ (extract_le _ _ hs))) | (go_at_call 34; exact Calls.regrown_of (sum_any _ _ hs)) | (go_at_call 36; exact Calls.regrown_of (more_any _ _ _ hlt (extract_le _ _ hs))))))); refine wpQuiet_nil ?_; intro wq hw'; have HQ := below_of_regrown hw'; clear hw')
    go_wp2
    go_ret
    exact ⟨rfl, bt HB HB.size HQ⟩
end Go.Proofs.Ytdjgdhpncocahaa.CrcL
