/- The law TapeBack of chapter 5 walked. -/
import Derived.Test.YtdjgdhpncocahaaTapeLays
import Derived.Test.YtdjgdhpncocahaaTapeBackP
set_option linter.unusedVariables false
set_option linter.unusedSimpArgs false
namespace Go.Proofs.Ytdjgdhpncocahaa.TapeL
open Go.RowKit Go.Proofs.Ytdjgdhpncocahaa.Base Go.Proofs.Ytdjgdhpncocahaa.TapeP Go.Proofs.Ytdjgdhpncocahaa.TapeW

theorem app_list (a b : ByteArray) : (a ++ b).data.toList = a.data.toList ++ b.data.toList := by
  rw [ByteArray.data_append, Array.toList_append]

set_option maxRecDepth 100000 in
set_option maxHeartbeats 1000000 in
theorem back_any (n m : Int) (s : ByteArray) (A : Option Addr) (q c : Nat) (ss : List ByteArray) (t : ByteArray) (w : World) (hs : s.size ≤ 140737488351232) (hS : Strs w A q ss) (ht : total ss ≤ 50000000000) (hq : q ≤ 140737488355328) (ht2 : t.size ≤ 140737488351232) :
    Calls Try.prog 13 #[.int .i64 n, .int .i64 m, .string s, .slice A q c, .string t] w fun e w' => e = .returned (.bool true) ∧ Below w.heap.size w w' := by
  have HB : Below w.heap.size w w := Below.refl _ _
  by_cases h1 : 3000 < s.size
  · go_enter Try.func13, Try.ntmps13
    go_wp2_with (go_at_call 23; (with_reducible refine (awake_any _).mono ?_); rintro e w2 ⟨rfl, hd⟩; (first | replace HB := bt HB HB.size hd | replace HB := bt_drew HB HB.size hd | replace HB := bt_drewN HB HB.size hd); clear hd)
    all_goals (go_ret; exact ⟨rfl, HB⟩)
  by_cases h2 : 100 < q
  · go_enter Try.func13, Try.ntmps13
    go_wp2_with (go_at_call 23; (with_reducible refine (awake_any _).mono ?_); rintro e w2 ⟨rfl, hd⟩; (first | replace HB := bt HB HB.size hd | replace HB := bt_drew HB HB.size hd | replace HB := bt_drewN HB HB.size hd); clear hd)
    all_goals (go_ret; exact ⟨rfl, HB⟩)
  by_cases h3 : 3000 < t.size
  · go_enter Try.func13, Try.ntmps13
    go_wp2_with (go_at_call 23; (with_reducible refine (awake_any _).mono ?_); rintro e w2 ⟨rfl, hd⟩; (first | replace HB := bt HB HB.size hd | replace HB := bt_drew HB HB.size hd | replace HB := bt_drewN HB HB.size hd); clear hd)
    all_goals (go_ret; exact ⟨rfl, HB⟩)
  have hlen := hS.len
  obtain ⟨k, hk, hk2⟩ := and_mask n
  go_enter Try.func13, Try.ntmps13
  go_upto_region 4 with (go_at_call 23; (with_reducible refine (awake_any _).mono ?_); rintro e w2 ⟨rfl, hd⟩; (first | replace HB := bt HB HB.size hd | replace HB := bt_drew HB HB.size hd | replace HB := bt_drewN HB HB.size hd); clear hd)
  have hr1 : m.tmod 4503599627370496 < 4503599627370496 := Int.tmod_lt_of_pos m (by omega)
  have hr2 : -4503599627370496 < m.tmod 4503599627370496 := Int.lt_tmod_of_pos m (by omega)
  generalize m.tmod 4503599627370496 = r at hr1 hr2 ⊢
  obtain ⟨z, hz1, hz2, hz3⟩ := whole_is r (by omega) hr1
  have hnk : (str (num k)).size ≤ 8 := by rw [str_size]; exact num_length 7 k (by omega)
  have hnz : (str (num z)).size ≤ 8 := by rw [str_size]; exact num_length 7 z (by omega)
  have hns : (str (text s.data.toList)).size ≤ 3008 := by rw [str_size]; have := text_length s (by omega); omega
  have hnt : (str (texts ss)).size ≤ 50000001000 := by
    rw [str_size]
    unfold texts
    rw [List.length_append]
    have a1 := laid_length ss (by omega)
    have a2 := num_length 7 ss.length (by omega)
    omega
  have hlist : (str (num k) ++ str (num z) ++ str (text s.data.toList) ++ str (texts ss) ++ t).data.toList = num k ++ (num z ++ (text s.data.toList ++ (texts ss ++ t.data.toList))) := by
    rw [app_list, app_list, app_list, app_list, str_list, str_list, str_list, str_list, List.append_assoc, List.append_assoc, List.append_assoc]
  have hsize : (str (num k) ++ str (num z) ++ str (text s.data.toList) ++ str (texts ss) ++ t).size ≤ 50000010000 := by
    rw [ByteArray.size_append, ByteArray.size_append, ByteArray.size_append, ByteArray.size_append]; omega
  have hb1 : (str (num k)).size + (str (num z)).size ≤ 9223372036854775807 := by omega
  have hb2 : (str (num k) ++ str (num z)).size + (str (text s.data.toList)).size ≤ 9223372036854775807 := by rw [ByteArray.size_append]; omega
  have hb3 : (str (num k) ++ str (num z) ++ str (text s.data.toList)).size + (str (texts ss)).size ≤ 9223372036854775807 := by rw [ByteArray.size_append, ByteArray.size_append]; omega
  have hb4 : (str (num k) ++ str (num z) ++ str (text s.data.toList) ++ str (texts ss)).size + t.size ≤ 9223372036854775807 := by rw [ByteArray.size_append, ByteArray.size_append, ByteArray.size_append]; omega
  go_wp2_with (first | (go_at_call 24; (with_reducible refine (num_in _ _ (by omega)).mono ?_); rintro e w2 ⟨rfl, hd⟩; (first | replace HB := bt HB HB.size hd | replace HB := bt_drew HB HB.size hd | replace HB := bt_drewN HB HB.size hd); clear hd) | (go_at_call 45; (with_reducible refine (whole_any _ _).mono ?_); rintro e w2 ⟨rfl, hd⟩; (first | replace HB := bt HB HB.size hd | replace HB := bt_drew HB HB.size hd | replace HB := bt_drewN HB HB.size hd); clear hd) | (go_at_call 47; (with_reducible refine (text_any _ _ hs).mono ?_); rintro e w2 ⟨rfl, hd⟩; (first | replace HB := bt HB HB.size hd | replace HB := bt_drew HB HB.size hd | replace HB := bt_drewN HB HB.size hd); clear hd) | (go_at_call 48; refine (texts_any _ _ _ _ _ (hS.below HB) (by omega) (by omega)).mono ?_; rintro e w2 ⟨rfl, hd⟩; (first | replace HB := bt HB HB.size hd | replace HB := bt_drew HB HB.size hd | replace HB := bt_drewN HB HB.size hd); clear hd))
  refine (new_tape _ _ (by omega)).mono ?_
  rintro e w3 ⟨b, rfl, hT, hb, hd⟩
  have hbw : w.heap.size ≤ b := Nat.le_trans HB.size hb
  replace HB := bt HB HB.size hd
  clear hd hb
  generalize str (num k) ++ str (num z) ++ str (text s.data.toList) ++ str (texts ss) ++ t = S at hlist hsize hT ⊢
  clear hb1 hb2 hb3 hb4 hnk hnz hns hnt
  -- where each piece stands
  have pA : pk (S.data.toList.drop 0) = (k, (num k).length, 0) := pk_at (pre := []) hlist rfl hk2
  have hl1 : S.data.toList = num k ++ (num z ++ (text s.data.toList ++ (texts ss ++ t.data.toList))) := hlist
  have pB : pk (S.data.toList.drop (0 + (num k).length)) = (z, (num z).length, 0) := pk_at hlist (by omega) hz1
  have hl2 : S.data.toList = (num k ++ num z) ++ (num s.size ++ (s.data.toList ++ (texts ss ++ t.data.toList))) := by
    rw [hlist]; unfold text; rw [list_size]; simp only [List.append_assoc]
  have p2 : 0 + (num k).length + (num z).length = (num k ++ num z).length := by rw [List.length_append]; omega
  have pC : pk (S.data.toList.drop (0 + (num k).length + (num z).length)) = (s.size, (num s.size).length, 0) := pk_at hl2 p2 (by omega)
  have tC : (S.data.toList.drop (0 + (num k).length + (num z).length + (num s.size).length)).take s.size = s.data.toList := take_at hl2 p2 (list_size s).symm
  have hl3 : S.data.toList = (num k ++ num z ++ text s.data.toList) ++ (num q ++ (laid ss ++ t.data.toList)) := by
    rw [hlist]; unfold texts; rw [hlen]; simp only [List.append_assoc]
  have p3 : 0 + (num k).length + (num z).length + (num s.size).length + s.size = (num k ++ num z ++ text s.data.toList).length := by
    unfold text; rw [List.length_append, List.length_append, List.length_append, list_size]; omega
  have pD : pk (S.data.toList.drop (0 + (num k).length + (num z).length + (num s.size).length + s.size)) = (q, (num q).length, 0) := pk_at hl3 p3 (by omega)
  have hlen2 := congrArg List.length hl2
  rw [list_size, List.length_append, List.length_append, List.length_append, List.length_append, list_size] at hlen2
  have hC := fun W (h : TapeAt W b S (0 + (num k).length + (num z).length)) => ttext_ok b S _ (s.size : Int) W h pC (Int.le_refl _) (by omega)
  rw [tC] at hC
  simp only [list_str] at hC
  have hB := fun W (h : TapeAt W b S (0 + (num k).length)) => twhole_of (.pointer (some ⟨b, 0, none⟩)) W z 0 (fun w' => Step W w' b S (0 + (num k).length + (num z).length)) hz1 (tnum_ok b S _ W h pB)
  rw [hz3] at hB
  have hA := fun W (h : TapeAt W b S 0) => tnum_ok b S 0 W h pA
  have hD := fun W (h : TapeAt W b S (0 + (num k).length + (num z).length + (num s.size).length + s.size)) => count_ok b S _ (q : Int) W h pD (Int.le_refl _)
  have p4 : 0 + (num k).length + (num z).length + (num s.size).length + s.size + (num q).length = (num k ++ num z ++ text s.data.toList ++ num q).length := by
    have e : (num k ++ num z ++ text s.data.toList ++ num q).length = (num k ++ num z ++ text s.data.toList).length + (num q).length := List.length_append
    rw [e, ← p3]
  have hl4 : S.data.toList = (num k ++ num z ++ text s.data.toList ++ num q) ++ (laid ss ++ t.data.toList) := by
    rw [hl3]; simp only [List.append_assoc]
  rw [p4] at hD
  rw [p3] at hC hD
  rw [p2] at hC hB
  generalize num k ++ num z ++ text s.data.toList ++ num q = pre at hl4 hD
  generalize num k ++ num z ++ text s.data.toList = pre3 at hC hD
  generalize num k ++ num z = pre2 at hC hB
  generalize 0 + (num k).length = p1 at hA hB
  clear pA pB pC pD tC p2 p3 p4 hl1 hl2 hl3 hlen2 hlist hz2 hz3 hz1
  have HA := Lib.hid hA
  have HB' := Lib.hid hB
  have HC := Lib.hid hC
  have HD := Lib.hid hD
  clear hA hB hC hD
  go_wp2_with (go_at_call 52; refine (HA.out _ hT).mono ?_)
  rintro e w4 ⟨rfl, h4⟩
  go_wp2_with (go_at_call 53; refine (HB'.out _ h4.tape).mono ?_)
  rintro e w5 ⟨rfl, h5⟩
  go_wp2_with (go_at_call 51; refine (HC.out _ h5.tape).mono ?_)
  rintro e w6 ⟨rfl, h6⟩
  go_wp2_with (go_at_call 54; refine (HD.out _ h6.tape).mono ?_)
  rintro e w7 ⟨rfl, h7⟩
  have HB7 : Below w.heap.size w w7 := HB.trans (((h4.only.trans h5.only).trans (h6.only.trans h7.only)).below hbw HB.size)
  have hT7 := h7.tape
  clear HA HB' HC HD h4 h5 h6 h7 HB hT
  have hSl := congrArg List.length hl4
  rw [list_size, List.length_append, List.length_append, list_size] at hSl
  have H4 := Lib.hid hl4
  clear hl4
  go_wp2
  go_loopw [20] (fun i wr => ∃ j : Nat, j ≤ q ∧ i = .int .i64 j ∧ TapeAt wr b S (pre.length + (laid (ss.take j)).length) ∧ Below w.heap.size w wr) (fun i _ => q - (intOf i).toNat)
  case atStart => exact ⟨0, by omega, rfl, by rw [List.take_zero]; exact hT7, HB7⟩
  case round =>
    clear HB7 hT7
    obtain ⟨j, hj, rfl, hT, HB⟩ := hrel
    by_cases hlt : j < q
    · have hks : j < ss.length := by omega
      obtain ⟨ab, off, rfl, hc⟩ := hS.block (by omega)
      have hcell := cell_below HB (hc j hks)
      have hsz := total_get hks
      have htk : ss.take (j + 1) = ss.take j ++ [ss[j]] := take_snoc_list ss j hks
      have hsp : ss = ss.take j ++ (ss[j] :: ss.drop (j + 1)) := by rw [List.getElem_cons_drop, List.take_append_drop]
      have hlx : S.data.toList = (pre ++ laid (ss.take j)) ++ (num ss[j].size ++ (ss[j].data.toList ++ (laid (ss.drop (j + 1)) ++ t.data.toList))) := by
        have e : laid ss = laid (ss.take j) ++ (text ss[j].data.toList ++ laid (ss.drop (j + 1))) := by
          have e1 := congrArg laid hsp
          rw [laid_append] at e1
          exact e1
        rw [H4.out, e]
        unfold text
        rw [list_size]
        simp only [List.append_assoc]
      have hp : pre.length + (laid (ss.take j)).length = (pre ++ laid (ss.take j)).length := by rw [List.length_append]
      have hpk := pk_at hlx hp (by omega)
      have htt := take_at hlx hp (list_size _).symm
      have hln : (laid (ss.take (j + 1))).length = (laid (ss.take j)).length + (num ss[j].size).length + ss[j].size := by
        rw [htk, laid_append, List.length_append]
        show _ + (text ss[j].data.toList ++ []).length = _
        unfold text
        rw [List.append_nil, List.length_append, list_size]
        omega
      have hlen2 := congrArg List.length hlx
      rw [list_size, List.length_append, List.length_append, List.length_append, List.length_append, list_size] at hlen2
      have hC := ttext_ok b S _ (ss[j].size : Int) wr hT hpk (Int.le_refl _) (by omega)
      rw [htt] at hC
      simp only [list_str] at hC
      have hnx : pre.length + (laid (ss.take j)).length + (num ss[j].size).length + ss[j].size = pre.length + (laid (ss.take (j + 1))).length := by rw [hln]; omega
      rw [hnx] at hC
      have hcw := hc j hks
      generalize hsk : ss[j] = u at hcell hsz hC hcw
      clear hsk htk hsp hlx hp hpk htt hln hlen2 hnx hT
      have HC := Lib.hid hC
      clear hC
      go_wp2_with (go_at_call 51; refine HC.out.mono ?_)
      rintro e w8 ⟨rfl, h8⟩
      have HB8 : Below w.heap.size w w8 := HB.trans (h8.only.below hbw HB.size)
      have hT8 := h8.tape
      have hcell8 := cell_below HB8 hcw
      clear hc hS
      go_wp2
      go_roundw
      case rel => exact ⟨j + 1, by omega, by go_num, hT8, HB8⟩
      case measure => simp [intOf]; omega
    · obtain rfl : j = q := by omega
      have e : ss.take j = ss := by rw [← hlen, List.take_length]
      rw [e] at hT
      have hP : S.size = pre.length + (laid ss).length + t.size := by omega
      clear hSl
      generalize pre.length + (laid ss).length = P at hT hP
      have hle2 : (((S.size : Int) - (P : Int)) == (t.size : Int)) = true := int_eq (by omega)
      have hen : (((S.size : Int) - (P : Int)) == 0) = t.toList.isEmpty := by
        rw [ByteArray.toList_eq]
        by_cases h0 : t.size = 0
        · have : t.data.toList = [] := List.eq_nil_of_length_eq_zero (by rw [list_size]; exact h0)
          rw [this]; exact int_eq (by omega)
        · have h1 : t.data.toList ≠ [] := fun h => h0 (by rw [← list_size, h]; rfl)
          rw [show t.data.toList.isEmpty = false by cases hx : t.data.toList with | nil => exact absurd hx h1 | cons => rfl]
          exact int_ne (by omega)
      go_wp2_with (go_at_call 50; refine (left_any b S P _ hT).mono ?_)
      rintro e w8 ⟨rfl, hd⟩
      have hT8 := hT.drawn hd
      have HB8 := HB.trans hd.below
      go_wp2_with (go_at_call 55; refine (end_any b S P _ hT8).mono ?_)
      rintro e w9 ⟨rfl, hd9⟩
      have HB9 := HB8.trans hd9.below
      rw [hen]
      go_wp2
      go_ret
      exact ⟨rfl, HB9⟩
end Go.Proofs.Ytdjgdhpncocahaa.TapeL
