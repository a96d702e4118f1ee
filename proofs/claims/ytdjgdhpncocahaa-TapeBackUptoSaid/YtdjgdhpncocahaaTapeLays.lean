/- The law TapeLays of chapter 5 walked. -/
import Derived.Test.YtdjgdhpncocahaaTapeLaw2
import Derived.Test.YtdjgdhpncocahaaTapeRefN
set_option linter.unusedVariables false
set_option linter.unusedSimpArgs false
namespace Go.Proofs.Ytdjgdhpncocahaa.TapeL
open Go.RowKit Go.Proofs.Ytdjgdhpncocahaa.Base Go.Proofs.Ytdjgdhpncocahaa.TapeP Go.Proofs.Ytdjgdhpncocahaa.TapeW

set_option maxRecDepth 100000 in
set_option maxHeartbeats 1000000 in
theorem lays_any (n : Int) (s : ByteArray) (A : Option Addr) (m c : Nat) (ss : List ByteArray) (w : World) (hs : s.size ≤ 140737488351232) (hS : Strs w A m ss) (ht : total ss ≤ 50000000000) (hm : m ≤ 140737488355328) :
    Calls Try.prog 10 #[.int .i64 n, .string s, .slice A m c] w fun e w' => e = .returned (.bool true) ∧ Below w.heap.size w w' := by
  have HB : Below w.heap.size w w := Below.refl _ _
  by_cases h1 : 3000 < s.size
  · go_enter Try.func10, Try.ntmps10
    go_wp2_with (go_at_call 23; (with_reducible refine (awake_any _).mono ?_); rintro e w2 ⟨rfl, hd⟩; (first | replace HB := bt HB HB.size hd | replace HB := bt_drew HB HB.size hd | replace HB := bt_drewN HB HB.size hd); clear hd)
    all_goals (go_ret; exact ⟨rfl, HB⟩)
  by_cases h2 : 100 < m
  · go_enter Try.func10, Try.ntmps10
    go_wp2_with (go_at_call 23; (with_reducible refine (awake_any _).mono ?_); rintro e w2 ⟨rfl, hd⟩; (first | replace HB := bt HB HB.size hd | replace HB := bt_drew HB HB.size hd | replace HB := bt_drewN HB HB.size hd); clear hd)
    all_goals (go_ret; exact ⟨rfl, HB⟩)
  have hlen := hS.len
  have hnum : (num m).length ≤ 8 := num_length 7 m (by omega)
  go_enter Try.func10, Try.ntmps10
  go_wp2_with (first | (go_at_call 23; (with_reducible refine (awake_any _).mono ?_); rintro e w2 ⟨rfl, hd⟩; (first | replace HB := bt HB HB.size hd | replace HB := bt_drew HB HB.size hd | replace HB := bt_drewN HB HB.size hd); clear hd) | (go_at_call 43; (with_reducible refine (rnum_in _ _ (by omega)).mono ?_); rintro e w2 ⟨rfl, hd⟩; (first | replace HB := bt HB HB.size hd | replace HB := bt_drew HB HB.size hd | replace HB := bt_drewN HB HB.size hd); clear hd))
  go_loopw [7, 8] (fun v i wr => ∃ k : Nat, k ≤ m ∧ i = .int .i64 k ∧ v = .string (str (num m ++ laid (ss.take k))) ∧ Below w.heap.size w wr) (fun _ i _ => m - (intOf i).toNat)
  case atStart => exact ⟨0, by omega, rfl, by rw [List.take_zero]; show Value.string (str (num m)) = Value.string (str (num m ++ [])); rw [List.append_nil], HB⟩
  case round =>
    clear HB
    obtain ⟨k, hk, rfl, rfl, HB⟩ := hrel
    by_cases hlt : k < m
    · have hks : k < ss.length := by omega
      obtain ⟨b, off, rfl, hc⟩ := hS.block (by omega)
      have hcell := cell_below HB (hc k hks)
      have hsz := total_get hks
      have hsz2 : ss[k].size ≤ 140737488351232 := by omega
      have htk : ss.take (k + 1) = ss.take k ++ [ss[k]] := take_snoc_list ss k hks
      have htl := laid_length (ss.take k) (by have := total_take_le ss k; omega)
      have htl2 := total_take_le ss k
      have hkl : (ss.take k).length = k := by rw [List.length_take]; omega
      have htx := text_length ss[k] (by omega)
      generalize hsk : ss[k] = t at hcell hsz hsz2 htk htx
      clear hsk
      have hnx : (str (num m ++ laid (ss.take k))).size + (str (text t.data.toList)).size ≤ 9223372036854775807 := by
        rw [str_size, List.length_append, str_size]; omega
      have hnext : str (num m ++ laid (ss.take (k + 1))) = str (num m ++ laid (ss.take k)) ++ str (text t.data.toList) := by
        rw [htk, laid_append, str_append, str_list, str_list, List.append_assoc]
        show str (num m ++ (laid (ss.take k) ++ (text t.data.toList ++ []))) = _
        rw [List.append_nil]
      generalize num m ++ laid (ss.take k) = l at hnx hnext
      have HN := Lib.hid hnext
      clear hnext htk htl htl2 hkl
      go_wp2_with (go_at_call 44; (with_reducible refine (rtext_any _ _ hsz2).mono ?_); rintro e w4 ⟨rfl, hd⟩; (first | replace HB := bt HB HB.size hd | replace HB := bt_drew HB HB.size hd | replace HB := bt_drewN HB HB.size hd); clear hd)
      go_roundw
      case rel => exact ⟨k + 1, by omega, by go_num, by rw [HN.out], HB⟩
      case measure => simp [intOf]; omega
    · obtain rfl : k = m := by omega
      have e : ss.take k = ss := by rw [← hlen, List.take_length]
      rw [e]
      have e2 : num k ++ laid ss = texts ss := by unfold texts; rw [hlen]
      rw [e2]
      have hS2 := hS.below HB
      go_wp2_with (first | (go_at_call 24; (with_reducible refine (num_any _ _).mono ?_); rintro e w2 ⟨rfl, hd⟩; (first | replace HB := bt HB HB.size hd | replace HB := bt_drew HB HB.size hd | replace HB := bt_drewN HB HB.size hd); clear hd) | (go_at_call 43; (with_reducible refine (rnum_any _ _).mono ?_); rintro e w2 ⟨rfl, hd⟩; (first | replace HB := bt HB HB.size hd | replace HB := bt_drew HB HB.size hd | replace HB := bt_drewN HB HB.size hd); clear hd) | (go_at_call 45; (with_reducible refine (whole_any _ _).mono ?_); rintro e w2 ⟨rfl, hd⟩; (first | replace HB := bt HB HB.size hd | replace HB := bt_drew HB HB.size hd | replace HB := bt_drewN HB HB.size hd); clear hd) | (go_at_call 46; (with_reducible refine (rwhole_any _ _).mono ?_); rintro e w2 ⟨rfl, hd⟩; (first | replace HB := bt HB HB.size hd | replace HB := bt_drew HB HB.size hd | replace HB := bt_drewN HB HB.size hd); clear hd) | (go_at_call 47; (with_reducible refine (text_any _ _ hs).mono ?_); rintro e w2 ⟨rfl, hd⟩; (first | replace HB := bt HB HB.size hd | replace HB := bt_drew HB HB.size hd | replace HB := bt_drewN HB HB.size hd); clear hd) | (go_at_call 44; (with_reducible refine (rtext_any _ _ hs).mono ?_); rintro e w2 ⟨rfl, hd⟩; (first | replace HB := bt HB HB.size hd | replace HB := bt_drew HB HB.size hd | replace HB := bt_drewN HB HB.size hd); clear hd) | (go_at_call 48; refine (texts_any _ _ _ _ _ (hS.below HB) (by omega) (by omega)).mono ?_; rintro e w2 ⟨rfl, hd⟩; (first | replace HB := bt HB HB.size hd | replace HB := bt_drew HB HB.size hd | replace HB := bt_drewN HB HB.size hd); clear hd))
      go_ret
      exact ⟨rfl, HB⟩
end Go.Proofs.Ytdjgdhpncocahaa.TapeL
