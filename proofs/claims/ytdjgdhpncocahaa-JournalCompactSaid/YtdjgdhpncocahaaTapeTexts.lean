/- tape.Texts answers the bytes of texts. -/
import Derived.Test.YtdjgdhpncocahaaTapeNum
import Derived.Test.YtdjgdhpncocahaaBuild
import Derived.Test.YtdjgdhpncocahaaStrs
set_option linter.unusedVariables false
set_option linter.unusedSimpArgs false
namespace Go.Proofs.Ytdjgdhpncocahaa.TapeW
open Go.RowKit Go.Proofs.Ytdjgdhpncocahaa.Base Go.Proofs.Ytdjgdhpncocahaa.TapeP Go.Proofs.Ytdjgdhpncocahaa.BuildW

/-- The texts one behind the other. -/
def laid : List ByteArray → List UInt8
  | [] => []
  | s :: l => text s.data.toList ++ laid l
def texts (l : List ByteArray) : List UInt8 := num l.length ++ laid l
theorem laid_append (l m : List ByteArray) : laid (l ++ m) = laid l ++ laid m := by
  induction l with
  | nil => rfl
  | cons s l ih => show text _ ++ laid (l ++ m) = (text _ ++ laid l) ++ laid m; rw [ih, List.append_assoc]
theorem text_length (s : ByteArray) (h : s.size ≤ 9007199254740991) : (text s.data.toList).length ≤ s.size + 8 := by
  unfold text
  rw [List.length_append, list_size]
  have := num_length 7 s.size (by omega)
  omega
theorem laid_length (l : List ByteArray) (h : total l ≤ 9007199254740991) : (laid l).length ≤ total l + 8 * l.length := by
  induction l with
  | nil => exact Nat.zero_le _
  | cons s l ih =>
    have h0 : total (s :: l) = s.size + total l := rfl
    have h1 := text_length s (by omega)
    have h2 := ih (by omega)
    show (text _ ++ laid l).length ≤ s.size + total l + 8 * (l.length + 1)
    rw [List.length_append]
    omega

set_option maxRecDepth 100000 in
set_option maxHeartbeats 1000000 in
theorem texts_any (A : Option Addr) (n c : Nat) (ss : List ByteArray) (w : World) (hS : Strs w A n ss) (ht : total ss ≤ 50000000000000) (hn : n ≤ 1000000000000) :
    Calls Try.prog 48 #[.slice A n c] w fun e w' => e = .returned (.string (str (texts ss))) ∧ Below w.heap.size w w' := by
  have hlen := hS.len
  have hnum : (num n).length ≤ 8 := num_length 7 n (by omega)
  go_enter Try.func48, Try.ntmps48
  go_upto_region 2 with fail
  have hI := Lib.fresh_isBuilder 102 5 w
  have HB : Below w.heap.size w (w.alloc (.cells #[.pointer none, .slice none 0 0] 102)) := (Below.refl _ _).alloc (Nat.le_refl _) _
  generalize w.alloc (.cells #[.pointer none, .slice none 0 0] 102) = w1 at hI HB ⊢
  have HB0 := HB
  go_wp2_with (go_at_call 24; (with_reducible refine (num_in _ _ (by omega)).mono ?_); rintro e w2 ⟨rfl, hd⟩)
  replace hI := builder_below hI hd
  (first | replace HB := bt HB HB.size hd | replace HB := bt_drew HB HB.size hd | replace HB := bt_drewN HB HB.size hd); clear hd
  have hnn : (str (num n)).size ≤ 8 := by rw [str_size]; exact hnum
  go_wp2_with (go_at_call 77; refine (write_any _ _ [] _ _ hI (by simp only [List.length_nil]; omega) HB.size).mono ?_)
  rintro e w3 ⟨rfl, hI3, hd⟩
  rw [List.nil_append, str_list] at hI3
  replace HB := HB.trans hd
  clear hd hI HB0 hnn
  go_wp2
  go_loopw [12] (fun i wr => ∃ k : Nat, k ≤ n ∧ i = .int .i64 k ∧ Lib.IsBuilder 102 5 w.heap.size w.heap.size (bv (num n ++ laid (ss.take k))) wr ∧ Below w.heap.size w wr) (fun i _ => n - (intOf i).toNat)
  case atStart => exact ⟨0, by omega, rfl, by rw [List.take_zero]; show Lib.IsBuilder _ _ _ _ (bv (num n ++ [])) _; rw [List.append_nil]; exact hI3, HB⟩
  case round =>
    clear HB hI3
    obtain ⟨k, hk, rfl, hI, HB⟩ := hrel
    by_cases hlt : k < n
    · have hks : k < ss.length := by omega
      obtain ⟨b, off, rfl, hc⟩ := hS.block (by omega)
      have hcell := cell_below HB (hc k hks)
      have hsz := total_get hks
      have hsz2 : ss[k].size ≤ 140737488351232 := by omega
      have htk : ss.take (k + 1) = ss.take k ++ [ss[k]] := take_snoc_list ss k hks
      have htl := laid_length (ss.take k) (by have := total_take_le ss k; omega)
      have htl2 := total_take_le ss k
      have hkl : (ss.take k).length = k := by rw [List.length_take]; omega
      have htx := text_length ss[k] (by omega)
      generalize hsk : ss[k] = s at hcell hsz hsz2 htk htx
      clear hsk
      have hnx : (num n ++ laid (ss.take k)).length + (str (text s.data.toList)).size ≤ 140737488355328 := by
        rw [List.length_append, str_size]; omega
      have hnext : num n ++ laid (ss.take (k + 1)) = (num n ++ laid (ss.take k)) ++ (str (text s.data.toList)).data.toList := by
        rw [htk, laid_append, str_list, List.append_assoc]
        show _ = _ ++ (_ ++ text s.data.toList)
        show num n ++ (laid (ss.take k) ++ (text s.data.toList ++ [])) = _
        rw [List.append_nil]
      generalize num n ++ laid (ss.take k) = l at hI hnx hnext
      have HN := Lib.hid hnext
      clear hnext htk htl htl2 hkl
      go_wp2_with (go_at_call 47; (with_reducible refine (text_any _ _ hsz2).mono ?_); rintro e w4 ⟨rfl, hd⟩)
      replace hI := builder_below hI hd
      (first | replace HB := bt HB HB.size hd | replace HB := bt_drew HB HB.size hd | replace HB := bt_drewN HB HB.size hd); clear hd
      go_wp2_with (go_at_call 77; refine (write_any _ _ l _ _ hI hnx HB.size).mono ?_)
      rintro e w5 ⟨rfl, hI5, hd⟩
      replace HB := HB.trans hd
      go_wp2
      go_roundw
      case rel => exact ⟨k + 1, by omega, by go_num, by rw [HN.out]; exact hI5, HB⟩
      case measure => simp [intOf]; omega
    · obtain rfl : k = n := by omega
      have e : ss.take k = ss := by rw [← hlen, List.take_length]
      rw [e] at hI
      have e2 : num k ++ laid ss = texts ss := by unfold texts; rw [hlen]
      rw [e2] at hI
      have hne : texts ss ≠ [] := by
        unfold texts
        intro h
        exact num_ne _ (List.append_eq_nil_iff.1 h).1
      go_wp2_with (go_at_call 78; refine (string_any _ _ _ _ hI hne).mono ?_)
      rintro e w5 ⟨rfl, hd⟩
      replace HB := HB.trans hd
      go_wp2
      go_ret
      exact ⟨rfl, HB⟩
end Go.Proofs.Ytdjgdhpncocahaa.TapeW
