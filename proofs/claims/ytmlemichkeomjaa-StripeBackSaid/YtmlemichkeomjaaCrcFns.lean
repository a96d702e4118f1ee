/- crc's functions answer the sum. -/
import Derived.Test.YtmlemichkeomjaaCrcTab
set_option linter.unusedVariables false
set_option linter.unusedSimpArgs false
namespace Go.Proofs.Ytmlemichkeomjaa.CrcW
open Go.RowKit Go.Proofs.Ytmlemichkeomjaa.Base Go.Proofs.Ytmlemichkeomjaa.CrcP

theorem tabv_size : tabv.size = 256 := by simp [tabv]
theorem tabv_get (j : Nat) (h : j < 256) : tabv[j]? = some (.int .u32 ((sts 8 j : Nat) : Int)) := by
  simp [tabv, h]
theorem take_snoc (s : ByteArray) (k : Nat) (h : k < s.size) : s.data.toList.take (k + 1) = s.data.toList.take k ++ [s[k]] := by
  rw [List.take_succ_eq_append_getElem (by simpa using h)]; rfl

theorem not_u32 (x : Nat) (hx : x < 4294967296) : bits BinOp.xor IntKind.u32 IntKind.u32.max (x : Int) = ((x ^^^ 4294967295 : Nat) : Int) := by
  have h := u32_xor_nat 4294967295 x (by omega) hx
  rw [Nat.xor_comm] at h
  exact h
set_option maxRecDepth 100000 in
set_option maxHeartbeats 400000 in
theorem more_any (x : Nat) (s : ByteArray) (w : World) (hx : x < 4294967296) (hs : s.size ≤ 140737488351232) :
    Calls Try.prog 69 #[.int .u32 x, .string s] w fun e w' => e = .returned (.int .u32 (more x s.data.toList : Nat)) ∧ Below w.heap.size w w' := by
  go_enter Try.func69, Try.ntmps69
  go_wp2_with fail
  refine (table_any _).mono ?_
  rintro e w1 ⟨rfl, HB⟩
  have hz1 : (Try.prog.info? 190).map (·.size) = some tabv.size := by rw [tabv_size]; kernel_rfl
  have hh : (w1.alloc (.cells Try.zeroCells190 190)).heap[w1.heap.size]? = some (.cells Try.zeroCells190 190 (0, 0)) := heap_alloc_new _ _
  go_wp2_with (refine wpList_store_row rfl 190 (.tmp 5) (.tmp 8) rfl w1.heap.size tabv rfl rfl 190 Try.zeroCells190 hh hz1 ?_ ?_ ?_)
  · rw [zero_cells, arr_size, tabv_size]
  · simp only [tabv, List.all_toArray, List.all_map]
    exact List.all_eq_true.2 (fun _ _ => rfl)
  · have hr := setRow_heap _ _ _ tabv _ _ hh
    have hb : Below w.heap.size w _ := below_setRow (HB.alloc HB.size (.cells Try.zeroCells190 190)) w1.heap.size tabv HB.size
    have hc : ∀ j : Nat, j < 256 → ((w1.alloc (.cells Try.zeroCells190 190)).setRow w1.heap.size tabv).cell? ⟨w1.heap.size, j, none⟩ = some (.int .u32 ((sts 8 j : Nat) : Int)) := fun j hj => by
      rw [cell_of_row _ _ _ _ _ _ hr, tabv_get j hj]
    generalize (w1.alloc (.cells Try.zeroCells190 190)).setRow w1.heap.size tabv = w2 at hc hb ⊢
    have HC := Lib.hid hc
    clear hc hr hh hz1
    have hnot := not_u32 x hx
    have hy : x ^^^ 4294967295 < 4294967296 := xor_lt hx (by omega)
    have hmore : more x s.data.toList = reg (x ^^^ 4294967295) s.data.toList ^^^ 4294967295 := rfl
    have HM := Lib.hid hmore
    clear hmore
    rw [hnot]
    clear hnot
    generalize hq : x ^^^ 4294967295 = y at hy HM ⊢
    clear hq
    go_loop [6, 13] (fun r i => ∃ k : Nat, k ≤ s.size ∧ i = .int .i64 k ∧ r = .int .u32 (reg y (s.data.toList.take k) : Nat)) (fun _ i => s.size - (intOf i).toNat)
    case atStart => exact ⟨0, by omega, rfl, rfl⟩
    case round =>
      obtain ⟨k, hk, rfl, rfl⟩ := hrel
      by_cases hlt : k < s.size
      · have hl := reg_lt (s.data.toList.take k) hy
        have hs2 : reg y (s.data.toList.take (k + 1)) = sts 8 (reg y (s.data.toList.take k) ^^^ s[k].toNat) := by
          rw [take_snoc s k hlt, reg_append]; rfl
        have hb2 := byte_lt s[k]
        rw [← step_table _ _ hb2] at hs2
        generalize reg y (s.data.toList.take k) = z at *
        have hx8 : bits BinOp.xor IntKind.u8 ((z : Int) % 256) ((s[k].toNat : Nat) : Int) = (((z % 256) ^^^ s[k].toNat : Nat) : Int) := by
          have e : ((z : Int) % 256) = ((z % 256 : Nat) : Int) := by omega
          rw [e]
          exact u8_xor_nat (z % 256) s[k].toNat (by omega) hb2
        have hi : (z % 256) ^^^ s[k].toNat < 256 := Nat.xor_lt_two_pow (n := 8) (by omega) hb2
        have hcell := HC.out _ hi
        have hts := sts_lt 8 (show (z % 256) ^^^ s[k].toNat < 4294967296 by omega)
        have hx32 := u32_xor_nat (sts 8 ((z % 256) ^^^ s[k].toNat)) (z / 256) hts (by omega)
        have hz256 : ((z : Int) / 256) = ((z / 256 : Nat) : Int) := by omega
        generalize (z % 256) ^^^ s[k].toNat = q at *
        have HS := Lib.hid hs2
        have HX := Lib.hid hx32
        have HZ := Lib.hid hz256
        clear hs2 hx32 hz256
        go_wp2
        go_round
        case rel => exact ⟨k + 1, by omega, by go_num, by rw [HS.out, HZ.out, HX.out]⟩
        case measure => simp [intOf]; omega
      · obtain rfl : k = s.size := by omega
        have hl := reg_lt s.data.toList hy
        have e : s.data.toList.take s.size = s.data.toList := List.take_of_length_le (by simp)
        rw [e]
        clear e
        generalize reg y s.data.toList = z at hl HM ⊢
        have hnot := not_u32 z hl
        go_wp2
        go_ret
        refine ⟨?_, hb⟩
        rw [HM.out, ← hnot]
        rfl
theorem sum_any (s : ByteArray) (w : World) (hs : s.size ≤ 140737488351232) :
    Calls Try.prog 30 #[.string s] w fun e w' => e = .returned (.int .u32 (crc s.data.toList : Nat)) ∧ Below w.heap.size w w' := by
  go_enter Try.func30, Try.ntmps30
  go_wp2_with fail
  refine (more_any 0 s _ (by omega) hs).mono ?_
  rintro e w1 ⟨rfl, HB⟩
  go_wp2
  go_ret
  exact ⟨rfl, HB⟩

set_option maxRecDepth 100000 in
set_option maxHeartbeats 400000 in
theorem bytes_any (x : Nat) (w : World) (hx : x < 4294967296) :
    Calls Try.prog 138 #[.int .u32 x] w fun e w' => e = .returned (.string (str (four x))) ∧ Below w.heap.size w w' := by
  go_enter Try.func138, Try.ntmps138
  go_wp2
  have hB : Bytes (w.alloc (.cells #[.int .u8 ((x : Int) % 256), .int .u8 ((x : Int) / 256 % 256), .int .u8 ((x : Int) / 65536 % 256), .int .u8 ((x : Int) / 16777216)] 5)) (some ⟨w.heap.size, 0, none⟩) [x % 256, x / 256 % 256, x / 65536 % 256, x / 16777216 % 256] := by
    refine ⟨fun y hy => ?_, by simp, Or.inr ⟨_, _, rfl, fun j hj => ?_⟩⟩
    · simp only [List.mem_cons, List.mem_nil_iff, or_false] at hy
      omega
    · rw [cell_of_row _ _ _ _ _ _ (heap_alloc_new _ _)]
      simp only [List.length_cons, List.length_nil] at hj
      have e : ((x / 16777216 % 256 : Nat) : Int) = (x : Int) / 16777216 := by omega
      match j, hj with
      | 0, _ => rfl
      | 1, _ => rfl
      | 2, _ => rfl
      | 3, _ =>
        show _ = some (Value.int .u8 ((x / 16777216 % 256 : Nat) : Int))
        rw [e]
        rfl
  rw [conv_str Try.underlying70 Try.underlying5 Try.underlying9 _ _ _ 4 4 hB rfl]
  go_wp2
  go_ret
  exact ⟨rfl, (Below.refl _ _).alloc (Nat.le_refl _) _⟩

set_option maxRecDepth 100000 in
set_option maxHeartbeats 400000 in
theorem seal_any (s : ByteArray) (w : World) (hs : s.size ≤ 140737488351232) :
    Calls Try.prog 114 #[.string s] w fun e w' => e = .returned (.string (str (sealed s.data.toList))) ∧ Below w.heap.size w w' := by
  have hlt := crc_lt s.data.toList
  have hap : s ++ str (four (crc s.data.toList)) = str (sealed s.data.toList) := by
    rw [str_append]; rfl
  have hsz : s.size + (str (four (crc s.data.toList))).size ≤ 9223372036854775807 := by rw [str_size, four_length]; omega
  go_enter Try.func114, Try.ntmps114
  go_wp2_with (first | (go_at_call 30; refine (sum_any _ _ hs).mono ?_; rintro e w1 ⟨rfl, HB⟩) | (go_at_call 138; refine (bytes_any _ _ hlt).mono ?_; rintro e w2 ⟨rfl, HB2⟩))
  go_ret
  exact ⟨rfl, below_trans HB HB2⟩

/-- A sealed text opened: it, and the error's number. -/
def opened (l : List UInt8) : List UInt8 × Nat :=
  if l.length < 4 then ([], 2) else if l.drop (l.length - 4) = four (crc (l.take (l.length - 4))) then (l.take (l.length - 4), 0) else ([], 7)
set_option maxRecDepth 100000 in
set_option maxHeartbeats 400000 in
theorem open_any (s : ByteArray) (w : World) (hs : s.size ≤ 140737488351232) :
    Calls Try.prog 116 #[.string s] w fun e w' => e = .returned (.tuple #[.string (str (opened s.data.toList).1), .int .i64 ((opened s.data.toList).2 : Nat)]) ∧ Below w.heap.size w w' := by
  unfold opened
  rw [list_size]
  by_cases h4 : s.size < 4
  · rw [if_pos h4]
    go_enter Try.func116, Try.ntmps116
    go_wp2
    go_ret2
    exact ⟨rfl, Below.refl _ _⟩
  · rw [if_neg h4]
    have hn : ((s.size : Int) - 4).toNat = s.size - 4 := by omega
    have e0 : s.extract 0 (s.size - 4) = str (s.data.toList.take (s.size - 4)) := by rw [extract_str]; rfl
    have e1 : (s.extract (s.size - 4) s.size).data.toList = s.data.toList.drop (s.size - 4) := by
      rw [extract_str, str_list, List.take_of_length_le (by rw [list_size]; exact Nat.le_refl _)]
    by_cases he : s.data.toList.drop (s.size - 4) = four (crc (s.data.toList.take (s.size - 4)))
    · rw [if_pos he]
      have ht : ((s.extract (s.size - 4) s.size).toList == (str (four (crc (s.data.toList.take (s.size - 4))))).toList) = true := str_eq (by rw [e1, he, str_list])
      have E0 := Lib.hid e0
      clear he e0 e1
      go_enter Try.func116, Try.ntmps116
      go_upto_region 4 with (fail)
      go_region_with (first | (go_at_call 30; refine (sum_any _ _ (extract_le _ _ hs)).mono ?_; rintro e w1 ⟨rfl, HB1⟩) | (go_at_call 138; refine (bytes_any _ _ (crc_lt _)).mono ?_; rintro e w2 ⟨rfl, HB2⟩))
      all_goals go_wp2
      all_goals go_ret2
      all_goals exact ⟨by rw [← E0.out]; rfl, below_trans (below_of_drew HB1) HB2⟩
    · rw [if_neg he]
      have ht : ((s.extract (s.size - 4) s.size).toList == (str (four (crc (s.data.toList.take (s.size - 4))))).toList) = false := str_ne (by rw [e1, str_list]; exact he)
      have E0 := Lib.hid e0
      clear he e0 e1
      go_enter Try.func116, Try.ntmps116
      go_upto_region 4 with (fail)
      go_region_with (first | (go_at_call 30; refine (sum_any _ _ (extract_le _ _ hs)).mono ?_; rintro e w1 ⟨rfl, HB1⟩) | (go_at_call 138; refine (bytes_any _ _ (crc_lt _)).mono ?_; rintro e w2 ⟨rfl, HB2⟩))
      all_goals go_wp2
      all_goals go_ret2
      all_goals exact ⟨rfl, below_trans (below_of_drew HB1) HB2⟩
end Go.Proofs.Ytmlemichkeomjaa.CrcW
