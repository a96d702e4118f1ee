/- Texts of this claim in one. -/
import Derived.Test.YtmlemichkeomjaaProg
import Derived.Test.YtmlemichkeomjaaCrcPure
import Derived.Test.YtmlemichkeomjaaM1
import Derived.Deep.DeepCutAuto
import Derived.Test.YtmlemichkeomjaaJrnP
import Derived.Test.YtmlemichkeomjaaBuild
/- crc.Table lays the table of sums. -/
set_option linter.unusedVariables false
set_option linter.unusedSimpArgs false
namespace Go.Proofs.Ytmlemichkeomjaa.CrcW
open Go.RowKit Go.Proofs.Ytmlemichkeomjaa.Base Go.Proofs.Ytmlemichkeomjaa.CrcP

def tabv : Array Value := ((List.range 256).map fun i => Value.int .u32 ((sts 8 i : Nat) : Int)).toArray

theorem below_setRow {B : Nat} {a w : World} (h : Below B a w) (g : Nat) (cs : Array Value) (hg : B ≤ g) : Below B a (w.setRow g cs) :=
  h.trans ⟨rfl, rfl, rfl, by simp, fun k hk => by
    simp only [World.setRow, Array.getElem?_modify]
    rw [if_neg (by omega)]⟩
def arr (i : Nat) : Array Value := ((List.range 256).map fun j => Value.int .u32 ((if j < i then sts 8 j else 0 : Nat) : Int)).toArray
theorem zero_cells : Try.zeroCells190 = arr 0 := by
  have h : Try.zeroCells190 = (List.replicate 256 (Value.int .u32 0)).toArray := by kernel_rfl
  have h2 : (List.range 256).map (fun j => Value.int .u32 ((if j < 0 then sts 8 j else 0 : Nat) : Int)) = List.replicate 256 (Value.int .u32 0) := by
    rw [List.map_congr_left (g := fun _ => Value.int .u32 0) (fun j _ => by rw [if_neg (by omega)]; rfl), List.map_const', List.length_range]
  rw [h]
  exact congrArg List.toArray h2.symm
theorem arr_size (i : Nat) : (arr i).size = 256 := by simp [arr]
theorem arr_end : arr 256 = tabv := by
  refine congrArg List.toArray (List.map_congr_left fun j hj => ?_)
  rw [if_pos (List.mem_range.1 hj)]
theorem arr_step (i : Nat) (hi : i < 256) : (arr i).setIfInBounds i (.int .u32 ((sts 8 i : Nat) : Int)) = arr (i + 1) := by
  apply Array.ext
  · simp [arr]
  · intro j h1 h2
    rw [Array.getElem_setIfInBounds (by simpa using h1)]
    simp only [arr, List.getElem_toArray, List.getElem_map, List.getElem_range]
    by_cases e : i = j
    · subst e
      rw [if_pos rfl, if_pos (by omega)]
    · rw [if_neg e]
      by_cases e2 : j < i
      · rw [if_pos e2, if_pos (by omega)]
      · rw [if_neg e2, if_neg (by omega)]

theorem and_one (x : Nat) (h : x < 4294967296) : bits BinOp.and IntKind.u32 (x : Int) 1 = ((x % 2 : Nat) : Int) := by
  have := u32_and_nat x 1 h (by omega)
  rw [nat_mask1] at this
  exact this
theorem step_odd {x : Nat} (h : x < 4294967296) (h1 : (bits BinOp.and IntKind.u32 (x : Int) 1 == 1) = true) : bits BinOp.xor IntKind.u32 ((x : Int) / 2) 3988292384 = ((st x : Nat) : Int) := by
  rw [and_one x h, beq_iff_eq] at h1
  have e : (x : Int) / 2 = ((x / 2 : Nat) : Int) := by omega
  rw [e, st, if_pos (by omega)]
  exact u32_xor_nat (x / 2) 3988292384 (by omega) (by omega)
theorem step_even {x : Nat} (h : x < 4294967296) (h1 : (bits BinOp.and IntKind.u32 (x : Int) 1 == 1) = false) : (x : Int) / 2 = ((st x : Nat) : Int) := by
  rw [and_one x h, beq_eq_false_iff_ne] at h1
  rw [st, if_neg (by omega)]
  omega

set_option maxRecDepth 100000 in
set_option maxHeartbeats 400000 in
theorem table_any (w : World) :
    Calls Try.prog 111 #[] w fun e w' => e = .returned (.agg tabv) ∧ Below w.heap.size w w' := by
  go_enter Try.func111, Try.ntmps111
  go_wp2
  refine wp_scope_loop 0 (fun a' wr => ∃ (i : Nat) (u3 u4 u5 u6 u7 u8 u9 u10 u11 u12 u13 u14 u15 u16 u17 u18 u19 u20 u21 u22 u23 u24 : Value), i ≤ 255 ∧ wr.heap.size = w.heap.size + 2 ∧ Below w.heap.size w wr ∧ wr.heap[w.heap.size]? = some (.cells (arr 0) 190 (0, 0)) ∧ wr.heap[w.heap.size + 1]? = some (.cells (arr i) 190 (0, 0)) ∧ a' = { tmps := #[.pointer (some ⟨w.heap.size, 0, none⟩), .pointer (some ⟨w.heap.size + 1, 0, none⟩), .int .i64 i, u3, u4, u5, u6, u7, u8, u9, u10, u11, u12, u13, u14, u15, u16, u17, u18, u19, u20, u21, u22, u23, u24], defers := [] }) (fun a' _ => 256 - (intOf (a'.tmps.getD 2 undef)).toNat) rfl ?_ ?_
  · intro hloop
    go_wp2
    go_step3
    go_step
    go_step
    rw [zero_cells]
    refine hloop _ _ ⟨0, _, _, _, _, _, _, _, _, _, _, _, _, _, _, _, _, _, _, _, _, _, _, by omega, by simp, ((Below.refl _ _).alloc (Nat.le_refl _) _).alloc (by simp) _, heap_alloc2_old _ _ _, heap_alloc2_new _ _ _, rfl⟩
  · rintro a' wr ⟨i, u3, u4, u5, u6, u7, u8, u9, u10, u11, u12, u13, u14, u15, u16, u17, u18, u19, u20, u21, u22, u23, u24, hi, hz, HB, h0, h1, rfl⟩
    have H0 := Lib.hid h0
    have H1 := Lib.hid h1
    have HZ := Lib.hid hz
    clear h0 h1 hz
    go_wp2
    go_loop [3, 6] (fun x j => ∃ k : Nat, k ≤ 8 ∧ j = .int .i64 k ∧ x = .int .u32 (sts k i : Nat)) (fun _ j => 8 - (intOf j).toNat)
    case atStart => exact ⟨0, by omega, rfl, rfl⟩
    case round =>
      obtain ⟨k, hk, rfl, rfl⟩ := hrel
      by_cases hlt : k < 8
      · have hb := sts_lt k (show i < 4294967296 by omega)
        have hs : sts (k + 1) i = st (sts k i) := rfl
        generalize sts k i = x at *
        have HS := Lib.hid hs
        clear hs
        go_wp2
        · have hb1 : (bits BinOp.and IntKind.u32 ((x : Nat) : Int) 1 == 1) = true := by assumption
          refine ⟨⟨k + 1, by omega, by go_num, ?_⟩, by simp [intOf]; omega⟩
          rw [HS.out]
          exact congrArg (Value.int .u32) (step_odd hb hb1)
        · have hb1 : (bits BinOp.and IntKind.u32 ((x : Nat) : Int) 1 == 1) = false := by assumption
          refine ⟨⟨k + 1, by omega, by go_num, ?_⟩, by simp [intOf]; omega⟩
          rw [HS.out]
          exact congrArg (Value.int .u32) (step_even hb hb1)
      · obtain rfl : k = 8 := by omega
        obtain ⟨u, hc⟩ : ∃ u, wr.cell? ⟨w.heap.size + 1, i, none⟩ = some u := ⟨_, by rw [cell_of_row _ _ _ _ _ _ H1.out, Array.getElem?_eq_getElem (by rw [arr_size]; omega)]⟩
        have hf : wr.frozen? ⟨w.heap.size + 1, i, none⟩ = false := frozen_of_row _ _ _ _ _ H1.out
        have hn : (wr.setCell ⟨w.heap.size + 1, i, none⟩ (.int .u32 (sts 8 i : Nat))).heap[w.heap.size + 1]? = some (.cells (arr (i + 1)) 190 (0, 0)) := by
          rw [heap_setCell_same _ _ _ _ _ _ H1.out, arr_step i (by omega)]
        have hn0 : (wr.setCell ⟨w.heap.size + 1, i, none⟩ (.int .u32 (sts 8 i : Nat))).heap[w.heap.size]? = some (.cells (arr 0) 190 (0, 0)) := by
          rw [heap_setCell_other _ _ _ _ (by simp)]; exact H0.out
        have HN : Below w.heap.size w (wr.setCell ⟨w.heap.size + 1, i, none⟩ (.int .u32 (sts 8 i : Nat))) := HB.setCell (by simp) _
        have HZ2 : (wr.setCell ⟨w.heap.size + 1, i, none⟩ (.int .u32 (sts 8 i : Nat))).heap.size = w.heap.size + 2 := by simpa using HZ.out
        have HN1 := Lib.hid hn
        have HN0 := Lib.hid hn0
        have HZ3 := Lib.hid HZ2
        have HNN := Lib.hid HN
        clear hn hn0 HZ2 HN H0 H1 HZ HB
        by_cases hlast : i < 255
        · go_wp2
          go_step3
          refine ⟨rfl, ⟨i + 1, _, _, _, _, _, _, _, _, _, _, _, _, _, _, _, _, _, _, _, _, _, _, by omega, HZ3.out, HNN.out, HN0.out, HN1.out, rfl⟩, ?_⟩
          simp [intOf]; omega
        · have hge : 255 ≤ i := by omega
          clear hlast
          go_upto_region 13 with (fail)
          go_step
          have hz1 : (Try.prog.info? 190).map (·.size) = some (arr (i + 1)).size := by rw [arr_size]; kernel_rfl
          refine wpList_load_row rfl 190 _ rfl _ rfl 190 (arr (i + 1)) (0, 0) _ HN1.out Try.underlying190 rfl hz1 ?_
          refine wpList_store_row rfl 190 _ _ rfl w.heap.size (arr (i + 1)) rfl rfl 190 (arr 0) HN0.out hz1 (by rw [arr_size, arr_size]) ?_ ?_
          · simp only [arr, List.all_toArray, List.all_map]
            exact List.all_eq_true.2 (fun _ _ => rfl)
          · have hr := setRow_heap _ _ _ (arr (i + 1)) _ _ HN0.out
            have hb := below_setRow HNN.out w.heap.size (arr (i + 1)) (Nat.le_refl _)
            generalize (wr.setCell _ _).setRow w.heap.size (arr (i + 1)) = w2 at hr hb ⊢
            have HR := Lib.hid hr
            clear hr HN1 HN0 HZ3 HNN hc hf
            simp only [Act.put]
            go_wp2
            simp only [Exit.jump]
            refine bodyPost_ret (results_cell_row rfl _ _ w.heap.size 190 (arr (i + 1)) (0, 0) _ rfl HR.out Try.underlying190 rfl hz1) rfl ?_
            have e : i + 1 = 256 := by omega
            rw [e, arr_end]
            exact ⟨rfl, hb⟩
end Go.Proofs.Ytmlemichkeomjaa.CrcW

/- crc's functions answer the sum. -/
set_option linter.unusedVariables false
set_option linter.unusedSimpArgs false
namespace Go.Proofs.Ytmlemichkeomjaa.CrcW
open Go.RowKit Go.Proofs.Ytmlemichkeomjaa.Base Go.Proofs.Ytmlemichkeomjaa.CrcP

theorem tabv_size : tabv.size = 256 := by simp [tabv]
theorem tabv_get (j : Nat) (h : j < 256) : tabv[j]? = some (.int .u32 ((sts 8 j : Nat) : Int)) := by
  simp [tabv, h]
theorem take_snoc (s : ByteArray) (k : Nat) (h : k < s.size) : s.data.toList.take (k + 1) = s.data.toList.take k ++ [s[k]] := by
  rw [List.take_succ_eq_append_getElem (by simpa using h)]; rfl

theorem not_u32 (x : Nat) (hx : x < 4294967296) : bits BinOp.xor IntKind.u32 IntKind.u32.max (x : Int) = ((x ^^^ 4294967295 : Nat) : Int) := by
  have h := u32_xor_nat 4294967295 x (by omega) hx
  rw [Nat.xor_comm] at h
  exact h
set_option maxRecDepth 100000 in
set_option maxHeartbeats 400000 in
theorem more_any (x : Nat) (s : ByteArray) (w : World) (hx : x < 4294967296) (hs : s.size ≤ 140737488351232) :
    Calls Try.prog 69 #[.int .u32 x, .string s] w fun e w' => e = .returned (.int .u32 (more x s.data.toList : Nat)) ∧ Below w.heap.size w w' := by
  go_enter Try.func69, Try.ntmps69
  go_wp2_with fail
  refine (table_any _).mono ?_
  rintro e w1 ⟨rfl, HB⟩
  have hz1 : (Try.prog.info? 190).map (·.size) = some tabv.size := by rw [tabv_size]; kernel_rfl
  have hh : (w1.alloc (.cells Try.zeroCells190 190)).heap[w1.heap.size]? = some (.cells Try.zeroCells190 190 (0, 0)) := heap_alloc_new _ _
  go_wp2_with (refine wpList_store_row rfl 190 (.tmp 5) (.tmp 8) rfl w1.heap.size tabv rfl rfl 190 Try.zeroCells190 hh hz1 ?_ ?_ ?_)
  · rw [zero_cells, arr_size, tabv_size]
  · simp only [tabv, List.all_toArray, List.all_map]
    exact List.all_eq_true.2 (fun _ _ => rfl)
  · have hr := setRow_heap _ _ _ tabv _ _ hh
    have hb : Below w.heap.size w _ := below_setRow (HB.alloc HB.size (.cells Try.zeroCells190 190)) w1.heap.size tabv HB.size
    have hc : ∀ j : Nat, j < 256 → ((w1.alloc (.cells Try.zeroCells190 190)).setRow w1.heap.size tabv).cell? ⟨w1.heap.size, j, none⟩ = some (.int .u32 ((sts 8 j : Nat) : Int)) := fun j hj => by
      rw [cell_of_row _ _ _ _ _ _ hr, tabv_get j hj]
    generalize (w1.alloc (.cells Try.zeroCells190 190)).setRow w1.heap.size tabv = w2 at hc hb ⊢
    have HC := Lib.hid hc
    clear hc hr hh hz1
    have hnot := not_u32 x hx
    have hy : x ^^^ 4294967295 < 4294967296 := xor_lt hx (by omega)
    have hmore : more x s.data.toList = reg (x ^^^ 4294967295) s.data.toList ^^^ 4294967295 := rfl
    have HM := Lib.hid hmore
    clear hmore
    rw [hnot]
    clear hnot
    generalize hq : x ^^^ 4294967295 = y at hy HM ⊢
    clear hq
    go_loop [6, 13] (fun r i => ∃ k : Nat, k ≤ s.size ∧ i = .int .i64 k ∧ r = .int .u32 (reg y (s.data.toList.take k) : Nat)) (fun _ i => s.size - (intOf i).toNat)
    case atStart => exact ⟨0, by omega, rfl, rfl⟩
    case round =>
      obtain ⟨k, hk, rfl, rfl⟩ := hrel
      by_cases hlt : k < s.size
      · have hl := reg_lt (s.data.toList.take k) hy
        have hs2 : reg y (s.data.toList.take (k + 1)) = sts 8 (reg y (s.data.toList.take k) ^^^ s[k].toNat) := by
          rw [take_snoc s k hlt, reg_append]; rfl
        have hb2 := byte_lt s[k]
        rw [← step_table _ _ hb2] at hs2
        generalize reg y (s.data.toList.take k) = z at *
        have hx8 : bits BinOp.xor IntKind.u8 ((z : Int) % 256) ((s[k].toNat : Nat) : Int) = (((z % 256) ^^^ s[k].toNat : Nat) : Int) := by
          have e : ((z : Int) % 256) = ((z % 256 : Nat) : Int) := by omega
          rw [e]
          exact u8_xor_nat (z % 256) s[k].toNat (by omega) hb2
        have hi : (z % 256) ^^^ s[k].toNat < 256 := Nat.xor_lt_two_pow (n := 8) (by omega) hb2
        have hcell := HC.out _ hi
        have hts := sts_lt 8 (show (z % 256) ^^^ s[k].toNat < 4294967296 by omega)
        have hx32 := u32_xor_nat (sts 8 ((z % 256) ^^^ s[k].toNat)) (z / 256) hts (by omega)
        have hz256 : ((z : Int) / 256) = ((z / 256 : Nat) : Int) := by omega
        generalize (z % 256) ^^^ s[k].toNat = q at *
        have HS := Lib.hid hs2
        have HX := Lib.hid hx32
        have HZ := Lib.hid hz256
        clear hs2 hx32 hz256
        go_wp2
        go_round
        case rel => exact ⟨k + 1, by omega, by go_num, by rw [HS.out, HZ.out, HX.out]⟩
        case measure => simp [intOf]; omega
      · obtain rfl : k = s.size := by omega
        have hl := reg_lt s.data.toList hy
        have e : s.data.toList.take s.size = s.data.toList := List.take_of_length_le (by simp)
        rw [e]
        clear e
        generalize reg y s.data.toList = z at hl HM ⊢
        have hnot := not_u32 z hl
        go_wp2
        go_ret
        refine ⟨?_, hb⟩
        rw [HM.out, ← hnot]
        rfl
theorem sum_any (s : ByteArray) (w : World) (hs : s.size ≤ 140737488351232) :
    Calls Try.prog 30 #[.string s] w fun e w' => e = .returned (.int .u32 (crc s.data.toList : Nat)) ∧ Below w.heap.size w w' := by
  go_enter Try.func30, Try.ntmps30
  go_wp2_with fail
  refine (more_any 0 s _ (by omega) hs).mono ?_
  rintro e w1 ⟨rfl, HB⟩
  go_wp2
  go_ret
  exact ⟨rfl, HB⟩

set_option maxRecDepth 100000 in
set_option maxHeartbeats 400000 in
theorem bytes_any (x : Nat) (w : World) (hx : x < 4294967296) :
    Calls Try.prog 138 #[.int .u32 x] w fun e w' => e = .returned (.string (str (four x))) ∧ Below w.heap.size w w' := by
  go_enter Try.func138, Try.ntmps138
  go_wp2
  have hB : Bytes (w.alloc (.cells #[.int .u8 ((x : Int) % 256), .int .u8 ((x : Int) / 256 % 256), .int .u8 ((x : Int) / 65536 % 256), .int .u8 ((x : Int) / 16777216)] 5)) (some ⟨w.heap.size, 0, none⟩) [x % 256, x / 256 % 256, x / 65536 % 256, x / 16777216 % 256] := by
    refine ⟨fun y hy => ?_, by simp, Or.inr ⟨_, _, rfl, fun j hj => ?_⟩⟩
    · simp only [List.mem_cons, List.mem_nil_iff, or_false] at hy
      omega
    · rw [cell_of_row _ _ _ _ _ _ (heap_alloc_new _ _)]
      simp only [List.length_cons, List.length_nil] at hj
      have e : ((x / 16777216 % 256 : Nat) : Int) = (x : Int) / 16777216 := by omega
      match j, hj with
      | 0, _ => rfl
      | 1, _ => rfl
      | 2, _ => rfl
      | 3, _ =>
        show _ = some (Value.int .u8 ((x / 16777216 % 256 : Nat) : Int))
        rw [e]
        rfl
  rw [conv_str Try.underlying70 Try.underlying5 Try.underlying9 _ _ _ 4 4 hB rfl]
  go_wp2
  go_ret
  exact ⟨rfl, (Below.refl _ _).alloc (Nat.le_refl _) _⟩

set_option maxRecDepth 100000 in
set_option maxHeartbeats 400000 in
theorem seal_any (s : ByteArray) (w : World) (hs : s.size ≤ 140737488351232) :
    Calls Try.prog 114 #[.string s] w fun e w' => e = .returned (.string (str (sealed s.data.toList))) ∧ Below w.heap.size w w' := by
  have hlt := crc_lt s.data.toList
  have hap : s ++ str (four (crc s.data.toList)) = str (sealed s.data.toList) := by
    rw [str_append]; rfl
  have hsz : s.size + (str (four (crc s.data.toList))).size ≤ 9223372036854775807 := by rw [str_size, four_length]; omega
  go_enter Try.func114, Try.ntmps114
  go_wp2_with (first | (go_at_call 30; refine (sum_any _ _ hs).mono ?_; rintro e w1 ⟨rfl, HB⟩) | (go_at_call 138; refine (bytes_any _ _ hlt).mono ?_; rintro e w2 ⟨rfl, HB2⟩))
  go_ret
  exact ⟨rfl, below_trans HB HB2⟩

/-- A sealed text opened: it, and the error's number. -/
def opened (l : List UInt8) : List UInt8 × Nat :=
  if l.length < 4 then ([], 2) else if l.drop (l.length - 4) = four (crc (l.take (l.length - 4))) then (l.take (l.length - 4), 0) else ([], 7)
set_option maxRecDepth 100000 in
set_option maxHeartbeats 400000 in
theorem open_any (s : ByteArray) (w : World) (hs : s.size ≤ 140737488351232) :
    Calls Try.prog 116 #[.string s] w fun e w' => e = .returned (.tuple #[.string (str (opened s.data.toList).1), .int .i64 ((opened s.data.toList).2 : Nat)]) ∧ Below w.heap.size w w' := by
  unfold opened
  rw [list_size]
  by_cases h4 : s.size < 4
  · rw [if_pos h4]
    go_enter Try.func116, Try.ntmps116
    go_wp2
    go_ret2
    exact ⟨rfl, Below.refl _ _⟩
  · rw [if_neg h4]
    have hn : ((s.size : Int) - 4).toNat = s.size - 4 := by omega
    have e0 : s.extract 0 (s.size - 4) = str (s.data.toList.take (s.size - 4)) := by rw [extract_str]; rfl
    have e1 : (s.extract (s.size - 4) s.size).data.toList = s.data.toList.drop (s.size - 4) := by
      rw [extract_str, str_list, List.take_of_length_le (by rw [list_size]; exact Nat.le_refl _)]
    by_cases he : s.data.toList.drop (s.size - 4) = four (crc (s.data.toList.take (s.size - 4)))
    · rw [if_pos he]
      have ht : ((s.extract (s.size - 4) s.size).toList == (str (four (crc (s.data.toList.take (s.size - 4))))).toList) = true := str_eq (by rw [e1, he, str_list])
      have E0 := Lib.hid e0
      clear he e0 e1
      go_enter Try.func116, Try.ntmps116
      go_upto_region 4 with (fail)
      go_region_with (first | (go_at_call 30; refine (sum_any _ _ (extract_le _ _ hs)).mono ?_; rintro e w1 ⟨rfl, HB1⟩) | (go_at_call 138; refine (bytes_any _ _ (crc_lt _)).mono ?_; rintro e w2 ⟨rfl, HB2⟩))
      all_goals go_wp2
      all_goals go_ret2
      all_goals exact ⟨by rw [← E0.out]; rfl, below_trans (below_of_drew HB1) HB2⟩
    · rw [if_neg he]
      have ht : ((s.extract (s.size - 4) s.size).toList == (str (four (crc (s.data.toList.take (s.size - 4))))).toList) = false := str_ne (by rw [e1, str_list]; exact he)
      have E0 := Lib.hid e0
      clear he e0 e1
      go_enter Try.func116, Try.ntmps116
      go_upto_region 4 with (fail)
      go_region_with (first | (go_at_call 30; refine (sum_any _ _ (extract_le _ _ hs)).mono ?_; rintro e w1 ⟨rfl, HB1⟩) | (go_at_call 138; refine (bytes_any _ _ (crc_lt _)).mono ?_; rintro e w2 ⟨rfl, HB2⟩))
      all_goals go_wp2
      all_goals go_ret2
      all_goals exact ⟨rfl, below_trans (below_of_drew HB1) HB2⟩
end Go.Proofs.Ytmlemichkeomjaa.CrcW

/- Frames and single records, walked. -/
set_option linter.unusedVariables false
set_option linter.unusedSimpArgs false
namespace Go.Proofs.Ytmlemichkeomjaa.JrnW
open Go.RowKit Go.Proofs.Ytmlemichkeomjaa.Base Go.Proofs.Ytmlemichkeomjaa.TapeP Go.Proofs.Ytmlemichkeomjaa.TapeW Go.Proofs.Ytmlemichkeomjaa.CrcP Go.Proofs.Ytmlemichkeomjaa.CrcW Go.Proofs.Ytmlemichkeomjaa.JrnP

theorem text_size (s : ByteArray) (h : s.size ≤ 1048576) : (text s.data.toList).length ≤ s.size + 8 := text_length s (by omega)
set_option maxRecDepth 100000 in
set_option maxHeartbeats 1000000 in
theorem frame_in (s : ByteArray) (w : World) (hs : s.size ≤ 1048576) :
    Calls Try.prog 72 #[.string s] w fun e w' => e = .returned (.tuple #[.string (str (frame s.data.toList)), .int .i64 0]) ∧ Below w.heap.size w w' := by
  have HB : Below w.heap.size w w := Below.refl _ _
  have ht := text_size s hs
  have h1 : (str (text s.data.toList)).size ≤ 140737488351232 := by rw [str_size]; omega
  go_enter Try.func72, Try.ntmps72
  go_wp2_with (first | (go_at_call 73; (with_reducible refine (text_any _ _ (by omega)).mono ?_); rintro e w2 ⟨rfl, hd⟩; (first | replace HB := bt HB HB.size hd | replace HB := bt_drew HB HB.size hd | replace HB := bt_drewN HB HB.size hd); clear hd) | (go_at_call 114; refine (seal_any _ _ h1).mono ?_; rintro e w2 ⟨rfl, hd⟩; (first | replace HB := bt HB HB.size hd | replace HB := bt_drew HB HB.size hd | replace HB := bt_drewN HB HB.size hd); clear hd))
  go_ret2
  exact ⟨rfl, HB⟩
set_option maxRecDepth 100000 in
set_option maxHeartbeats 1000000 in
theorem frame_out (s : ByteArray) (w : World) (hs : 1048576 < s.size) (hs2 : s.size ≤ 140737488351232) :
    Calls Try.prog 72 #[.string s] w fun e w' => e = .returned (.tuple #[.string (str []), .int .i64 3]) ∧ Below w.heap.size w w' := by
  go_enter Try.func72, Try.ntmps72
  go_wp2
  go_ret2
  exact ⟨rfl, Below.refl _ _⟩

theorem left_is (b : Nat) (s : ByteArray) (p L : Nat) (w : World) (hT : TapeAt w b s p) (hL : s.size = p + L) :
    Calls Try.prog 79 #[.pointer (some ⟨b, 0, none⟩)] w fun e w' => e = .returned (.int .i64 (L : Nat)) ∧ Drawn w w' := by
  have h := left_any b s p w hT
  have e : (s.size : Int) - p = ((L : Nat) : Int) := by omega
  rwa [e] at h
set_option maxRecDepth 100000 in
set_option maxHeartbeats 1000000 in
/-- No text of so many bytes: no record. -/
theorem one_bad (s : ByteArray) (w : World) (hs : s.size ≤ 140737488351232) {n i er : Nat} (hp : pk (s.data.toList.drop 0) = (n, i, er)) (hbad : er ≠ 0 ∨ 1048576 < n ∨ s.size < i + n) :
    Calls Try.prog 74 #[.string s] w fun e w' => e = .returned (.tuple #[.string (str []), .int .i64 0]) ∧ Below w.heap.size w w' := by
  have HB : Below w.heap.size w w := Below.refl _ _
  have key : ∃ er' : Nat, er' ≠ 0 ∧ ∀ b W, TapeAt W b s 0 → Calls Try.prog 115 #[.pointer (some ⟨b, 0, none⟩), .int .i64 1048576] W fun e w' => e = .returned (.tuple #[.string (str []), .int .i64 (er' : Nat)]) ∧ Drawn W w' := by
    by_cases h1 : er = 0
    · subst h1
      by_cases h2 : 1048576 < n
      · exact ⟨3, by omega, fun b W hT => ttext_large b s 0 1048576 W hT hp (by omega)⟩
      · exact ⟨2, by omega, fun b W hT => ttext_short b s 0 1048576 W hT hp (by omega) (by omega)⟩
    · exact ⟨er, h1, fun b W hT => ttext_err b s 0 1048576 W hT hp h1⟩
  obtain ⟨er', he, key⟩ := key
  have HK := Lib.hid key
  have h0 : (((er' : Nat) : Int) != 0) = true := int_bne (by omega)
  clear key hp hbad he
  go_enter Try.func74, Try.ntmps74
  go_wp2_with (go_at_call 42; (with_reducible refine (new_tape s _ hs).mono ?_); rintro e w1 ⟨b, rfl, hT, hb, hd⟩; replace HB := HB.trans (hd.mono HB.size); clear hd)
  refine (HK.out b _ hT).mono ?_
  rintro e w2 ⟨rfl, hd⟩
  replace hT := hT.drawn hd
  replace HB := HB.trans (hd.below (B := w.heap.size))
  clear hd HK
  go_wp2_with (go_at_call 79; (with_reducible refine (left_any _ _ _ _ hT).mono ?_); rintro e w3 ⟨rfl, hd⟩; replace HB := HB.trans (hd.below (B := w.heap.size)); clear hd)
  all_goals (go_ret2; exact ⟨rfl, HB⟩)
set_option maxRecDepth 100000 in
set_option maxHeartbeats 1000000 in
theorem one_good (s : ByteArray) (w : World) (hs : s.size ≤ 140737488351232) {n i : Nat} (hp : pk (s.data.toList.drop 0) = (n, i, 0)) (h1 : n ≤ 1048576) (h2 : i + n ≤ s.size) (r : List UInt8 × Nat)
    (hr : r = if s.size < i + n + 4 then ([], 0) else if (s.data.toList.drop (i + n)).take 4 = four (crc (s.data.toList.take (i + n))) then ((s.data.toList.drop i).take n, i + n + 4) else ([], 0)) :
    Calls Try.prog 74 #[.string s] w fun e w' => e = .returned (.tuple #[.string (str r.1), .int .i64 (r.2 : Nat)]) ∧ Below w.heap.size w w' := by
  have HB : Below w.heap.size w w := Below.refl _ _
  have HP := Lib.hid hp
  clear hp
  by_cases h3 : s.size < i + n + 4
  · rw [if_pos h3] at hr
    subst hr
    go_enter Try.func74, Try.ntmps74
    go_wp2_with (go_at_call 42; (with_reducible refine (new_tape s _ hs).mono ?_); rintro e w1 ⟨b, rfl, hT, hb, hd⟩; replace HB := HB.trans (hd.mono HB.size); clear hd)
    refine (ttext_ok b s 0 1048576 _ hT HP.out (by omega) (by omega)).mono ?_
    rintro e w2 ⟨rfl, hd⟩
    replace hT := hd.tape
    replace HB := HB.trans (hd.only.below (B := w.heap.size) hb HB.size)
    obtain ⟨L, hL⟩ : ∃ L : Nat, s.size = 0 + i + n + L := ⟨s.size - (i + n), by omega⟩
    have hz : (s.size : Int) - (L : Int) = (i : Int) + n := by omega
    have HL := Lib.hid hL
    clear hd HP hL
    go_wp2_with (go_at_call 79; (with_reducible refine (left_is _ _ _ L _ hT HL.out).mono ?_); rintro e w3 ⟨rfl, hd⟩; replace HB := HB.trans (hd.below (B := w.heap.size)); clear hd)
    all_goals (go_ret2; exact ⟨rfl, HB⟩)
  · rw [if_neg h3] at hr
    have hex : (s.extract 0 (i + n + 4)).data.toList = s.data.toList.take (i + n + 4) := by rw [extract_str, str_list]; rfl
    have hlen : (s.data.toList.take (i + n + 4)).length = i + n + 4 := by rw [List.length_take, list_size]; omega
    have hop : opened (s.extract 0 (i + n + 4)).data.toList = if (s.data.toList.drop (i + n)).take 4 = four (crc (s.data.toList.take (i + n))) then (s.data.toList.take (i + n), 0) else ([], 7) := by
      unfold opened
      rw [hex, hlen, if_neg (by omega)]
      have e1 : i + n + 4 - 4 = i + n := by omega
      rw [e1, List.drop_take, List.take_take]
      have e2 : i + n + 4 - (i + n) = 4 := by omega
      have e3 : min (i + n) (i + n + 4) = i + n := by omega
      rw [e2, e3]
    have hes : (s.extract 0 (i + n + 4)).size ≤ 140737488351232 := extract_le _ _ hs
    have htn : ((i : Int) + n + 4).toNat = i + n + 4 := by omega
    by_cases h4 : (s.data.toList.drop (i + n)).take 4 = four (crc (s.data.toList.take (i + n)))
    · rw [if_pos h4] at hr hop
      subst hr
      have HO := Lib.hid hop
      clear hop h4 hex hlen
      go_enter Try.func74, Try.ntmps74
      go_wp2_with (go_at_call 42; (with_reducible refine (new_tape s _ hs).mono ?_); rintro e w1 ⟨b, rfl, hT, hb, hd⟩; replace HB := HB.trans (hd.mono HB.size); clear hd)
      refine (ttext_ok b s 0 1048576 _ hT HP.out (by omega) (by omega)).mono ?_
      rintro e w2 ⟨rfl, hd⟩
      replace hT := hd.tape
      replace HB := HB.trans (hd.only.below (B := w.heap.size) hb HB.size)
      obtain ⟨L, hL⟩ : ∃ L : Nat, s.size = 0 + i + n + L := ⟨s.size - (i + n), by omega⟩
      have hz : (s.size : Int) - (L : Int) = (i : Int) + n := by omega
      have HL := Lib.hid hL
      clear hd HP hL
      go_wp2_with (first | (go_at_call 79; (with_reducible refine (left_is _ _ _ L _ hT HL.out).mono ?_); rintro e w3 ⟨rfl, hd⟩; replace HB := HB.trans (hd.below (B := w.heap.size)); clear hd) | (go_at_call 116; refine (open_any _ _ hes).mono ?_; rw [HO.out]; rintro e w2 ⟨rfl, hd⟩; (first | replace HB := bt HB HB.size hd | replace HB := bt_drew HB HB.size hd | replace HB := bt_drewN HB HB.size hd); clear hd))
      all_goals (go_ret2; exact ⟨rfl, HB⟩)
    · rw [if_neg h4] at hr hop
      subst hr
      have HO := Lib.hid hop
      clear hop h4 hex hlen
      go_enter Try.func74, Try.ntmps74
      go_wp2_with (go_at_call 42; (with_reducible refine (new_tape s _ hs).mono ?_); rintro e w1 ⟨b, rfl, hT, hb, hd⟩; replace HB := HB.trans (hd.mono HB.size); clear hd)
      refine (ttext_ok b s 0 1048576 _ hT HP.out (by omega) (by omega)).mono ?_
      rintro e w2 ⟨rfl, hd⟩
      replace hT := hd.tape
      replace HB := HB.trans (hd.only.below (B := w.heap.size) hb HB.size)
      obtain ⟨L, hL⟩ : ∃ L : Nat, s.size = 0 + i + n + L := ⟨s.size - (i + n), by omega⟩
      have hz : (s.size : Int) - (L : Int) = (i : Int) + n := by omega
      have HL := Lib.hid hL
      clear hd HP hL
      go_wp2_with (first | (go_at_call 79; (with_reducible refine (left_is _ _ _ L _ hT HL.out).mono ?_); rintro e w3 ⟨rfl, hd⟩; replace HB := HB.trans (hd.below (B := w.heap.size)); clear hd) | (go_at_call 116; refine (open_any _ _ hes).mono ?_; rw [HO.out]; rintro e w2 ⟨rfl, hd⟩; (first | replace HB := bt HB HB.size hd | replace HB := bt_drew HB HB.size hd | replace HB := bt_drewN HB HB.size hd); clear hd))
      all_goals (go_ret2; exact ⟨rfl, HB⟩)
theorem one_any (s : ByteArray) (w : World) (hs : s.size ≤ 140737488351232) :
    Calls Try.prog 74 #[.string s] w fun e w' => e = .returned (.tuple #[.string (str (one1 s.data.toList).1), .int .i64 ((one1 s.data.toList).2 : Nat)]) ∧ Below w.heap.size w w' := by
  obtain ⟨n, i, er, hp⟩ : ∃ n i er, pk (s.data.toList.drop 0) = (n, i, er) := ⟨_, _, _, rfl⟩
  have hp0 : pk s.data.toList = (n, i, er) := hp
  by_cases hb : er ≠ 0 ∨ 1048576 < n ∨ s.size < i + n
  · have : one1 s.data.toList = ([], 0) := by
      unfold one1
      rw [hp0]
      dsimp only
      rw [if_pos (by rw [list_size]; omega)]
    rw [this]
    exact one_bad s w hs hp hb
  · have her : er = 0 := by omega
    subst her
    refine one_good s w hs hp (by omega) (by omega) _ ?_
    unfold one1
    rw [hp0]
    dsimp only
    rw [list_size]
    by_cases h4 : s.size < i + n + 4
    · rw [if_pos h4, if_pos (by omega)]
    · rw [if_neg h4, if_neg (by omega)]
end Go.Proofs.Ytmlemichkeomjaa.JrnW

/- A strings.Builder of one's own that holds nothing, read. -/
set_option linter.unusedVariables false
set_option linter.unusedSimpArgs false
namespace Go.Proofs.Ytmlemichkeomjaa.BuildW
open Go.RowKit Go.Proofs.Ytmlemichkeomjaa.Base

set_option maxRecDepth 100000 in
set_option maxHeartbeats 1000000 in
theorem string_none (B b : Nat) (w : World) (h : Lib.IsBuilder 180 5 B b (bv []) w) (hB : B ≤ w.heap.size) :
    Calls Try.prog 106 #[.pointer (some ⟨b, 0, none⟩)] w fun e w' => e = .returned (.string (str [])) ∧ Below B w w' := by
  obtain ⟨p, hBb, v, hbk, hown, hne⟩ : ∃ p, Lib.BuilderAt 180 5 B b p (bv []) w := by
    rcases h with h | h
    · exact ⟨_, h⟩
    · exact ⟨_, h⟩
  have c1 : w.drew.cell? ⟨b, 1, none⟩ = some v := by
    have : w.drew.heap[b]? = some (.cells #[p, v] 180 (0, 0)) := hbk
    rw [Lib.cell_of_heap this]; rfl
  rw [show (bv []).length = 0 from rfl] at hown
  have hUS : ∀ (q : Option Addr) (W : World), (Builtin.unsafeString_ #[212, 3] 9 #[.pointer q, .int .i64 0]).run Try.prog W = .ok (.string .empty) W := fun q W => Lib.run_unsafeString_none (w := W) _ _ _ q
  rcases hown.2 with ⟨rfl, _⟩ | ⟨g, cap, cur, rfl, hbg, hg, hnc, hcm, hcs, htake⟩
  · have hSD : ∀ W : World, (Builtin.unsafeSliceData_ #[70] 212 #[.slice none 0 0]).run Try.prog W = .ok (.pointer none) W := fun W => Lib.run_unsafeSliceData_nil (w := W) _ _ 0 0
    go_enter Try.func106, Try.ntmps106
    go_wp2
    go_region
    all_goals (go_wp2; go_ret; exact ⟨rfl, Below.drew (Below.refl B w)⟩)
  · by_cases hc0 : cap = 0
    · subst hc0
      have hSD := Lib.run_unsafeSliceData_zero (P := Try.prog) (w := w.drew) #[70] 212 5 Try.underlying212 ⟨g, 0, none⟩ 0 (5, cur.size) (by have hg' : w.drew.heap[g]? = some (.cells cur 5 (0, 0)) := hg; simp [World.shape?, hg'])
      have c2 : (w.alloc (.view ⟨g, 0, none⟩ 5)).cell? ⟨b, 1, none⟩ = some (.slice (some ⟨g, 0, none⟩) 0 0) := by
        have hlt : b < w.heap.size := by
          rcases Nat.lt_or_ge b w.heap.size with h' | h'
          · exact h'
          · simp [Array.getElem?_eq_none h'] at hbk
        have : (w.alloc (.view ⟨g, 0, none⟩ 5)).heap[b]? = some (.cells #[p, .slice (some ⟨g, 0, none⟩) 0 0] 180 (0, 0)) := (heap_alloc_old _ _ hlt).trans hbk
        rw [Lib.cell_of_heap this]; rfl
      go_enter Try.func106, Try.ntmps106
      go_wp2
      go_region
      all_goals (go_wp2; go_ret; exact ⟨rfl, (Below.drew (Below.refl B w)).alloc hB _⟩)
    · have hSD := Lib.run_unsafeSliceData_row (P := Try.prog) (w := w.drew) #[70] 212 ⟨g, 0, none⟩ 0 cap hc0
      go_enter Try.func106, Try.ntmps106
      go_wp2
      go_region
      all_goals (go_wp2; go_ret; exact ⟨rfl, Below.drew (Below.refl B w)⟩)
/-- String, of whatever it holds. -/
theorem string_all (B b : Nat) (l : List UInt8) (w : World) (h : Lib.IsBuilder 180 5 B b (bv l) w) (hB : B ≤ w.heap.size) :
    Calls Try.prog 106 #[.pointer (some ⟨b, 0, none⟩)] w fun e w' => e = .returned (.string (str l)) ∧ Below B w w' := by
  by_cases h0 : l = []
  · subst h0; exact string_none B b w h hB
  · exact string_any B b l w h h0
end Go.Proofs.Ytmlemichkeomjaa.BuildW

/- Journals read, opened, appended to, laid down: walked. -/
set_option linter.unusedVariables false
set_option linter.unusedSimpArgs false
namespace Go.Proofs.Ytmlemichkeomjaa.JrnW
open Go.RowKit Go.Proofs.Ytmlemichkeomjaa.Base Go.Proofs.Ytmlemichkeomjaa.TapeP Go.Proofs.Ytmlemichkeomjaa.TapeW Go.Proofs.Ytmlemichkeomjaa.CrcP Go.Proofs.Ytmlemichkeomjaa.CrcW Go.Proofs.Ytmlemichkeomjaa.JrnP Go.Proofs.Ytmlemichkeomjaa.BuildW

/-- Strings as values. -/
def sv (ss : List ByteArray) : List Value := ss.map Value.string
theorem sv_length (ss : List ByteArray) : (sv ss).length = ss.length := by simp [sv]
theorem sv_append (l m : List ByteArray) : sv (l ++ m) = sv l ++ sv m := by simp [sv]
theorem info_str : (Try.prog.info? 9).map (fun i => (i.zero, i.size, i.bytes)) = some (some (.string (str [])), 1, 16) := by kernel_rfl
/-- What is owned is read. -/
theorem own_strs {w : World} {base e n : Nat} {v : Value} {ss : List ByteArray} (h : w.ownsRow base e 1 v n (sv ss)) : ∃ A c, v = .slice A n c ∧ Strs w A n ss := by
  have hl : ss.length = n := by have := h.1; rw [sv_length] at this; omega
  rcases h.2 with ⟨rfl, h0⟩ | ⟨g, cap, cur, rfl, _⟩
  · have : ss = [] := List.eq_nil_of_length_eq_zero (by omega)
    subst this
    exact ⟨none, 0, by rw [h0], by rw [h0]; exact Strs.nil _ _⟩
  · refine ⟨_, cap, rfl, hl, ?_⟩
    by_cases h0 : n = 0
    · exact .inl h0
    · refine .inr ⟨g, 0, rfl, fun j hj => ?_⟩
      have hc := h.cells (g := g) rfl j (.string ss[j]) (by simp [sv, hj])
      have ha : (⟨g, 0, none⟩ : Addr).add j = ⟨g, 0 + j, none⟩ := by unfold Addr.add; split <;> simp_all
      rw [ha] at hc
      exact hc
theorem map_snoc (l : List (List UInt8)) (x : List UInt8) : sv ((l ++ [x]).map str) = sv (l.map str) ++ [Value.string (str x)] := by simp [sv]

set_option maxRecDepth 100000 in
set_option maxHeartbeats 1000000 in
theorem read_any (s : ByteArray) (w : World) (hs : s.size ≤ 1000000000) :
    Calls Try.prog 37 #[.string s] w fun e w' => ∃ v, e = .returned (.tuple #[v, .int .i64 ((recs s.data.toList).2 : Nat)]) ∧ w'.ownsRow w.heap.size 9 1 v (recs s.data.toList).1.length (sv ((recs s.data.toList).1.map str)) ∧ Below w.heap.size w w' := by
  go_enter Try.func37, Try.ntmps37
  go_wp2
  refine wp_scope_loop 0 (fun a' wr => ∃ (p : Nat) (acc : List (List UInt8)) (v : Value) (u1 u6 u7 u8 u9 u10 u11 u12 u13 u14 u15 u16 u17 u18 u19 u20 u21 u22 u23 u24 u25 : Value), p ≤ s.size ∧ recs s.data.toList = (acc ++ (recs (s.data.toList.drop p)).1, p + (recs (s.data.toList.drop p)).2) ∧ acc.length ≤ p ∧ wr.ownsRow w.heap.size 9 1 v acc.length (sv (acc.map str)) ∧ Below w.heap.size w wr ∧ a' = { tmps := #[.string s, u1, .slice none 0 0, .int .i64 0, v, .int .i64 p, u6, u7, u8, u9, u10, u11, u12, u13, u14, u15, u16, u17, u18, u19, u20, u21, u22, u23, u24, u25], defers := [] }) (fun a' _ => s.size - (intOf (a'.tmps.getD 5 undef)).toNat) rfl ?_ ?_
  · intro hloop
    go_wp2
    go_step3
    go_step
    go_step
    exact hloop _ _ ⟨0, [], _, _, _, _, _, _, _, _, _, _, _, _, _, _, _, _, _, _, _, _, _, _, by omega, by rw [List.drop_zero, List.nil_append, Nat.zero_add], by simp, own_none _ _ _ _, Below.refl _ _, rfl⟩
  · rintro a' wr ⟨p, acc, v, u1, u6, u7, u8, u9, u10, u11, u12, u13, u14, u15, u16, u17, u18, u19, u20, u21, u22, u23, u24, u25, hp, hrec, hlen, HO, HB, rfl⟩
    have hex : (s.extract p s.size).data.toList = s.data.toList.drop p := by rw [extract_str, str_list, List.take_of_length_le (by rw [list_size]; exact Nat.le_refl _)]
    have hes : (s.extract p s.size).size ≤ 140737488351232 := extract_le _ _ (by omega)
    have hon := one_any (s.extract p s.size) wr hes
    rw [hex] at hon
    have hole := one1_le (s.data.toList.drop p)
    rw [List.length_drop, list_size] at hole
    by_cases h0 : (one1 (s.data.toList.drop p)).2 = 0
    · rw [recs_none h0] at hrec
      rw [h0] at hon
      have HR := Lib.hid hrec
      have HN := Lib.hid hon
      clear hrec hon h0 hole hex
      go_wp2_with fail
      refine HN.out.mono ?_
      rintro e w2 ⟨rfl, hd⟩
      replace HO := own_below HO hd
      (first | replace HB := bt HB HB.size hd | replace HB := bt_drew HB HB.size hd | replace HB := bt_drewN HB HB.size hd); clear hd
      go_wp2
      all_goals simp only [Exit.jump]
      go_ret2
      refine ⟨_, by rw [HR.out]; rfl, ?_, HB⟩
      rw [HR.out, List.append_nil]
      exact HO
    · have hpos : 0 < (one1 (s.data.toList.drop p)).2 := by omega
      have hnx : recs s.data.toList = ((acc ++ [(one1 (s.data.toList.drop p)).1]) ++ (recs (s.data.toList.drop (p + (one1 (s.data.toList.drop p)).2))).1, (p + (one1 (s.data.toList.drop p)).2) + (recs (s.data.toList.drop (p + (one1 (s.data.toList.drop p)).2))).2) := by
        rw [hrec, recs_some h0, List.drop_drop, List.append_assoc, Nat.add_assoc]
        rfl
      generalize one1 (s.data.toList.drop p) = o at hon hnx hpos hole h0
      obtain ⟨x, k⟩ := o
      dsimp only at hon hnx hpos hole h0
      have HR := Lib.hid hnx
      have HN := Lib.hid hon
      clear hrec hon h0 hex hnx
      go_wp2_with fail
      refine HN.out.mono ?_
      rintro e w2 ⟨rfl, hd⟩
      replace HO := own_below HO hd
      (first | replace HB := bt HB HB.size hd | replace HB := bt_drew HB HB.size hd | replace HB := bt_drewN HB HB.size hd); clear hd
      have hl2 : (sv (acc.map str)).length = acc.length := by rw [sv_length, List.length_map]
      have HL2 := Lib.hid hl2
      clear hl2 HN
      go_wp2_with (at_builtin; refine app_one w.heap.size rfl (.tmp 17) (.tmp 19) 40 9 (.string (str [])) 16 rfl Try.underlying40 info_str rfl (by omega) _ _ _ acc.length HL2.out rfl rfl rfl HO HB HB.size (by omega) ?_; intro v1 w3 HO1 HB1 hg1)
      go_step3
      refine ⟨rfl, ⟨p + k, acc ++ [x], _, _, _, _, _, _, _, _, _, _, _, _, _, _, _, _, _, _, _, _, _, _, by omega, HR.out, by rw [List.length_append]; simp only [List.length_cons, List.length_nil]; omega, by rw [map_snoc, List.length_append]; exact HO1, HB1, rfl⟩, ?_⟩
      simp [intOf]; omega
end Go.Proofs.Ytmlemichkeomjaa.JrnW

/- Journals: opened, appended to: walked. -/
set_option linter.unusedVariables false
set_option linter.unusedSimpArgs false
namespace Go.Proofs.Ytmlemichkeomjaa.JrnW
open Go.RowKit Go.Proofs.Ytmlemichkeomjaa.Base Go.Proofs.Ytmlemichkeomjaa.TapeP Go.Proofs.Ytmlemichkeomjaa.TapeW Go.Proofs.Ytmlemichkeomjaa.CrcP Go.Proofs.Ytmlemichkeomjaa.CrcW Go.Proofs.Ytmlemichkeomjaa.JrnP Go.Proofs.Ytmlemichkeomjaa.BuildW

/-- A journal in block b: its records. -/
structure JAt (w : World) (base b : Nat) (ss : List ByteArray) : Prop where
  ex : ∃ v, w.heap[b]? = some (.cells #[v] 139 (0, 0)) ∧ w.ownsRow base 9 1 v ss.length (sv ss)
  lo : base ≤ b
  small : ∀ s, s ∈ ss → s.size ≤ 1048576
theorem JAt.lt {w : World} {base b : Nat} {ss : List ByteArray} (h : JAt w base b ss) : b < w.heap.size := by
  obtain ⟨v, hb, _⟩ := h.ex
  rcases Nat.lt_or_ge b w.heap.size with h' | h'
  · exact h'
  · simp [Array.getElem?_eq_none h'] at hb
theorem JAt.below {w w' : World} {base b : Nat} {ss : List ByteArray} (h : JAt w base b ss) (hb : Below w.heap.size w w') : JAt w' base b ss := by
  obtain ⟨v, h1, h2⟩ := h.ex
  exact ⟨⟨v, (hb.block b h.lt).trans h1, own_below h2 hb⟩, h.lo, h.small⟩
theorem recs_small (s : ByteArray) : ∀ x, x ∈ (recs s.data.toList).1.map str → x.size ≤ 1048576 := by
  intro x hx
  obtain ⟨l, hl, rfl⟩ := List.mem_map.1 hx
  rw [str_size]
  exact (recs_facts s.data.toList).2.2 l hl

set_option maxRecDepth 100000 in
set_option maxHeartbeats 1000000 in
theorem jopen_any (s : ByteArray) (w : World) (hs : s.size ≤ 1000000000) :
    Calls Try.prog 34 #[.string s] w fun e w' => ∃ b, e = .returned (.pointer (some ⟨b, 0, none⟩)) ∧ JAt w' w.heap.size b ((recs s.data.toList).1.map str) ∧ Below w.heap.size w w' := by
  go_enter Try.func34, Try.ntmps34
  go_wp2_with fail
  refine (read_any _ _ hs).mono ?_
  rintro e w2 ⟨v, rfl, HO, hd⟩
  have HO' := HO
  rw [show (recs s.data.toList).1.length = ((recs s.data.toList).1.map str).length from (List.length_map _).symm] at HO'
  obtain ⟨A, c, rfl, _⟩ := own_strs HO'
  clear HO'
  go_wp2
  go_ret
  have HO2 := HO.alloc (.cells #[.slice A (recs s.data.toList).1.length c] 139)
  refine ⟨_, rfl, ⟨⟨_, heap_alloc_new _ _, ?_⟩, hd.size, recs_small s⟩, hd.alloc hd.size _⟩
  rw [List.length_map] at HO2 ⊢
  exact HO2
theorem own_set {w : World} {base e n b j : Nat} {v u : Value} {xs : List Value} {cs : Array Value} {T : TypeId} {fr : Nat × Nat} (h : w.ownsRow base e 1 v n xs) (hb : w.heap[b]? = some (.cells cs T fr)) (hT : T ≠ e) : (w.setCell ⟨b, j, none⟩ u).ownsRow base e 1 v n xs := by
  obtain ⟨hl, h0 | ⟨g, cap, cur, hv, hB, hh, r⟩⟩ := h
  · exact ⟨hl, .inl h0⟩
  · refine ⟨hl, .inr ⟨g, cap, cur, hv, hB, ?_, r⟩⟩
    rw [← hh]
    refine Below.heap_setCell _ _ _ _ ?_
    intro hne
    have hne2 : g = b := by first | exact hne | exact hne.symm
    rw [hne2, hb] at hh
    simp at hh
    exact hT hh.2.1
theorem app_facts {w2 w3 : World} {base b : Nat} {ss : List ByteArray} {s : ByteArray} {v v1 : Value} (HO : w2.ownsRow base 9 1 v ss.length (sv ss)) (hb : w2.heap[b]? = some (.cells #[v] 139 (0, 0))) (hlt : b < w2.heap.size)
    (HO1 : w3.ownsRow base 9 1 v1 (ss.length + 1) (sv ss ++ [Value.string s])) (hg : w2.grownBy w3 v.ownBlock) :
    ∃ A1 c1, v1 = .slice A1 (ss.length + 1) c1 ∧ w3.heap[b]? = some (.cells #[v] 139 (0, 0)) ∧ w3.cell? ⟨b, 0, none⟩ = some v ∧ w3.frozen? ⟨b, 0, none⟩ = false := by
  have e : sv ss ++ [Value.string s] = sv (ss ++ [s]) := (sv_append ss [s]).symm
  rw [e] at HO1
  obtain ⟨A1, c1, rfl, _⟩ := own_strs HO1
  have hb3 : w3.heap[b]? = some (.cells #[v] 139 (0, 0)) := (hg.block b hlt (fun e => Lib.ownBlock_ne HO hb (by decide) e.symm)).trans hb
  exact ⟨A1, c1, rfl, hb3, by rw [cell_of_row _ _ _ _ _ _ hb3]; rfl, frozen_of_row _ _ _ _ _ hb3⟩
set_option maxRecDepth 100000 in
set_option maxHeartbeats 1000000 in
theorem append_ok (base b : Nat) (ss : List ByteArray) (s : ByteArray) (w w0 : World) (hJ : JAt w base b ss) (hs : s.size ≤ 1048576) (hl : ss.length ≤ 1000000) (HB : Below base w0 w) (hbase : base ≤ w.heap.size) :
    Calls Try.prog 35 #[.pointer (some ⟨b, 0, none⟩), .string s] w fun e w' => e = .returned (.int .i64 0) ∧ JAt w' base b (ss ++ [s]) ∧ Below base w0 w' ∧ base ≤ w'.heap.size ∧ ∀ v, w.heap[b]? = some (.cells #[v] 139 (0, 0)) → ∀ k, k < w.heap.size → k ≠ b → v.ownBlock ≠ some k → w'.heap[k]? = w.heap[k]? := by
  have hltw := hJ.lt
  go_enter Try.func35, Try.ntmps35
  go_wp2_with fail
  refine (frame_in _ _ hs).mono ?_
  rintro e w2 ⟨rfl, hd⟩
  replace hJ := hJ.below hd
  replace HB := HB.trans (hd.mono hbase)
  have hbase2 : base ≤ w2.heap.size := by have := hd.size; omega
  obtain ⟨v, hb, HO⟩ := hJ.ex
  have c0 : w2.cell? ⟨b, 0, none⟩ = some v := by rw [cell_of_row _ _ _ _ _ _ hb]; rfl
  have f0 : w2.frozen? ⟨b, 0, none⟩ = false := frozen_of_row _ _ _ _ _ hb
  have hkeep : ∀ v', w.heap[b]? = some (.cells #[v'] 139 (0, 0)) → v' = v := fun v' h' => by
    have h1 := (hd.block b hltw).trans h'
    rw [hb] at h1
    simpa using h1.symm
  have HKP := Lib.hid hkeep
  have HDD := Lib.hid hd
  clear hkeep
  have hx : ∀ x, x ∈ ss ++ [s] → x.size ≤ 1048576 := fun x hx => by
    rcases List.mem_append.1 hx with h | h
    · exact hJ.small x h
    · rw [List.mem_singleton.1 h]; exact hs
  have hlo := hJ.lo
  have hlt := hJ.lt
  have HX := Lib.hid hx
  have HBB := Lib.hid hb
  clear hJ hb hd hx
  have HS : (sv ss).length = ss.length := sv_length ss
  have HS2 := Lib.hid HS
  clear HS
  obtain ⟨A, c, rfl, _⟩ := own_strs HO
  go_wp2_with (at_builtin; refine app_one base rfl (.tmp 21) (.tmp 23) 40 9 (.string (str [])) 16 rfl Try.underlying40 info_str rfl (by omega) _ _ _ ss.length HS2.out rfl rfl rfl HO HB hbase2 (by omega) ?_; intro v1 w3 HO1 HB1 hg1; obtain ⟨A1, c1, rfl, hb3, c3, f3⟩ := app_facts HO HBB.out hlt HO1 hg1)
  go_ret
  have HO3 := own_set (j := 0) (u := .slice A1 (ss.length + 1) c1) HO1 hb3 (by decide)
  have hb4 : (w3.setCell ⟨b, 0, none⟩ (.slice A1 (ss.length + 1) c1)).heap[b]? = some (.cells #[.slice A1 (ss.length + 1) c1] 139 (0, 0)) := by
    rw [heap_setCell_same _ _ _ _ _ _ hb3]; rfl
  refine ⟨rfl, ⟨⟨_, hb4, ?_⟩, hlo, HX.out⟩, HB1.setCell (p := ⟨b, 0, none⟩) hlo _, ?_, ?_⟩
  · rw [sv_append, List.length_append]; exact HO3
  · have h1 : (w3.setCell ⟨b, 0, none⟩ (.slice A1 (ss.length + 1) c1)).heap.size = w3.heap.size := by simp [World.setCell]
    have h2 := hg1.size
    simp only [World.setCell] at h1 ⊢
    omega
  · intro v' hv' k hk hkb hkv
    have e := HKP.out v' hv'
    subst e
    rw [Below.heap_setCell _ _ _ k (by intro h; first | exact hkb h | exact hkb h.symm)]
    refine (hg1.block k (by have := HDD.out.size; omega) (fun h => hkv h.symm)).trans (HDD.out.block k hk)
set_option maxRecDepth 100000 in
set_option maxHeartbeats 1000000 in
theorem append_out (base b : Nat) (ss : List ByteArray) (s : ByteArray) (w : World) (hs : 1048576 < s.size) (hs2 : s.size ≤ 140737488351232) :
    Calls Try.prog 35 #[.pointer (some ⟨b, 0, none⟩), .string s] w fun e w' => e = .returned (.int .i64 3) ∧ Below w.heap.size w w' := by
  go_enter Try.func35, Try.ntmps35
  go_wp2_with (go_at_call 72; (with_reducible refine (frame_out _ _ hs hs2).mono ?_); rintro e w2 ⟨rfl, hd⟩)
  go_ret
  exact ⟨rfl, hd⟩
theorem append_nil (s : ByteArray) (w : World) :
    Calls Try.prog 35 #[.pointer none, .string s] w fun e w' => e = .returned (.int .i64 1) ∧ w = w' := by
  go_enter Try.func35, Try.ntmps35
  go_wp2
  go_ret
  exact ⟨rfl, rfl⟩

/-- The bytes of texts. -/
def lst (ss : List ByteArray) : List (List UInt8) := ss.map fun s => s.data.toList
theorem lst_length (ss : List ByteArray) : (lst ss).length = ss.length := by simp [lst]
theorem lst_append (l m : List ByteArray) : lst (l ++ m) = lst l ++ lst m := by simp [lst]
theorem frame_le (s : ByteArray) (h : s.size ≤ 1048576) : (frame s.data.toList).length ≤ s.size + 12 := by
  rw [frame_length, list_size]
  have := num_length 7 s.size (by omega)
  omega
theorem frames_le (ss : List ByteArray) (h : ∀ s, s ∈ ss → s.size ≤ 1048576) : (frames (lst ss)).length ≤ total ss + 12 * ss.length := by
  induction ss with
  | nil => exact Nat.zero_le _
  | cons s l ih =>
    have h1 := frame_le s (h s (List.mem_cons_self ..))
    have h2 := ih fun t ht => h t (List.mem_cons_of_mem _ ht)
    show (frame s.data.toList ++ frames (lst l)).length ≤ s.size + total l + 12 * (l.length + 1)
    rw [List.length_append]
    omega
set_option maxRecDepth 100000 in
set_option maxHeartbeats 1000000 in
theorem framed_any (A : Option Addr) (n c : Nat) (ss : List ByteArray) (w : World) (hS : Strs w A n ss) (hsm : ∀ s, s ∈ ss → s.size ≤ 1048576) (ht : total ss ≤ 10000000000) (hn : n ≤ 100000000) :
    Calls Try.prog 75 #[.slice A n c] w fun e w' => e = .returned (.string (str (frames (lst ss)))) ∧ Below w.heap.size w w' := by
  have hlen := hS.len
  go_enter Try.func75, Try.ntmps75
  go_upto_region 2 with fail
  have hI := Lib.fresh_isBuilder 180 5 w
  have HB : Below w.heap.size w (w.alloc (.cells #[.pointer none, .slice none 0 0] 180)) := (Below.refl _ _).alloc (Nat.le_refl _) _
  generalize w.alloc (.cells #[.pointer none, .slice none 0 0] 180) = w1 at hI HB ⊢
  go_wp2
  go_loopw [10] (fun i wr => ∃ k : Nat, k ≤ n ∧ i = .int .i64 k ∧ Lib.IsBuilder 180 5 w.heap.size w.heap.size (bv (frames (lst (ss.take k)))) wr ∧ Below w.heap.size w wr) (fun i _ => n - (intOf i).toNat)
  case atStart => exact ⟨0, by omega, rfl, by rw [List.take_zero]; exact hI, HB⟩
  case round =>
    clear HB hI
    obtain ⟨k, hk, rfl, hI, HB⟩ := hrel
    by_cases hlt : k < n
    · have hks : k < ss.length := by omega
      obtain ⟨b, off, rfl, hc⟩ := hS.block (by omega)
      have hcell := cell_below HB (hc k hks)
      have hsz := hsm _ (List.getElem_mem hks)
      have htk : ss.take (k + 1) = ss.take k ++ [ss[k]] := take_snoc_list ss k hks
      have htl := frames_le (ss.take k) (fun s hs => hsm s (List.mem_of_mem_take hs))
      have htl2 := total_take_le ss k
      have hkl : (ss.take k).length = k := by rw [List.length_take]; omega
      have htx := frame_le ss[k] hsz
      generalize hsk : ss[k] = s at hcell hsz htk htx
      clear hsk
      have hnx : (frames (lst (ss.take k))).length + (str (frame s.data.toList)).size ≤ 140737488355328 := by
        rw [str_size]; omega
      have hnext : frames (lst (ss.take (k + 1))) = frames (lst (ss.take k)) ++ (str (frame s.data.toList)).data.toList := by
        rw [htk, lst_append, frames_append, str_list]
        show _ = _ ++ frame s.data.toList
        show _ ++ (frame s.data.toList ++ []) = _
        rw [List.append_nil]
      generalize frames (lst (ss.take k)) = l at hI hnx hnext
      have HN := Lib.hid hnext
      clear hnext htk htl htl2 hkl hsm
      go_wp2_with (go_at_call 72; (with_reducible refine (frame_in _ _ hsz).mono ?_); rintro e w4 ⟨rfl, hd⟩)
      replace hI := builder_below hI hd
      (first | replace HB := bt HB HB.size hd | replace HB := bt_drew HB HB.size hd | replace HB := bt_drewN HB HB.size hd); clear hd
      go_wp2_with (go_at_call 104; refine (write_any _ _ l _ _ hI hnx HB.size).mono ?_)
      rintro e w5 ⟨rfl, hI5, hd⟩
      replace HB := HB.trans hd
      go_wp2
      go_roundw
      case rel => exact ⟨k + 1, by omega, by go_num, by rw [HN.out]; exact hI5, HB⟩
      case measure => simp [intOf]; omega
    · obtain rfl : k = n := by omega
      have e : ss.take k = ss := by rw [← hlen, List.take_length]
      rw [e] at hI
      go_wp2_with (go_at_call 106; refine (string_all _ _ _ _ hI HB.size).mono ?_)
      rintro e w5 ⟨rfl, hd⟩
      replace HB := HB.trans hd
      go_wp2
      go_ret
      exact ⟨rfl, HB⟩
theorem JAt.row {w : World} {base b : Nat} {ss : List ByteArray} (h : JAt w base b ss) : ∃ A c, w.heap[b]? = some (.cells #[.slice A ss.length c] 139 (0, 0)) ∧ w.cell? ⟨b, 0, none⟩ = some (.slice A ss.length c) ∧ Strs w A ss.length ss := by
  obtain ⟨v, hb, HO⟩ := h.ex
  obtain ⟨A, c, rfl, hS⟩ := own_strs HO
  exact ⟨A, c, hb, by rw [cell_of_row _ _ _ _ _ _ hb]; rfl, hS⟩
set_option maxRecDepth 100000 in
set_option maxHeartbeats 1000000 in
theorem jbytes_any (base b : Nat) (ss : List ByteArray) (w : World) (hJ : JAt w base b ss) (ht : total ss ≤ 10000000000) (hn : ss.length ≤ 100000000) :
    Calls Try.prog 38 #[.pointer (some ⟨b, 0, none⟩)] w fun e w' => e = .returned (.string (str (frames (lst ss)))) ∧ Below w.heap.size w w' := by
  obtain ⟨A, c, _, c0, hS⟩ := hJ.row
  have hsm := hJ.small
  clear hJ
  have HM := Lib.hid hsm
  clear hsm
  go_enter Try.func38, Try.ntmps38
  go_wp2_with (go_at_call 75; (with_reducible refine (framed_any _ _ _ ss _ hS HM.out ht hn).mono ?_); rintro e w4 ⟨rfl, hd⟩)
  go_ret
  exact ⟨rfl, hd⟩
theorem jbytes_nil (w : World) :
    Calls Try.prog 38 #[.pointer none] w fun e w' => e = .returned (.string (str [])) ∧ w = w' := by
  go_enter Try.func38, Try.ntmps38
  go_wp2
  go_ret
  exact ⟨rfl, rfl⟩
end Go.Proofs.Ytmlemichkeomjaa.JrnW

