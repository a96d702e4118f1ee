/- crc.Table lays the table of sums. -/
import Derived.Test.YtmlemichkeomjaaProg
import Derived.Test.YtmlemichkeomjaaCrcPure
import Derived.Test.YtmlemichkeomjaaM1
import Derived.Deep.DeepCutAuto
set_option linter.unusedVariables false
set_option linter.unusedSimpArgs false
namespace Go.Proofs.Ytmlemichkeomjaa.CrcW
open Go.RowKit Go.Proofs.Ytmlemichkeomjaa.Base Go.Proofs.Ytmlemichkeomjaa.CrcP

def tabv : Array Value := ((List.range 256).map fun i => Value.int .u32 ((sts 8 i : Nat) : Int)).toArray

theorem below_setRow {B : Nat} {a w : World} (h : Below B a w) (g : Nat) (cs : Array Value) (hg : B ≤ g) : Below B a (w.setRow g cs) :=
  h.trans ⟨rfl, rfl, rfl, by simp, fun k hk => by
    simp only [World.setRow, Array.getElem?_modify]
    rw [if_neg (by omega)]⟩
def arr (i : Nat) : Array Value := ((List.range 256).map fun j => Value.int .u32 ((if j < i then sts 8 j else 0 : Nat) : Int)).toArray
theorem zero_cells : Try.zeroCells190 = arr 0 := by
  have h : Try.zeroCells190 = (List.replicate 256 (Value.int .u32 0)).toArray := by kernel_rfl
  have h2 : (List.range 256).map (fun j => Value.int .u32 ((if j < 0 then sts 8 j else 0 : Nat) : Int)) = List.replicate 256 (Value.int .u32 0) := by
    rw [List.map_congr_left (g := fun _ => Value.int .u32 0) (fun j _ => by rw [if_neg (by omega)]; rfl), List.map_const', List.length_range]
  rw [h]
  exact congrArg List.toArray h2.symm
theorem arr_size (i : Nat) : (arr i).size = 256 := by simp [arr]
theorem arr_end : arr 256 = tabv := by
  refine congrArg List.toArray (List.map_congr_left fun j hj => ?_)
  rw [if_pos (List.mem_range.1 hj)]
theorem arr_step (i : Nat) (hi : i < 256) : (arr i).setIfInBounds i (.int .u32 ((sts 8 i : Nat) : Int)) = arr (i + 1) := by
  apply Array.ext
  · simp [arr]
  · intro j h1 h2
    rw [Array.getElem_setIfInBounds (by simpa using h1)]
    simp only [arr, List.getElem_toArray, List.getElem_map, List.getElem_range]
    by_cases e : i = j
    · subst e
      rw [if_pos rfl, if_pos (by omega)]
    · rw [if_neg e]
      by_cases e2 : j < i
      · rw [if_pos e2, if_pos (by omega)]
      · rw [if_neg e2, if_neg (by omega)]

theorem and_one (x : Nat) (h : x < 4294967296) : bits BinOp.and IntKind.u32 (x : Int) 1 = ((x % 2 : Nat) : Int) := by
  have := u32_and_nat x 1 h (by omega)
  rw [nat_mask1] at this
  exact this
theorem step_odd {x : Nat} (h : x < 4294967296) (h1 : (bits BinOp.and IntKind.u32 (x : Int) 1 == 1) = true) : bits BinOp.xor IntKind.u32 ((x : Int) / 2) 3988292384 = ((st x : Nat) : Int) := by
  rw [and_one x h, beq_iff_eq] at h1
  have e : (x : Int) / 2 = ((x / 2 : Nat) : Int) := by omega
  rw [e, st, if_pos (by omega)]
  exact u32_xor_nat (x / 2) 3988292384 (by omega) (by omega)
theorem step_even {x : Nat} (h : x < 4294967296) (h1 : (bits BinOp.and IntKind.u32 (x : Int) 1 == 1) = false) : (x : Int) / 2 = ((st x : Nat) : Int) := by
  rw [and_one x h, beq_eq_false_iff_ne] at h1
  rw [st, if_neg (by omega)]
  omega

set_option maxRecDepth 100000 in
set_option maxHeartbeats 400000 in
theorem table_any (w : World) :
    Calls Try.prog 111 #[] w fun e w' => e = .returned (.agg tabv) ∧ Below w.heap.size w w' := by
  go_enter Try.func111, Try.ntmps111
  go_wp2
  refine wp_scope_loop 0 (fun a' wr => ∃ (i : Nat) (u3 u4 u5 u6 u7 u8 u9 u10 u11 u12 u13 u14 u15 u16 u17 u18 u19 u20 u21 u22 u23 u24 : Value), i ≤ 255 ∧ wr.heap.size = w.heap.size + 2 ∧ Below w.heap.size w wr ∧ wr.heap[w.heap.size]? = some (.cells (arr 0) 190 (0, 0)) ∧ wr.heap[w.heap.size + 1]? = some (.cells (arr i) 190 (0, 0)) ∧ a' = { tmps := #[.pointer (some ⟨w.heap.size, 0, none⟩), .pointer (some ⟨w.heap.size + 1, 0, none⟩), .int .i64 i, u3, u4, u5, u6, u7, u8, u9, u10, u11, u12, u13, u14, u15, u16, u17, u18, u19, u20, u21, u22, u23, u24], defers := [] }) (fun a' _ => 256 - (intOf (a'.tmps.getD 2 undef)).toNat) rfl ?_ ?_
  · intro hloop
    go_wp2
    go_step3
    go_step
    go_step
    rw [zero_cells]
    refine hloop _ _ ⟨0, _, _, _, _, _, _, _, _, _, _, _, _, _, _, _, _, _, _, _, _, _, _, by omega, by simp, ((Below.refl _ _).alloc (Nat.le_refl _) _).alloc (by simp) _, heap_alloc2_old _ _ _, heap_alloc2_new _ _ _, rfl⟩
  · rintro a' wr ⟨i, u3, u4, u5, u6, u7, u8, u9, u10, u11, u12, u13, u14, u15, u16, u17, u18, u19, u20, u21, u22, u23, u24, hi, hz, HB, h0, h1, rfl⟩
    have H0 := Lib.hid h0
    have H1 := Lib.hid h1
    have HZ := Lib.hid hz
    clear h0 h1 hz
    go_wp2
    go_loop [3, 6] (fun x j => ∃ k : Nat, k ≤ 8 ∧ j = .int .i64 k ∧ x = .int .u32 (sts k i : Nat)) (fun _ j => 8 - (intOf j).toNat)
    case atStart => exact ⟨0, by omega, rfl, rfl⟩
    case round =>
      obtain ⟨k, hk, rfl, rfl⟩ := hrel
      by_cases hlt : k < 8
      · have hb := sts_lt k (show i < 4294967296 by omega)
        have hs : sts (k + 1) i = st (sts k i) := rfl
        generalize sts k i = x at *
        have HS := Lib.hid hs
        clear hs
        go_wp2
        · have hb1 : (bits BinOp.and IntKind.u32 ((x : Nat) : Int) 1 == 1) = true := by assumption
          refine ⟨⟨k + 1, by omega, by go_num, ?_⟩, by simp [intOf]; omega⟩
          rw [HS.out]
          exact congrArg (Value.int .u32) (step_odd hb hb1)
        · have hb1 : (bits BinOp.and IntKind.u32 ((x : Nat) : Int) 1 == 1) = false := by assumption
          refine ⟨⟨k + 1, by omega, by go_num, ?_⟩, by simp [intOf]; omega⟩
          rw [HS.out]
          exact congrArg (Value.int .u32) (step_even hb hb1)
      · obtain rfl : k = 8 := by omega
        obtain ⟨u, hc⟩ : ∃ u, wr.cell? ⟨w.heap.size + 1, i, none⟩ = some u := ⟨_, by rw [cell_of_row _ _ _ _ _ _ H1.out, Array.getElem?_eq_getElem (by rw [arr_size]; omega)]⟩
        have hf : wr.frozen? ⟨w.heap.size + 1, i, none⟩ = false := frozen_of_row _ _ _ _ _ H1.out
        have hn : (wr.setCell ⟨w.heap.size + 1, i, none⟩ (.int .u32 (sts 8 i : Nat))).heap[w.heap.size + 1]? = some (.cells (arr (i + 1)) 190 (0, 0)) := by
          rw [heap_setCell_same _ _ _ _ _ _ H1.out, arr_step i (by omega)]
        have hn0 : (wr.setCell ⟨w.heap.size + 1, i, none⟩ (.int .u32 (sts 8 i : Nat))).heap[w.heap.size]? = some (.cells (arr 0) 190 (0, 0)) := by
          rw [heap_setCell_other _ _ _ _ (by simp)]; exact H0.out
        have HN : Below w.heap.size w (wr.setCell ⟨w.heap.size + 1, i, none⟩ (.int .u32 (sts 8 i : Nat))) := HB.setCell (by simp) _
        have HZ2 : (wr.setCell ⟨w.heap.size + 1, i, none⟩ (.int .u32 (sts 8 i : Nat))).heap.size = w.heap.size + 2 := by simpa using HZ.out
        have HN1 := Lib.hid hn
        have HN0 := Lib.hid hn0
        have HZ3 := Lib.hid HZ2
        have HNN := Lib.hid HN
        clear hn hn0 HZ2 HN H0 H1 HZ HB
        by_cases hlast : i < 255
        · go_wp2
          go_step3
          refine ⟨rfl, ⟨i + 1, _, _, _, _, _, _, _, _, _, _, _, _, _, _, _, _, _, _, _, _, _, _, by omega, HZ3.out, HNN.out, HN0.out, HN1.out, rfl⟩, ?_⟩
          simp [intOf]; omega
        · have hge : 255 ≤ i := by omega
          clear hlast
          go_upto_region 13 with (fail)
          go_step
          have hz1 : (Try.prog.info? 190).map (·.size) = some (arr (i + 1)).size := by rw [arr_size]; kernel_rfl
          refine wpList_load_row rfl 190 _ rfl _ rfl 190 (arr (i + 1)) (0, 0) _ HN1.out Try.underlying190 rfl hz1 ?_
          refine wpList_store_row rfl 190 _ _ rfl w.heap.size (arr (i + 1)) rfl rfl 190 (arr 0) HN0.out hz1 (by rw [arr_size, arr_size]) ?_ ?_
          · simp only [arr, List.all_toArray, List.all_map]
            exact List.all_eq_true.2 (fun _ _ => rfl)
          · have hr := setRow_heap _ _ _ (arr (i + 1)) _ _ HN0.out
            have hb := below_setRow HNN.out w.heap.size (arr (i + 1)) (Nat.le_refl _)
            generalize (wr.setCell _ _).setRow w.heap.size (arr (i + 1)) = w2 at hr hb ⊢
            have HR := Lib.hid hr
            clear hr HN1 HN0 HZ3 HNN hc hf
            simp only [Act.put]
            go_wp2
            simp only [Exit.jump]
            refine bodyPost_ret (results_cell_row rfl _ _ w.heap.size 190 (arr (i + 1)) (0, 0) _ rfl HR.out Try.underlying190 rfl hz1) rfl ?_
            have e : i + 1 = 256 := by omega
            rw [e, arr_end]
            exact ⟨rfl, hb⟩
end Go.Proofs.Ytmlemichkeomjaa.CrcW
