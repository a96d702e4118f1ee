/- Messages compared by the program; of a size that is looked at. -/
import Derived.Test.YtdjgdhpncocahaaMsg2
set_option linter.unusedVariables false
set_option linter.unusedSimpArgs false
namespace Go.Proofs.Ytdjgdhpncocahaa.MsgW
open Go.RowKit Go.Proofs.Ytdjgdhpncocahaa.Base Go.Proofs.Ytdjgdhpncocahaa.EqsW

theorem regrown_cell {w : World} {a : Addr} {v : Value} (h : w.cell? a = some v) (p : Regrown) : (Go.Sort.grow (redrawn w p.d) p.os).cell? a = some v := cell_below (below_of_regrown ⟨p, rfl⟩) h
set_option maxRecDepth 100000 in
set_option maxHeartbeats 1000000 in
theorem msame_any (n0 n1 n2 n3 n4 n5 n6 n7 n8 : Int) (t : ByteArray) (A : Option Addr) (ln cp : Nat) (m0 m1 m2 m3 m4 m5 m6 m7 m8 : Int) (u : ByteArray) (B : Option Addr) (lm cq : Nat) (ss uu : List ByteArray) (w : World) (hS : Strs w A ln ss) (hT : Strs w B lm uu) (hn : ln ≤ 140737488355328) :
    Calls Try.prog 32 #[(.agg #[.int .i64 n0, .int .i64 n1, .int .i64 n2, .int .i64 n3, .int .i64 n4, .int .i64 n5, .int .i64 n6, .int .i64 n7, .int .i64 n8, .string t, .slice A ln cp]), (.agg #[.int .i64 m0, .int .i64 m1, .int .i64 m2, .int .i64 m3, .int .i64 m4, .int .i64 m5, .int .i64 m6, .int .i64 m7, .int .i64 m8, .string u, .slice B lm cq])] w fun e w' => e = .returned (.bool (sameB n0 n1 n2 n3 n4 n5 n6 n7 n8 t ss m0 m1 m2 m3 m4 m5 m6 m7 m8 u uu)) ∧ Below w.heap.size w w' := by
  unfold sameB
  have hN := fun W => nums_eq n0 n1 n2 n3 n4 n5 n6 n7 n8 m0 m1 m2 m3 m4 m5 m6 m7 m8 W
  have HB : Below w.heap.size w ((w.alloc (.cells #[.int .i64 n0, .int .i64 n1, .int .i64 n2, .int .i64 n3, .int .i64 n4, .int .i64 n5, .int .i64 n6, .int .i64 n7, .int .i64 n8, .string t, .slice A ln cp] 33)).alloc (.cells #[.int .i64 m0, .int .i64 m1, .int .i64 m2, .int .i64 m3, .int .i64 m4, .int .i64 m5, .int .i64 m6, .int .i64 m7, .int .i64 m8, .string u, .slice B lm cq] 33)) := ((Below.refl w.heap.size w).alloc (by simp) _).alloc (by simp) _
  have go1 : ∀ b c : Bool, numeq n0 n1 n2 n3 n4 n5 n6 n7 n8 m0 m1 m2 m3 m4 m5 m6 m7 m8 = b → (t.toList == u.toList) = c → Calls Try.prog 32 #[(.agg #[.int .i64 n0, .int .i64 n1, .int .i64 n2, .int .i64 n3, .int .i64 n4, .int .i64 n5, .int .i64 n6, .int .i64 n7, .int .i64 n8, .string t, .slice A ln cp]), (.agg #[.int .i64 m0, .int .i64 m1, .int .i64 m2, .int .i64 m3, .int .i64 m4, .int .i64 m5, .int .i64 m6, .int .i64 m7, .int .i64 m8, .string u, .slice B lm cq])] w fun e w' => e = .returned (.bool (b && c && eqs ss uu)) ∧ Below w.heap.size w w' := by
    intro b c hq ht
    rw [hq] at hN
    clear hq
    cases b with
    | false =>
      go_enter Try.func32, Try.ntmps32
      go_upto_region 1 with fail
      have hA := (heap_alloc_old (w.alloc (.cells #[.int .i64 n0, .int .i64 n1, .int .i64 n2, .int .i64 n3, .int .i64 n4, .int .i64 n5, .int .i64 n6, .int .i64 n7, .int .i64 n8, .string t, .slice A ln cp] 33)) (.cells #[.int .i64 m0, .int .i64 m1, .int .i64 m2, .int .i64 m3, .int .i64 m4, .int .i64 m5, .int .i64 m6, .int .i64 m7, .int .i64 m8, .string u, .slice B lm cq] 33) (r := w.heap.size) (by simp)).trans (heap_alloc_new _ _)
      have hB := alloc2 w (.cells #[.int .i64 n0, .int .i64 n1, .int .i64 n2, .int .i64 n3, .int .i64 n4, .int .i64 n5, .int .i64 n6, .int .i64 n7, .int .i64 n8, .string t, .slice A ln cp] 33) (.cells #[.int .i64 m0, .int .i64 m1, .int .i64 m2, .int .i64 m3, .int .i64 m4, .int .i64 m5, .int .i64 m6, .int .i64 m7, .int .i64 m8, .string u, .slice B lm cq] 33)
      generalize (w.alloc (.cells #[.int .i64 n0, .int .i64 n1, .int .i64 n2, .int .i64 n3, .int .i64 n4, .int .i64 n5, .int .i64 n6, .int .i64 n7, .int .i64 n8, .string t, .slice A ln cp] 33)).alloc (.cells #[.int .i64 m0, .int .i64 m1, .int .i64 m2, .int .i64 m3, .int .i64 m4, .int .i64 m5, .int .i64 m6, .int .i64 m7, .int .i64 m8, .string u, .slice B lm cq] 33) = W2 at hA hB HB ⊢
      have fa0 := regrown_cell (w := W2) (a := ⟨w.heap.size, 0, none⟩) (by rw [cell_of_row _ _ _ _ _ _ hA]; rfl)
      have fb0 := regrown_cell (w := W2) (a := ⟨w.heap.size + 1, 0, none⟩) (by rw [cell_of_row _ _ _ _ _ _ hB]; rfl)
      have fa1 := regrown_cell (w := W2) (a := ⟨w.heap.size, 1, none⟩) (by rw [cell_of_row _ _ _ _ _ _ hA]; rfl)
      have fb1 := regrown_cell (w := W2) (a := ⟨w.heap.size + 1, 1, none⟩) (by rw [cell_of_row _ _ _ _ _ _ hB]; rfl)
      have fa2 := regrown_cell (w := W2) (a := ⟨w.heap.size, 2, none⟩) (by rw [cell_of_row _ _ _ _ _ _ hA]; rfl)
      have fb2 := regrown_cell (w := W2) (a := ⟨w.heap.size + 1, 2, none⟩) (by rw [cell_of_row _ _ _ _ _ _ hB]; rfl)
      have fa3 := regrown_cell (w := W2) (a := ⟨w.heap.size, 3, none⟩) (by rw [cell_of_row _ _ _ _ _ _ hA]; rfl)
      have fb3 := regrown_cell (w := W2) (a := ⟨w.heap.size + 1, 3, none⟩) (by rw [cell_of_row _ _ _ _ _ _ hB]; rfl)
      have fa4 := regrown_cell (w := W2) (a := ⟨w.heap.size, 4, none⟩) (by rw [cell_of_row _ _ _ _ _ _ hA]; rfl)
      have fb4 := regrown_cell (w := W2) (a := ⟨w.heap.size + 1, 4, none⟩) (by rw [cell_of_row _ _ _ _ _ _ hB]; rfl)
      have fa5 := regrown_cell (w := W2) (a := ⟨w.heap.size, 5, none⟩) (by rw [cell_of_row _ _ _ _ _ _ hA]; rfl)
      have fb5 := regrown_cell (w := W2) (a := ⟨w.heap.size + 1, 5, none⟩) (by rw [cell_of_row _ _ _ _ _ _ hB]; rfl)
      have fa6 := regrown_cell (w := W2) (a := ⟨w.heap.size, 6, none⟩) (by rw [cell_of_row _ _ _ _ _ _ hA]; rfl)
      have fb6 := regrown_cell (w := W2) (a := ⟨w.heap.size + 1, 6, none⟩) (by rw [cell_of_row _ _ _ _ _ _ hB]; rfl)
      have fa7 := regrown_cell (w := W2) (a := ⟨w.heap.size, 7, none⟩) (by rw [cell_of_row _ _ _ _ _ _ hA]; rfl)
      have fb7 := regrown_cell (w := W2) (a := ⟨w.heap.size + 1, 7, none⟩) (by rw [cell_of_row _ _ _ _ _ _ hB]; rfl)
      have fa8 := regrown_cell (w := W2) (a := ⟨w.heap.size, 8, none⟩) (by rw [cell_of_row _ _ _ _ _ _ hA]; rfl)
      have fb8 := regrown_cell (w := W2) (a := ⟨w.heap.size + 1, 8, none⟩) (by rw [cell_of_row _ _ _ _ _ _ hB]; rfl)
      have fa9 := regrown_cell (w := W2) (a := ⟨w.heap.size, 9, none⟩) (by rw [cell_of_row _ _ _ _ _ _ hA]; rfl)
      have fb9 := regrown_cell (w := W2) (a := ⟨w.heap.size + 1, 9, none⟩) (by rw [cell_of_row _ _ _ _ _ _ hB]; rfl)
      have fa10 := regrown_cell (w := W2) (a := ⟨w.heap.size, 10, none⟩) (by rw [cell_of_row _ _ _ _ _ _ hA]; rfl)
      have fb10 := regrown_cell (w := W2) (a := ⟨w.heap.size + 1, 10, none⟩) (by rw [cell_of_row _ _ _ _ _ _ hB]; rfl)
      (refine wp_region_quiet_below (by kernel_rfl) (by kernel_rfl) ?_; (repeat (go_big_quiet_step ((go_at_call 74; exact Calls.regrown_of (numbers_any _ _ _ _ _ _ _ _ _ _ _ _ _ _))))); refine wpQuiet_nil ?_; intro wq hw'; have HQ := below_of_regrown hw'; clear hw')
      go_wp2
      go_ret
      exact ⟨rfl, bt HB HB.size HQ⟩
    | true =>
      cases c with
      | false =>
        go_enter Try.func32, Try.ntmps32
        go_upto_region 1 with fail
        have hA := (heap_alloc_old (w.alloc (.cells #[.int .i64 n0, .int .i64 n1, .int .i64 n2, .int .i64 n3, .int .i64 n4, .int .i64 n5, .int .i64 n6, .int .i64 n7, .int .i64 n8, .string t, .slice A ln cp] 33)) (.cells #[.int .i64 m0, .int .i64 m1, .int .i64 m2, .int .i64 m3, .int .i64 m4, .int .i64 m5, .int .i64 m6, .int .i64 m7, .int .i64 m8, .string u, .slice B lm cq] 33) (r := w.heap.size) (by simp)).trans (heap_alloc_new _ _)
        have hB := alloc2 w (.cells #[.int .i64 n0, .int .i64 n1, .int .i64 n2, .int .i64 n3, .int .i64 n4, .int .i64 n5, .int .i64 n6, .int .i64 n7, .int .i64 n8, .string t, .slice A ln cp] 33) (.cells #[.int .i64 m0, .int .i64 m1, .int .i64 m2, .int .i64 m3, .int .i64 m4, .int .i64 m5, .int .i64 m6, .int .i64 m7, .int .i64 m8, .string u, .slice B lm cq] 33)
        generalize (w.alloc (.cells #[.int .i64 n0, .int .i64 n1, .int .i64 n2, .int .i64 n3, .int .i64 n4, .int .i64 n5, .int .i64 n6, .int .i64 n7, .int .i64 n8, .string t, .slice A ln cp] 33)).alloc (.cells #[.int .i64 m0, .int .i64 m1, .int .i64 m2, .int .i64 m3, .int .i64 m4, .int .i64 m5, .int .i64 m6, .int .i64 m7, .int .i64 m8, .string u, .slice B lm cq] 33) = W2 at hA hB HB ⊢
        have fa0 := regrown_cell (w := W2) (a := ⟨w.heap.size, 0, none⟩) (by rw [cell_of_row _ _ _ _ _ _ hA]; rfl)
        have fb0 := regrown_cell (w := W2) (a := ⟨w.heap.size + 1, 0, none⟩) (by rw [cell_of_row _ _ _ _ _ _ hB]; rfl)
        have fa1 := regrown_cell (w := W2) (a := ⟨w.heap.size, 1, none⟩) (by rw [cell_of_row _ _ _ _ _ _ hA]; rfl)
        have fb1 := regrown_cell (w := W2) (a := ⟨w.heap.size + 1, 1, none⟩) (by rw [cell_of_row _ _ _ _ _ _ hB]; rfl)
        have fa2 := regrown_cell (w := W2) (a := ⟨w.heap.size, 2, none⟩) (by rw [cell_of_row _ _ _ _ _ _ hA]; rfl)
        have fb2 := regrown_cell (w := W2) (a := ⟨w.heap.size + 1, 2, none⟩) (by rw [cell_of_row _ _ _ _ _ _ hB]; rfl)
        have fa3 := regrown_cell (w := W2) (a := ⟨w.heap.size, 3, none⟩) (by rw [cell_of_row _ _ _ _ _ _ hA]; rfl)
        have fb3 := regrown_cell (w := W2) (a := ⟨w.heap.size + 1, 3, none⟩) (by rw [cell_of_row _ _ _ _ _ _ hB]; rfl)
        have fa4 := regrown_cell (w := W2) (a := ⟨w.heap.size, 4, none⟩) (by rw [cell_of_row _ _ _ _ _ _ hA]; rfl)
        have fb4 := regrown_cell (w := W2) (a := ⟨w.heap.size + 1, 4, none⟩) (by rw [cell_of_row _ _ _ _ _ _ hB]; rfl)
        have fa5 := regrown_cell (w := W2) (a := ⟨w.heap.size, 5, none⟩) (by rw [cell_of_row _ _ _ _ _ _ hA]; rfl)
        have fb5 := regrown_cell (w := W2) (a := ⟨w.heap.size + 1, 5, none⟩) (by rw [cell_of_row _ _ _ _ _ _ hB]; rfl)
        have fa6 := regrown_cell (w := W2) (a := ⟨w.heap.size, 6, none⟩) (by rw [cell_of_row _ _ _ _ _ _ hA]; rfl)
        have fb6 := regrown_cell (w := W2) (a := ⟨w.heap.size + 1, 6, none⟩) (by rw [cell_of_row _ _ _ _ _ _ hB]; rfl)
        have fa7 := regrown_cell (w := W2) (a := ⟨w.heap.size, 7, none⟩) (by rw [cell_of_row _ _ _ _ _ _ hA]; rfl)
        have fb7 := regrown_cell (w := W2) (a := ⟨w.heap.size + 1, 7, none⟩) (by rw [cell_of_row _ _ _ _ _ _ hB]; rfl)
        have fa8 := regrown_cell (w := W2) (a := ⟨w.heap.size, 8, none⟩) (by rw [cell_of_row _ _ _ _ _ _ hA]; rfl)
        have fb8 := regrown_cell (w := W2) (a := ⟨w.heap.size + 1, 8, none⟩) (by rw [cell_of_row _ _ _ _ _ _ hB]; rfl)
        have fa9 := regrown_cell (w := W2) (a := ⟨w.heap.size, 9, none⟩) (by rw [cell_of_row _ _ _ _ _ _ hA]; rfl)
        have fb9 := regrown_cell (w := W2) (a := ⟨w.heap.size + 1, 9, none⟩) (by rw [cell_of_row _ _ _ _ _ _ hB]; rfl)
        have fa10 := regrown_cell (w := W2) (a := ⟨w.heap.size, 10, none⟩) (by rw [cell_of_row _ _ _ _ _ _ hA]; rfl)
        have fb10 := regrown_cell (w := W2) (a := ⟨w.heap.size + 1, 10, none⟩) (by rw [cell_of_row _ _ _ _ _ _ hB]; rfl)
        (refine wp_region_quiet_below (by kernel_rfl) (by kernel_rfl) ?_; (repeat (go_big_quiet_step ((go_at_call 74; exact Calls.regrown_of (numbers_any _ _ _ _ _ _ _ _ _ _ _ _ _ _))))); refine wpQuiet_nil ?_; intro wq hw'; have HQ := below_of_regrown hw'; clear hw')
        go_wp2
        go_ret
        exact ⟨rfl, bt HB HB.size HQ⟩
      | true =>
        go_enter Try.func32, Try.ntmps32
        go_upto_region 1 with fail
        have hA := (heap_alloc_old (w.alloc (.cells #[.int .i64 n0, .int .i64 n1, .int .i64 n2, .int .i64 n3, .int .i64 n4, .int .i64 n5, .int .i64 n6, .int .i64 n7, .int .i64 n8, .string t, .slice A ln cp] 33)) (.cells #[.int .i64 m0, .int .i64 m1, .int .i64 m2, .int .i64 m3, .int .i64 m4, .int .i64 m5, .int .i64 m6, .int .i64 m7, .int .i64 m8, .string u, .slice B lm cq] 33) (r := w.heap.size) (by simp)).trans (heap_alloc_new _ _)
        have hB := alloc2 w (.cells #[.int .i64 n0, .int .i64 n1, .int .i64 n2, .int .i64 n3, .int .i64 n4, .int .i64 n5, .int .i64 n6, .int .i64 n7, .int .i64 n8, .string t, .slice A ln cp] 33) (.cells #[.int .i64 m0, .int .i64 m1, .int .i64 m2, .int .i64 m3, .int .i64 m4, .int .i64 m5, .int .i64 m6, .int .i64 m7, .int .i64 m8, .string u, .slice B lm cq] 33)
        generalize (w.alloc (.cells #[.int .i64 n0, .int .i64 n1, .int .i64 n2, .int .i64 n3, .int .i64 n4, .int .i64 n5, .int .i64 n6, .int .i64 n7, .int .i64 n8, .string t, .slice A ln cp] 33)).alloc (.cells #[.int .i64 m0, .int .i64 m1, .int .i64 m2, .int .i64 m3, .int .i64 m4, .int .i64 m5, .int .i64 m6, .int .i64 m7, .int .i64 m8, .string u, .slice B lm cq] 33) = W2 at hA hB HB ⊢
        have fa0 := regrown_cell (w := W2) (a := ⟨w.heap.size, 0, none⟩) (by rw [cell_of_row _ _ _ _ _ _ hA]; rfl)
        have fb0 := regrown_cell (w := W2) (a := ⟨w.heap.size + 1, 0, none⟩) (by rw [cell_of_row _ _ _ _ _ _ hB]; rfl)
        have fa1 := regrown_cell (w := W2) (a := ⟨w.heap.size, 1, none⟩) (by rw [cell_of_row _ _ _ _ _ _ hA]; rfl)
        have fb1 := regrown_cell (w := W2) (a := ⟨w.heap.size + 1, 1, none⟩) (by rw [cell_of_row _ _ _ _ _ _ hB]; rfl)
        have fa2 := regrown_cell (w := W2) (a := ⟨w.heap.size, 2, none⟩) (by rw [cell_of_row _ _ _ _ _ _ hA]; rfl)
        have fb2 := regrown_cell (w := W2) (a := ⟨w.heap.size + 1, 2, none⟩) (by rw [cell_of_row _ _ _ _ _ _ hB]; rfl)
        have fa3 := regrown_cell (w := W2) (a := ⟨w.heap.size, 3, none⟩) (by rw [cell_of_row _ _ _ _ _ _ hA]; rfl)
        have fb3 := regrown_cell (w := W2) (a := ⟨w.heap.size + 1, 3, none⟩) (by rw [cell_of_row _ _ _ _ _ _ hB]; rfl)
        have fa4 := regrown_cell (w := W2) (a := ⟨w.heap.size, 4, none⟩) (by rw [cell_of_row _ _ _ _ _ _ hA]; rfl)
        have fb4 := regrown_cell (w := W2) (a := ⟨w.heap.size + 1, 4, none⟩) (by rw [cell_of_row _ _ _ _ _ _ hB]; rfl)
        have fa5 := regrown_cell (w := W2) (a := ⟨w.heap.size, 5, none⟩) (by rw [cell_of_row _ _ _ _ _ _ hA]; rfl)
        have fb5 := regrown_cell (w := W2) (a := ⟨w.heap.size + 1, 5, none⟩) (by rw [cell_of_row _ _ _ _ _ _ hB]; rfl)
        have fa6 := regrown_cell (w := W2) (a := ⟨w.heap.size, 6, none⟩) (by rw [cell_of_row _ _ _ _ _ _ hA]; rfl)
        have fb6 := regrown_cell (w := W2) (a := ⟨w.heap.size + 1, 6, none⟩) (by rw [cell_of_row _ _ _ _ _ _ hB]; rfl)
        have fa7 := regrown_cell (w := W2) (a := ⟨w.heap.size, 7, none⟩) (by rw [cell_of_row _ _ _ _ _ _ hA]; rfl)
        have fb7 := regrown_cell (w := W2) (a := ⟨w.heap.size + 1, 7, none⟩) (by rw [cell_of_row _ _ _ _ _ _ hB]; rfl)
        have fa8 := regrown_cell (w := W2) (a := ⟨w.heap.size, 8, none⟩) (by rw [cell_of_row _ _ _ _ _ _ hA]; rfl)
        have fb8 := regrown_cell (w := W2) (a := ⟨w.heap.size + 1, 8, none⟩) (by rw [cell_of_row _ _ _ _ _ _ hB]; rfl)
        have fa9 := regrown_cell (w := W2) (a := ⟨w.heap.size, 9, none⟩) (by rw [cell_of_row _ _ _ _ _ _ hA]; rfl)
        have fb9 := regrown_cell (w := W2) (a := ⟨w.heap.size + 1, 9, none⟩) (by rw [cell_of_row _ _ _ _ _ _ hB]; rfl)
        have fa10 := regrown_cell (w := W2) (a := ⟨w.heap.size, 10, none⟩) (by rw [cell_of_row _ _ _ _ _ _ hA]; rfl)
        have fb10 := regrown_cell (w := W2) (a := ⟨w.heap.size + 1, 10, none⟩) (by rw [cell_of_row _ _ _ _ _ _ hB]; rfl)
        have hS2 := hS.below HB
        have hT2 := hT.below HB
        have HS2 := Lib.hid hS2
        have HT2 := Lib.hid hT2
        (refine wp_region_quiet_below (by kernel_rfl) (by kernel_rfl) ?_; (repeat (go_big_quiet_step ((first | (go_at_call 74; exact Calls.regrown_of (numbers_any _ _ _ _ _ _ _ _ _ _ _ _ _ _)) | (go_at_call 75; exact Calls.regrown_of (slices_equal _ _ _ _ _ _ ss uu _ (HS2.out.below (below_of_regrown ⟨_, rfl⟩)) (HT2.out.below (below_of_regrown ⟨_, rfl⟩)) hn)))))); refine wpQuiet_nil ?_; intro wq hw'; have HQ := below_of_regrown hw'; clear hw')
        go_wp2
        go_ret
        exact ⟨by simp, bt HB HB.size HQ⟩
  exact go1 _ _ rfl rfl
end Go.Proofs.Ytdjgdhpncocahaa.MsgW
