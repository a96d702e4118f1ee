/- Messages of a size that is looked at; the examples. -/
import Derived.Test.YtdjgdhpncocahaaMsg3
import Derived.Test.YtdjgdhpncocahaaSum
set_option linter.unusedVariables false
set_option linter.unusedSimpArgs false
namespace Go.Proofs.Ytdjgdhpncocahaa.MsgW
open Go.RowKit Go.Proofs.Ytdjgdhpncocahaa.Base Go.Proofs.Ytdjgdhpncocahaa.EqsW

def fewB (t : ByteArray) (ss : List ByteArray) : Bool := decide (ss.length < 100) && decide (t.size + summed (ss.take 100) ≤ 3000)
theorem fewB_yes {t : ByteArray} {ss : List ByteArray} (h : fewB t ss = true) : ss.length < 100 ∧ t.size ≤ 3000 ∧ total ss ≤ 3000 := by
  unfold fewB at h
  rw [Bool.and_eq_true, decide_eq_true_eq, decide_eq_true_eq] at h
  have e : ss.take 100 = ss := List.take_of_length_le (by omega)
  rw [e] at h
  have := summed_total ss (by omega)
  omega

set_option maxRecDepth 100000 in
set_option maxHeartbeats 1000000 in
theorem few_any (n0 n1 n2 n3 n4 n5 n6 n7 n8 : Int) (t : ByteArray) (A : Option Addr) (ln cp : Nat) (ss : List ByteArray) (w : World) (hS : Strs w A ln ss) (ht : t.size ≤ 140737488351232) :
    Calls Try.prog 26 #[(.agg #[.int .i64 n0, .int .i64 n1, .int .i64 n2, .int .i64 n3, .int .i64 n4, .int .i64 n5, .int .i64 n6, .int .i64 n7, .int .i64 n8, .string t, .slice A ln cp])] w fun e w' => e = .returned (.bool (fewB t ss)) ∧ Below w.heap.size w w' := by
  have hlen := hS.len
  go_enter Try.func26, Try.ntmps26
  go_upto_region 1 with fail
  have hA := heap_alloc_new w (.cells #[.int .i64 n0, .int .i64 n1, .int .i64 n2, .int .i64 n3, .int .i64 n4, .int .i64 n5, .int .i64 n6, .int .i64 n7, .int .i64 n8, .string t, .slice A ln cp] 28)
  have HB : Below w.heap.size w (w.alloc (.cells #[.int .i64 n0, .int .i64 n1, .int .i64 n2, .int .i64 n3, .int .i64 n4, .int .i64 n5, .int .i64 n6, .int .i64 n7, .int .i64 n8, .string t, .slice A ln cp] 28)) := (Below.refl w.heap.size w).alloc (by simp) _
  generalize w.alloc (.cells #[.int .i64 n0, .int .i64 n1, .int .i64 n2, .int .i64 n3, .int .i64 n4, .int .i64 n5, .int .i64 n6, .int .i64 n7, .int .i64 n8, .string t, .slice A ln cp] 28) = W at hA HB ⊢
  have f9 : W.cell? ⟨w.heap.size, 9, none⟩ = some (.string t) := by rw [cell_of_row _ _ _ _ _ _ hA]; rfl
  have f10 : W.cell? ⟨w.heap.size, 10, none⟩ = some (.slice A ln cp) := by rw [cell_of_row _ _ _ _ _ _ hA]; rfl
  clear hA
  go_wp2
  go_loop [3, 4] (fun v i => ∃ k : Nat, k ≤ ln ∧ k ≤ 100 ∧ i = .int .i64 k ∧ v = .int .i64 ((t.size + summed (ss.take k) : Nat) : Int)) (fun _ i => 100 - (intOf i).toNat)
  case atStart => exact ⟨0, by omega, by omega, rfl, rfl⟩
  case round =>
    obtain ⟨k, hk, hk2, rfl, rfl⟩ := hrel
    by_cases hlt : k < ln ∧ k < 100
    · obtain ⟨hlt1, hlt2⟩ := hlt
      have hks : k < ss.length := by omega
      obtain ⟨b, off, rfl, hc⟩ := hS.block (by omega)
      have hcell := cell_below HB (hc k hks)
      have htk : summed (ss.take (k + 1)) = summed (ss.take k) + min ss[k].size 100000 := by
        rw [take_snoc_list ss k hks, summed_append]; rfl
      have hsl := summed_le (ss.take k)
      have hkl : (ss.take k).length = k := by rw [List.length_take]; omega
      generalize ss[k] = s at hcell htk
      generalize summed (ss.take k) = q at hsl htk ⊢
      have HT := Lib.hid htk
      clear htk
      go_wp2
      go_round
      case rel =>
        refine ⟨k + 1, by omega, by omega, by go_num, ?_⟩
        rw [HT.out]
        congr 1
        split <;> omega
      case measure => simp [intOf]; omega
    · have hcond : k = ln ∨ k = 100 := by omega
      have e : ss.take k = ss.take 100 := by
        rcases hcond with rfl | rfl
        · rw [List.take_of_length_le (by omega), List.take_of_length_le (by omega)]
        · rfl
      have hfew : fewB t ss = (decide (ln < 100) && decide (t.size + summed (ss.take k) ≤ 3000)) := by
        unfold fewB
        rw [hlen, e]
      have hsl := summed_le (ss.take k)
      have hkl : (ss.take k).length ≤ k := by rw [List.length_take]; omega
      generalize summed (ss.take k) = q at hsl hfew ⊢
      clear e
      have HF := Lib.hid hfew
      clear hfew
      by_cases hl : ln < 100
      · have hdec : decide ((t.size : Int) + (q : Int) ≤ 3000) = decide (t.size + q ≤ 3000) := decide_eq_decide.2 (by omega)
        have HD := Lib.hid hdec
        clear hdec
        go_wp2
        all_goals go_ret
        all_goals refine ⟨?_, HB⟩
        all_goals rw [HF.out, decide_eq_true hl, Bool.true_and, ← HD.out]
        all_goals rfl
      · go_wp2
        all_goals go_ret
        all_goals exact ⟨by rw [HF.out, decide_eq_false hl]; rfl, HB⟩

set_option maxRecDepth 100000 in
set_option maxHeartbeats 1000000 in
theorem awake_any (w : World) :
    Calls Try.prog 25 #[] w fun e w' => e = .returned (.bool true) ∧ Below w.heap.size w w' := by
  have HB : Below w.heap.size w w := Below.refl _ _
  go_enter Try.func25, Try.ntmps25
  go_wp2_with (go_at_call 28; refine (answer_any _ _ _ _ _ _ _ _ _ _ _ _ _ _ _).mono ?_; rintro e w2 ⟨rfl, hd⟩; (first | replace HB := bt HB HB.size hd | replace HB := bt_drew HB HB.size hd | replace HB := bt_drewN HB HB.size hd); clear hd)
  go_ret
  exact ⟨rfl, HB.alloc HB.size _⟩

end Go.Proofs.Ytdjgdhpncocahaa.MsgW
