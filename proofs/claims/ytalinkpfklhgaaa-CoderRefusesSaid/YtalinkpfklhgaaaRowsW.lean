/- Rows that are only read: few, stookref02.Right, IsOne. -/
import Derived.Test.YtalinkpfklhgaaaRowsP
import Derived.Test.YtalinkpfklhgaaaRowsM
import Derived.Test.YtalinkpfklhgaaaGfFns
import Derived.Test.YtalinkpfklhgaaaGfRef
set_option linter.unusedVariables false
set_option linter.unusedSimpArgs false
namespace Go.Proofs.Ytalinkpfklhgaaa.RowsW
open Go.RowKit Go.Proofs.Ytalinkpfklhgaaa.Base Go.Proofs.Ytalinkpfklhgaaa.Lin

/-- Rows few and short. -/
def fewR (ls : List (List Nat)) : Bool := decide (ls.length ≤ 40) && ls.all fun r => decide (r.length ≤ 40)
theorem fewR_yes {ls : List (List Nat)} (h : fewR ls = true) : ls.length ≤ 40 ∧ ∀ j (hj : j < ls.length), ls[j].length ≤ 40 := by
  unfold fewR at h
  simp only [Bool.and_eq_true, decide_eq_true_eq, List.all_eq_true] at h
  exact ⟨h.1, fun j hj => h.2 _ (List.getElem_mem hj)⟩
set_option maxRecDepth 100000 in
set_option maxHeartbeats 1000000 in
theorem few_any (A : Option Addr) (n c : Nat) (ls : List (List Nat)) (w : World) (hR : Base.Rows w A ls) (hl : ls.length = n) :
    Calls Try.prog 35 #[.slice A n c] w fun e w' => e = .returned (.bool (fewR ls)) ∧ w = w' := by
  by_cases h40 : 40 < n
  · have hb : fewR ls = false := by unfold fewR; rw [show decide (ls.length ≤ 40) = false by simp; omega]; rfl
    rw [hb]
    go_enter Try.func35, Try.ntmps35
    go_wp2
    go_ret
    exact ⟨rfl, rfl⟩
  · obtain ⟨B, hB⟩ : ∃ B, fewR ls = B := ⟨_, rfl⟩
    rw [hB]
    have HB := Lib.hid hB
    clear hB
    go_enter Try.func35, Try.ntmps35
    go_wp2
    go_loop [3] (fun i => ∃ k : Nat, k ≤ n ∧ i = .int .i64 k ∧ ∀ j (hj : j < ls.length), j < k → ls[j].length ≤ 40) (fun i => n - (intOf i).toNat)
    case atStart => exact ⟨0, by omega, rfl, fun j _ h => by omega⟩
    case round =>
      obtain ⟨k, hk, rfl, hall⟩ := hrel
      have HA := Lib.hid hall
      clear hall
      by_cases hlt : k < n
      · have hkl : k < ls.length := by omega
        obtain ⟨b, off, rfl, hc⟩ := hR.block (by omega)
        obtain ⟨B1, c1, h1, _⟩ := hc k hkl
        clear hc
        obtain ⟨q, hq⟩ : ∃ q, q = ls[k].length := ⟨_, rfl⟩
        rw [← hq] at h1
        have HQ := Lib.hid hq
        clear hq
        by_cases h4 : 40 < q
        · go_wp2
          go_ret
          refine ⟨?_, rfl⟩
          rw [← HB.out]
          have : fewR ls = false := by
            unfold fewR
            rw [show (ls.all fun r => decide (r.length ≤ 40)) = false by
              rw [List.all_eq_false]
              exact ⟨ls[k], List.getElem_mem hkl, by rw [← HQ.out]; simp; omega⟩, Bool.and_false]
          rw [this]
          rfl
        · go_wp2
          go_round
          case rel =>
            refine ⟨k + 1, by omega, by go_num, fun j hj hjk => ?_⟩
            rcases Nat.lt_or_ge j k with h | h
            · exact HA.out j hj h
            · obtain rfl : j = k := by omega
              rw [← HQ.out]; omega
          case measure => simp [intOf]; omega
      · obtain rfl : k = n := by omega
        go_wp2
        go_ret
        refine ⟨?_, rfl⟩
        rw [← HB.out]
        have : fewR ls = true := by
          unfold fewR
          simp only [Bool.and_eq_true, decide_eq_true_eq, List.all_eq_true]
          refine ⟨by omega, fun r hr => ?_⟩
          obtain ⟨j, hj, rfl⟩ := List.getElem_of_mem hr
          exact HA.out j hj (by omega)
        rw [this]
        rfl
theorem bt_drewN' {w wr : World} (h : Below w.heap.size w wr) (n : Nat) : Below w.heap.size w (wr.drewN n) := below_drewN h n
theorem rightB_no {ls : List (List Nat)} {k : Nat} (hk : k < ls.length) (h : ls[k].length ≠ wid ls ∨ ls[k].length < 1 ∨ 32 < ls[k].length) : rightB ls = false := by
  cases hb : rightB ls with
  | false => rfl
  | true =>
    obtain ⟨_, _, h3, h4, h5⟩ := (right_iff ls).1 hb
    have := h5 k hk
    omega
set_option maxRecDepth 100000 in
set_option maxHeartbeats 1000000 in
theorem rright (A : Option Addr) (n c : Nat) (ls : List (List Nat)) (w : World) (hR : Base.Rows w A ls) (hl : ls.length = n) (hn : n ≤ 9223372036854775807) :
    Calls Try.prog 38 #[.slice A n c] w fun e w' => e = .returned (.bool (rightB ls)) ∧ Below w.heap.size w w' := by
  by_cases h40 : n < 1 ∨ 32 < n
  · have hb : rightB ls = false := by
      cases hb : rightB ls with
      | false => rfl
      | true => have := (right_iff ls).1 hb; omega
    rw [hb]
    go_enter Try.func38, Try.ntmps38
    go_wp2
    all_goals go_ret
    all_goals exact ⟨rfl, Below.refl _ _⟩
  · obtain ⟨B, hB⟩ : ∃ B, rightB ls = B := ⟨_, rfl⟩
    rw [hB]
    have HB := Lib.hid hB
    clear hB
    have hn0 : 0 < n := by omega
    have hn32 : n ≤ 32 := by omega
    obtain ⟨b, off, rfl, hc⟩ := hR.block (by omega)
    obtain ⟨B0, c0, h0, _⟩ := hc 0 (by omega)
    rw [Nat.add_zero] at h0
    obtain ⟨q0, hq0⟩ : ∃ q, q = ls[0].length := ⟨_, rfl⟩
    rw [← hq0] at h0
    have HQ0 := Lib.hid hq0
    have hwid : wid ls = q0 := by
      unfold wid
      rw [hq0, List.getD_eq_getElem?_getD, List.getElem?_eq_getElem (by omega)]
      rfl
    have HW := Lib.hid hwid
    have HC := Lib.hid hc
    clear hq0 hwid hc hR
    go_enter Try.func38, Try.ntmps38
    go_wp2
    go_loopw [3] (fun i wr => ∃ k : Nat, k ≤ n ∧ i = .int .i64 k ∧ (∀ j (hj : j < ls.length), j < k → ls[j].length = q0 ∧ 1 ≤ q0 ∧ q0 ≤ 32) ∧ Below w.heap.size w wr) (fun i _ => n - (intOf i).toNat)
    case atStart => exact ⟨0, by omega, rfl, fun j _ h => by omega, Below.refl _ _⟩
    case round =>
      obtain ⟨k, hk, rfl, hall, HD⟩ := hrel
      have HA := Lib.hid hall
      clear hall
      by_cases hlt : k < n
      · have hkl : k < ls.length := by omega
        obtain ⟨B1, c1, h1, _⟩ := HC.out k hkl
        obtain ⟨q, hq⟩ : ∃ q, q = ls[k].length := ⟨_, rfl⟩
        rw [← hq] at h1
        have HQ := Lib.hid hq
        clear hq
        replace h1 := cell_below HD h1
        have h01 := cell_below HD h0
        go_upto_region 6 with fail
        by_cases e1 : q = q0
        · subst e1
          by_cases e2 : q < 1
          · obtain rfl : q = 0 := by omega
            clear e2
            go_quiet (fail)
            go_wp2
            all_goals go_ret
            all_goals (refine ⟨?_, bt_drewN' HD _⟩; rw [← HB.out, rightB_no hkl (.inr (.inl (by rw [← HQ.out]; omega)))]; rfl)
          · have e2' : (q == 0) = false := by simp; omega
            have e2'' : decide ((q : Int) < 1) = false := by simp; omega
            have e2''' : ¬ q = 0 := by omega
            by_cases e3 : 32 < q
            · have e3' : decide (32 < q) = true := by simp [e3]
              go_quiet (fail)
              go_wp2
              all_goals go_ret
              all_goals (refine ⟨?_, bt_drewN' HD _⟩; rw [← HB.out, rightB_no hkl (.inr (.inr (by rw [← HQ.out]; omega)))]; rfl)
            · have e3' : decide (32 < q) = false := by simp [e3]
              go_quiet (fail)
              go_wp2
              go_roundw
              case rel =>
                refine ⟨k + 1, by omega, by go_num, fun j hj hjk => ?_, bt_drewN' HD _⟩
                rcases Nat.lt_or_ge j k with h | h
                · exact HA.out j hj h
                · obtain rfl : j = k := by omega
                  have := HQ.out
                  omega
              case measure => simp [intOf]; omega
        · have e1' : ((q : Int) != (q0 : Int)) = true := int_bne (by omega)
          go_quiet (fail)
          go_wp2
          all_goals go_ret
          all_goals (refine ⟨?_, bt_drewN' HD _⟩; rw [← HB.out, rightB_no hkl (.inl (by rw [← HQ.out, HW.out]; omega))]; rfl)
      · obtain rfl : k = n := by omega
        go_wp2
        go_ret
        refine ⟨?_, HD⟩
        have hr : rightB ls = true := (right_iff ls).2 ⟨by omega, by omega, by rw [HW.out]; exact (HA.out 0 (by omega) (by omega)).2.1, by rw [HW.out]; exact (HA.out 0 (by omega) (by omega)).2.2, fun i hi => by rw [HW.out]; exact (HA.out i hi (by omega)).1⟩
        rw [← HB.out, hr]
        rfl
end Go.Proofs.Ytalinkpfklhgaaa.RowsW
