/- Small, Present walked. -/
import Derived.Test.YtpologlcfohjeaaMend2
set_option linter.unusedVariables false
set_option linter.unusedSimpArgs false
namespace Go.Proofs.Ytpologlcfohjeaa.MendW
open Go.RowKit Go.Proofs.Ytpologlcfohjeaa.Base

/-- A manifest's value. -/
def mv (t a : Int) (A2 : Option Addr) (n2 c2 : Nat) (A3 : Option Addr) (n3 c3 : Nat) (A4 : Option Addr) (n4 c4 : Nat) : Array Value := #[.int .i64 t, .int .i64 a, .slice A2 n2 c2, .slice A3 n3 c3, .slice A4 n4 c4]
structure SmallM (n2 n3 : Nat) (hm : List (List Int)) : Prop where
  size : n2 ≤ 30
  sum : n3 ≤ 30
  homes : hm.length ≤ 30
  row : ∀ i (h : i < hm.length), hm[i].length ≤ 30
section
variable (t a : Int) (A2 : Option Addr) (n2 c2 : Nat) (A3 : Option Addr) (n3 c3 : Nat) (A4 : Option Addr) (n4 c4 : Nat) (hm : List (List Int)) (w : World)
set_option maxRecDepth 100000 in
set_option maxHeartbeats 1000000 in
theorem small16_any (hH : IRows w A4 hm) (hl : hm.length = n4) (hb : n2 ≤ 9223372036854775807 ∧ n3 ≤ 9223372036854775807 ∧ n4 ≤ 9223372036854775807) (hr : ∀ i (h : i < hm.length), hm[i].length ≤ 9223372036854775807) :
    Calls Try.prog 16 #[.agg #[.int .i64 t, .int .i64 a, .slice A2 n2 c2, .slice A3 n3 c3, .slice A4 n4 c4]] w fun e w' => ∃ r : Nat, e = .returned (.int .i64 (r : Nat)) ∧ (r = 0 ∨ r = 1 ∧ SmallM n2 n3 hm) ∧ Below w.heap.size w w' := by
  have HL := Lib.hid hl
  have HR := Lib.hid hr
  clear hr hl
  go_enter Try.func16, Try.ntmps16
  go_upto_region 1 with fail
  have q2 : (w.alloc (.cells #[.int .i64 t, .int .i64 a, .slice A2 n2 c2, .slice A3 n3 c3, .slice A4 n4 c4] 26)).cell? ⟨w.heap.size, 2, none⟩ = some (.slice A2 n2 c2) := by rw [cell_of_row _ _ _ _ _ _ (heap_alloc_new w _)]; rfl
  have q3 : (w.alloc (.cells #[.int .i64 t, .int .i64 a, .slice A2 n2 c2, .slice A3 n3 c3, .slice A4 n4 c4] 26)).cell? ⟨w.heap.size, 3, none⟩ = some (.slice A3 n3 c3) := by rw [cell_of_row _ _ _ _ _ _ (heap_alloc_new w _)]; rfl
  have q4 : (w.alloc (.cells #[.int .i64 t, .int .i64 a, .slice A2 n2 c2, .slice A3 n3 c3, .slice A4 n4 c4] 26)).cell? ⟨w.heap.size, 4, none⟩ = some (.slice A4 n4 c4) := by rw [cell_of_row _ _ _ _ _ _ (heap_alloc_new w _)]; rfl
  have hWb : Below w.heap.size w (w.alloc (.cells #[.int .i64 t, .int .i64 a, .slice A2 n2 c2, .slice A3 n3 c3, .slice A4 n4 c4] 26)) := (Below.refl _ _).alloc (Nat.le_refl _) _
  generalize w.alloc (.cells #[.int .i64 t, .int .i64 a, .slice A2 n2 c2, .slice A3 n3 c3, .slice A4 n4 c4] 26) = W at q2 q3 q4 hWb ⊢
  have hH2 := hH.below hWb
  by_cases s2 : n2 ≤ 30
  · have t2 : decide ((30 : Int) < ((n2 : Nat) : Int)) = false := by simp; omega
    have t2' : decide (30 < n2) = false := by simp; omega
    by_cases s3 : n3 ≤ 30
    · have t3 : decide ((30 : Int) < ((n3 : Nat) : Int)) = false := by simp; omega
      have t3' : decide (30 < n3) = false := by simp; omega
      by_cases s4 : n4 ≤ 30
      · have t4 : decide ((30 : Int) < ((n4 : Nat) : Int)) = false := by simp; omega
        have t4' : decide (30 < n4) = false := by simp; omega
        go_wp2
        go_loop [3] (fun i => ∃ k : Nat, k ≤ n4 ∧ i = .int .i64 k ∧ ∀ j (hj : j < hm.length), j < k → hm[j].length ≤ 30) (fun i => n4 - (intOf i).toNat)
        case atStart => exact ⟨0, by omega, rfl, fun j _ h => by omega⟩
        case round =>
          obtain ⟨k, hk, rfl, hall⟩ := hrel
          have HA := Lib.hid hall
          clear hall
          by_cases hlt : k < n4
          · have hkl : k < hm.length := by have := HL.out; omega
            obtain ⟨b, off, rfl, hc⟩ := hH2.block (by omega)
            obtain ⟨B, cb, g1, _, _⟩ := hc k hkl
            have hq9 := HR.out k hkl
            obtain ⟨q, hq⟩ : ∃ q, q = hm[k].length := ⟨_, rfl⟩
            rw [← hq] at g1 hq9
            have HQ := Lib.hid hq
            clear hc hq
            by_cases he : q ≤ 30
            · have t5 : decide ((30 : Int) < ((q : Nat) : Int)) = false := by simp; omega
              have t5' : decide (30 < q) = false := by simp; omega
              go_wp2
              go_round
              case rel =>
                refine ⟨k + 1, by omega, by go_num, fun j hj hjk => ?_⟩
                by_cases e : j = k
                · subst e; rw [← HQ.out]; exact he
                · exact HA.out j hj (by omega)
              case measure => simp [intOf]; omega
            · have t5 : decide ((30 : Int) < ((q : Nat) : Int)) = true := by simp; omega
              have t5' : decide (30 < q) = true := by simp; omega
              go_wp2
              go_ret
              exact ⟨0, rfl, .inl rfl, hWb⟩
          · obtain rfl : k = n4 := by omega
            go_wp2
            go_ret
            exact ⟨1, rfl, .inr ⟨rfl, s2, s3, by have := HL.out; omega, fun i hi => HA.out i hi (by have := HL.out; omega)⟩, hWb⟩
      · have t4 : decide ((30 : Int) < ((n4 : Nat) : Int)) = true := by simp; omega
        have t4' : decide (30 < n4) = true := by simp; omega
        go_wp2
        go_ret
        exact ⟨0, rfl, .inl rfl, hWb⟩
    · have t3 : decide ((30 : Int) < ((n3 : Nat) : Int)) = true := by simp; omega
      have t3' : decide (30 < n3) = true := by simp; omega
      go_wp2
      go_ret
      exact ⟨0, rfl, .inl rfl, hWb⟩
  · have t2 : decide ((30 : Int) < ((n2 : Nat) : Int)) = true := by simp; omega
    have t2' : decide (30 < n2) = true := by simp; omega
    go_wp2
    go_ret
    exact ⟨0, rfl, .inl rfl, hWb⟩
end
end Go.Proofs.Ytpologlcfohjeaa.MendW
