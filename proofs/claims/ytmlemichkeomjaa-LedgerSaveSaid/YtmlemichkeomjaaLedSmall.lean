/- slices.Contains at bools; ledger.all, within walked. -/
import Derived.Test.YtmlemichkeomjaaLedCop
set_option linter.unusedVariables false
set_option linter.unusedSimpArgs false
namespace Go.Proofs.Ytmlemichkeomjaa.LedW
open Go.RowKit Go.Proofs.Ytmlemichkeomjaa.Base Go.Proofs.Ytmlemichkeomjaa.MendW Go.Proofs.Ytmlemichkeomjaa.ManP Go.Proofs.Ytmlemichkeomjaa.ManW Go.Proofs.Ytmlemichkeomjaa.LedP
theorem not_mem_b {l : List Bool} {x : Bool} (h : ∀ j (hj : j < l.length), l[j] ≠ x) : x ∉ l := fun hm => by
  obtain ⟨j, hj, e⟩ := List.mem_iff_getElem.1 hm
  exact h j hj e
set_option maxRecDepth 100000 in
set_option maxHeartbeats 1000000 in
theorem index_bool (A : Option Addr) (n c : Nat) (l : List Bool) (x : Bool) (w : World) (hS : Bools w A l) (hl : l.length = n) (hn : n ≤ 1000000) :
    Calls Try.prog 145 #[.slice A n c, .bool x] w fun e w' => ∃ r : Int, e = .returned (.int .i64 r) ∧ (0 ≤ r ↔ x ∈ l) ∧ w = w' := by
  have HL := Lib.hid hl
  go_enter Try.func145, Try.ntmps145
  go_wp2
  go_loop [5, 8] (fun _ i => ∃ k : Nat, k ≤ n ∧ i = .int .i64 k ∧ ∀ j (hj : j < l.length), j < k → l[j] ≠ x) (fun _ i => n - (intOf i).toNat)
  case atStart => exact ⟨0, by omega, rfl, fun j _ h => by omega⟩
  case round =>
    obtain ⟨k, hk, rfl, hall⟩ := hrel
    have HA := Lib.hid hall
    clear hall
    by_cases hlt : k < n
    · have hkl : k < l.length := by have := HL.out; omega
      obtain ⟨b, off, rfl, hc⟩ := hS.block (by omega)
      have g1 := hc k hkl
      obtain ⟨y, hy⟩ : ∃ y, y = l[k] := ⟨_, rfl⟩
      rw [← hy] at g1
      have HY := Lib.hid hy
      clear hc hy
      by_cases he : y = x
      · have t1 : (x == y) = true := by simp [he]
        have hm : x ∈ l := by rw [← he, HY.out]; exact List.getElem_mem hkl
        have HM := Lib.hid hm
        clear he hm
        go_wp2
        go_ret
        exact ⟨_, rfl, ⟨fun _ => HM.out, fun _ => by omega⟩, rfl⟩
      · have t1 : (x == y) = false := by rw [beq_eq_false_iff_ne]; exact fun h => he h.symm
        have HE := Lib.hid he
        clear he
        go_wp2
        go_round
        case rel =>
          refine ⟨k + 1, by omega, by go_num, fun j hj hjk => ?_⟩
          by_cases e : j = k
          · subst e; rw [← HY.out]; exact HE.out
          · exact HA.out j hj (by omega)
        case measure => simp [intOf]; omega
    · obtain rfl : k = n := by omega
      have HM := Lib.hid (not_mem_b (x := x) fun j hj => HA.out j hj (by have := HL.out; omega))
      go_wp2
      go_ret
      exact ⟨_, rfl, ⟨fun h => absurd h (by decide), fun h => absurd h HM.out⟩, rfl⟩
theorem contains_bool (A : Option Addr) (n c : Nat) (l : List Bool) (x : Bool) (w : World) (hS : Bools w A l) (hl : l.length = n) (hn : n ≤ 1000000) :
    Calls Try.prog 123 #[.slice A n c, .bool x] w fun e w' => e = .returned (.bool (decide (x ∈ l))) ∧ w = w' := by
  have H := Lib.hid (index_bool A n c l x w hS hl hn)
  go_enter Try.func123, Try.ntmps123
  go_wp2_with (go_at_call 145; (with_reducible refine (H.out).mono ?_); rintro e w2 ⟨r, rfl, hr, rfl⟩; have HR := Lib.hid hr; clear hr)
  go_ret
  exact ⟨by rw [show decide (x ∈ l) = decide (0 ≤ r) from decide_eq_decide.2 HR.out.symm]; rfl, rfl⟩
theorem all_any (A : Option Addr) (n c : Nat) (l : List Bool) (w : World) (hS : Bools w A l) (hl : l.length = n) (hn : n ≤ 1000000) :
    Calls Try.prog 122 #[.slice A n c] w fun e w' => e = .returned (.bool (!decide (false ∈ l))) ∧ w = w' := by
  have H := Lib.hid (contains_bool A n c l false w hS hl hn)
  go_enter Try.func122, Try.ntmps122
  go_wp2_with (go_at_call 123; (with_reducible refine (H.out).mono ?_); rintro e w2 ⟨rfl, rfl⟩)
  go_ret
  exact ⟨rfl, rfl⟩
theorem within_any (n most : Int) (w : World) :
    Calls Try.prog 48 #[.int .i64 n, .int .i64 most] w fun e w' => e = .returned (.bool (decide (1 ≤ n) && decide (n ≤ most))) ∧ w = w' := by
  by_cases h1 : 1 ≤ n
  · have t1 : decide (1 ≤ n) = true := by simp [h1]
    rw [t1]
    go_enter Try.func48, Try.ntmps48
    go_wp2
    go_ret
    exact ⟨rfl, rfl⟩
  · have t1 : decide (1 ≤ n) = false := by simp [h1]
    rw [t1]
    go_enter Try.func48, Try.ntmps48
    go_wp2
    go_ret
    exact ⟨rfl, rfl⟩
end Go.Proofs.Ytmlemichkeomjaa.LedW
