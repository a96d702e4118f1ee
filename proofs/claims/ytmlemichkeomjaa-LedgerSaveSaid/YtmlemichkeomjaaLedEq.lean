/- slices.Equal of slices that are alike. -/
import Derived.Test.YtmlemichkeomjaaLedW
set_option linter.unusedVariables false
set_option linter.unusedSimpArgs false
namespace Go.Proofs.Ytmlemichkeomjaa.LedW
open Go.RowKit Go.Proofs.Ytmlemichkeomjaa.Base Go.Proofs.Ytmlemichkeomjaa.MendW Go.Proofs.Ytmlemichkeomjaa.ManP Go.Proofs.Ytmlemichkeomjaa.ManW Go.Proofs.Ytmlemichkeomjaa.LedP
set_option maxRecDepth 100000 in
set_option maxHeartbeats 1000000 in
theorem eq_bools (A B : Option Addr) (n c1 c2 : Nat) (l : List Bool) (w : World) (h1 : Bools w A l) (h2 : Bools w B l) (hl : l.length = n) (hn : n ≤ 1000000) :
    Calls Try.prog 54 #[.slice A n c1, .slice B n c2] w fun e w' => e = .returned (.bool true) ∧ Below w.heap.size w w' := by
  have t0 : (((n : Nat) : Int) != ((n : Nat) : Int)) = false := by simp
  go_enter Try.func54, Try.ntmps54
  go_wp2
  go_loopw [5, 13] (fun _ i wr => ∃ k : Nat, k ≤ n ∧ i = .int .i64 k ∧ Below w.heap.size w wr) (fun _ i _ => n - (intOf i).toNat)
  case atStart => exact ⟨0, by omega, rfl, Below.refl _ _⟩
  case round =>
    obtain ⟨k, hk, rfl, HB⟩ := hrel
    by_cases hlt : k < n
    · obtain ⟨b, off, rfl, hc⟩ := (h1.below HB).block (by omega)
      obtain ⟨b2, off2, rfl, hc2⟩ := (h2.below HB).block (by omega)
      have g1 := hc k (by omega)
      have g2 := hc2 k (by omega)
      obtain ⟨x, hx⟩ : ∃ x, x = l[k]'(by omega) := ⟨_, rfl⟩
      rw [← hx] at g1 g2
      have t1 : (x != x) = false := by simp
      have r1 := regrown_cell g1
      have r2 := regrown_cell g2
      clear hc hc2 hx g1 g2
      go_upto_region 6 with fail
      (refine wp_region_quiet_below (by kernel_rfl) (by kernel_rfl) ?_; (repeat (go_big_quiet_step (fail))); refine wpQuiet_nil ?_; intro wq hw'; have HQ := below_of_regrown hw'; clear hw')
      have HE := bt HB HB.size HQ
      clear HQ HB r1 r2
      go_wp2
      go_roundw
      case rel => exact ⟨k + 1, by omega, by go_num, HE⟩
      case measure => simp [intOf]; omega
    · obtain rfl : k = n := by omega
      go_wp2
      go_ret
      exact ⟨rfl, HB⟩
set_option maxRecDepth 100000 in
set_option maxHeartbeats 1000000 in
theorem eq_errs (A B : Option Addr) (n c1 c2 : Nat) (l : List Int) (w : World) (h1 : Ints w A l) (h2 : Ints w B l) (hl : l.length = n) (hn : n ≤ 1000000) :
    Calls Try.prog 56 #[.slice A n c1, .slice B n c2] w fun e w' => e = .returned (.bool true) ∧ Below w.heap.size w w' := by
  have t0 : (((n : Nat) : Int) != ((n : Nat) : Int)) = false := by simp
  go_enter Try.func56, Try.ntmps56
  go_wp2
  go_loopw [5, 13] (fun _ i wr => ∃ k : Nat, k ≤ n ∧ i = .int .i64 k ∧ Below w.heap.size w wr) (fun _ i _ => n - (intOf i).toNat)
  case atStart => exact ⟨0, by omega, rfl, Below.refl _ _⟩
  case round =>
    obtain ⟨k, hk, rfl, HB⟩ := hrel
    by_cases hlt : k < n
    · obtain ⟨b, off, rfl, hc⟩ := (h1.below HB).block (by omega)
      obtain ⟨b2, off2, rfl, hc2⟩ := (h2.below HB).block (by omega)
      have g1 := hc k (by omega)
      have g2 := hc2 k (by omega)
      obtain ⟨x, hx⟩ : ∃ x, x = l[k]'(by omega) := ⟨_, rfl⟩
      rw [← hx] at g1 g2
      have t1 : (x != x) = false := by simp
      have r1 := regrown_cell g1
      have r2 := regrown_cell g2
      clear hc hc2 hx g1 g2
      go_upto_region 6 with fail
      (refine wp_region_quiet_below (by kernel_rfl) (by kernel_rfl) ?_; (repeat (go_big_quiet_step (fail))); refine wpQuiet_nil ?_; intro wq hw'; have HQ := below_of_regrown hw'; clear hw')
      have HE := bt HB HB.size HQ
      clear HQ HB r1 r2
      go_wp2
      go_roundw
      case rel => exact ⟨k + 1, by omega, by go_num, HE⟩
      case measure => simp [intOf]; omega
    · obtain rfl : k = n := by omega
      go_wp2
      go_ret
      exact ⟨rfl, HB⟩
set_option maxRecDepth 100000 in
set_option maxHeartbeats 1000000 in
theorem eq_texts (A B : Option Addr) (n c1 c2 : Nat) (l : List ByteArray) (w : World) (h1 : Strs w A n l) (h2 : Strs w B n l) (hl : l.length = n) (hn : n ≤ 1000000) :
    Calls Try.prog 57 #[.slice A n c1, .slice B n c2] w fun e w' => e = .returned (.bool true) ∧ Below w.heap.size w w' := by
  have t0 : (((n : Nat) : Int) != ((n : Nat) : Int)) = false := by simp
  go_enter Try.func57, Try.ntmps57
  go_wp2
  go_loopw [5, 13] (fun _ i wr => ∃ k : Nat, k ≤ n ∧ i = .int .i64 k ∧ Below w.heap.size w wr) (fun _ i _ => n - (intOf i).toNat)
  case atStart => exact ⟨0, by omega, rfl, Below.refl _ _⟩
  case round =>
    obtain ⟨k, hk, rfl, HB⟩ := hrel
    by_cases hlt : k < n
    · obtain ⟨b, off, rfl, hc⟩ := (h1.below HB).block (by omega)
      obtain ⟨b2, off2, rfl, hc2⟩ := (h2.below HB).block (by omega)
      have g1 := hc k (by omega)
      have g2 := hc2 k (by omega)
      obtain ⟨x, hx⟩ : ∃ x, x = l[k]'(by omega) := ⟨_, rfl⟩
      rw [← hx] at g1 g2
      have t1 : (x.toList == x.toList) = true := by simp
      have r1 := regrown_cell g1
      have r2 := regrown_cell g2
      clear hc hc2 hx g1 g2
      go_upto_region 6 with fail
      (refine wp_region_quiet_below (by kernel_rfl) (by kernel_rfl) ?_; (repeat (go_big_quiet_step (fail))); refine wpQuiet_nil ?_; intro wq hw'; have HQ := below_of_regrown hw'; clear hw')
      have HE := bt HB HB.size HQ
      clear HQ HB r1 r2
      go_wp2
      go_roundw
      case rel => exact ⟨k + 1, by omega, by go_num, HE⟩
      case measure => simp [intOf]; omega
    · obtain rfl : k = n := by omega
      go_wp2
      go_ret
      exact ⟨rfl, HB⟩
end Go.Proofs.Ytmlemichkeomjaa.LedW
