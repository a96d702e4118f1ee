/- (*planner).free walked. -/
import Derived.Test.YtpologlcfohjeaaMend6
set_option linter.unusedVariables false
set_option linter.unusedSimpArgs false
namespace Go.Proofs.Ytpologlcfohjeaa.MendW
open Go.RowKit Go.Proofs.Ytpologlcfohjeaa.Base

theorem ints_regrown {w : World} {A : Option Addr} {l : List Int} (h : Ints w A l) (p : Regrown) : Ints (Go.Sort.grow (redrawn w p.d) p.os) A l := h.below (below_of_regrown ⟨p, rfl⟩)
/-- The free worker among the first k. -/
structure FreeK (live : List Bool) (taken : List Int) (k r : Nat) : Prop where
  no : r = 0 → ∀ i (h : i < live.length), i < k → live[i] = true → ((i : Nat) : Int) + 1 ∈ taken
  yes : r ≠ 0 → r ≤ k ∧ live.getD (r - 1) false = true ∧ ((r : Nat) : Int) ∉ taken
theorem FreeK.skip {live : List Bool} {taken : List Int} {k r : Nat} (h : FreeK live taken k r) (hk : k < live.length) (hs : r ≠ 0 ∨ live[k] = false ∨ ((k : Nat) : Int) + 1 ∈ taken) : FreeK live taken (k + 1) r := by
  refine ⟨fun h0 i hi hik hl => ?_, fun h0 => ?_⟩
  · by_cases e : i = k
    · subst e
      rcases hs with h1 | h1 | h1
      · exact absurd h0 h1
      · rw [h1] at hl; cases hl
      · exact h1
    · exact h.no h0 i hi (by omega) hl
  · obtain ⟨h1, h2, h3⟩ := h.yes h0
    exact ⟨by omega, h2, h3⟩
theorem FreeK.take {live : List Bool} {taken : List Int} {k : Nat} (hk : k < live.length) (hl : live[k] = true) (hn : ((k : Nat) : Int) + 1 ∉ taken) : FreeK live taken (k + 1) (k + 1) := by
  refine ⟨fun h0 => by omega, fun _ => ⟨Nat.le_refl _, ?_, ?_⟩⟩
  · rw [Nat.add_sub_cancel, List.getD_eq_getElem?_getD, List.getElem?_eq_getElem hk]
    exact hl
  · rw [Int.natCast_add]; exact hn
section
variable (pb : Nat) (Al : Option Addr) (nl cl : Nat) (live : List Bool) (Ao : Option Addr) (co : Nat) (loads : List Int) (At : Option Addr) (nt ct : Nat) (taken : List Int) (w : World)
set_option maxRecDepth 100000 in
set_option maxHeartbeats 2000000 in
theorem free_any (f2 : w.cell? ⟨pb, 2, none⟩ = some (.slice Al nl cl)) (f3 : w.cell? ⟨pb, 3, none⟩ = some (.slice Ao nl co)) (hB : Bools w Al live) (hll : live.length = nl) (hO : Ints w Ao loads) (hol : loads.length = nl) (hT : Ints w At taken) (htl : taken.length = nt) (hn : nl ≤ 1000000) (hnt : nt ≤ 1000000) :
    Calls Try.prog 33 #[.pointer (some ⟨pb, 0, none⟩), .slice At nt ct] w fun e w' => ∃ r : Nat, e = .returned (.int .i64 (r : Nat)) ∧ FreeK live taken nl r ∧ Below w.heap.size w w' := by
  have HLL := Lib.hid hll
  have HOL := Lib.hid hol
  have HC := Lib.hid (fun W (x : Int) (h : Ints W At taken) => (contains_any At nt ct taken x W h htl hnt).mono (fun e w' (h : e = .returned (.bool (decide (x ∈ taken))) ∧ W = w') => (show e = .returned (.bool (decide (x ∈ taken))) ∧ Below W.heap.size W w' from ⟨h.1, h.2 ▸ Below.refl _ _⟩)))
  clear hll hol
  go_enter Try.func33, Try.ntmps33
  go_wp2
  go_loopw [5, 6, 7, 8, 14] (fun b _ _ _ i wr => ∃ k r : Nat, k ≤ nl ∧ i = .int .i64 k ∧ b = .int .i64 r ∧ FreeK live taken k r ∧ Below w.heap.size w wr) (fun _ _ _ _ i _ => nl - (intOf i).toNat)
  case atStart => exact ⟨0, 0, by omega, rfl, rfl, ⟨fun _ i _ h => by omega, fun h => absurd rfl h⟩, Below.refl _ _⟩
  case round =>
    obtain ⟨k, r, hk, rfl, rfl, hF, HB⟩ := hrel
    have HF := Lib.hid hF
    by_cases hlt : k < nl
    · have hkl : k < live.length := by have := HLL.out; omega
      obtain ⟨bl, ol, rfl, hcl⟩ := (hB.below HB).block (by omega)
      have g1 := hcl k hkl
      obtain ⟨bo, oo, rfl, hco⟩ := (hO.below HB).block (by have := HOL.out; omega)
      have g2 := hco k (by have := HOL.out; omega)
      obtain ⟨f, hf⟩ : ∃ f, f = live[k] := ⟨_, rfl⟩
      rw [← hf] at g1
      have HFV := Lib.hid hf
      clear hcl hf hF
      cases f
      · go_upto_region 6 with fail
        have q3 := cell_below HB f3
        (refine wp_region_quiet_below (by kernel_rfl) (by kernel_rfl) ?_; (repeat (go_big_quiet_step (fail))); refine wpQuiet_nil ?_; intro wq hw'; have HQ := below_of_regrown hw'; clear hw')
        have HE := bt HB HB.size HQ
        clear HQ HB
        go_wp2
        go_roundw
        case rel => exact ⟨k + 1, r, by omega, by go_num, rfl, HF.out.skip hkl (.inr (.inl HFV.out.symm)), HE⟩
        case measure => simp [intOf]; omega
      · have RT := ints_regrown (hT.below HB)
        have w9 : IntKind.i64.wrap (((k : Nat) : Int) + 1) = ((k : Nat) : Int) + 1 := by rw [IntKind.wrap_i64]; omega
        by_cases hmem : ((k : Nat) : Int) + 1 ∈ taken
        · have HCT := Lib.hid (fun W (h : Ints W At taken) => HC.out W (((k : Nat) : Int) + 1) h)
          rw [decide_eq_true hmem] at HCT
          have HMM := Lib.hid hmem
          clear hmem
          go_upto_region 6 with fail
          have q3 := cell_below HB f3
          (refine wp_region_quiet_below (by kernel_rfl) (by kernel_rfl) ?_; (repeat (go_big_quiet_step ((go_at_call 34; with_reducible exact Calls.regrown_of (HCT.out _ (RT ⟨_, _⟩)))))); refine wpQuiet_nil ?_; intro wq hw'; have HQ := below_of_regrown hw'; clear hw')
          have HE := bt HB HB.size HQ
          clear HQ HB
          go_wp2
          go_roundw
          case rel => exact ⟨k + 1, r, by omega, by go_num, rfl, HF.out.skip hkl (.inr (.inr HMM.out)), HE⟩
          case measure => simp [intOf]; omega
        · have HCT := Lib.hid (fun W (h : Ints W At taken) => HC.out W (((k : Nat) : Int) + 1) h)
          rw [decide_eq_false hmem] at HCT
          have HMM := Lib.hid hmem
          clear hmem
          by_cases hr0 : r = 0
          · subst hr0
            go_upto_region 6 with fail
            have q3 := cell_below HB f3
            (refine wp_region_quiet_below (by kernel_rfl) (by kernel_rfl) ?_; (repeat (go_big_quiet_step ((go_at_call 34; with_reducible exact Calls.regrown_of (HCT.out _ (RT ⟨_, _⟩)))))); refine wpQuiet_nil ?_; intro wq hw'; have HQ := below_of_regrown hw'; clear hw')
            have HE := bt HB HB.size HQ
            clear HQ HB
            go_wp2
            go_roundw
            case rel => exact ⟨k + 1, k + 1, by omega, by go_num, by go_num, FreeK.take hkl HFV.out.symm HMM.out, HE⟩
            case measure => simp [intOf]; omega
          · obtain ⟨s, hs⟩ : ∃ s : Nat, ((r : Nat) : Int) - 1 = (s : Nat) := ⟨r - 1, by omega⟩
            have hrk := (HF.out.yes hr0).1
            have g4 := hco s (by have := HOL.out; omega)
            have t4 : (((r : Nat) : Int) == 0) = false := by simp [hr0]
            have w5 : IntKind.i64.wrap (((r : Nat) : Int) - 1) = ((s : Nat) : Int) := by rw [IntKind.wrap_i64]; omega
            have hsn : s < nl := by omega
            generalize loads[k]'(by have := HOL.out; omega) = y1 at g2
            generalize loads[s]'(by have := HOL.out; omega) = y2 at g4
            clear hco
            by_cases hy : y1 < y2
            · have t5 : decide (y1 < y2) = true := by simp [hy]
              clear hy
              go_upto_region 6 with fail
              have q3 := cell_below HB f3
              have r2 := regrown_cell g2
              have r3 := regrown_cell q3
              have r4 := regrown_cell g4
              clear g2 g4 q3
              (refine wp_region_quiet_below (by kernel_rfl) (by kernel_rfl) ?_; (repeat (go_big_quiet_step ((go_at_call 34; with_reducible exact Calls.regrown_of (HCT.out _ (RT ⟨_, _⟩)))))); refine wpQuiet_nil ?_; intro wq hw'; have HQ := below_of_regrown hw'; clear hw')
              have HE := bt HB HB.size HQ
              clear HQ HB
              go_wp2
              go_roundw
              case rel => exact ⟨k + 1, k + 1, by omega, by go_num, by go_num, FreeK.take hkl HFV.out.symm HMM.out, HE⟩
              case measure => simp [intOf]; omega
            · have t5 : decide (y1 < y2) = false := by simp [hy]
              clear hy
              go_upto_region 6 with fail
              have q3 := cell_below HB f3
              have r2 := regrown_cell g2
              have r3 := regrown_cell q3
              have r4 := regrown_cell g4
              clear g2 g4 q3
              (refine wp_region_quiet_below (by kernel_rfl) (by kernel_rfl) ?_; (repeat (go_big_quiet_step ((go_at_call 34; with_reducible exact Calls.regrown_of (HCT.out _ (RT ⟨_, _⟩)))))); refine wpQuiet_nil ?_; intro wq hw'; have HQ := below_of_regrown hw'; clear hw')
              have HE := bt HB HB.size HQ
              clear HQ HB
              go_wp2
              go_roundw
              case rel => exact ⟨k + 1, r, by omega, by go_num, rfl, HF.out.skip hkl (.inl hr0), HE⟩
              case measure => simp [intOf]; omega
    · obtain rfl : k = nl := by omega
      go_wp2
      go_ret
      exact ⟨r, rfl, HF.out, HB⟩
end
end Go.Proofs.Ytpologlcfohjeaa.MendW
