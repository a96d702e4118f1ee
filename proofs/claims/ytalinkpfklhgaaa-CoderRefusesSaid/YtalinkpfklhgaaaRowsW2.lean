/- Rows that are only read: stookref02.IsOne, Equal, where they say yes. -/
import Derived.Test.YtalinkpfklhgaaaRowsW
set_option linter.unusedVariables false
set_option linter.unusedSimpArgs false
namespace Go.Proofs.Ytalinkpfklhgaaa.RowsW
open Go.RowKit Go.Proofs.Ytalinkpfklhgaaa.Base Go.Proofs.Ytalinkpfklhgaaa.Lin

set_option maxRecDepth 100000 in
set_option maxHeartbeats 1000000 in
theorem isone_yes (A : Option Addr) (n c : Nat) (ls : List (List Nat)) (w : World) (hR : Base.Rows w A ls) (hl : ls.length = n) (hn : n ≤ 1000) (hq : ∀ i (hi : i < ls.length), ls[i].length ≤ 1000)
    (h1 : ∀ i (hi : i < ls.length), ∀ j, j < ls[i].length → ls[i].getD j 0 = if i = j then 1 else 0) :
    Calls Try.prog 44 #[.slice A n c] w fun e w' => e = .returned (.bool true) ∧ w = w' := by
  have H1 := Lib.hid h1
  have HQ := Lib.hid hq
  clear h1 hq
  go_enter Try.func44, Try.ntmps44
  go_wp2
  go_loop [3] (fun i => ∃ k : Nat, k ≤ n ∧ i = .int .i64 k) (fun i => n - (intOf i).toNat)
  case atStart => exact ⟨0, by omega, rfl⟩
  case round =>
    obtain ⟨k, hk, rfl⟩ := hrel
    by_cases hlt : k < n
    · have hkl : k < ls.length := by omega
      obtain ⟨b, off, rfl, hc⟩ := hR.block (by omega)
      obtain ⟨B1, c1, hcell, hrow⟩ := hc k hkl
      clear hc
      have hq1 := HQ.out k hkl
      have h1 := H1.out k hkl
      generalize ls[k] = l at hcell hrow hq1 h1
      have H2 := Lib.hid h1
      clear h1
      obtain ⟨q, hqe⟩ : ∃ q, l.length = q := ⟨_, rfl⟩
      rw [hqe] at hcell hq1
      go_wp2
      go_loop [4] (fun j => ∃ m : Nat, m ≤ q ∧ j = .int .i64 m) (fun j => q - (intOf j).toNat)
      case atStart => exact ⟨0, by omega, rfl⟩
      case round =>
        obtain ⟨m, hm, rfl⟩ := hrel
        by_cases hlm : m < q
        · obtain ⟨b2, off2, rfl, hc2⟩ := hrow.block (by omega)
          have hcm := hc2 m (by omega)
          rw [H2.out m (by omega)] at hcm
          clear hc2
          by_cases hkm : k = m
          · subst hkm
            rw [if_pos rfl] at hcm
            go_wp2
            go_round
            case rel => exact ⟨k + 1, by omega, by go_num⟩
            case measure => simp [intOf]; omega
          · rw [if_neg hkm] at hcm
            have e1 : (((k : Nat) : Int) == ((m : Nat) : Int)) = false := int_ne (by omega)
            have e2 : (((k : Nat) : Int) != ((m : Nat) : Int)) = true := int_bne (by omega)
            go_wp2
            go_round
            case rel => exact ⟨m + 1, by omega, by go_num⟩
            case measure => simp [intOf]; omega
        · obtain rfl : m = q := by omega
          go_wp2
          go_round
          case rel => exact ⟨k + 1, by omega, by go_num⟩
          case measure => simp [intOf]; omega
    · obtain rfl : k = n := by omega
      go_wp2
      go_ret
      exact ⟨rfl, rfl⟩
end Go.Proofs.Ytalinkpfklhgaaa.RowsW
