/- The law StripeSizes walked; the document's example. -/
import Derived.Test.YtmlemichkeomjaaStrp
set_option linter.unusedVariables false
set_option linter.unusedSimpArgs false
namespace Go.Proofs.Ytmlemichkeomjaa.StrpW
open Go.RowKit Go.Proofs.Ytmlemichkeomjaa.Base Go.Proofs.Ytmlemichkeomjaa.GfP Go.Proofs.Ytmlemichkeomjaa.GfW Go.Proofs.Ytmlemichkeomjaa.Lin Go.Proofs.Ytmlemichkeomjaa.RowsW Go.Proofs.Ytmlemichkeomjaa.CodP Go.Proofs.Ytmlemichkeomjaa.CodW Go.Proofs.Ytmlemichkeomjaa.BuildW
theorem pcs_head {k n : Nat} {G : M} (hG : CodeG k n G) (hk : 1 ≤ k) (s : ByteArray) (i : Nat) (hi : i < k) (hn : i < (pcs k n G s).length) : (pcs k n G s)[i] = CodP.part k s i := by
  have h0 : (pcs k n G s)[i] = strOf (cutL k s.size) (mm k G (tx (parts k k s)) i) := txs_getElem n (cutL k s.size) (mm k G (tx (parts k k s))) i hn
  rw [h0]
  have h := head_same (k := k) (n := n) (G := G) (L := cutL k s.size) (l := parts k k s) (i := i) hG hi (parts_length _ _ _) (parts_size hk s)
  rw [h, parts_getElem]
theorem cells_of {w : World} {A : Option Addr} {n L : Nat} {ss : List ByteArray} (hS : Strs w A n ss) (h : ∀ i (h : i < ss.length), ss[i].size = L) (h0 : n ≠ 0) : ∃ b off, A = some ⟨b, off, none⟩ ∧ ∀ j, j < n → ∃ s : ByteArray, s.size = L ∧ w.cell? ⟨b, off + j, none⟩ = some (.string s) := by
  obtain ⟨b, off, e, hc⟩ := hS.block h0
  exact ⟨b, off, e, fun j hj => ⟨ss[j]'(by rw [hS.len]; exact hj), h j _, hc j _⟩⟩
set_option maxRecDepth 100000 in
set_option maxHeartbeats 1000000 in
theorem awake16_any (w : World) : Calls Try.prog 11 #[] w fun e w' => e = .returned (.bool true) ∧ Below w.heap.size w w' := by
  have HB : Below w.heap.size w w := Below.refl _ _
  have HN := Lib.hid (fun W => new_lit 2 3 2 3 rfl rfl W (by omega) (by omega) (by omega))
  have HC := Lib.hid (fun W cb fb A c G (h : CoderAt W cb 2 3 fb A c G) => cut_ok cb 2 3 fb A c G ⟨#[97, 98, 99]⟩ W h (by decide))
  go_enter Try.func11, Try.ntmps11
  go_wp2_with (first | (go_at_call 26; (with_reducible refine (HN.out _).mono ?_); rintro e w1 ⟨cb, fb, A, c, G, rfl, hC, hd⟩; replace HB := bt HB HB.size hd; clear hd) | (go_at_call 27; (with_reducible refine (HC.out _ _ _ _ _ _ hC).mono ?_); rintro e w2 ⟨A2, c2, rfl, hc2, hS2, hd⟩; have g := hS2.block (by omega); obtain ⟨b2, o2, rfl, hcl⟩ := g; have g0 := hcl 0 (by rw [pcs_length]; omega); have g1 := hcl 1 (by rw [pcs_length]; omega); rw [pcs_head hC.code (by omega) _ 0 (by omega), Nat.add_zero, show CodP.part 2 ⟨#[97, 98, 99]⟩ 0 = ⟨#[97, 98]⟩ from by rfl] at g0; rw [pcs_head hC.code (by omega) _ 1 (by omega), show CodP.part 2 ⟨#[97, 98, 99]⟩ 1 = ⟨#[99, 0]⟩ from by rfl] at g1; clear hcl hC; replace HB := bt HB HB.size hd; clear hd))
  go_ret
  exact ⟨rfl, HB⟩
section
variable (k n : Nat) (s : ByteArray) (w : World)
theorem sizes_far (hk : k ≤ 255) (hn : n ≤ 255) (hs : s.size ≤ 9223372036854775807) (hz : 1500 < s.size) : Calls Try.prog 7 #[.int .u8 (k : Nat), .int .u8 (n : Nat), .string s] w fun e w' => e = .returned (.bool true) ∧ Below w.heap.size w w' := by
  have HB : Below w.heap.size w w := Below.refl _ _
  have e1 : decide ((1500 : Int) < s.size) = true := by simp; omega
  go_enter Try.func7, Try.ntmps7
  go_wp2_with (first | (go_at_call 11; (with_reducible refine (awake16_any _).mono ?_); rintro e w2 ⟨rfl, hd⟩; replace HB := bt HB HB.size hd; clear hd))
  go_ret
  exact ⟨rfl, HB⟩
theorem sizes_no (hk : k ≤ 255) (hn : n ≤ 255) (hz : s.size ≤ 1500) (h : (k : Int) < 1 ∨ (n : Int) < k ∨ 16 < (n : Int)) : Calls Try.prog 7 #[.int .u8 (k : Nat), .int .u8 (n : Nat), .string s] w fun e w' => e = .returned (.bool true) ∧ Below w.heap.size w w' := by
  have HB : Below w.heap.size w w := Below.refl _ _
  have e1 : decide ((1500 : Int) < s.size) = false := by simp; omega
  have HN := Lib.hid (fun W => new_no k n W h)
  clear h
  go_enter Try.func7, Try.ntmps7
  go_wp2_with (first | (go_at_call 11; (with_reducible refine (awake16_any _).mono ?_); rintro e w2 ⟨rfl, hd⟩; replace HB := bt HB HB.size hd; clear hd) | (go_at_call 26; (with_reducible refine (HN.out _).mono ?_); rintro e w2 ⟨rfl, rfl⟩) | (go_at_call 27; (with_reducible refine (cut_nil _ _).mono ?_); rintro e w2 ⟨rfl, hd⟩; replace HB := bt HB HB.size hd; clear hd))
  go_ret
  exact ⟨rfl, HB⟩
set_option maxRecDepth 100000 in
set_option maxHeartbeats 1000000 in
theorem sizes_ok (hz : s.size ≤ 1500) (k1 : 1 ≤ k) (kn : k ≤ n) (n16 : n ≤ 16) : Calls Try.prog 7 #[.int .u8 (k : Nat), .int .u8 (n : Nat), .string s] w fun e w' => e = .returned (.bool true) ∧ Below w.heap.size w w' := by
  have HB : Below w.heap.size w w := Below.refl _ _
  have e1 : decide ((1500 : Int) < s.size) = false := by simp; omega
  have HN := Lib.hid (fun W => new_ok k n W k1 kn n16)
  have HC := Lib.hid (fun W cb fb A c G (h : CoderAt W cb k n fb A c G) => cut_ok cb k n fb A c G s W h (by omega))
  have HR := Lib.hid (fun W cb fb A c G A2 c2 (h : CoderAt W cb k n fb A c G) (hS : Strs W A2 n (pcs k n G s)) (hc : n ≤ c2) => cright_yes cb k n fb A c G A2 c2 (cutL k s.size) (tx (parts k k s)) W h hS hc (by have := cutL_le (z := s.size) k1; omega))
  obtain ⟨L, hL⟩ : ∃ L, cutL k s.size = L := ⟨_, rfl⟩
  have h1 := cutL_ge (z := s.size) k1
  have h2 := cutL_lt (z := s.size) k1
  have h3 := cutL_le (z := s.size) k1
  rw [hL] at h1 h2 h3
  obtain ⟨P, hP⟩ : ∃ P, L * k = P := ⟨_, rfl⟩
  rw [hP] at h1 h2
  have m1 : (L : Int) * (k : Int) = (P : Int) := by rw [← hP, Int.natCast_mul]
  have m2 : ((L : Int) - 1) * (k : Int) = (P : Int) - (k : Int) := by rw [Int.sub_mul, m1, Int.one_mul]
  have HL := Lib.hid hL
  clear hL hP
  go_enter Try.func7, Try.ntmps7
  go_wp2_with (first | (go_at_call 11; (with_reducible refine (awake16_any _).mono ?_); rintro e w2 ⟨rfl, hd⟩; replace HB := bt HB HB.size hd; clear hd) | (go_at_call 26; (with_reducible refine (HN.out _).mono ?_); rintro e w3 ⟨cb, fb, A, c, G, rfl, hC, hd⟩; replace HB := bt HB HB.size hd; clear hd) | (go_at_call 27; (with_reducible refine (HC.out _ _ _ _ _ _ hC).mono ?_); rintro e w4 ⟨A2, c2, rfl, hc2, hS2, hd⟩; replace hC := hC.below hd; obtain ⟨b2, o2, rfl, hcl⟩ := cells_of hS2 (L := L) (fun i hi => by rw [pcs_size, HL.out]) (by omega); obtain ⟨s0, z0, g0⟩ := hcl 0 (by omega); rw [Nat.add_zero] at g0; have HCL := Lib.hid hcl; clear hcl; replace HB := bt HB HB.size hd; clear hd))
  clear g0 z0 HC HN
  go_loop [12] (fun i => ∃ a : Nat, a ≤ n ∧ i = .int .i64 a) (fun i => n - (intOf i).toNat)
  case atStart => exact ⟨0, by omega, rfl⟩
  case round =>
    obtain ⟨a, ha, rfl⟩ := hrel
    by_cases hlt : a < n
    · obtain ⟨t, zt, gt⟩ := HCL.out a hlt
      rw [← zt]
      go_wp2
      go_round
      case rel => exact ⟨a + 1, by omega, by go_num⟩
      case measure => simp [intOf]; omega
    · obtain rfl : a = n := by omega
      have HRR := Lib.hid (HR.out _ _ _ _ _ _ _ _ hC hS2 hc2)
      have e5 : decide ((s.size : Int) ≤ (P : Int)) = true := by simp; omega
      have e6 : decide ((P : Int) - (k : Int) < (s.size : Int)) = true := by simp; omega
      go_wp2_with (go_at_call 28; (with_reducible refine (HRR.out).mono ?_); rintro e w2 ⟨rfl, hd⟩; replace HB := bt HB HB.size hd; clear hd)
      go_ret
      exact ⟨rfl, HB⟩
theorem lawsizes_all (hk : k ≤ 255) (hn : n ≤ 255) (hs : s.size ≤ 140737488351232) : Calls Try.prog 7 #[.int .u8 (k : Nat), .int .u8 (n : Nat), .string s] w fun e w' => e = .returned (.bool true) ∧ Below w.heap.size w w' := by
  by_cases hz : 1500 < s.size
  · exact sizes_far k n s w hk hn (by omega) hz
  by_cases h : (k : Int) < 1 ∨ (n : Int) < k ∨ 16 < (n : Int)
  · exact sizes_no k n s w hk hn (by omega) h
  · exact sizes_ok k n s w (by omega) (by omega) (by omega) (by omega)
end
end Go.Proofs.Ytmlemichkeomjaa.StrpW
