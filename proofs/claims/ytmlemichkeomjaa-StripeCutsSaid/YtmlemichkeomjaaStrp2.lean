/- stripe.Join walked. -/
import Derived.Test.YtmlemichkeomjaaStrpLaw1
set_option linter.unusedVariables false
set_option linter.unusedSimpArgs false
namespace Go.Proofs.Ytmlemichkeomjaa.StrpW
open Go.RowKit Go.Proofs.Ytmlemichkeomjaa.Base Go.Proofs.Ytmlemichkeomjaa.GfP Go.Proofs.Ytmlemichkeomjaa.GfW Go.Proofs.Ytmlemichkeomjaa.Lin Go.Proofs.Ytmlemichkeomjaa.RowsW Go.Proofs.Ytmlemichkeomjaa.CodP Go.Proofs.Ytmlemichkeomjaa.CodW Go.Proofs.Ytmlemichkeomjaa.BuildW Go.Proofs.Ytmlemichkeomjaa.CrcP
section
variable (cb k n fb : Nat) (A : Option Addr) (c : Nat) (G : M) (A2 : Option Addr) (c2 : Nat) (ps : List (Int × ByteArray)) (s : ByteArray) (z : Int) (y : Nat) (w : World)
theorem join_few (hC : CoderAt w cb k n fb A c G) (hP : Pieces w A2 ps) (hm : ps.length ≤ 1000000) (hPk : PicksOf (pcs k n G s) ps) (hk : ps.length < k) :
    Calls Try.prog 29 #[.pointer (some ⟨cb, 0, none⟩), .slice A2 ps.length c2, .int .i64 z, .int .u32 (y : Nat)] w fun e w' => e = .returned (.tuple #[.string (str []), .int .i64 5]) ∧ Below w.heap.size w w' := by
  have HB : Below w.heap.size w w := Below.refl _ _
  have HR := Lib.hid (read_few cb k n fb A c G A2 c2 (cutL k s.size) (parts k k s) ps w hC hP hm hPk hk)
  clear hk hPk hP hC hm
  go_enter Try.func29, Try.ntmps29
  go_wp2_with (go_at_call 67; (with_reducible refine (HR.out).mono ?_); rintro e w1 ⟨rfl, hd⟩; replace HB := bt HB HB.size hd; clear hd)
  go_ret2
  exact ⟨rfl, HB⟩
theorem flat_total (hs : s.size ≤ 1000000) (k1 : 1 ≤ k) (k16 : k ≤ 16) : total (parts k k s) ≤ 1000016 := by
  rw [← flat_length, flat_whole k1, padL_length k1]
  have := cutL_lt (z := s.size) k1
  omega
theorem join_parts (W : World) (A1 : Option Addr) (c1 : Nat) (hs : s.size ≤ 1000000) (k1 : 1 ≤ k) (k16 : k ≤ 16) (hS : Strs W A1 k (parts k k s)) (hc : k ≤ c1) :
    Calls Try.prog 68 #[.slice A1 k c1, .string ⟨#[]⟩] W fun e w' => e = .returned (.string (str (padL k s))) ∧ Below W.heap.size W w' := by
  have h := join_any A1 k c1 (parts k k s) W hS hc (by omega) (by have := flat_total k s hs k1 k16; omega)
  rw [flat_whole k1] at h
  exact h
theorem join_form (hC : CoderAt w cb k n fb A c G) (hP : Pieces w A2 ps) (hmc : ps.length ≤ c2) (hm : ps.length ≤ 1000000) (hs : s.size ≤ 1000000) (hPk : PicksOf (pcs k n G s) ps) (hk : k ≤ ps.length) (hz : z < 0 ∨ (cutL k s.size * k : Nat) < z) :
    Calls Try.prog 29 #[.pointer (some ⟨cb, 0, none⟩), .slice A2 ps.length c2, .int .i64 z, .int .u32 (y : Nat)] w fun e w' => e = .returned (.tuple #[.string (str []), .int .i64 6]) ∧ Below w.heap.size w w' := by
  have HB : Below w.heap.size w w := Below.refl _ _
  have k1 := hC.k1
  have k16 : k ≤ 16 := Nat.le_trans hC.kn hC.n16
  have hsz := padL_length k1 s
  have HR := Lib.hid (read_picks cb k n fb A c G A2 c2 (cutL k s.size) (parts k k s) ps w hC hP hmc hm (by have := cutL_le (z := s.size) k1; omega) hPk hk (parts_length _ _ _) (parts_size k1 s))
  have HJ := Lib.hid (fun W A1 c1 hS hc => join_parts k s W A1 c1 hs k1 k16 hS hc)
  generalize padL k s = t at hsz HJ
  have hst : (str t).size = cutL k s.size * k := by rw [str_size]; exact hsz
  generalize cutL k s.size * k = P at hst hz
  generalize str t = T at hst HJ
  clear hk hPk hP hC hm hsz
  by_cases h0 : z < 0
  · have e1 : decide (z < 0) = true := by simp [h0]
    clear hz hst
    go_enter Try.func29, Try.ntmps29
    go_wp2_with (first | (go_at_call 67; (with_reducible refine (HR.out).mono ?_); rintro e w1 ⟨A1, c1, rfl, hc1, hS1, hd⟩; replace HB := bt HB HB.size hd; clear hd) | (go_at_call 68; (with_reducible refine (HJ.out _ _ _ hS1 hc1).mono ?_); rintro e w2 ⟨rfl, hd⟩; replace HB := bt HB HB.size hd; clear hd))
    go_ret2
    exact ⟨rfl, HB⟩
  · have e1 : decide (z < 0) = false := by simp; omega
    have e2 : decide ((T.size : Int) < z) = true := by simp; omega
    clear hz h0 hst
    go_enter Try.func29, Try.ntmps29
    go_wp2_with (first | (go_at_call 67; (with_reducible refine (HR.out).mono ?_); rintro e w1 ⟨A1, c1, rfl, hc1, hS1, hd⟩; replace HB := bt HB HB.size hd; clear hd) | (go_at_call 68; (with_reducible refine (HJ.out _ _ _ hS1 hc1).mono ?_); rintro e w2 ⟨rfl, hd⟩; replace HB := bt HB HB.size hd; clear hd))
    go_ret2
    exact ⟨rfl, HB⟩
theorem join_sum (m : Nat) (hC : CoderAt w cb k n fb A c G) (hP : Pieces w A2 ps) (hmc : ps.length ≤ c2) (hm : ps.length ≤ 1000000) (hs : s.size ≤ 1000000) (hPk : PicksOf (pcs k n G s) ps) (hk : k ≤ ps.length) (hz : m ≤ cutL k s.size * k) :
    Calls Try.prog 29 #[.pointer (some ⟨cb, 0, none⟩), .slice A2 ps.length c2, .int .i64 (m : Nat), .int .u32 (y : Nat)] w fun e w' => (e = .returned (.tuple #[.string (if crc ((padL k s).take m) = y then str ((padL k s).take m) else str []), .int .i64 (if crc ((padL k s).take m) = y then 0 else 7)])) ∧ Below w.heap.size w w' := by
  have HB : Below w.heap.size w w := Below.refl _ _
  have k1 := hC.k1
  have k16 : k ≤ 16 := Nat.le_trans hC.kn hC.n16
  have hsz := padL_length k1 s
  have hlt := cutL_lt (z := s.size) k1
  have HR := Lib.hid (read_picks cb k n fb A c G A2 c2 (cutL k s.size) (parts k k s) ps w hC hP hmc hm (by have := cutL_le (z := s.size) k1; omega) hPk hk (parts_length _ _ _) (parts_size k1 s))
  have HJ := Lib.hid (fun W A1 c1 hS hc => join_parts k s W A1 c1 hs k1 k16 hS hc)
  generalize padL k s = t at hsz HJ
  have hst : (str t).size = cutL k s.size * k := by rw [str_size]; exact hsz
  have hex : (str t).extract 0 m = str (t.take m) := by rw [extract_str]; first | done | rfl
  have hts : (str (t.take m)).size ≤ 1000016 := by rw [str_size, List.length_take]; omega
  have HS := Lib.hid (fun W => CrcW.sum_any (str (t.take m)) W (by omega))
  rw [str_list] at HS
  generalize cutL k s.size * k = P at hst hz hlt
  generalize str t = T at hst HJ hex
  generalize str (t.take m) = U at hex hts HS ⊢
  generalize crc (t.take m) = x at HS ⊢
  have HE := Lib.hid hex
  have e1 : decide ((m : Int) < 0) = false := by simp
  have e2 : decide ((T.size : Int) < m) = false := by simp; omega
  have hb : m ≤ T.size := by omega
  clear hk hPk hP hC hm hsz hts hex hz hst hlt
  by_cases hxy : x = y
  · subst hxy
    rw [if_pos rfl, if_pos rfl]
    go_enter Try.func29, Try.ntmps29
    go_wp2_with (first | (go_at_call 67; (with_reducible refine (HR.out).mono ?_); rintro e w1 ⟨A1, c1, rfl, hc1, hS1, hd⟩; replace HB := bt HB HB.size hd; clear hd) | (go_at_call 68; (with_reducible refine (HJ.out _ _ _ hS1 hc1).mono ?_); rintro e w2 ⟨rfl, hd⟩; replace HB := bt HB HB.size hd; clear hd) | (go_at_call 30; rw [HE.out]; (with_reducible refine (HS.out _).mono ?_); rintro e w3 ⟨rfl, hd⟩; replace HB := bt HB HB.size hd; clear hd))
    go_ret2
    exact ⟨by rw [HE.out]; rfl, HB⟩
  · rw [if_neg hxy, if_neg hxy]
    have e3 : ((x : Int) != (y : Int)) = true := int_bne (by omega)
    clear hxy
    go_enter Try.func29, Try.ntmps29
    go_wp2_with (first | (go_at_call 67; (with_reducible refine (HR.out).mono ?_); rintro e w1 ⟨A1, c1, rfl, hc1, hS1, hd⟩; replace HB := bt HB HB.size hd; clear hd) | (go_at_call 68; (with_reducible refine (HJ.out _ _ _ hS1 hc1).mono ?_); rintro e w2 ⟨rfl, hd⟩; replace HB := bt HB HB.size hd; clear hd) | (go_at_call 30; rw [HE.out]; (with_reducible refine (HS.out _).mono ?_); rintro e w3 ⟨rfl, hd⟩; replace HB := bt HB HB.size hd; clear hd))
    go_ret2
    exact ⟨rfl, HB⟩
end
end Go.Proofs.Ytmlemichkeomjaa.StrpW
