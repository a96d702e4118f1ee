/- stripe.Right walked. -/
import Derived.Test.YtpologlcfohjeaaMendC
set_option linter.unusedVariables false
set_option linter.unusedSimpArgs false
namespace Go.Proofs.Ytpologlcfohjeaa.MendW
open Go.RowKit Go.Proofs.Ytpologlcfohjeaa.Base

/-- Is a manifest right? -/
noncomputable def rightB (t a : Int) (n2 n3 n4 : Nat) (sz : List Int) (hm : List (List Int)) (parts m : Int) : Bool :=
  idB t && idB a && decide ((n2 : Int) = parts) && decide ((n3 : Int) = parts) && decide ((n4 : Int) = parts) && !sz.any badS && !hm.any (badH m)
section
variable (t a : Int) (A2 : Option Addr) (n2 c2 : Nat) (A3 : Option Addr) (n3 c3 : Nat) (A4 : Option Addr) (n4 c4 : Nat) (sz : List Int) (hm : List (List Int)) (parts m : Int) (w : World)
set_option maxRecDepth 100000 in
set_option maxHeartbeats 2000000 in
theorem right_any (hS : Ints w A2 sz) (hsl : sz.length = n2) (hs2 : n2 ≤ 1000000) (hH : IRows w A4 hm) (hl : hm.length = n4) (h4 : n4 ≤ 1000000) (hr : ∀ i (h : i < hm.length), hm[i].length ≤ 1000000) :
    Calls Try.prog 14 #[.agg #[.int .i64 t, .int .i64 a, .slice A2 n2 c2, .slice A3 n3 c3, .slice A4 n4 c4], .int .i64 parts, .int .i64 m] w fun e w' => e = .returned (.bool (rightB t a n2 n3 n4 sz hm parts m)) ∧ Below w.heap.size w w' := by
  obtain ⟨R, hR⟩ : ∃ R, rightB t a n2 n3 n4 sz hm parts m = R := ⟨_, rfl⟩
  rw [hR]
  have HR := Lib.hid hR
  clear hR
  have H1 := Lib.hid (fun W => id_any t W)
  have H2 := Lib.hid (fun W => id_any a W)
  go_enter Try.func14, Try.ntmps14
  go_upto_region 1 with fail
  have HM := (ManBox.mk' w t a A2 n2 c2 A3 n3 c3 A4 n4 c4).below (Below.alloc (Below.refl _ _) (Nat.le_refl _) (.cells #[.int .i64 m] 3))
  have HB : Below w.heap.size w (w.alloc (.cells #[.int .i64 t, .int .i64 a, .slice A2 n2 c2, .slice A3 n3 c3, .slice A4 n4 c4] 26)) := (Below.refl _ _).alloc (Nat.le_refl _) _
  have hs0 : (w.alloc (.cells #[.int .i64 t, .int .i64 a, .slice A2 n2 c2, .slice A3 n3 c3, .slice A4 n4 c4] 26)).heap.size = w.heap.size + 1 := by simp
  generalize w.alloc (.cells #[.int .i64 t, .int .i64 a, .slice A2 n2 c2, .slice A3 n3 c3, .slice A4 n4 c4] 26) = W0 at HM HB hs0 ⊢
  have qm : (W0.alloc (.cells #[.int .i64 m] 3)).cell? ⟨w.heap.size + 1, 0, none⟩ = some (.int .i64 m) := by rw [← hs0, cell_of_row _ _ _ _ _ _ (heap_alloc_new W0 _)]; rfl
  replace HB := HB.alloc HB.size (.cells #[.int .i64 m] 3)
  generalize W0.alloc (.cells #[.int .i64 m] 3) = W at HM HB qm ⊢
  obtain ⟨q0, q1, q2, q3, q4⟩ := HM
  have HC1 := Lib.hid (conf1_any A2 n2 c2 sz W (hS.below HB) hsl hs2)
  have HC2 := Lib.hid (conf2_any A4 n4 c4 (w.heap.size + 1) hm m W (hH.below HB) hl h4 hr qm)
  have HRR := Lib.hid (show (idB t && idB a && decide ((n2 : Int) = parts) && decide ((n3 : Int) = parts) && decide ((n4 : Int) = parts) && !sz.any badS && !hm.any (badH m)) = R from HR.out)
  clear HR hr
  obtain ⟨f1, hf1⟩ : ∃ f, f = idB t := ⟨_, rfl⟩
  obtain ⟨f2, hf2⟩ : ∃ f, f = idB a := ⟨_, rfl⟩
  obtain ⟨f6, hf6⟩ : ∃ f, f = sz.any badS := ⟨_, rfl⟩
  obtain ⟨f7, hf7⟩ : ∃ f, f = hm.any (badH m) := ⟨_, rfl⟩
  rw [← hf1] at H1 HRR
  rw [← hf2] at H2 HRR
  rw [← hf6] at HC1 HRR
  rw [← hf7] at HC2 HRR
  clear hf1 hf2 hf6 hf7
  cases f1
  · obtain rfl : R = false := by rw [← HRR.out]; simp []
    clear HRR
    go_wp2_with (first | (go_at_call 25; first | ((with_reducible refine (H1.out _).mono ?_); rintro e w3 ⟨rfl, rfl⟩) | ((with_reducible refine (H2.out _).mono ?_); rintro e w3 ⟨rfl, rfl⟩)) | (go_at_call 26; (with_reducible refine (HC1.out).mono ?_); rintro e w3 ⟨rfl, rfl⟩) | (go_at_call 28; (with_reducible refine (HC2.out).mono ?_); rintro e w3 ⟨rfl, rfl⟩))
    go_ret
    exact ⟨rfl, HB⟩
  · cases f2
    · obtain rfl : R = false := by rw [← HRR.out]; simp []
      clear HRR
      go_wp2_with (first | (go_at_call 25; first | ((with_reducible refine (H1.out _).mono ?_); rintro e w3 ⟨rfl, rfl⟩) | ((with_reducible refine (H2.out _).mono ?_); rintro e w3 ⟨rfl, rfl⟩)) | (go_at_call 26; (with_reducible refine (HC1.out).mono ?_); rintro e w3 ⟨rfl, rfl⟩) | (go_at_call 28; (with_reducible refine (HC2.out).mono ?_); rintro e w3 ⟨rfl, rfl⟩))
      go_ret
      exact ⟨rfl, HB⟩
    · by_cases hn2 : ((n2 : Nat) : Int) ≠ parts
      · have tn2 : (((n2 : Nat) : Int) != parts) = true := by simp [hn2]
        obtain rfl : R = false := by rw [← HRR.out]; simp [hn2]
        clear HRR
        go_wp2_with (first | (go_at_call 25; first | ((with_reducible refine (H1.out _).mono ?_); rintro e w3 ⟨rfl, rfl⟩) | ((with_reducible refine (H2.out _).mono ?_); rintro e w3 ⟨rfl, rfl⟩)) | (go_at_call 26; (with_reducible refine (HC1.out).mono ?_); rintro e w3 ⟨rfl, rfl⟩) | (go_at_call 28; (with_reducible refine (HC2.out).mono ?_); rintro e w3 ⟨rfl, rfl⟩))
        go_ret
        exact ⟨rfl, HB⟩
      replace hn2 : ((n2 : Nat) : Int) = parts := Decidable.not_not.1 hn2
      have tn2 : (((n2 : Nat) : Int) != parts) = false := by simp [hn2]
      by_cases hn3 : ((n3 : Nat) : Int) ≠ parts
      · have tn3 : (((n3 : Nat) : Int) != parts) = true := by simp [hn3]
        obtain rfl : R = false := by rw [← HRR.out]; simp [hn3]
        clear HRR
        go_wp2_with (first | (go_at_call 25; first | ((with_reducible refine (H1.out _).mono ?_); rintro e w3 ⟨rfl, rfl⟩) | ((with_reducible refine (H2.out _).mono ?_); rintro e w3 ⟨rfl, rfl⟩)) | (go_at_call 26; (with_reducible refine (HC1.out).mono ?_); rintro e w3 ⟨rfl, rfl⟩) | (go_at_call 28; (with_reducible refine (HC2.out).mono ?_); rintro e w3 ⟨rfl, rfl⟩))
        go_ret
        exact ⟨rfl, HB⟩
      replace hn3 : ((n3 : Nat) : Int) = parts := Decidable.not_not.1 hn3
      have tn3 : (((n3 : Nat) : Int) != parts) = false := by simp [hn3]
      by_cases hn4 : ((n4 : Nat) : Int) ≠ parts
      · have tn4 : (((n4 : Nat) : Int) != parts) = true := by simp [hn4]
        obtain rfl : R = false := by rw [← HRR.out]; simp [hn4]
        clear HRR
        go_wp2_with (first | (go_at_call 25; first | ((with_reducible refine (H1.out _).mono ?_); rintro e w3 ⟨rfl, rfl⟩) | ((with_reducible refine (H2.out _).mono ?_); rintro e w3 ⟨rfl, rfl⟩)) | (go_at_call 26; (with_reducible refine (HC1.out).mono ?_); rintro e w3 ⟨rfl, rfl⟩) | (go_at_call 28; (with_reducible refine (HC2.out).mono ?_); rintro e w3 ⟨rfl, rfl⟩))
        go_ret
        exact ⟨rfl, HB⟩
      replace hn4 : ((n4 : Nat) : Int) = parts := Decidable.not_not.1 hn4
      have tn4 : (((n4 : Nat) : Int) != parts) = false := by simp [hn4]
      obtain rfl | rfl : f6 = true ∨ f6 = false := by cases f6 <;> simp
      · obtain rfl : R = false := by rw [← HRR.out]; simp []
        clear HRR
        go_wp2_with (first | (go_at_call 25; first | ((with_reducible refine (H1.out _).mono ?_); rintro e w3 ⟨rfl, rfl⟩) | ((with_reducible refine (H2.out _).mono ?_); rintro e w3 ⟨rfl, rfl⟩)) | (go_at_call 26; (with_reducible refine (HC1.out).mono ?_); rintro e w3 ⟨rfl, rfl⟩) | (go_at_call 28; (with_reducible refine (HC2.out).mono ?_); rintro e w3 ⟨rfl, rfl⟩))
        go_ret
        exact ⟨rfl, HB⟩
      cases f7
      · obtain rfl : R = true := by rw [← HRR.out]; simp [hn2, hn3, hn4]
        clear HRR
        go_wp2_with (first | (go_at_call 25; first | ((with_reducible refine (H1.out _).mono ?_); rintro e w3 ⟨rfl, rfl⟩) | ((with_reducible refine (H2.out _).mono ?_); rintro e w3 ⟨rfl, rfl⟩)) | (go_at_call 26; (with_reducible refine (HC1.out).mono ?_); rintro e w3 ⟨rfl, rfl⟩) | (go_at_call 28; (with_reducible refine (HC2.out).mono ?_); rintro e w3 ⟨rfl, rfl⟩))
        go_ret
        exact ⟨rfl, HB⟩
      · obtain rfl : R = false := by rw [← HRR.out]; simp []
        clear HRR
        go_wp2_with (first | (go_at_call 25; first | ((with_reducible refine (H1.out _).mono ?_); rintro e w3 ⟨rfl, rfl⟩) | ((with_reducible refine (H2.out _).mono ?_); rintro e w3 ⟨rfl, rfl⟩)) | (go_at_call 26; (with_reducible refine (HC1.out).mono ?_); rintro e w3 ⟨rfl, rfl⟩) | (go_at_call 28; (with_reducible refine (HC2.out).mono ?_); rintro e w3 ⟨rfl, rfl⟩))
        go_ret
        exact ⟨rfl, HB⟩
end
end Go.Proofs.Ytpologlcfohjeaa.MendW
