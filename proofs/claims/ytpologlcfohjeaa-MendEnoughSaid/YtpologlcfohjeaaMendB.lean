/- slices.IndexFunc, ContainsFunc with stripe.Right's two functions walked. -/
import Derived.Test.YtpologlcfohjeaaMendA
set_option linter.unusedVariables false
set_option linter.unusedSimpArgs false
namespace Go.Proofs.Ytpologlcfohjeaa.MendW
open Go.RowKit Go.Proofs.Ytpologlcfohjeaa.Base

/-- A size out of reach. -/
def badS (x : Int) : Bool := decide (x < 0) || decide (16777216 < x)
set_option maxRecDepth 100000 in
set_option maxHeartbeats 1000000 in
theorem idxf1_any (A : Option Addr) (n c : Nat) (l : List Int) (w : World) (hS : Ints w A l) (hl : l.length = n) (hn : n ≤ 1000000) :
    Calls Try.prog 35 #[.slice A n c, .func (.func 27) #[] #[]] w fun e w' => ∃ r : Int, e = .returned (.int .i64 r) ∧ (0 ≤ r ↔ l.any badS = true) ∧ w = w' := by
  have HL := Lib.hid hl
  go_enter Try.func35, Try.ntmps35
  go_wp2
  go_loop [5, 8] (fun _ i => ∃ k : Nat, k ≤ n ∧ i = .int .i64 k ∧ ∀ j (hj : j < l.length), j < k → badS l[j] = false) (fun _ i => n - (intOf i).toNat)
  case atStart => exact ⟨0, by omega, rfl, fun j _ h => by omega⟩
  case round =>
    obtain ⟨k, hk, rfl, hall⟩ := hrel
    have HA := Lib.hid hall
    clear hall
    by_cases hlt : k < n
    · have hkl : k < l.length := by have := HL.out; omega
      obtain ⟨b, off, rfl, hc⟩ := hS.block (by omega)
      have g1 := hc k hkl
      obtain ⟨y, hy⟩ : ∃ y, y = l[k] := ⟨_, rfl⟩
      rw [← hy] at g1
      have HY := Lib.hid hy
      clear hc hy
      have HR := Lib.hid (show Calls Try.prog 27 #[.int .i64 y] w fun e w' => e = .returned (.bool (badS y)) ∧ w = w' from right1_any y w)
      by_cases he : badS y = true
      · rw [he] at HR
        have HM := Lib.hid (show l.any badS = true from List.any_eq_true.2 ⟨y, by rw [HY.out]; exact List.getElem_mem hkl, he⟩)
        clear he
        go_wp2_with (go_at_call 27; (with_reducible refine (HR.out).mono ?_); rintro e w2 ⟨rfl, rfl⟩)
        go_ret
        exact ⟨_, rfl, ⟨fun _ => HM.out, fun _ => by omega⟩, rfl⟩
      · have he2 : badS y = false := by simpa using he
        rw [he2] at HR
        have HE := Lib.hid he2
        clear he he2
        go_wp2_with (go_at_call 27; (with_reducible refine (HR.out).mono ?_); rintro e w2 ⟨rfl, rfl⟩)
        go_round
        case rel =>
          refine ⟨k + 1, by omega, by go_num, fun j hj hjk => ?_⟩
          by_cases e : j = k
          · subst e; rw [← HY.out]; exact HE.out
          · exact HA.out j hj (by omega)
        case measure => simp [intOf]; omega
    · obtain rfl : k = n := by omega
      have HM := Lib.hid (show ¬ l.any badS = true from fun h => by
        obtain ⟨y, hy, hb⟩ := List.any_eq_true.1 h
        obtain ⟨i, hi, rfl⟩ := List.mem_iff_getElem.1 hy
        rw [HA.out i hi (by have := HL.out; omega)] at hb
        cases hb)
      go_wp2
      go_ret
      exact ⟨_, rfl, ⟨fun h => absurd h (by decide), fun h => absurd (List.any_eq_true.2 h) HM.out⟩, rfl⟩
theorem conf1_any (A : Option Addr) (n c : Nat) (l : List Int) (w : World) (hS : Ints w A l) (hl : l.length = n) (hn : n ≤ 1000000) :
    Calls Try.prog 26 #[.slice A n c, .func (.func 27) #[] #[]] w fun e w' => e = .returned (.bool (l.any badS)) ∧ w = w' := by
  have H := Lib.hid (idxf1_any A n c l w hS hl hn)
  go_enter Try.func26, Try.ntmps26
  go_wp2_with (go_at_call 35; (with_reducible refine (H.out).mono ?_); rintro e w2 ⟨r, rfl, hr, rfl⟩; have HR := Lib.hid hr; clear hr)
  go_ret
  exact ⟨by rw [show l.any badS = decide (0 ≤ r) from by rw [← Bool.decide_coe (l.any badS)]; exact decide_eq_decide.2 HR.out.symm]; rfl, rfl⟩
end Go.Proofs.Ytpologlcfohjeaa.MendW
