/- stripe.id, stripe.homely walked. -/
import Derived.Test.YtpologlcfohjeaaMend8
set_option linter.unusedVariables false
set_option linter.unusedSimpArgs false
namespace Go.Proofs.Ytpologlcfohjeaa.MendW
open Go.RowKit Go.Proofs.Ytpologlcfohjeaa.Base

def idB (n : Int) : Bool := decide (0 ≤ n) && decide (n ≤ 2147483647)
theorem id_any (n : Int) (w : World) : Calls Try.prog 25 #[.int .i64 n] w fun e w' => e = .returned (.bool (idB n)) ∧ w = w' := by
  by_cases h1 : 0 ≤ n
  · have t1 : decide (0 ≤ n) = true := by simp [h1]
    have HT := Lib.hid (show idB n = decide (n ≤ 2147483647) by rw [idB, t1, Bool.true_and])
    go_enter Try.func25, Try.ntmps25
    go_wp2
    go_ret
    exact ⟨by rw [HT.out]; rfl, rfl⟩
  · have t1 : decide (0 ≤ n) = false := by simp [h1]
    have HT := Lib.hid (show idB n = false by rw [idB, t1, Bool.false_and])
    go_enter Try.func25, Try.ntmps25
    go_wp2
    go_ret
    exact ⟨by rw [HT.out]; rfl, rfl⟩
/-- Homes of n workers. -/
structure Homely (l : List Int) (n : Int) : Prop where
  len : (l.length : Int) = n
  rng : ∀ i (h : i < l.length), 1 ≤ l[i] ∧ l[i] ≤ 16
  ne : ∀ i (h : i < l.length), ∀ j (hj : j < i), l[i] ≠ l[j]'(by omega)
noncomputable def homelyD (l : List Int) (n : Int) : Bool := @decide (Homely l n) (Classical.propDecidable _)
theorem homelyD_true {l : List Int} {n : Int} (h : Homely l n) : homelyD l n = true := by unfold homelyD; exact @decide_eq_true _ (Classical.propDecidable _) h
theorem homelyD_false {l : List Int} {n : Int} (h : ¬ Homely l n) : homelyD l n = false := by unfold homelyD; exact @decide_eq_false _ (Classical.propDecidable _) h
theorem Ints.take {w : World} {A : Option Addr} {l : List Int} (h : Ints w A l) (k : Nat) : Ints w A (l.take k) := by
  refine ⟨fun x hx => h.le x (List.mem_of_mem_take hx), ?_⟩
  rcases h.at_ with rfl | ⟨b, off, e, hc⟩
  · exact .inl (by simp)
  · refine .inr ⟨b, off, e, fun j hj => ?_⟩
    rw [List.getElem_take]
    exact hc j (by rw [List.length_take] at hj; omega)
theorem mem_take_of {l : List Int} {k : Nat} {x : Int} : x ∈ l.take k ↔ ∃ j, ∃ h : j < l.length, j < k ∧ l[j] = x := by
  rw [List.mem_take_iff_getElem]
  exact ⟨fun ⟨j, hj, e⟩ => ⟨j, by omega, by omega, e⟩, fun ⟨j, h, hk, e⟩ => ⟨j, by omega, e⟩⟩
set_option maxRecDepth 100000 in
set_option maxHeartbeats 2000000 in
theorem homely_any (A : Option Addr) (n c : Nat) (l : List Int) (m : Int) (w : World) (hS : Ints w A l) (hl : l.length = n) (hn : n ≤ 1000000) (hnc : n ≤ c) :
    Calls Try.prog 30 #[.slice A n c, .int .i64 m] w fun e w' => e = .returned (.bool (homelyD l m)) ∧ w = w' := by
  have HL := Lib.hid hl
  by_cases hne : (n : Int) = m
  · have t0 : (((n : Nat) : Int) != m) = false := by simp [hne]
    have HNE := Lib.hid hne
    clear hne
    go_enter Try.func30, Try.ntmps30
    go_wp2
    go_loop [5, 6, 13] (fun _ _ i => ∃ k : Nat, k ≤ n ∧ i = .int .i64 k ∧ (∀ i (h : i < l.length), i < k → 1 ≤ l[i] ∧ l[i] ≤ 16) ∧ ∀ i (h : i < l.length), i < k → ∀ j (hj : j < i), l[i] ≠ l[j]'(by omega)) (fun _ _ i => n - (intOf i).toNat)
    case atStart => exact ⟨0, by omega, rfl, fun i _ h => by omega, fun i _ h => by omega⟩
    case round =>
      obtain ⟨k, hk, rfl, ha1, ha2⟩ := hrel
      have HA1 := Lib.hid ha1
      have HA2 := Lib.hid ha2
      clear ha1 ha2
      by_cases hlt : k < n
      · have hkl : k < l.length := by have := HL.out; omega
        have HC := Lib.hid (fun (x : Int) => contains_any A k c (l.take k) x w (Ints.take hS k) (by rw [List.length_take]; omega) (by omega))
        obtain ⟨b, off, rfl, hc⟩ := hS.block (by omega)
        have g1 := hc k hkl
        obtain ⟨x, hx⟩ : ∃ x, x = l[k] := ⟨_, rfl⟩
        rw [← hx] at g1
        have HX := Lib.hid hx
        clear hc hx
        by_cases h1 : x < 1
        · have t1 : decide (x < 1) = true := by simp [h1]
          have HF := Lib.hid (homelyD_false (l := l) (n := m) fun h => by have := h.rng k hkl; rw [← HX.out] at this; omega)
          clear h1
          go_wp2
          go_ret
          exact ⟨by rw [HF.out]; rfl, rfl⟩
        · have t1 : decide (x < 1) = false := by simp [h1]
          by_cases h2 : 16 < x
          · have t2 : decide ((16 : Int) < x) = true := by simp [h2]
            have HF := Lib.hid (homelyD_false (l := l) (n := m) fun h => by have := h.rng k hkl; rw [← HX.out] at this; omega)
            clear h1 h2
            go_wp2
            go_ret
            exact ⟨by rw [HF.out]; rfl, rfl⟩
          · have t2 : decide ((16 : Int) < x) = false := by simp [h2]
            have HH := Lib.hid (show 1 ≤ x ∧ x ≤ 16 by omega)
            clear h1 h2
            have HCx := Lib.hid (HC.out x)
            clear HC
            by_cases hm : x ∈ l.take k
            · rw [decide_eq_true hm] at HCx
              have HF := Lib.hid (homelyD_false (l := l) (n := m) fun h => by
                obtain ⟨j, hj, hjk, e⟩ := mem_take_of.1 hm
                exact h.ne k hkl j hjk (by rw [e, HX.out]))
              clear hm
              go_wp2_with (go_at_call 34; (with_reducible refine (HCx.out).mono ?_); rintro e w2 ⟨rfl, rfl⟩)
              go_ret
              exact ⟨by rw [HF.out]; rfl, rfl⟩
            · rw [decide_eq_false hm] at HCx
              have HM := Lib.hid hm
              clear hm
              go_wp2_with (go_at_call 34; (with_reducible refine (HCx.out).mono ?_); rintro e w2 ⟨rfl, rfl⟩)
              go_round
              case rel =>
                refine ⟨k + 1, by omega, by go_num, fun i hi hik => ?_, fun i hi hik j hj => ?_⟩
                · by_cases e : i = k
                  · subst e; rw [← HX.out]; exact HH.out
                  · exact HA1.out i hi (by omega)
                · by_cases e : i = k
                  · subst e
                    intro e2
                    exact HM.out (mem_take_of.2 ⟨j, by omega, hj, by rw [HX.out, e2]⟩)
                  · exact HA2.out i hi (by omega) j hj
              case measure => simp [intOf]; omega
      · obtain rfl : k = n := by omega
        have HF := Lib.hid (homelyD_true (l := l) (n := m) ⟨by rw [HL.out]; exact HNE.out, fun i hi => HA1.out i hi (by have := HL.out; omega), fun i hi j hj => HA2.out i hi (by have := HL.out; omega) j hj⟩)
        go_wp2
        go_ret
        exact ⟨by rw [HF.out]; rfl, rfl⟩
  · have t0 : (((n : Nat) : Int) != m) = true := by simp [hne]
    have HF := Lib.hid (homelyD_false (l := l) (n := m) fun h => hne (by rw [← hl]; exact h.len))
    go_enter Try.func30, Try.ntmps30
    go_wp2
    go_ret
    exact ⟨by rw [HF.out]; rfl, rfl⟩
end Go.Proofs.Ytpologlcfohjeaa.MendW
