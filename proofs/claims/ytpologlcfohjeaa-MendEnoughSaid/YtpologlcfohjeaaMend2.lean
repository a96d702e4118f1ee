/- ref17.In, ref17.Live, slices.Index and Contains, equal walked. -/
import Derived.Test.YtpologlcfohjeaaMend1
set_option linter.unusedVariables false
set_option linter.unusedSimpArgs false
namespace Go.Proofs.Ytpologlcfohjeaa.MendW
open Go.RowKit Go.Proofs.Ytpologlcfohjeaa.Base

theorem not_mem_of {l : List Int} {x : Int} (h : ∀ j (hj : j < l.length), l[j] ≠ x) : x ∉ l := fun hm => by
  obtain ⟨i, hi, rfl⟩ := List.mem_iff_getElem.1 hm
  exact h i hi rfl
theorem int_eqB {x y : Int} (h : x = y) : (x == y) = true := by simp [h]
theorem int_neB {x y : Int} (h : x ≠ y) : (x == y) = false := by simp [h]
set_option maxRecDepth 100000 in
set_option maxHeartbeats 1000000 in
theorem in_any (A : Option Addr) (n c : Nat) (l : List Int) (x : Int) (w : World) (hS : Ints w A l) (hl : l.length = n) (hn : n ≤ 1000000) :
    Calls Try.prog 10 #[.slice A n c, .int .i64 x] w fun e w' => e = .returned (.bool (decide (x ∈ l))) ∧ w = w' := by
  have HL := Lib.hid hl
  go_enter Try.func10, Try.ntmps10
  go_wp2
  go_loop [5] (fun i => ∃ k : Nat, k ≤ n ∧ i = .int .i64 k ∧ ∀ j (hj : j < l.length), j < k → l[j] ≠ x) (fun i => n - (intOf i).toNat)
  case atStart => exact ⟨0, by omega, rfl, fun j _ h => by omega⟩
  case round =>
    obtain ⟨k, hk, rfl, hall⟩ := hrel
    have HA := Lib.hid hall
    clear hall
    by_cases hlt : k < n
    · have hkl : k < l.length := by have := HL.out; omega
      obtain ⟨b, off, rfl, hc⟩ := hS.block (by omega)
      have g1 := hc k hkl
      obtain ⟨y, hy⟩ : ∃ y, y = l[k] := ⟨_, rfl⟩
      rw [← hy] at g1
      have HY := Lib.hid hy
      clear hc hy
      by_cases he : y = x
      · have t1 := int_eqB he
        have hm : x ∈ l := by rw [← he, HY.out]; exact List.getElem_mem hkl
        have HM := Lib.hid (decide_eq_true hm)
        clear he hm
        go_wp2
        go_ret
        exact ⟨by rw [HM.out]; rfl, rfl⟩
      · have t1 := int_neB he
        have HE := Lib.hid he
        clear he
        go_wp2
        go_round
        case rel =>
          refine ⟨k + 1, by omega, by go_num, fun j hj hjk => ?_⟩
          by_cases e : j = k
          · subst e; rw [← HY.out]; exact HE.out
          · exact HA.out j hj (by omega)
        case measure => simp [intOf]; omega
    · obtain rfl : k = n := by omega
      have HM := Lib.hid (decide_eq_false (not_mem_of fun j hj => HA.out j hj (by have := HL.out; omega)))
      go_wp2
      go_ret
      exact ⟨by rw [HM.out]; rfl, rfl⟩
set_option maxRecDepth 100000 in
set_option maxHeartbeats 1000000 in
theorem index_any (A : Option Addr) (n c : Nat) (l : List Int) (x : Int) (w : World) (hS : Ints w A l) (hl : l.length = n) (hn : n ≤ 1000000) :
    Calls Try.prog 37 #[.slice A n c, .int .i64 x] w fun e w' => ∃ r : Int, e = .returned (.int .i64 r) ∧ (0 ≤ r ↔ x ∈ l) ∧ w = w' := by
  have HL := Lib.hid hl
  go_enter Try.func37, Try.ntmps37
  go_wp2
  go_loop [5, 8] (fun _ i => ∃ k : Nat, k ≤ n ∧ i = .int .i64 k ∧ ∀ j (hj : j < l.length), j < k → l[j] ≠ x) (fun _ i => n - (intOf i).toNat)
  case atStart => exact ⟨0, by omega, rfl, fun j _ h => by omega⟩
  case round =>
    obtain ⟨k, hk, rfl, hall⟩ := hrel
    have HA := Lib.hid hall
    clear hall
    by_cases hlt : k < n
    · have hkl : k < l.length := by have := HL.out; omega
      obtain ⟨b, off, rfl, hc⟩ := hS.block (by omega)
      have g1 := hc k hkl
      obtain ⟨y, hy⟩ : ∃ y, y = l[k] := ⟨_, rfl⟩
      rw [← hy] at g1
      have HY := Lib.hid hy
      clear hc hy
      by_cases he : y = x
      · have t1 := int_eqB he.symm
        have hm : x ∈ l := by rw [← he, HY.out]; exact List.getElem_mem hkl
        have HM := Lib.hid hm
        clear he hm
        go_wp2
        go_ret
        exact ⟨_, rfl, ⟨fun _ => HM.out, fun _ => by omega⟩, rfl⟩
      · have t1 := int_neB (fun h => he h.symm)
        have HE := Lib.hid he
        clear he
        go_wp2
        go_round
        case rel =>
          refine ⟨k + 1, by omega, by go_num, fun j hj hjk => ?_⟩
          by_cases e : j = k
          · subst e; rw [← HY.out]; exact HE.out
          · exact HA.out j hj (by omega)
        case measure => simp [intOf]; omega
    · obtain rfl : k = n := by omega
      have HM := Lib.hid (not_mem_of (x := x) fun j hj => HA.out j hj (by have := HL.out; omega))
      go_wp2
      go_ret
      exact ⟨_, rfl, ⟨fun h => absurd h (by decide), fun h => absurd h HM.out⟩, rfl⟩
theorem contains_any (A : Option Addr) (n c : Nat) (l : List Int) (x : Int) (w : World) (hS : Ints w A l) (hl : l.length = n) (hn : n ≤ 1000000) :
    Calls Try.prog 34 #[.slice A n c, .int .i64 x] w fun e w' => e = .returned (.bool (decide (x ∈ l))) ∧ w = w' := by
  have H := Lib.hid (index_any A n c l x w hS hl hn)
  go_enter Try.func34, Try.ntmps34
  go_wp2_with (go_at_call 37; (with_reducible refine (H.out).mono ?_); rintro e w2 ⟨r, rfl, hr, rfl⟩; have HR := Lib.hid hr; clear hr)
  go_ret
  exact ⟨by rw [show decide (x ∈ l) = decide (0 ≤ r) from decide_eq_decide.2 HR.out.symm]; rfl, rfl⟩
/-- How many are live. -/
def liveN : List Bool → Nat
  | [] => 0
  | b :: l => (if b then 1 else 0) + liveN l
theorem liveN_append (a b : List Bool) : liveN (a ++ b) = liveN a + liveN b := by
  induction a with
  | nil => simp [liveN]
  | cons x l ih => simp only [List.cons_append, liveN, ih]; omega
theorem liveN_le (l : List Bool) : liveN l ≤ l.length := by
  induction l with
  | nil => exact Nat.le_refl _
  | cons x l ih => simp only [liveN, List.length_cons]; split <;> omega
theorem liveN_take {l : List Bool} {k : Nat} (h : k < l.length) : liveN (l.take (k + 1)) = liveN (l.take k) + (if l[k] then 1 else 0) := by
  rw [List.take_succ_eq_append_getElem h, liveN_append]
  simp [liveN]
set_option maxRecDepth 100000 in
set_option maxHeartbeats 1000000 in
theorem live_any (A : Option Addr) (n c : Nat) (l : List Bool) (w : World) (hS : Bools w A l) (hl : l.length = n) (hn : n ≤ 1000000) :
    Calls Try.prog 15 #[.slice A n c] w fun e w' => e = .returned (.int .i64 (liveN l : Nat)) ∧ w = w' := by
  have HL := Lib.hid hl
  go_enter Try.func15, Try.ntmps15
  go_wp2
  go_loop [3, 4] (fun t i => ∃ k : Nat, k ≤ n ∧ i = .int .i64 k ∧ t = .int .i64 (liveN (l.take k) : Nat)) (fun _ i => n - (intOf i).toNat)
  case atStart => exact ⟨0, by omega, rfl, rfl⟩
  case round =>
    obtain ⟨k, hk, rfl, rfl⟩ := hrel
    by_cases hlt : k < n
    · have hkl : k < l.length := by have := HL.out; omega
      obtain ⟨b, off, rfl, hc⟩ := hS.block (by omega)
      have g1 := hc k hkl
      have HT := Lib.hid (liveN_take hkl)
      have hle := liveN_le (l.take k)
      rw [List.length_take] at hle
      clear hc
      generalize l[k] = y at g1 HT
      obtain ⟨t, ht⟩ : ∃ t, t = liveN (l.take k) := ⟨_, rfl⟩
      rw [← ht] at hle HT ⊢
      clear ht
      cases y
      · go_wp2
        go_round
        case rel => exact ⟨k + 1, by omega, by go_num, by rw [HT.out]; rfl⟩
        case measure => simp [intOf]; omega
      · go_wp2
        go_round
        case rel => exact ⟨k + 1, by omega, by go_num, by rw [HT.out]; go_num⟩
        case measure => simp [intOf]; omega
    · obtain rfl : k = n := by omega
      have HT := Lib.hid (show l.take k = l from List.take_of_length_le (by have := HL.out; omega))
      go_wp2
      go_ret
      exact ⟨by rw [HT.out]; rfl, rfl⟩
end Go.Proofs.Ytpologlcfohjeaa.MendW
