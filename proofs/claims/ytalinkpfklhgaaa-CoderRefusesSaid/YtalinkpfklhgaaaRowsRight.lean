/- rows.Right walked. -/
import Derived.Test.YtalinkpfklhgaaaRowsOne
set_option linter.unusedVariables false
set_option linter.unusedSimpArgs false
namespace Go.Proofs.Ytalinkpfklhgaaa.RowsW
open Go.RowKit Go.Proofs.Ytalinkpfklhgaaa.Base Go.Proofs.Ytalinkpfklhgaaa.GfP Go.Proofs.Ytalinkpfklhgaaa.GfW Go.Proofs.Ytalinkpfklhgaaa.Lin

theorem cell_alloc {w : World} {a : Addr} {v : Value} (h : w.cell? a = some v) (o : Obj) : (w.alloc o).cell? a = some v := cell_below ((Below.refl w.heap.size w).alloc (Nat.le_refl _) o) h
theorem wid_of {ls : List (List Nat)} (h : 0 < ls.length) : wid ls = ls[0].length := by
  unfold wid
  rw [List.getD_eq_getElem?_getD, List.getElem?_eq_getElem h]
  rfl
set_option maxRecDepth 100000 in
set_option maxHeartbeats 1000000 in
theorem right_in (b off n c : Nat) (ls : List (List Nat)) (w : World) (hR : Base.Rows w (some ⟨b, off, none⟩) ls) (hl : ls.length = n) (h1 : 1 ≤ n) (h2 : n ≤ 32) (q : Nat) (hw : wid ls = q) (hq1 : 1 ≤ q) (hq2 : q ≤ 32) :
    Calls Try.prog 46 #[.slice (some ⟨b, off, none⟩) n c] w fun e w' => e = .returned (.bool (rightB ls)) ∧ Below w.heap.size w w' := by
  have h0l : 0 < ls.length := by omega
  obtain ⟨b', off', e, hc⟩ := hR.block (by omega)
  cases e
  obtain ⟨B0, c0, h0, _⟩ := hc 0 h0l
  rw [Nat.add_zero, ← wid_of h0l, hw] at h0
  obtain ⟨B, hB⟩ : ∃ B, rightB ls = B := ⟨_, rfl⟩
  rw [hB]
  have HB := Lib.hid hB
  have HW := Lib.hid hw
  have HC := Lib.hid hc
  clear hB hw hc hR
  have h0a := cell_alloc h0
  have e1 : decide ((n : Int) < 1) = false := by simp; omega
  have e2 : decide ((32 : Int) < n) = false := by simp; omega
  have e3 : decide ((q : Int) < 1) = false := by simp; omega
  have e4 : decide ((32 : Int) < q) = false := by simp; omega
  go_enter Try.func46, Try.ntmps46
  go_wp2
  go_loop [5, 8] (fun _ i => ∃ k : Nat, k ≤ n ∧ i = .int .i64 k ∧ ∀ j (hj : j < ls.length), j < k → ls[j].length = q) (fun _ i => n - (intOf i).toNat)
  case atStart => exact ⟨0, by omega, rfl, fun j _ h => by omega⟩
  case round =>
    obtain ⟨k, hk, rfl, hall⟩ := hrel
    have HA := Lib.hid hall
    clear hall
    by_cases hlt : k < n
    · have hkl : k < ls.length := by omega
      obtain ⟨B1, c1, hk1, _⟩ := HC.out k hkl
      obtain ⟨m, hm⟩ : ∃ m, m = ls[k].length := ⟨_, rfl⟩
      rw [← hm] at hk1
      have HM := Lib.hid hm
      clear hm
      have hka := cell_alloc hk1
      by_cases hmq : m = q
      · subst hmq
        go_wp2
        go_round
        case rel =>
          refine ⟨k + 1, by omega, by go_num, fun j hj hjk => ?_⟩
          rcases Nat.lt_or_ge j k with h | h
          · exact HA.out j hj h
          · obtain rfl : j = k := by omega
            exact HM.out.symm
        case measure => simp [intOf]; omega
      · have e5 : ((m : Int) != (q : Int)) = true := int_bne (by omega)
        go_wp2
        go_ret
        refine ⟨?_, (Below.refl _ _).alloc (Nat.le_refl _) _⟩
        rw [← HB.out, rightB_no hkl (.inl (by rw [← HM.out, HW.out]; exact hmq))]
        rfl
    · obtain rfl : k = n := by omega
      go_wp2
      go_ret
      refine ⟨?_, (Below.refl _ _).alloc (Nat.le_refl _) _⟩
      have hr : rightB ls = true := (right_iff ls).2 ⟨by omega, by omega, by rw [HW.out]; exact hq1, by rw [HW.out]; exact hq2, fun i hi => by rw [HW.out]; exact HA.out i hi (by omega)⟩
      rw [← HB.out, hr]
      rfl
theorem right_any (A : Option Addr) (n c : Nat) (ls : List (List Nat)) (w : World) (hR : Base.Rows w A ls) (hl : ls.length = n) (hn : n ≤ 1000) (hw : wid ls ≤ 1000) :
    Calls Try.prog 46 #[.slice A n c] w fun e w' => e = .returned (.bool (rightB ls)) ∧ Below w.heap.size w w' := by
  by_cases h40 : n < 1 ∨ 32 < n
  · have hb : rightB ls = false := by
      cases hb : rightB ls with
      | false => rfl
      | true => have := (right_iff ls).1 hb; omega
    rw [hb]
    clear hb
    rcases h40 with h40 | h40
    · obtain rfl : n = 0 := by omega
      clear h40
      go_enter Try.func46, Try.ntmps46
      go_wp2
      go_ret
      exact ⟨rfl, (Below.refl _ _).alloc (Nat.le_refl _) _⟩
    · have e1 : decide ((n : Int) < 1) = false := by simp; omega
      have e2 : decide ((32 : Int) < n) = true := by simp; omega
      go_enter Try.func46, Try.ntmps46
      go_wp2
      go_ret
      exact ⟨rfl, (Below.refl _ _).alloc (Nat.le_refl _) _⟩
  · obtain ⟨b, off, rfl, hc⟩ := hR.block (by omega)
    by_cases hq : 1 ≤ wid ls ∧ wid ls ≤ 32
    · exact right_in b off n c ls w hR hl (by omega) (by omega) _ rfl hq.1 hq.2
    · have hb : rightB ls = false := by
        cases hb : rightB ls with
        | false => rfl
        | true => have := (right_iff ls).1 hb; omega
      rw [hb]
      clear hb hR
      have h0l : 0 < ls.length := by omega
      obtain ⟨B0, c0, h0, _⟩ := hc 0 h0l
      rw [Nat.add_zero, ← wid_of h0l] at h0
      generalize wid ls = q at hq h0 hw
      clear hc
      have h0a := cell_alloc h0
      have e1 : decide ((n : Int) < 1) = false := by simp; omega
      have e2 : decide ((32 : Int) < n) = false := by simp; omega
      have e0 : 0 < n := by omega
      by_cases e3 : q = 0
      · subst e3
        go_enter Try.func46, Try.ntmps46
        go_wp2
        go_ret
        exact ⟨rfl, (Below.refl _ _).alloc (Nat.le_refl _) _⟩
      · have e3' : decide ((q : Int) < 1) = false := by simp; omega
        have e4 : decide ((32 : Int) < q) = true := by simp; omega
        go_enter Try.func46, Try.ntmps46
        go_wp2
        go_ret
        exact ⟨rfl, (Below.refl _ _).alloc (Nat.le_refl _) _⟩
end Go.Proofs.Ytalinkpfklhgaaa.RowsW
