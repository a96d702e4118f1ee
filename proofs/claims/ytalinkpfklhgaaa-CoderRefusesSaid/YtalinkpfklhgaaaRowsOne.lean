/- rows.fits, rows.One and rows.column walked. -/
import Derived.Test.YtalinkpfklhgaaaRowsMade
set_option linter.unusedVariables false
set_option linter.unusedSimpArgs false
namespace Go.Proofs.Ytalinkpfklhgaaa.RowsW
open Go.RowKit Go.Proofs.Ytalinkpfklhgaaa.Base Go.Proofs.Ytalinkpfklhgaaa.GfP Go.Proofs.Ytalinkpfklhgaaa.GfW Go.Proofs.Ytalinkpfklhgaaa.Lin

theorem fits_yes (n : Int) (w : World) (h1 : 1 ≤ n) (h2 : n ≤ 32) :
    Calls Try.prog 62 #[.int .i64 n] w fun e w' => e = .returned (.bool true) ∧ w = w' := by
  go_enter Try.func62, Try.ntmps62
  go_wp2
  go_ret
  exact ⟨rfl, rfl⟩
theorem fits_no (n : Int) (w : World) (h1 : ¬ (1 ≤ n ∧ n ≤ 32)) :
    Calls Try.prog 62 #[.int .i64 n] w fun e w' => e = .returned (.bool false) ∧ w = w' := by
  by_cases h : 1 ≤ n
  · have h2 : ¬ n ≤ 32 := fun h3 => h1 ⟨h, h3⟩
    clear h1
    go_enter Try.func62, Try.ntmps62
    go_wp2
    go_ret
    exact ⟨rfl, rfl⟩
  · clear h1
    go_enter Try.func62, Try.ntmps62
    go_wp2
    go_ret
    exact ⟨rfl, rfl⟩
theorem one_no (n : Int) (w : World) (h1 : ¬ (1 ≤ n ∧ n ≤ 32)) :
    Calls Try.prog 40 #[.int .i64 n] w fun e w' => e = .returned (.tuple #[.slice none 0 0, .bool false]) ∧ w = w' := by
  have H := Lib.hid (fits_no n w h1)
  clear h1
  go_enter Try.func40, Try.ntmps40
  go_wp2_with (go_at_call 62; refine (H.out).mono ?_; rintro e w2 ⟨rfl, rfl⟩)
  go_ret2
  exact ⟨rfl, rfl⟩
/-- Ones on the first k places. -/
def oneTo (k : Nat) : M := fun i j => if i < k then dl i j else 0
theorem oneTo_zero (n q : Nat) : Eqv n q (oneTo 0) (fun _ _ => 0) := fun i _ j _ => if_neg (by omega)
theorem oneTo_all (n q : Nat) : Eqv n q (oneTo n) dl := fun i hi j _ => if_pos hi
theorem oneTo_step {n q k : Nat} : Eqv n q (fun i => if i = k then (fun j => if j = k then 1 else oneTo k k j) else oneTo k i) (oneTo (k + 1)) := by
  intro i _ j _
  by_cases e : i = k
  · subst e
    simp only [if_pos]
    unfold oneTo dl
    by_cases e2 : i = j
    · subst e2; simp
    · rw [if_neg (Ne.symm e2), if_neg (by omega), if_pos (by omega), if_neg e2]
  · simp only [if_neg e]
    unfold oneTo
    by_cases h : i < k
    · rw [if_pos h, if_pos (by omega)]
    · rw [if_neg h, if_neg (by omega)]
theorem Mat.only {w w' : World} {lo g n q a b : Nat} {bs : Nat → Nat} {A : M} (h : Mat w lo g n q bs A) (ho : Only a b w w') (hx : b ≤ lo) : Mat w' lo g n q bs A := by
  have h1 := h.lo_g
  exact ⟨fun i hi => (ho.cell (p := ⟨g, i, none⟩) h.lt (by right; exact Nat.le_trans hx h1)).trans (h.top i hi), fun i => (ho.frozen (p := ⟨g, i, none⟩) h.lt (by right; exact Nat.le_trans hx h1)).trans (h.free i), by have := h.lt; have := ho.size; omega, fun i hi => (h.row i hi).only ho (by right; exact Nat.le_trans hx (h.lo_b i hi)), h.inj, h.ne, h.lo_g, h.lo_b⟩
/-- One byte of row k is set. -/
theorem Mat.set {w : World} {lo g n q : Nat} {bs : Nat → Nat} {A : M} (h : Mat w lo g n q bs A) (k j : Nat) (hk : k < n) (hj : j < q) (v : F) :
    Mat (w.setCell ⟨bs k, j, none⟩ (.int .u8 ((v.v : Nat) : Int))) lo g n q bs (fun i => if i = k then (fun l => if l = j then v else A k l) else A i) :=
  h.row_only hk ((Only.refl (bs k) (bs k + 1) w).setCell (p := ⟨bs k, j, none⟩) (Nat.le_refl _) (Nat.lt_succ_self _) _) ((h.row k hk).set j hj v)
theorem Mat.lo_below {w0 w w' : World} {lo g n q k j : Nat} {bs : Nat → Nat} {A : M} (h : Mat w lo g n q bs A) (hb : Below lo w0 w) (hlo : lo ≤ w.heap.size) (hk : k < n) (v : Value) : Below lo w0 (w.setCell ⟨bs k, j, none⟩ v) :=
  hb.setCell (by have := h.lo_b k hk; exact this) _
set_option maxRecDepth 100000 in
set_option maxHeartbeats 1000000 in
theorem one_any (n : Nat) (w : World) (h1 : 1 ≤ n) (h2 : n ≤ 32) :
    Calls Try.prog 40 #[.int .i64 (n : Nat)] w fun e w' => ∃ g cap bs, e = .returned (.tuple #[.slice (some ⟨g, 0, none⟩) n cap, .bool true]) ∧ n ≤ cap ∧ Mat w' w.heap.size g n n bs dl ∧ Below w.heap.size w w' := by
  have HF := Lib.hid (fits_yes n w (by omega) (by omega))
  have HM := Lib.hid (made_any n n w (by omega) (by omega) (by omega))
  go_enter Try.func40, Try.ntmps40
  go_wp2_with (first | (go_at_call 62; refine (HF.out).mono ?_; rintro e w2 ⟨rfl, rfl⟩) | (go_at_call 59; refine (HM.out).mono ?_; rintro e w1 ⟨g, cap, bs, rfl, hcap, hM, hB⟩))
  go_loopw [5, 14] (fun _ i wr => ∃ k : Nat, k ≤ n ∧ i = .int .i64 k ∧ Mat wr w.heap.size g n n bs (oneTo k) ∧ Below w.heap.size w wr) (fun _ i _ => n - (intOf i).toNat)
  case atStart => exact ⟨0, by omega, rfl, hM.congr (oneTo_zero n n).symm, hB⟩
  case round =>
    obtain ⟨k, hk, rfl, HR, HB⟩ := hrel
    by_cases hlt : k < n
    · have ht := HR.top k hlt
      have hr := HR.row k hlt
      have hc := hr.cell k hlt
      have hf := hr.free k
      go_wp2
      go_roundw
      case rel => exact ⟨k + 1, by omega, by go_num, (HR.set k k hlt hlt 1).congr oneTo_step, HB.setCell (HR.lo_b k hlt) _⟩
      case measure => simp [intOf]; omega
    · obtain rfl : k = n := by omega
      go_wp2
      go_ret2
      exact ⟨g, cap, bs, rfl, hcap, HR.congr (oneTo_all k k), HB⟩
end Go.Proofs.Ytalinkpfklhgaaa.RowsW
