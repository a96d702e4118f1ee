/- The rows of a code are the values of the polynomials that are 1 at one point and 0 at the others, plain. -/
import Derived.Test.YtmlemichkeomjaaStrpP
set_option linter.unusedVariables false
set_option linter.unusedSimpArgs false
namespace Go.Proofs.Ytmlemichkeomjaa.CodP
open Go.Proofs.Ytmlemichkeomjaa Go.Proofs.Ytmlemichkeomjaa.Base Go.Proofs.Ytmlemichkeomjaa.Lin Go.Proofs.Ytmlemichkeomjaa.RowsW

/-- The product of what lies between a point and others. -/
def pr (t : F) : List F → F
  | [] => 1
  | r :: l => (t + r) * pr t l
theorem ne_add {a b : F} (h : a ≠ b) : a + b ≠ 0 := fun e => h (eq_of_add e)
theorem factor : ∀ (xs l : List F), xs.Pairwise (· ≠ ·) → l.length = xs.length + 1 → (∀ x, x ∈ xs → ev x l = 0) → ∃ c : F, ∀ t, ev t l = c * pr t xs
  | [], l, _, hl, _ => by
    obtain ⟨c, rfl⟩ : ∃ c, l = [c] := List.length_eq_one_iff.1 hl
    refine ⟨c, fun t => ?_⟩
    show c + t * 0 = c * 1
    rw [mul_zero, add_zero, mul_one]
  | r :: xs, l, hp, hl, hr => by
    have hd := List.pairwise_cons.1 hp
    have h0 : ev r l = 0 := hr r (List.mem_cons_self ..)
    have he : ∀ t, ev t l = (t + r) * ev t (dv r l) := fun t => by rw [dv_ev r t l, h0, zero_add]
    obtain ⟨c, hc⟩ := factor xs (dv r l) hd.2 (by rw [dv_length, hl]; rfl) (fun x hx => by
      have h1 := hr x (List.mem_cons_of_mem _ hx)
      rw [he] at h1
      exact (mul_eq_zero h1).resolve_left (ne_add (fun e => hd.1 x hx e.symm)))
    refine ⟨c, fun t => ?_⟩
    rw [he, hc]
    show _ = c * ((t + r) * pr t xs)
    rw [← mul_assoc, mul_comm (t + r) c, mul_assoc]
/-- The points below a limit but one. -/
def pts (i : Nat) : Nat → List F
  | 0 => []
  | m + 1 => if m = i then pts i m else toF m :: pts i m
/-- What the document's loop gathers. -/
def lg (i : Nat) (t : F) : Nat → F
  | 0 => 1
  | m + 1 => if m = i then lg i t m else lg i t m * ((t + toF m) * (toF i + toF m).inv)
theorem toF_ne {a b : Nat} (ha : a < 256) (hb : b < 256) (h : a ≠ b) : toF a ≠ toF b := fun e => by
  have := congrArg F.v e
  unfold toF at this
  simp only at this
  omega
theorem mem_pts {i : Nat} : ∀ m (x : F), x ∈ pts i m → ∃ j, j < m ∧ j ≠ i ∧ x = toF j
  | 0, x, h => by cases h
  | m + 1, x, h => by
    unfold pts at h
    split at h
    · obtain ⟨j, h1, h2, h3⟩ := mem_pts m x h
      exact ⟨j, by omega, h2, h3⟩
    · rename_i hm
      rcases List.mem_cons.1 h with rfl | h
      · exact ⟨m, by omega, hm, rfl⟩
      · obtain ⟨j, h1, h2, h3⟩ := mem_pts m x h
        exact ⟨j, by omega, h2, h3⟩
theorem pts_apart {i : Nat} : ∀ m, m ≤ 256 → (pts i m).Pairwise (· ≠ ·)
  | 0, _ => List.Pairwise.nil
  | m + 1, hm => by
    unfold pts
    split
    · exact pts_apart m (by omega)
    · refine List.pairwise_cons.2 ⟨fun x hx => ?_, pts_apart m (by omega)⟩
      obtain ⟨j, h1, h2, rfl⟩ := mem_pts m x hx
      exact toF_ne (by omega) (by omega) (by omega)
theorem pts_length {i : Nat} : ∀ m, (pts i m).length = if i < m then m - 1 else m
  | 0 => rfl
  | m + 1 => by
    unfold pts
    split
    · rename_i h
      rw [pts_length m, if_neg (by omega), if_pos (by omega)]
      omega
    · rename_i h
      rw [List.length_cons, pts_length m]
      split <;> split <;> omega
theorem pr_ne {i : Nat} (hi : i < 256) : ∀ m, m ≤ 256 → pr (toF i) (pts i m) ≠ 0
  | 0, _ => one_ne_zero
  | m + 1, hm => by
    unfold pts
    split
    · exact pr_ne hi m (by omega)
    · rename_i h
      intro e
      rcases mul_eq_zero e with h1 | h1
      · exact ne_add (toF_ne hi (by omega) (fun h9 => h h9.symm)) h1
      · exact pr_ne hi m (by omega) h1
theorem lg_pr {i : Nat} (hi : i < 256) (t : F) : ∀ m, m ≤ 256 → lg i t m * pr (toF i) (pts i m) = pr t (pts i m)
  | 0, _ => by show (1 : F) * 1 = 1; rw [mul_one]
  | m + 1, hm => by
    have ih := lg_pr hi t m (by omega)
    unfold lg pts
    split
    · exact ih
    · rename_i h
      have h0 : toF i + toF m ≠ 0 := ne_add (toF_ne hi (by omega) (fun h9 => h h9.symm))
      show lg i t m * ((t + toF m) * (toF i + toF m).inv) * ((toF i + toF m) * pr (toF i) (pts i m)) = (t + toF m) * pr t (pts i m)
      rw [← ih]
      calc lg i t m * ((t + toF m) * (toF i + toF m).inv) * ((toF i + toF m) * pr (toF i) (pts i m))
          = lg i t m * (t + toF m) * ((toF i + toF m).inv * (toF i + toF m)) * pr (toF i) (pts i m) := by ac_rfl
        _ = (t + toF m) * (lg i t m * pr (toF i) (pts i m)) := by rw [inv_mul h0, mul_one]; ac_rfl
/-- A code's rows. -/
theorem code_lg {k n : Nat} {G : M} (hG : CodeG k n G) (hkn : k ≤ n) (hn : n ≤ 16) (x i : Nat) (hx : x < n) (hi : i < k) : G x i = lg i (toF x) k := by
  obtain ⟨U, h1, h2, h3⟩ := hG.gen
  have hv : ∀ y, mm k powT U y i = ev (toF y) ((List.range k).map fun q => U q i) := fun y => by
    rw [ev_sm]
    rfl
  have hr : ∀ z, z ∈ pts i k → ev z ((List.range k).map fun q => U q i) = 0 := fun z hz => by
    obtain ⟨j, hj, hji, rfl⟩ := mem_pts k z hz
    rw [← hv j, h3 j hj i hi, dl_ne hji]
  obtain ⟨c, hc⟩ := factor (pts i k) ((List.range k).map fun q => U q i) (pts_apart k (by omega)) (by rw [List.length_map, List.length_range, pts_length, if_pos hi]; omega) hr
  have hone : c * pr (toF i) (pts i k) = 1 := by rw [← hc, ← hv i, h3 i hi i hi, dl_self]
  rw [h1 x hx i hi, hv x, hc, ← lg_pr (by omega) (toF x) k (by omega), ← mul_assoc, mul_comm c, mul_assoc, hone, mul_one]
end Go.Proofs.Ytmlemichkeomjaa.CodP
