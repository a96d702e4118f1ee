/- How many rows don't hang on the others, told step by step; plain. -/
import Derived.Test.YtalinkpfklhgaaaLin
set_option linter.unusedVariables false
set_option linter.unusedSimpArgs false
namespace Go.Proofs.Ytalinkpfklhgaaa.Lin
open Go.Proofs.Ytalinkpfklhgaaa

theorem ap_add (n : Nat) (A : M) (x y : Nat → F) (i : Nat) : ap n A (fun k => x k + y k) i = ap n A x i + ap n A y i := by
  unfold ap
  rw [← sm_add]
  exact sm_congr fun k _ => mul_add _ _ _
theorem ap_dl {n q : Nat} (A : M) (t : F) (i : Nat) (hq : q < n) : ap n A (fun k => dl q k * t) i = A i q * t := by
  unfold ap
  have : ∀ k, k < n → A i k * (dl q k * t) = dl q k * (A i k * t) := fun k _ => by ac_rfl
  rw [sm_congr this, sm_dl n q (fun k => A i k * t) hq]
/-- What holds behind c steps, none of which was left out. -/
structure Ech (n c : Nat) (A W : M) : Prop where
  ker : ∀ x : Nat → F, (∀ i, i < n → ap n A x i = 0) ↔ (∀ i, i < n → ap n W x i = 0)
  low : ∀ i, i < n → ∀ j, j < i → j < c → W i j = 0
  dia : ∀ i, i < c → W i i ≠ 0
theorem Ech.start (n : Nat) (A : M) : Ech n 0 A A := ⟨fun _ => Iff.rfl, fun _ _ _ _ h => by omega, fun _ h => by omega⟩
theorem Ech.swap {n c p : Nat} {A W : M} (h : Ech n c A W) (hc : c < n) (hcp : c ≤ p) (hp : p < n) : Ech n c A (swp c p W) := by
  refine ⟨fun x => (h.ker x).trans ⟨fun g i hi => g _ (sw_lt hc hp hi), fun g i hi => ?_⟩, fun i hi j hj hjc => ?_, fun i hi => ?_⟩
  · have := g _ (sw_lt hc hp hi)
    have e : ap n (swp c p W) x (sw c p i) = ap n W x (sw c p (sw c p i)) := rfl
    rwa [e, sw_sw] at this
  · show W (sw c p i) j = 0
    unfold sw
    by_cases e1 : i = c
    · rw [if_pos e1]; exact h.low p hp j (by omega) hjc
    · rw [if_neg e1]
      by_cases e2 : i = p
      · rw [if_pos e2]; exact h.low c hc j (by omega) hjc
      · rw [if_neg e2]; exact h.low i hi j hj hjc
  · show W (sw c p i) i ≠ 0
    unfold sw
    rw [if_neg (by omega), if_neg (by omega)]
    exact h.dia i hi
def el (c : Nat) (W : M) : M := fun i j => if c < i then W i j + (W i c * (W c c).inv) * W c j else W i j
theorem ap_el (n c : Nat) (W : M) (x : Nat → F) (i : Nat) : ap n (el c W) x i = if c < i then ap n W x i + (W i c * (W c c).inv) * ap n W x c else ap n W x i := by
  unfold ap el
  by_cases h : c < i
  · rw [if_pos h, ← sm_mul, ← sm_add]
    refine sm_congr fun k _ => ?_
    rw [if_pos h, add_mul, mul_assoc]
  · rw [if_neg h]
    exact sm_congr fun k _ => by rw [if_neg h]
theorem Ech.step {n c : Nat} {A W : M} (h : Ech n c A W) (hc : c < n) (h0 : W c c ≠ 0) : Ech n (c + 1) A (el c W) := by
  refine ⟨fun x => (h.ker x).trans ⟨fun g i hi => ?_, fun g => ?_⟩, fun i hi j hj hjc => ?_, fun i hi => ?_⟩
  · rw [ap_el, g i hi, g c hc]
    split
    · rw [mul_zero, add_zero]
    · rfl
  · have hcc : ap n W x c = 0 := by
      have := g c hc
      rwa [ap_el, if_neg (by omega)] at this
    intro i hi
    have := g i hi
    rw [ap_el, hcc, mul_zero, add_zero] at this
    split at this <;> exact this
  · unfold el
    by_cases e : c < i
    · rw [if_pos e]
      by_cases ej : j = c
      · subst ej
        rw [mul_assoc, inv_mul h0, mul_one, add_self]
      · rw [h.low i hi j hj (by omega), h.low c hc j (by omega) (by omega), mul_zero, add_zero]
    · rw [if_neg e]
      exact h.low i hi j hj (by omega)
  · unfold el
    rw [if_neg (by omega)]
    by_cases e : i = c
    · rw [e]; exact h0
    · exact h.dia i (by omega)
theorem Ech.done {n : Nat} {A W : M} (h : Ech n n A W) : Free n A := by
  intro x hx
  have hW := (h.ker x).1 hx
  have hm : ∀ m, m ≤ n → ∀ i, i < n → n - m ≤ i → x i = 0 := by
    intro m
    induction m with
    | zero => intro _ i hi h1; omega
    | succ m ih =>
      intro hm i hi h1
      by_cases e : n - m ≤ i
      · exact ih (by omega) i hi e
      · have h2 := hW i hi
        have h3 : ∀ k, k < n → W i k * x k = dl i k * (W i k * x k) := fun k hk => by
          by_cases e1 : i = k
          · rw [e1, dl_self, one_mul]
          · rw [dl_ne e1, zero_mul]
            by_cases e2 : k < i
            · rw [h.low i hi k e2 hk, zero_mul]
            · rw [ih (by omega) k hk (by omega), mul_zero]
        unfold ap at h2
        rw [sm_congr h3, sm_dl n i (fun k => W i k * x k) hi] at h2
        rcases mul_eq_zero h2 with h4 | h4
        · exact absurd h4 (h.dia i hi)
        · exact h4
  exact fun i hi => hm n (Nat.le_refl _) i hi (by omega)
theorem Ech.stuck {n c : Nat} {A W : M} (h : Ech n c A W) (hc : c < n) (hz : ∀ p, c ≤ p → p < n → W p c = 0) : ¬ Free n A := by
  have hm : ∀ m, m ≤ c → ∃ x : Nat → F, x c = 1 ∧ (∀ k, c < k → x k = 0) ∧ ∀ i, i < c → c - m ≤ i → ap n W x i = 0 := by
    intro m
    induction m with
    | zero => intro _; exact ⟨fun k => dl c k, dl_self c, fun k hk => dl_ne (by omega), fun i hi h1 => by omega⟩
    | succ m ih =>
      intro hm
      obtain ⟨x, h1, h2, h3⟩ := ih (by omega)
      have hd := h.dia (c - m - 1) (by omega)
      refine ⟨fun k => x k + dl (c - m - 1) k * ((W (c - m - 1) (c - m - 1)).inv * ap n W x (c - m - 1)), ?_, fun k hk => ?_, fun i hi hi2 => ?_⟩
      · show x c + dl (c - m - 1) c * _ = 1
        rw [dl_ne (show c - m - 1 ≠ c by omega), zero_mul, add_zero, h1]
      · show x k + dl (c - m - 1) k * _ = 0
        rw [dl_ne (show c - m - 1 ≠ k by omega), zero_mul, add_zero, h2 k hk]
      · rw [ap_add, ap_dl W _ i (by omega)]
        by_cases e : i = c - m - 1
        · rw [e, ← mul_assoc, mul_inv hd, one_mul, add_self]
        · rw [h3 i hi (by omega), h.low i (by omega) (c - m - 1) (by omega) (by omega), zero_mul, add_zero]
  obtain ⟨x, h1, h2, h3⟩ := hm c (Nat.le_refl _)
  intro hF
  have := hF x ((h.ker x).2 fun i hi => by
    by_cases e : i < c
    · exact h3 i e (by omega)
    · refine sm_none fun k hk => ?_
      by_cases e1 : k < c
      · rw [h.low i hi k (by omega) e1, zero_mul]
      · by_cases e2 : k = c
        · rw [e2, hz i (by omega) hi, zero_mul]
        · rw [h2 k (by omega), mul_zero]) c hc
  rw [h1] at this
  exact one_ne_zero this
end Go.Proofs.Ytalinkpfklhgaaa.Lin
