/- What a plan is, in plain words. -/
import Derived.Test.YtpologlcfohjeaaMendL
set_option linter.unusedVariables false
set_option linter.unusedSimpArgs false
namespace Go.Proofs.Ytpologlcfohjeaa.MendW
open Go.RowKit Go.Proofs.Ytpologlcfohjeaa.Base
def freeF (live : List Bool) (T : List Int) (w : Nat) : Bool := live.getD w false && decide (((w : Nat) : Int) + 1 ∉ T)
def freeN (live : List Bool) (T : List Int) : Nat := ((List.range live.length).filter (freeF live T)).length
theorem filter_all_but (f : Nat → Bool) (n j : Nat) (hj : j < n) (hf : f j = true) : ((List.range n).filter fun x => f x && decide (x ≠ j)).length + 1 = ((List.range n).filter f).length := by
  induction n with
  | zero => omega
  | succ n ih =>
    rw [List.range_succ, List.filter_append, List.filter_append, List.length_append, List.length_append]
    by_cases e : j = n
    · subst e
      have h1 : (List.range j).filter (fun x => f x && decide (x ≠ j)) = (List.range j).filter f := List.filter_congr fun x hx => by
        have := List.mem_range.1 hx
        simp [show x ≠ j by omega]
      rw [h1]
      simp [hf]
    · have := ih (by omega)
      have e1 : (f n && decide (n ≠ j)) = f n := by simp [show n ≠ j by omega]
      have e2 : [n].filter (fun x => f x && decide (x ≠ j)) = [n].filter f := by simp only [List.filter_cons, List.filter_nil, e1]
      rw [e2]
      omega
theorem freeN_take {live : List Bool} {T : List Int} {r : Nat} (h0 : r ≠ 0) (hr : r ≤ live.length) (hl : live.getD (r - 1) false = true) (hn : ((r : Nat) : Int) ∉ T) : freeN live (T ++ [((r : Nat) : Int)]) + 1 = freeN live T := by
  unfold freeN
  rw [← filter_all_but (freeF live T) live.length (r - 1) (by omega) (by unfold freeF; rw [hl]; simp [show ((r - 1 : Nat) : Int) + 1 = r by omega, hn])]
  congr 2
  refine List.filter_congr fun x _ => ?_
  unfold freeF
  by_cases h1 : x = r - 1
  · subst h1
    simp [show ((r - 1 : Nat) : Int) + 1 = r by omega]
  · have h2 : ¬ ((x : Nat) : Int) + 1 = r := by omega
    by_cases h3 : ((x : Nat) : Int) + 1 ∈ T <;> simp [h1, h2, h3]
theorem freeN_zero {live : List Bool} {T : List Int} (h : FreeK live T live.length 0) : freeN live T = 0 := by
  unfold freeN
  rw [List.length_eq_zero_iff, List.filter_eq_nil_iff]
  intro x hx
  have hx2 := List.mem_range.1 hx
  unfold freeF
  cases e : live.getD x false with
  | false => simp
  | true =>
    have e2 : live[x] = true := by rw [List.getD_eq_getElem?_getD, List.getElem?_eq_getElem hx2] at e; exact e
    have := h.no rfl x hx2 hx2 e2
    simp [this]
def absent (pr : List Nat) (i : Nat) : List Nat := (List.range i).filter fun x => decide (x ∉ pr)
theorem absent_in {pr : List Nat} {i : Nat} (h : i ∈ pr) : absent pr (i + 1) = absent pr i := by
  unfold absent
  rw [List.range_succ, List.filter_append]
  simp [h]
theorem absent_out {pr : List Nat} {i : Nat} (h : i ∉ pr) : absent pr (i + 1) = absent pr i ++ [i] := by
  unfold absent
  rw [List.range_succ, List.filter_append]
  simp [h]
/-- How many moves there are. -/
theorem Proc.count {live : List Bool} {base : List Int} {pr : List Nat} {i : Nat} {P : List (Nat × Nat)} (h : Proc live base pr i P) :
    freeN live (base ++ tos P) + P.length = freeN live base ∧ P.length ≤ (absent pr i).length ∧ (P.length < (absent pr i).length → freeN live base = P.length) ∧ (P.length = (absent pr i).length → P.map (·.1) = absent pr i) := by
  induction h with
  | zero => exact ⟨by simp [tos], by simp, fun h => by simp [absent] at h, fun _ => rfl⟩
  | @none i P hp hf ih =>
    obtain ⟨h1, h2, h3, h4⟩ := ih
    have h0 := freeN_zero hf
    by_cases hi : i ∈ pr
    · rw [absent_in hi]; exact ⟨h1, h2, h3, h4⟩
    · rw [absent_out hi, List.length_append, List.length_singleton]
      exact ⟨h1, by omega, fun _ => by omega, fun h => by omega⟩
  | @held i P hp hi ih =>
    rw [absent_in hi]
    exact ih
  | @move i r P hp hi h0 hf ih =>
    obtain ⟨h1, h2, h3, h4⟩ := ih
    obtain ⟨q1, q2, q3⟩ := hf.yes h0
    have ht := freeN_take h0 q1 q2 q3
    have he : P.length = (absent pr i).length := by
      rcases Nat.lt_or_ge P.length (absent pr i).length with h | h
      · have := h3 h; omega
      · omega
    rw [absent_out hi, tos_snoc, ← List.append_assoc]
    simp only [List.length_append, List.length_singleton, List.map_append, List.map_cons, List.map_nil]
    exact ⟨by omega, by omega, fun h => by omega, fun _ => by rw [h4 he]⟩
theorem Proc.same {live : List Bool} {base : List Int} {pr : List Nat} {i : Nat} {P Q : List (Nat × Nat)} (h : Proc live base pr i P) (g : Proc live base pr i Q) : P.length = Q.length := by
  obtain ⟨h1, h2, h3, _⟩ := h.count
  obtain ⟨g1, g2, g3, _⟩ := g.count
  omega
/-- As many moves, whatever the loads; the same is lost. -/
theorem PlanRel.same {live : List Bool} {hv : List (List Bool)} {hm : List (List Int)} {k i : Nat} {ms ms2 : List Mv} {ls ls2 : List Int} {X X2 : List (List Int)} (h : PlanRel live hv hm k i ms ls X) (g : PlanRel live hv hm k i ms2 ls2 X2) : ms.length = ms2.length ∧ ls = ls2 := by
  induction h generalizing ms2 ls2 X2 with
  | zero =>
    cases g with
    | zero => exact ⟨rfl, rfl⟩
  | lost _ hl ih =>
    cases g with
    | lost g' _ => obtain ⟨e1, e2⟩ := ih g'; exact ⟨e1, by rw [e2]⟩
    | part _ hk _ _ => omega
  | part _ hk _ hp ih =>
    cases g with
    | lost _ hl => omega
    | part g' _ _ gp =>
      obtain ⟨e1, e2⟩ := ih g'
      have := hp.same gp
      rw [List.length_map, List.length_map] at this
      exact ⟨by rw [List.length_append, List.length_append]; omega, e2⟩
/-- What holds of each move of a part. -/
structure ProcF (live : List Bool) (base : List Int) (pr : List Nat) (i : Nat) (P : List (Nat × Nat)) : Prop where
  mem : ∀ x, x ∈ P → x.1 < i ∧ x.1 ∉ pr ∧ 1 ≤ x.2 ∧ x.2 ≤ live.length ∧ live.getD (x.2 - 1) false = true ∧ ((x.2 : Nat) : Int) ∉ base
  pw : P.Pairwise fun x y => x.1 ≠ y.1 ∧ x.2 ≠ y.2
  get : ∀ row : List Int, ∀ x, x ∈ P → x.1 < row.length → (ap row P)[x.1]? = some ((x.2 : Nat) : Int)
  old : ∀ row : List Int, ∀ a, (∀ x, x ∈ P → x.1 ≠ a) → (ap row P)[a]? = row[a]?
theorem Proc.facts {live : List Bool} {base : List Int} {pr : List Nat} {i : Nat} {P : List (Nat × Nat)} (h : Proc live base pr i P) : ProcF live base pr i P := by
  induction h with
  | zero => exact ⟨fun x h => by (cases h), List.Pairwise.nil, fun _ x h => by (cases h), fun _ _ _ => rfl⟩
  | none _ _ ih => exact ⟨fun x hx => by have := ih.mem x hx; exact ⟨by omega, this.2⟩, ih.pw, ih.get, ih.old⟩
  | held _ _ ih => exact ⟨fun x hx => by have := ih.mem x hx; exact ⟨by omega, this.2⟩, ih.pw, ih.get, ih.old⟩
  | @move i r P _ hi h0 hf ih =>
    obtain ⟨q1, q2, q3⟩ := hf.yes h0
    have q4 : ((r : Nat) : Int) ∉ base := fun h => q3 (List.mem_append_left _ h)
    have q5 : ∀ x, x ∈ P → x.2 ≠ r := fun x hx e => q3 (List.mem_append_right _ (List.mem_map.2 ⟨x, hx, by rw [e]⟩))
    refine ⟨fun x hx => ?_, ?_, fun row x hx hl => ?_, fun row a ha => ?_⟩
    · rcases List.mem_append.1 hx with h1 | h1
      · have := ih.mem x h1; exact ⟨by omega, this.2⟩
      · obtain rfl := List.mem_singleton.1 h1
        exact ⟨by show i < i + 1; omega, hi, by show 1 ≤ r; omega, q1, q2, q4⟩
    · rw [List.pairwise_append]
      refine ⟨ih.pw, List.pairwise_singleton _ _, fun x hx y hy => ?_⟩
      obtain rfl := List.mem_singleton.1 hy
      exact ⟨by have := (ih.mem x hx).1; show x.1 ≠ i; omega, q5 x hx⟩
    · rw [ap_snoc]
      rcases List.mem_append.1 hx with h1 | h1
      · have := (ih.mem x h1).1
        rw [List.getElem?_set_ne (by omega)]
        exact ih.get row x h1 hl
      · obtain rfl := List.mem_singleton.1 h1
        rw [List.getElem?_set_self (by rw [ap_length]; exact hl)]
    · rw [ap_snoc, List.getElem?_set_ne (ha (i, r) (List.mem_append_right _ (List.mem_singleton.2 rfl)))]
      exact ih.old row a fun x hx => ha x (List.mem_append_left _ hx)
/-- Where all is present there is no move. -/
theorem Proc.none_of {live : List Bool} {base : List Int} {pr : List Nat} {i : Nat} {P : List (Nat × Nat)} (h : Proc live base pr i P) (ha : ∀ a, a < i → a ∈ pr) : P = [] := by
  induction h with
  | zero => rfl
  | none _ _ ih => exact ih fun a h => ha a (by omega)
  | held _ _ ih => exact ih fun a h => ha a (by omega)
  | @move i _ _ _ hi _ _ _ => exact absurd (ha i (by omega)) hi
end Go.Proofs.Ytpologlcfohjeaa.MendW
