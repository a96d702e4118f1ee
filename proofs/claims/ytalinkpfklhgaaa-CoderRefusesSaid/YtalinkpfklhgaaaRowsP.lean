/- Rows as lists, and as tables: plain Lean. -/
import Derived.Test.YtalinkpfklhgaaaLin2
set_option linter.unusedVariables false
set_option linter.unusedSimpArgs false
namespace Go.Proofs.Ytalinkpfklhgaaa.Lin
open Go.Proofs.Ytalinkpfklhgaaa

def toF (x : Nat) : F := ⟨x % 256, by omega⟩
theorem toF_v {x : Nat} (h : x ≤ 255) : (toF x).v = x := Nat.mod_eq_of_lt (by omega)
theorem toF_of (a : F) : toF a.v = a := F.ext (toF_v a.le)
/-- The table of rows. -/
def fn (ls : List (List Nat)) : M := fun i j => toF ((ls.getD i []).getD j 0)
def rw1 (k : Nat) (f : Nat → F) : List Nat := (List.range k).map fun j => (f j).v
def tab (n k : Nat) (A : M) : List (List Nat) := (List.range n).map fun i => rw1 k (A i)
theorem rw1_length (k : Nat) (f : Nat → F) : (rw1 k f).length = k := by simp [rw1]
theorem tab_length (n k : Nat) (A : M) : (tab n k A).length = n := by simp [tab]
theorem rw1_get {k : Nat} (f : Nat → F) {j : Nat} (h : j < k) : (rw1 k f).getD j 0 = (f j).v := by
  unfold rw1
  rw [List.getD_eq_getElem?_getD, List.getElem?_map, List.getElem?_range h]
  rfl
theorem tab_get {n : Nat} (k : Nat) (A : M) {i : Nat} (h : i < n) : (tab n k A).getD i [] = rw1 k (A i) := by
  unfold tab
  rw [List.getD_eq_getElem?_getD, List.getElem?_map, List.getElem?_range h]
  rfl
theorem tab_getElem (n k : Nat) (A : M) (i : Nat) (h : i < (tab n k A).length) : (tab n k A)[i] = rw1 k (A i) := by
  simp [tab]
theorem fn_tab {n k : Nat} (A : M) {i j : Nat} (hi : i < n) (hj : j < k) : fn (tab n k A) i j = A i j := by
  unfold fn
  rw [tab_get k A hi, rw1_get _ hj, toF_of]
theorem fn_tab_eqv (n k : Nat) (A : M) : Eqv n k (fn (tab n k A)) A := fun _ hi _ hj => fn_tab A hi hj
theorem rw1_le (k : Nat) (f : Nat → F) : ∀ x, x ∈ rw1 k f → x ≤ 255 := by
  intro x hx
  obtain ⟨j, _, rfl⟩ := List.mem_map.1 hx
  exact (f j).le
theorem rw1_congr {k : Nat} {f g : Nat → F} (h : ∀ j, j < k → f j = g j) : rw1 k f = rw1 k g := by
  unfold rw1
  exact List.map_congr_left fun j hj => by rw [h j (List.mem_range.1 hj)]
theorem tab_congr {n k : Nat} {A B : M} (h : Eqv n k A B) : tab n k A = tab n k B := by
  unfold tab
  exact List.map_congr_left fun i hi => rw1_congr fun j hj => h i (List.mem_range.1 hi) j hj
/-- n rows of k bytes. -/
structure Rect (n k : Nat) (ls : List (List Nat)) : Prop where
  len : ls.length = n
  row : ∀ i (h : i < ls.length), ls[i].length = k
  le : ∀ i (h : i < ls.length), ∀ x, x ∈ ls[i] → x ≤ 255
theorem tab_rect (n k : Nat) (A : M) : Rect n k (tab n k A) :=
  ⟨tab_length n k A, fun i h => by rw [tab_getElem, rw1_length], fun i h => by rw [tab_getElem]; exact rw1_le _ _⟩
theorem Rect.fn_v {n k : Nat} {ls : List (List Nat)} (h : Rect n k ls) {i j : Nat} (hi : i < ls.length) (hj : j < ls[i].length) : (fn ls i j).v = ls[i][j] := by
  unfold fn
  have e1 : ls.getD i [] = ls[i] := by rw [List.getD_eq_getElem?_getD, List.getElem?_eq_getElem hi, Option.getD_some]
  rw [e1, List.getD_eq_getElem?_getD, List.getElem?_eq_getElem hj, Option.getD_some]
  exact toF_v (h.le i hi _ (List.getElem_mem hj))
theorem Rect.row_eq {n k : Nat} {ls : List (List Nat)} (h : Rect n k ls) {i : Nat} (hi : i < ls.length) : ls[i] = rw1 k (fn ls i) := by
  apply List.ext_getElem
  · rw [rw1_length, h.row i hi]
  · intro j h1 h2
    have := h.fn_v hi h1
    rw [← this]
    simp [rw1]
theorem Rect.tab_eq {n k : Nat} {ls : List (List Nat)} (h : Rect n k ls) : tab n k (fn ls) = ls := by
  apply List.ext_getElem
  · rw [tab_length, h.len]
  · intro i h1 h2
    rw [tab_getElem, ← h.row_eq h2]
/-- Are rows right? -/
def wid (ls : List (List Nat)) : Nat := (ls.getD 0 []).length
def rightB (ls : List (List Nat)) : Bool := decide (1 ≤ ls.length) && decide (ls.length ≤ 32) && decide (1 ≤ wid ls) && decide (wid ls ≤ 32) && ls.all fun r => r.length == wid ls
theorem right_iff (ls : List (List Nat)) : rightB ls = true ↔ (1 ≤ ls.length ∧ ls.length ≤ 32 ∧ 1 ≤ wid ls ∧ wid ls ≤ 32 ∧ ∀ i (h : i < ls.length), ls[i].length = wid ls) := by
  unfold rightB
  simp only [Bool.and_eq_true, decide_eq_true_eq, List.all_eq_true, beq_iff_eq]
  constructor
  · rintro ⟨⟨⟨⟨h1, h2⟩, h3⟩, h4⟩, h5⟩
    exact ⟨h1, h2, h3, h4, fun i hi => h5 _ (List.getElem_mem hi)⟩
  · rintro ⟨h1, h2, h3, h4, h5⟩
    refine ⟨⟨⟨⟨h1, h2⟩, h3⟩, h4⟩, fun r hr => ?_⟩
    obtain ⟨i, hi, rfl⟩ := List.mem_iff_getElem.1 hr
    exact h5 i hi
theorem right_rect {ls : List (List Nat)} (h : rightB ls = true) (hl : ∀ i (h : i < ls.length), ∀ x, x ∈ ls[i] → x ≤ 255) : Rect ls.length (wid ls) ls := by
  obtain ⟨_, _, _, _, h5⟩ := (right_iff ls).1 h
  exact ⟨rfl, h5, hl⟩
theorem wid_tab {n : Nat} (k : Nat) (A : M) (h : 0 < n) : wid (tab n k A) = k := by
  unfold wid
  rw [tab_get k A h, rw1_length]
theorem right_tab {n k : Nat} (A : M) (h1 : 1 ≤ n) (h2 : n ≤ 32) (h3 : 1 ≤ k) (h4 : k ≤ 32) : rightB (tab n k A) = true := by
  have hl := tab_length n k A
  have hw := wid_tab k A (show 0 < n by omega)
  exact (right_iff _).2 ⟨by omega, by omega, by omega, by omega, fun i h => by rw [tab_getElem, rw1_length, hw]⟩
end Go.Proofs.Ytalinkpfklhgaaa.Lin
