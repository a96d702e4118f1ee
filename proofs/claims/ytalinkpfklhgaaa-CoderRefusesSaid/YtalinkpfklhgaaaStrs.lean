/- A slice of strings that is only read. -/
import Derived.Test.YtalinkpfklhgaaaBase
import Derived.SliceStrings
set_option linter.unusedVariables false
set_option linter.unusedSimpArgs false
namespace Go.Proofs.Ytalinkpfklhgaaa.Base
open Go.RowKit Go.ChangeShapes

/-- The strings of a slice. -/
structure Strs (w : World) (A : Option Addr) (n : Nat) (ss : List ByteArray) : Prop where
  len : ss.length = n
  at_ : n = 0 ∨ ∃ b off, A = some ⟨b, off, none⟩ ∧ ∀ j (h : j < ss.length), w.cell? ⟨b, off + j, none⟩ = some (.string ss[j])
theorem Strs.below {w w' : World} {A : Option Addr} {n : Nat} {ss : List ByteArray} (h : Strs w A n ss) (hb : Below w.heap.size w w') : Strs w' A n ss := by
  refine ⟨h.len, ?_⟩
  rcases h.at_ with h1 | ⟨b, off, e, hc⟩
  · exact .inl h1
  · exact .inr ⟨b, off, e, fun j hj => cell_below hb (hc j hj)⟩
theorem Strs.nil (w : World) (A : Option Addr) : Strs w A 0 [] := ⟨rfl, .inl rfl⟩
/-- Where it lies. -/
theorem Strs.block {w : World} {A : Option Addr} {n : Nat} {ss : List ByteArray} (h : Strs w A n ss) (h0 : n ≠ 0) : ∃ b off, A = some ⟨b, off, none⟩ ∧ ∀ j (h : j < ss.length), w.cell? ⟨b, off + j, none⟩ = some (.string ss[j]) := by
  rcases h.at_ with h1 | h1
  · exact absurd h1 h0
  · exact h1
/-- So many bytes at most. -/
def total : List ByteArray → Nat
  | [] => 0
  | s :: l => s.size + total l
theorem total_append (l m : List ByteArray) : total (l ++ m) = total l + total m := by
  induction l with
  | nil => show total m = 0 + total m; omega
  | cons s l ih => show s.size + total (l ++ m) = s.size + total l + total m; omega
theorem total_get {l : List ByteArray} {j : Nat} (h : j < l.length) : l[j].size ≤ total l := by
  induction l generalizing j with
  | nil => simp at h
  | cons s l ih =>
    cases j with
    | zero => show s.size ≤ s.size + total l; omega
    | succ j =>
      have hj : j < l.length := by simpa using h
      have := ih hj
      show l[j].size ≤ s.size + total l
      omega
theorem take_snoc_list {α : Type} (l : List α) (k : Nat) (h : k < l.length) : l.take (k + 1) = l.take k ++ [l[k]] := List.take_succ_eq_append_getElem h
theorem total_take_le (l : List ByteArray) (k : Nat) : total (l.take k) ≤ total l := by
  have := total_append (l.take k) (l.drop k)
  rw [List.take_append_drop] at this
  omega
end Go.Proofs.Ytalinkpfklhgaaa.Base
