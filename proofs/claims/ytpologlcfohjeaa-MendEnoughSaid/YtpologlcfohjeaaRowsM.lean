/- Slices of slices of bytes, and of whole numbers, that are only read. -/
import Derived.Test.YtpologlcfohjeaaBase
set_option linter.unusedVariables false
set_option linter.unusedSimpArgs false
namespace Go.Proofs.Ytpologlcfohjeaa.Base
open Go.RowKit

/-- A row of bytes, of whatever length. -/
structure Row1 (w : World) (A : Option Addr) (l : List Nat) : Prop where
  le : ∀ x, x ∈ l → x ≤ 255
  at_ : l = [] ∨ ∃ b off, A = some ⟨b, off, none⟩ ∧ ∀ j, j < l.length → w.cell? ⟨b, off + j, none⟩ = some (.int .u8 ((l.getD j 0 : Nat) : Int))
theorem Row1.bytes {w : World} {A : Option Addr} {l : List Nat} (h : Row1 w A l) (hl : l.length ≤ 140737488355328) : Bytes w A l := ⟨h.le, hl, h.at_⟩
theorem Row1.of_bytes {w : World} {A : Option Addr} {l : List Nat} (h : Bytes w A l) : Row1 w A l := ⟨h.le, h.at_⟩
theorem Row1.below {w w' : World} {A : Option Addr} {l : List Nat} (h : Row1 w A l) (hb : Below w.heap.size w w') : Row1 w' A l := by
  refine ⟨h.le, ?_⟩
  rcases h.at_ with h1 | ⟨b, off, e, hc⟩
  · exact .inl h1
  · exact .inr ⟨b, off, e, fun j hj => cell_below hb (hc j hj)⟩
theorem Row1.block {w : World} {A : Option Addr} {l : List Nat} (h : Row1 w A l) (h0 : l.length ≠ 0) : ∃ b off, A = some ⟨b, off, none⟩ ∧ ∀ j, j < l.length → w.cell? ⟨b, off + j, none⟩ = some (.int .u8 ((l.getD j 0 : Nat) : Int)) := by
  rcases h.at_ with h1 | h1
  · exact absurd (by rw [h1]; rfl) h0
  · exact h1
theorem Row1.nil (w : World) (A : Option Addr) : Row1 w A [] := ⟨fun _ h => (by cases h), Or.inl rfl⟩
/-- Rows of bytes. -/
structure Rows (w : World) (A : Option Addr) (ls : List (List Nat)) : Prop where
  at_ : ls = [] ∨ ∃ b off, A = some ⟨b, off, none⟩ ∧ ∀ j (h : j < ls.length), ∃ B c, w.cell? ⟨b, off + j, none⟩ = some (.slice B ls[j].length c) ∧ Row1 w B ls[j]
theorem Rows.below {w w' : World} {A : Option Addr} {ls : List (List Nat)} (h : Rows w A ls) (hb : Below w.heap.size w w') : Rows w' A ls := by
  refine ⟨?_⟩
  rcases h.at_ with h1 | ⟨b, off, e, hc⟩
  · exact .inl h1
  · refine .inr ⟨b, off, e, fun j hj => ?_⟩
    obtain ⟨B, c, h1, h2⟩ := hc j hj
    exact ⟨B, c, cell_below hb h1, h2.below hb⟩
theorem Rows.block {w : World} {A : Option Addr} {ls : List (List Nat)} (h : Rows w A ls) (h0 : ls.length ≠ 0) : ∃ b off, A = some ⟨b, off, none⟩ ∧ ∀ j (h : j < ls.length), ∃ B c, w.cell? ⟨b, off + j, none⟩ = some (.slice B ls[j].length c) ∧ Row1 w B ls[j] := by
  rcases h.at_ with h1 | h1
  · exact absurd (by rw [h1]; rfl) h0
  · exact h1
theorem Rows.nil (w : World) (A : Option Addr) : Rows w A [] := ⟨.inl rfl⟩
theorem Rows.le {w : World} {A : Option Addr} {ls : List (List Nat)} (h : Rows w A ls) : ∀ i (hi : i < ls.length), ∀ x, x ∈ ls[i] → x ≤ 255 := by
  intro i hi
  obtain ⟨b, off, _, hc⟩ := h.block (by omega)
  obtain ⟨B, c, _, h2⟩ := hc i hi
  exact h2.le
/-- Whole numbers. -/
structure Ints (w : World) (A : Option Addr) (l : List Int) : Prop where
  le : ∀ x, x ∈ l → -9223372036854775808 ≤ x ∧ x ≤ 9223372036854775807
  at_ : l = [] ∨ ∃ b off, A = some ⟨b, off, none⟩ ∧ ∀ j (h : j < l.length), w.cell? ⟨b, off + j, none⟩ = some (.int .i64 l[j])
theorem Ints.below {w w' : World} {A : Option Addr} {l : List Int} (h : Ints w A l) (hb : Below w.heap.size w w') : Ints w' A l := by
  refine ⟨h.le, ?_⟩
  rcases h.at_ with h1 | ⟨b, off, e, hc⟩
  · exact .inl h1
  · exact .inr ⟨b, off, e, fun j hj => cell_below hb (hc j hj)⟩
theorem Ints.block {w : World} {A : Option Addr} {l : List Int} (h : Ints w A l) (h0 : l.length ≠ 0) : ∃ b off, A = some ⟨b, off, none⟩ ∧ ∀ j (h : j < l.length), w.cell? ⟨b, off + j, none⟩ = some (.int .i64 l[j]) := by
  rcases h.at_ with h1 | h1
  · exact absurd (by rw [h1]; rfl) h0
  · exact h1
theorem Ints.nil (w : World) (A : Option Addr) : Ints w A [] := ⟨fun _ h => (by cases h), .inl rfl⟩
end Go.Proofs.Ytpologlcfohjeaa.Base
