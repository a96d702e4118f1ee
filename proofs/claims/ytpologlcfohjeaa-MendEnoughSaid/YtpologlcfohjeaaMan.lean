/- Slices of bools, rows of bools and of whole numbers that are only read; a row of whole numbers of one's own. -/
import Derived.Test.YtpologlcfohjeaaRowsM
import Derived.Test.YtpologlcfohjeaaOwn
import Derived.Outline
set_option linter.unusedVariables false
set_option linter.unusedSimpArgs false
namespace Go.Proofs.Ytpologlcfohjeaa.Base
open Go.RowKit
theorem regrown_cell {w : World} {a : Addr} {v : Value} (h : w.cell? a = some v) (p : Regrown) : (Go.Sort.grow (redrawn w p.d) p.os).cell? a = some v := cell_below (below_of_regrown ⟨p, rfl⟩) h
/-- Bools. -/
structure Bools (w : World) (A : Option Addr) (l : List Bool) : Prop where
  at_ : l = [] ∨ ∃ b off, A = some ⟨b, off, none⟩ ∧ ∀ j (h : j < l.length), w.cell? ⟨b, off + j, none⟩ = some (.bool l[j])
theorem Bools.below {w w' : World} {A : Option Addr} {l : List Bool} (h : Bools w A l) (hb : Below w.heap.size w w') : Bools w' A l := by
  refine ⟨?_⟩
  rcases h.at_ with h1 | ⟨b, off, e, hc⟩
  · exact .inl h1
  · exact .inr ⟨b, off, e, fun j hj => cell_below hb (hc j hj)⟩
theorem Bools.block {w : World} {A : Option Addr} {l : List Bool} (h : Bools w A l) (h0 : l.length ≠ 0) : ∃ b off, A = some ⟨b, off, none⟩ ∧ ∀ j (h : j < l.length), w.cell? ⟨b, off + j, none⟩ = some (.bool l[j]) := by
  rcases h.at_ with h1 | h1
  · exact absurd (by rw [h1]; rfl) h0
  · exact h1
theorem Bools.nil (w : World) (A : Option Addr) : Bools w A [] := ⟨.inl rfl⟩
/-- Rows of bools. -/
structure BRows (w : World) (A : Option Addr) (ls : List (List Bool)) : Prop where
  at_ : ls = [] ∨ ∃ b off, A = some ⟨b, off, none⟩ ∧ ∀ j (h : j < ls.length), ∃ B c, w.cell? ⟨b, off + j, none⟩ = some (.slice B ls[j].length c) ∧ ls[j].length ≤ c ∧ Bools w B ls[j]
theorem BRows.below {w w' : World} {A : Option Addr} {ls : List (List Bool)} (h : BRows w A ls) (hb : Below w.heap.size w w') : BRows w' A ls := by
  refine ⟨?_⟩
  rcases h.at_ with h1 | ⟨b, off, e, hc⟩
  · exact .inl h1
  · refine .inr ⟨b, off, e, fun j hj => ?_⟩
    obtain ⟨B, c, h1, h2, h3⟩ := hc j hj
    exact ⟨B, c, cell_below hb h1, h2, h3.below hb⟩
theorem BRows.block {w : World} {A : Option Addr} {ls : List (List Bool)} (h : BRows w A ls) (h0 : ls.length ≠ 0) : ∃ b off, A = some ⟨b, off, none⟩ ∧ ∀ j (h : j < ls.length), ∃ B c, w.cell? ⟨b, off + j, none⟩ = some (.slice B ls[j].length c) ∧ ls[j].length ≤ c ∧ Bools w B ls[j] := by
  rcases h.at_ with h1 | h1
  · exact absurd (by rw [h1]; rfl) h0
  · exact h1
theorem BRows.nil (w : World) (A : Option Addr) : BRows w A [] := ⟨.inl rfl⟩
/-- Rows of whole numbers. -/
structure IRows (w : World) (A : Option Addr) (ls : List (List Int)) : Prop where
  at_ : ls = [] ∨ ∃ b off, A = some ⟨b, off, none⟩ ∧ ∀ j (h : j < ls.length), ∃ B c, w.cell? ⟨b, off + j, none⟩ = some (.slice B ls[j].length c) ∧ ls[j].length ≤ c ∧ Ints w B ls[j]
theorem IRows.below {w w' : World} {A : Option Addr} {ls : List (List Int)} (h : IRows w A ls) (hb : Below w.heap.size w w') : IRows w' A ls := by
  refine ⟨?_⟩
  rcases h.at_ with h1 | ⟨b, off, e, hc⟩
  · exact .inl h1
  · refine .inr ⟨b, off, e, fun j hj => ?_⟩
    obtain ⟨B, c, h1, h2, h3⟩ := hc j hj
    exact ⟨B, c, cell_below hb h1, h2, h3.below hb⟩
theorem IRows.block {w : World} {A : Option Addr} {ls : List (List Int)} (h : IRows w A ls) (h0 : ls.length ≠ 0) : ∃ b off, A = some ⟨b, off, none⟩ ∧ ∀ j (h : j < ls.length), ∃ B c, w.cell? ⟨b, off + j, none⟩ = some (.slice B ls[j].length c) ∧ ls[j].length ≤ c ∧ Ints w B ls[j] := by
  rcases h.at_ with h1 | h1
  · exact absurd (by rw [h1]; rfl) h0
  · exact h1
theorem IRows.nil (w : World) (A : Option Addr) : IRows w A [] := ⟨.inl rfl⟩
/-- Whole numbers as values; a row of them of one's own. -/
def zv (l : List Int) : List Value := l.map (Value.int .i64)
theorem zv_length (l : List Int) : (zv l).length = l.length := by simp [zv]
theorem zv_snoc (l : List Int) (x : Int) : zv (l ++ [x]) = zv l ++ [.int .i64 x] := by simp [zv]
theorem own_ints {w : World} {base e n : Nat} {v : Value} {l : List Int} (h : w.ownsRow base e 1 v n (zv l)) (hle : ∀ x, x ∈ l → -9223372036854775808 ≤ x ∧ x ≤ 9223372036854775807) : ∃ A c, v = .slice A n c ∧ l.length = n ∧ n ≤ c ∧ Ints w A l := by
  have hl : l.length = n := by have := h.1; rw [zv_length] at this; omega
  rcases h.2 with ⟨rfl, h0⟩ | ⟨g, cap, cur, rfl, hb, hg, hc, _⟩
  · subst h0
    have : l = [] := List.eq_nil_of_length_eq_zero hl
    subst this
    exact ⟨none, 0, rfl, rfl, Nat.le_refl _, Ints.nil _ _⟩
  · refine ⟨_, cap, rfl, hl, hc, hle, .inr ⟨g, 0, rfl, fun j hj => ?_⟩⟩
    have hcl := h.cells (g := g) rfl j (.int .i64 l[j]) (by simp [zv, hj])
    have ha : (⟨g, 0, none⟩ : Addr).add j = ⟨g, 0 + j, none⟩ := by unfold Addr.add; split <;> simp_all
    rw [ha] at hcl
    exact hcl
end Go.Proofs.Ytpologlcfohjeaa.Base
