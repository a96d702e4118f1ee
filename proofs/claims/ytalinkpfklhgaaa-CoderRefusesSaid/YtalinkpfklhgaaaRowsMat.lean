/- Rows of one's own: a block of slices, each a row of its own. -/
import Derived.Test.YtalinkpfklhgaaaRowsO2
import Derived.Deep.OwnRows
set_option linter.unusedVariables false
set_option linter.unusedSimpArgs false
namespace Go.Proofs.Ytalinkpfklhgaaa.RowsW
open Go.RowKit Go.Proofs.Ytalinkpfklhgaaa.Base Go.Proofs.Ytalinkpfklhgaaa.GfP Go.Proofs.Ytalinkpfklhgaaa.GfW Go.Proofs.Ytalinkpfklhgaaa.Lin

/-- The block g holds n slices; slice i is the block bs i, a row of q bytes: M i's. -/
structure Mat (w : World) (lo g n q : Nat) (bs : Nat → Nat) (A : M) : Prop where
  top : ∀ i, i < n → w.cell? ⟨g, i, none⟩ = some (.slice (some ⟨bs i, 0, none⟩) q q)
  free : ∀ i, w.frozen? ⟨g, i, none⟩ = false
  lt : g < w.heap.size
  row : ∀ i, i < n → RowAt w (bs i) q (A i)
  inj : ∀ i j, i < n → j < n → bs i = bs j → i = j
  ne : ∀ i, i < n → bs i ≠ g
  lo_g : lo ≤ g
  lo_b : ∀ i, i < n → lo ≤ bs i
theorem Mat.below {w w' : World} {lo g n q : Nat} {bs : Nat → Nat} {A : M} (h : Mat w lo g n q bs A) (hb : Below w.heap.size w w') : Mat w' lo g n q bs A :=
  ⟨fun i hi => cell_below hb (h.top i hi), fun i => (hb.frozen (p := ⟨g, i, none⟩) h.lt).trans (h.free i), by have := h.lt; have := hb.size; omega, fun i hi => (h.row i hi).below hb, h.inj, h.ne, h.lo_g, h.lo_b⟩
theorem Mat.congr {w : World} {lo g n q : Nat} {bs : Nat → Nat} {A B : M} (h : Mat w lo g n q bs A) (he : Eqv n q A B) : Mat w lo g n q bs B :=
  ⟨h.top, h.free, h.lt, fun i hi => (h.row i hi).congr fun j hj => he i hi j hj, h.inj, h.ne, h.lo_g, h.lo_b⟩
/-- Row k alone has turned. -/
theorem Mat.row_only {w w' : World} {lo g n q k : Nat} {bs : Nat → Nat} {A : M} {f : Nat → F} (h : Mat w lo g n q bs A) (hk : k < n) (ho : Only (bs k) (bs k + 1) w w') (hr : RowAt w' (bs k) q f) :
    Mat w' lo g n q bs (fun i => if i = k then f else A i) := by
  have hgk := h.ne k hk
  have hx : g < bs k ∨ bs k + 1 ≤ g := by omega
  refine ⟨fun i hi => (ho.cell (p := ⟨g, i, none⟩) h.lt hx).trans (h.top i hi), fun i => (ho.frozen (p := ⟨g, i, none⟩) h.lt hx).trans (h.free i), by have := h.lt; have := ho.size; omega, fun i hi => ?_, h.inj, h.ne, h.lo_g, h.lo_b⟩
  by_cases e : i = k
  · subst e; simpa using hr
  · simp only [e, if_false]
    have hne : bs i ≠ bs k := fun e' => e (h.inj i k hi hk e')
    exact (h.row i hi).only ho (by omega)
end Go.Proofs.Ytalinkpfklhgaaa.RowsW
