/- States in two blocks side by side with a counter's block. -/
import Derived.Test.YtmlemichkeomjaaLedSt
set_option linter.unusedVariables false
set_option linter.unusedSimpArgs false
namespace Go.Proofs.Ytmlemichkeomjaa.LedW
open Go.RowKit Go.Proofs.Ytmlemichkeomjaa.Base Go.Proofs.Ytmlemichkeomjaa.MendW Go.Proofs.Ytmlemichkeomjaa.ManP Go.Proofs.Ytmlemichkeomjaa.ManW Go.Proofs.Ytmlemichkeomjaa.LedP
/-- The block g holds the state s, whose rows are neither there nor in the block behind it. -/
structure VarT (w0 w : World) (g : Nat) (x : SV) (s : LS) : Prop where
  box : w.heap[g]? = some (.cells (x.cells s) 42 (0, 0))
  st : ∃ lo hi, StB lo hi w x s ∧ (g + 1 < lo ∨ hi ≤ g) ∧ hi ≤ w.heap.size
  lo : w0.heap.size ≤ g
/-- The block g holds the state s, whose rows lie from w0 on. -/
structure VarN (w0 w : World) (g : Nat) (x : SV) (s : LS) : Prop where
  box : w.heap[g]? = some (.cells (x.cells s) 42 (0, 0))
  st : ∃ lo hi, StB lo hi w x s ∧ w0.heap.size ≤ lo ∧ (g < lo ∨ hi ≤ g) ∧ hi ≤ w.heap.size
  lo : w0.heap.size ≤ g
section
variable {w0 w w' : World} {g : Nat} {x : SV} {s : LS}
theorem VarT.lt (h : VarT w0 w g x s) : g < w.heap.size := (Array.getElem?_eq_some_iff.1 h.box).1
theorem VarT.state (h : VarT w0 w g x s) : StW w x s := by
  obtain ⟨lo, hi, h1, _⟩ := h.st
  exact StateB.here h1
theorem VarT.below (h : VarT w0 w g x s) (hb : Below w.heap.size w w') : VarT w0 w' g x s := by
  obtain ⟨lo, hi, h1, h2, h3⟩ := h.st
  exact ⟨(hb.block _ h.lt).trans h.box, ⟨lo, hi, StateB.below h1 (hb.mono h3), h2, Nat.le_trans h3 hb.size⟩, h.lo⟩
theorem VarT.cell (h : VarT w0 w g x s) {j : Nat} {u : Value} (hu : (x.cells s)[j]? = some u) : w.cell? ⟨g, j, none⟩ = some u := by rw [cell_of_row _ _ _ _ _ _ h.box]; exact hu
theorem VarT.new (hs : StB w'.heap.size w.heap.size w x s) (hlo : w0.heap.size ≤ w.heap.size) : VarT w0 (w.alloc (.cells #[.int .i64 s.n, .int .i64 s.ep, .slice x.A2 s.done.length x.c2, .slice x.A3 s.done.length x.c3, .slice x.A4 s.done.length x.c4, .slice x.A5 s.has.length x.c5, .slice x.A6 s.has.length x.c6, .slice x.A7 s.has.length x.c7, .slice x.A8 s.has.length x.c8, .int .i64 s.fin, .int .i64 s.er] 42)) w.heap.size x s :=
  ⟨heap_alloc_new w _, ⟨_, _, StateB.below hs ((Below.refl w.heap.size w).alloc (Nat.le_refl _) _), .inr (Nat.le_refl _), by rw [World.size_alloc]; omega⟩, hlo⟩
/-- A store into the block behind. -/
theorem VarT.next (h : VarT w0 w g x s) (j : Nat) (u : Value) : VarT w0 (w.setCell ⟨g + 1, j, none⟩ u) g x s := by
  obtain ⟨lo, hi, h1, h2, h3⟩ := h.st
  exact ⟨(heap_setCell_other _ _ _ _ (by show g ≠ g + 1; omega)).trans h.box, ⟨lo, hi, StateB.keep h1 fun k h4 h5 => heap_setCell_other _ _ _ _ (by show k ≠ g + 1; omega), h2, by simpa using h3⟩, h.lo⟩
theorem VarN.lt (h : VarN w0 w g x s) : g < w.heap.size := (Array.getElem?_eq_some_iff.1 h.box).1
theorem VarN.state (h : VarN w0 w g x s) : StW w x s := by
  obtain ⟨lo, hi, h1, _⟩ := h.st
  exact StateB.here h1
theorem VarN.below (h : VarN w0 w g x s) (hb : Below w.heap.size w w') : VarN w0 w' g x s := by
  obtain ⟨lo, hi, h1, h2, h3, h4⟩ := h.st
  exact ⟨(hb.block _ h.lt).trans h.box, ⟨lo, hi, StateB.below h1 (hb.mono h4), h2, h3, Nat.le_trans h4 hb.size⟩, h.lo⟩
theorem VarN.cell (h : VarN w0 w g x s) {j : Nat} {u : Value} (hu : (x.cells s)[j]? = some u) : w.cell? ⟨g, j, none⟩ = some u := by rw [cell_of_row _ _ _ _ _ _ h.box]; exact hu
theorem VarN.put {lo hi : Nat} {cs : Array Value} {y : SV} {s' : LS} (hb : w.heap[g]? = some (.cells cs 42 (0, 0))) (hl : w0.heap.size ≤ g) (hs : StB lo hi w y s') (h0 : w0.heap.size ≤ lo) (hg : g < lo ∨ hi ≤ g) (hh : hi ≤ w.heap.size) : VarN w0 (w.setRow g (y.cells s')) g y s' :=
  ⟨setRow_heap _ _ _ _ _ _ hb, ⟨lo, hi, StateB.keep hs (fun k h1 h2 => setRow_other _ _ k _ (by omega)), h0, hg, by simpa using hh⟩, hl⟩
/-- A store into an old block. -/
theorem VarN.old (h : VarN w0 w g x s) {b : Nat} (hb : b < w0.heap.size) (j : Nat) (u : Value) : VarN w0 (w.setCell ⟨b, j, none⟩ u) g x s := by
  obtain ⟨lo, hi, h1, h2, h3, h4⟩ := h.st
  have := h.lo
  exact ⟨(heap_setCell_other _ _ _ _ (by show g ≠ b; omega)).trans h.box, ⟨lo, hi, StateB.keep h1 fun k h5 h6 => heap_setCell_other _ _ _ _ (by show k ≠ b; omega), h2, h3, by simpa using h4⟩, h.lo⟩
/-- The new state laid into the old one's block. -/
theorem VarN.over {wa : World} (h : VarN wa w g x s) {b : Nat} {cs : Array Value} (hb : w.heap[b]? = some (.cells cs 42 (0, 0))) (hl : w0.heap.size ≤ b) (hbl : b + 1 < wa.heap.size) : VarT w0 (w.setRow b (x.cells s)) b x s := by
  obtain ⟨lo, hi, h1, h2, h3, h4⟩ := h.st
  exact ⟨setRow_heap _ _ _ _ _ _ hb, ⟨lo, hi, StateB.keep h1 (fun k h5 h6 => setRow_other _ _ k _ (by omega)), .inl (by omega), by simpa using h4⟩, hl⟩
end
end Go.Proofs.Ytmlemichkeomjaa.LedW
