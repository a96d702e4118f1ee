/- A strings.Builder of one's own that holds nothing, read. -/
import Derived.Test.YtmlemichkeomjaaBuild
set_option linter.unusedVariables false
set_option linter.unusedSimpArgs false
namespace Go.Proofs.Ytmlemichkeomjaa.BuildW
open Go.RowKit Go.Proofs.Ytmlemichkeomjaa.Base

set_option maxRecDepth 100000 in
set_option maxHeartbeats 1000000 in
theorem string_none (B b : Nat) (w : World) (h : Lib.IsBuilder 180 5 B b (bv []) w) (hB : B ≤ w.heap.size) :
    Calls Try.prog 106 #[.pointer (some ⟨b, 0, none⟩)] w fun e w' => e = .returned (.string (str [])) ∧ Below B w w' := by
  obtain ⟨p, hBb, v, hbk, hown, hne⟩ : ∃ p, Lib.BuilderAt 180 5 B b p (bv []) w := by
    rcases h with h | h
    · exact ⟨_, h⟩
    · exact ⟨_, h⟩
  have c1 : w.drew.cell? ⟨b, 1, none⟩ = some v := by
    have : w.drew.heap[b]? = some (.cells #[p, v] 180 (0, 0)) := hbk
    rw [Lib.cell_of_heap this]; rfl
  rw [show (bv []).length = 0 from rfl] at hown
  have hUS : ∀ (q : Option Addr) (W : World), (Builtin.unsafeString_ #[212, 3] 9 #[.pointer q, .int .i64 0]).run Try.prog W = .ok (.string .empty) W := fun q W => Lib.run_unsafeString_none (w := W) _ _ _ q
  rcases hown.2 with ⟨rfl, _⟩ | ⟨g, cap, cur, rfl, hbg, hg, hnc, hcm, hcs, htake⟩
  · have hSD : ∀ W : World, (Builtin.unsafeSliceData_ #[70] 212 #[.slice none 0 0]).run Try.prog W = .ok (.pointer none) W := fun W => Lib.run_unsafeSliceData_nil (w := W) _ _ 0 0
    go_enter Try.func106, Try.ntmps106
    go_wp2
    go_region
    all_goals (go_wp2; go_ret; exact ⟨rfl, Below.drew (Below.refl B w)⟩)
  · by_cases hc0 : cap = 0
    · subst hc0
      have hSD := Lib.run_unsafeSliceData_zero (P := Try.prog) (w := w.drew) #[70] 212 5 Try.underlying212 ⟨g, 0, none⟩ 0 (5, cur.size) (by have hg' : w.drew.heap[g]? = some (.cells cur 5 (0, 0)) := hg; simp [World.shape?, hg'])
      have c2 : (w.alloc (.view ⟨g, 0, none⟩ 5)).cell? ⟨b, 1, none⟩ = some (.slice (some ⟨g, 0, none⟩) 0 0) := by
        have hlt : b < w.heap.size := by
          rcases Nat.lt_or_ge b w.heap.size with h' | h'
          · exact h'
          · simp [Array.getElem?_eq_none h'] at hbk
        have : (w.alloc (.view ⟨g, 0, none⟩ 5)).heap[b]? = some (.cells #[p, .slice (some ⟨g, 0, none⟩) 0 0] 180 (0, 0)) := (heap_alloc_old _ _ hlt).trans hbk
        rw [Lib.cell_of_heap this]; rfl
      go_enter Try.func106, Try.ntmps106
      go_wp2
      go_region
      all_goals (go_wp2; go_ret; exact ⟨rfl, (Below.drew (Below.refl B w)).alloc hB _⟩)
    · have hSD := Lib.run_unsafeSliceData_row (P := Try.prog) (w := w.drew) #[70] 212 ⟨g, 0, none⟩ 0 cap hc0
      go_enter Try.func106, Try.ntmps106
      go_wp2
      go_region
      all_goals (go_wp2; go_ret; exact ⟨rfl, Below.drew (Below.refl B w)⟩)
/-- String, of whatever it holds. -/
theorem string_all (B b : Nat) (l : List UInt8) (w : World) (h : Lib.IsBuilder 180 5 B b (bv l) w) (hB : B ≤ w.heap.size) :
    Calls Try.prog 106 #[.pointer (some ⟨b, 0, none⟩)] w fun e w' => e = .returned (.string (str l)) ∧ Below B w w' := by
  by_cases h0 : l = []
  · subst h0; exact string_none B b w h hB
  · exact string_any B b l w h h0
end Go.Proofs.Ytmlemichkeomjaa.BuildW
