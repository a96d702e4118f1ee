/- ledger.New refuses. -/
import Derived.Test.YtmlemichkeomjaaLedN2
set_option linter.unusedVariables false
set_option linter.unusedSimpArgs false
namespace Go.Proofs.Ytmlemichkeomjaa.LedW
open Go.RowKit Go.Proofs.Ytmlemichkeomjaa.Base Go.Proofs.Ytmlemichkeomjaa.MendW Go.Proofs.Ytmlemichkeomjaa.ManP Go.Proofs.Ytmlemichkeomjaa.ManW Go.Proofs.Ytmlemichkeomjaa.LedP
def NoPost (w : World) (e : Ending) (w' : World) : Prop := e = .returned (.tuple #[.agg #[.int .i64 0, .int .i64 0, .slice none 0 0, .slice none 0 0, .slice none 0 0, .slice none 0 0, .slice none 0 0, .slice none 0 0, .slice none 0 0, .int .i64 0, .int .i64 0], .int .i64 1]) ∧ Below w.heap.size w w'
theorem no_fin {w : World} (tmps : Array Value) (h6 : tmps.getD 6 undef = .pointer (some ⟨w.heap.size, 0, none⟩)) (h7 : tmps.getD 7 undef = .int .i64 1) :
    bodyPost Try.prog Try.f18 (NoPost w) .ret { tmps := tmps, defers := [] } ((w.alloc (.cells #[.int .i64 0, .int .i64 0, .slice none 0 0, .slice none 0 0, .slice none 0 0, .slice none 0 0, .slice none 0 0, .slice none 0 0, .slice none 0 0, .int .i64 0, .int .i64 0] 42)).setRow w.heap.size #[.int .i64 0, .int .i64 0, .slice none 0 0, .slice none 0 0, .slice none 0 0, .slice none 0 0, .slice none 0 0, .slice none 0 0, .slice none 0 0, .int .i64 0, .int .i64 0]) := by
  have hB := (Below.refl w.heap.size w).alloc (Nat.le_refl _) (.cells #[.int .i64 0, .int .i64 0, .slice none 0 0, .slice none 0 0, .slice none 0 0, .slice none 0 0, .slice none 0 0, .slice none 0 0, .slice none 0 0, .int .i64 0, .int .i64 0] 42)
  exact bodyPost_ret (results_cell_two rfl _ _ w.heap.size 42 _ (0, 0) _ h6 (setRow_heap _ _ _ _ _ _ (heap_alloc_new w _)) Try.underlying42 rfl info_state h7) rfl ⟨rfl, hB.trans ⟨rfl, rfl, rfl, by simp, fun q hq => setRow_other _ _ q _ (by omega)⟩⟩
set_option maxRecDepth 100000 in
set_option maxHeartbeats 4000000 in
theorem new_no (t p n : Int) (h : ¬ ((1 ≤ t ∧ t ≤ 16) ∧ (1 ≤ p ∧ p ≤ 16) ∧ (1 ≤ n ∧ n ≤ 16))) (w : World) :
    Calls Try.prog 18 #[.int .i64 t, .int .i64 p, .int .i64 n] w (NoPost w) := by
  have W1 : ∀ (k : Int) (W : World), (1 ≤ k ∧ k ≤ 16) → Calls Try.prog 48 #[.int .i64 k, .int .i64 16] W fun e w' => e = .returned (.bool true) ∧ W = w' := fun k W hk => (within_any k 16 W).mono fun e w' h => ⟨by
    rw [h.1, show decide (1 ≤ k) = true from by simp; omega, show decide (k ≤ 16) = true from by simp; omega]; rfl, h.2⟩
  have W0 : ∀ (k : Int) (W : World), ¬ (1 ≤ k ∧ k ≤ 16) → Calls Try.prog 48 #[.int .i64 k, .int .i64 16] W fun e w' => e = .returned (.bool false) ∧ W = w' := fun k W hk => (within_any k 16 W).mono fun e w' h => ⟨by
    rw [h.1]
    congr 2
    by_cases h1 : 1 ≤ k
    · rw [show decide (k ≤ 16) = false from by simp; omega]; simp
    · rw [show decide (1 ≤ k) = false from by simp; omega]; simp, h.2⟩
  have hA := heap_alloc_new w (.cells #[.int .i64 0, .int .i64 0, .slice none 0 0, .slice none 0 0, .slice none 0 0, .slice none 0 0, .slice none 0 0, .slice none 0 0, .slice none 0 0, .int .i64 0, .int .i64 0] 42)
  have hone : (#[.int .i64 0, .int .i64 0, .slice none 0 0, .slice none 0 0, .slice none 0 0, .slice none 0 0, .slice none 0 0, .slice none 0 0, .slice none 0 0, .int .i64 0, .int .i64 0] : Array Value).all (·.oneCell') = true := by kernel_rfl
  by_cases h1 : 1 ≤ t ∧ t ≤ 16
  · by_cases h2 : 1 ≤ p ∧ p ≤ 16
    · have h3 : ¬ (1 ≤ n ∧ n ≤ 16) := fun h3 => h ⟨h1, h2, h3⟩
      have V1 := fun W => W1 t W h1
      have V2 := fun W => W1 p W h2
      have V3 := fun W => W0 n W h3
      clear h h1 h2 h3 W1 W0
      go_enter Try.func18, Try.ntmps18
      go_upto_region 2 with (go_at_call 48; (first | (with_reducible refine (V1 _).mono ?_) | (with_reducible refine (V2 _).mono ?_) | (with_reducible refine (V3 _).mono ?_)); rintro e w' ⟨rfl, rfl⟩)
      go_wp2_with (refine wpList_store_row rfl 42 (.tmp 6) (.tmp 21) rfl w.heap.size #[.int .i64 0, .int .i64 0, .slice none 0 0, .slice none 0 0, .slice none 0 0, .slice none 0 0, .slice none 0 0, .slice none 0 0, .slice none 0 0, .int .i64 0, .int .i64 0] rfl rfl 42 #[.int .i64 0, .int .i64 0, .slice none 0 0, .slice none 0 0, .slice none 0 0, .slice none 0 0, .slice none 0 0, .slice none 0 0, .slice none 0 0, .int .i64 0, .int .i64 0] hA info_state rfl hone ?_)
      exact no_fin _ rfl rfl
    · have V1 := fun W => W1 t W h1
      have V2 := fun W => W0 p W h2
      clear h h1 h2 W1 W0
      go_enter Try.func18, Try.ntmps18
      go_upto_region 2 with (go_at_call 48; (first | (with_reducible refine (V1 _).mono ?_) | (with_reducible refine (V2 _).mono ?_)); rintro e w' ⟨rfl, rfl⟩)
      go_wp2_with (refine wpList_store_row rfl 42 (.tmp 6) (.tmp 21) rfl w.heap.size #[.int .i64 0, .int .i64 0, .slice none 0 0, .slice none 0 0, .slice none 0 0, .slice none 0 0, .slice none 0 0, .slice none 0 0, .slice none 0 0, .int .i64 0, .int .i64 0] rfl rfl 42 #[.int .i64 0, .int .i64 0, .slice none 0 0, .slice none 0 0, .slice none 0 0, .slice none 0 0, .slice none 0 0, .slice none 0 0, .slice none 0 0, .int .i64 0, .int .i64 0] hA info_state rfl hone ?_)
      exact no_fin _ rfl rfl
  · have V1 := fun W => W0 t W h1
    clear h h1 W1 W0
    go_enter Try.func18, Try.ntmps18
    go_upto_region 2 with (go_at_call 48; (with_reducible refine (V1 _).mono ?_); rintro e w' ⟨rfl, rfl⟩)
    go_wp2_with (refine wpList_store_row rfl 42 (.tmp 6) (.tmp 21) rfl w.heap.size #[.int .i64 0, .int .i64 0, .slice none 0 0, .slice none 0 0, .slice none 0 0, .slice none 0 0, .slice none 0 0, .slice none 0 0, .slice none 0 0, .int .i64 0, .int .i64 0] rfl rfl 42 #[.int .i64 0, .int .i64 0, .slice none 0 0, .slice none 0 0, .slice none 0 0, .slice none 0 0, .slice none 0 0, .slice none 0 0, .slice none 0 0, .int .i64 0, .int .i64 0] hA info_state rfl hone ?_)
    exact no_fin _ rfl rfl
end Go.Proofs.Ytmlemichkeomjaa.LedW
