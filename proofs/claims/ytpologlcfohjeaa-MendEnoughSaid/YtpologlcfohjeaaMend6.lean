/- slices.Clone walked, at three types. -/
import Derived.Test.YtpologlcfohjeaaMend5
import Derived.WalkSpells
set_option linter.unusedVariables false
set_option linter.unusedSimpArgs false
namespace Go.Proofs.Ytpologlcfohjeaa.MendW
open Go.RowKit Go.Proofs.Ytpologlcfohjeaa.Base

theorem info_clone_int : (Try.prog.info? 3).map (fun i => (i.zero, i.size, i.bytes)) = some (some (.int .i64 0), 1, 8) := by kernel_rfl
set_option maxRecDepth 100000 in
set_option maxHeartbeats 1000000 in
theorem clone_int (A : Option Addr) (n c : Nat) (xs : List Value) (w : World) (hc : xs = [] ∨ ∃ b off, A = some ⟨b, off, none⟩ ∧ ∀ j u, xs[j]? = some u → w.cell? ((⟨b, off, none⟩ : Addr).add j) = some u) (hone : ∀ u ∈ xs, u.oneCell' = true) (hl : xs.length = n) (hn : n ≤ 1000000) :
    Calls Try.prog 17 #[.slice A n c] w fun e w' => ∃ v, e = .returned v ∧ w'.ownsRow w.heap.size 3 1 v n xs ∧ Below w.heap.size w w' := by
  cases A with
  | none =>
    have : xs = [] := by
      rcases hc with h | ⟨b, off, h, _⟩
      · exact h
      · cases h
    subst this
    obtain rfl : n = 0 := by simpa using hl.symm
    have hE := fun W => Lib.run_eql_slice_nil (P := Try.prog) W 22 3 none 0 c 0 0 Try.underlying22
    go_enter Try.func17, Try.ntmps17
    go_wp2
    go_ret
    exact ⟨_, rfl, World.ownsRow_nil _ _ _ _, Below.refl _ _⟩
  | some ad =>
    have hcc : ∀ j u, xs[j]? = some u → w.cell? (ad.add j) = some u := by
      rcases hc with rfl | ⟨b, off, h, h2⟩
      · intro j u h; simp at h
      · cases h; exact h2
    clear hc
    have hE := fun W => Lib.run_eql_slice_nil (P := Try.prog) W 22 3 (some ad) n c 0 0 Try.underlying22
    obtain ⟨i0, hi, hzz⟩ := Option.map_eq_some_iff.1 info_clone_int
    simp only [Prod.mk.injEq] at hzz
    obtain ⟨hz0, hz1, hz2⟩ := hzz
    have HO : (w.alloc (.cells #[] 3)).ownsRow w.heap.size 3 1 (.slice (some ⟨w.heap.size, 0, none⟩) 0 0) 0 [] := World.ownsRow_made w #[] 0 (Nat.le_refl _) (by unfold maxLen; omega) rfl
    have HN := Lib.hid (show ∀ j u, xs[j]? = some u → (w.alloc (.cells #[] 3)).cell? (ad.add j) = some u from fun j u h => cell_below (bt (Below.refl _ _) (Nat.le_refl _) ((Below.refl _ _).alloc (Nat.le_refl _) _)) (hcc j u h))
    clear hcc
    go_enter Try.func17, Try.ntmps17
    go_wp2_with (at_builtin; refine wpList_append_own_at _ rfl (.tmp 5) (.tmp 6) 22 rfl w.heap.size 3 i0 (.int .i64 0) 1 8 Try.underlying22 hi hz0 hz1 hz2 rfl (by omega) (.slice (some ⟨w.heap.size, 0, none⟩) 0 0) 0 [] rfl HO ad n c xs rfl (by omega) HN.out hone (by simp only [maxLen]; omega) (by omega) (by simp) ?_; intro v1 w1 HO2 hg2 _ _)
    rw [Nat.zero_add, List.nil_append] at HO2
    go_ret
    exact ⟨v1, rfl, HO2, ((Below.refl _ _).alloc (Nat.le_refl _) _).grown hg2 (by simp) (own_lo HO)⟩
theorem info_clone_u32 : (Try.prog.info? 49).map (fun i => (i.zero, i.size, i.bytes)) = some (some (.int .u32 0), 1, 4) := by kernel_rfl
set_option maxRecDepth 100000 in
set_option maxHeartbeats 1000000 in
theorem clone_u32 (A : Option Addr) (n c : Nat) (xs : List Value) (w : World) (hc : xs = [] ∨ ∃ b off, A = some ⟨b, off, none⟩ ∧ ∀ j u, xs[j]? = some u → w.cell? ((⟨b, off, none⟩ : Addr).add j) = some u) (hone : ∀ u ∈ xs, u.oneCell' = true) (hl : xs.length = n) (hn : n ≤ 1000000) :
    Calls Try.prog 31 #[.slice A n c] w fun e w' => ∃ v, e = .returned v ∧ w'.ownsRow w.heap.size 49 1 v n xs ∧ Below w.heap.size w w' := by
  cases A with
  | none =>
    have : xs = [] := by
      rcases hc with h | ⟨b, off, h, _⟩
      · exact h
      · cases h
    subst this
    obtain rfl : n = 0 := by simpa using hl.symm
    have hE := fun W => Lib.run_eql_slice_nil (P := Try.prog) W 23 49 none 0 c 0 0 Try.underlying23
    go_enter Try.func31, Try.ntmps31
    go_wp2
    go_ret
    exact ⟨_, rfl, World.ownsRow_nil _ _ _ _, Below.refl _ _⟩
  | some ad =>
    have hcc : ∀ j u, xs[j]? = some u → w.cell? (ad.add j) = some u := by
      rcases hc with rfl | ⟨b, off, h, h2⟩
      · intro j u h; simp at h
      · cases h; exact h2
    clear hc
    have hE := fun W => Lib.run_eql_slice_nil (P := Try.prog) W 23 49 (some ad) n c 0 0 Try.underlying23
    obtain ⟨i0, hi, hzz⟩ := Option.map_eq_some_iff.1 info_clone_u32
    simp only [Prod.mk.injEq] at hzz
    obtain ⟨hz0, hz1, hz2⟩ := hzz
    have HO : (w.alloc (.cells #[] 49)).ownsRow w.heap.size 49 1 (.slice (some ⟨w.heap.size, 0, none⟩) 0 0) 0 [] := World.ownsRow_made w #[] 0 (Nat.le_refl _) (by unfold maxLen; omega) rfl
    have HN := Lib.hid (show ∀ j u, xs[j]? = some u → (w.alloc (.cells #[] 49)).cell? (ad.add j) = some u from fun j u h => cell_below (bt (Below.refl _ _) (Nat.le_refl _) ((Below.refl _ _).alloc (Nat.le_refl _) _)) (hcc j u h))
    clear hcc
    go_enter Try.func31, Try.ntmps31
    go_wp2_with (at_builtin; refine wpList_append_own_at _ rfl (.tmp 5) (.tmp 6) 23 rfl w.heap.size 49 i0 (.int .u32 0) 1 4 Try.underlying23 hi hz0 hz1 hz2 rfl (by omega) (.slice (some ⟨w.heap.size, 0, none⟩) 0 0) 0 [] rfl HO ad n c xs rfl (by omega) HN.out hone (by simp only [maxLen]; omega) (by omega) (by simp) ?_; intro v1 w1 HO2 hg2 _ _)
    rw [Nat.zero_add, List.nil_append] at HO2
    go_ret
    exact ⟨v1, rfl, HO2, ((Below.refl _ _).alloc (Nat.le_refl _) _).grown hg2 (by simp) (own_lo HO)⟩
theorem info_clone_rows : (Try.prog.info? 22).map (fun i => (i.zero, i.size, i.bytes)) = some (some (.slice none 0 0), 1, 24) := by kernel_rfl
set_option maxRecDepth 100000 in
set_option maxHeartbeats 1000000 in
theorem clone_rows (A : Option Addr) (n c : Nat) (xs : List Value) (w : World) (hc : xs = [] ∨ ∃ b off, A = some ⟨b, off, none⟩ ∧ ∀ j u, xs[j]? = some u → w.cell? ((⟨b, off, none⟩ : Addr).add j) = some u) (hone : ∀ u ∈ xs, u.oneCell' = true) (hl : xs.length = n) (hn : n ≤ 1000000) :
    Calls Try.prog 32 #[.slice A n c] w fun e w' => ∃ v, e = .returned v ∧ w'.ownsRow w.heap.size 22 1 v n xs ∧ Below w.heap.size w w' := by
  cases A with
  | none =>
    have : xs = [] := by
      rcases hc with h | ⟨b, off, h, _⟩
      · exact h
      · cases h
    subst this
    obtain rfl : n = 0 := by simpa using hl.symm
    have hE := fun W => Lib.run_eql_slice_nil (P := Try.prog) W 24 22 none 0 c 0 0 Try.underlying24
    go_enter Try.func32, Try.ntmps32
    go_wp2
    go_ret
    exact ⟨_, rfl, World.ownsRow_nil _ _ _ _, Below.refl _ _⟩
  | some ad =>
    have hcc : ∀ j u, xs[j]? = some u → w.cell? (ad.add j) = some u := by
      rcases hc with rfl | ⟨b, off, h, h2⟩
      · intro j u h; simp at h
      · cases h; exact h2
    clear hc
    have hE := fun W => Lib.run_eql_slice_nil (P := Try.prog) W 24 22 (some ad) n c 0 0 Try.underlying24
    obtain ⟨i0, hi, hzz⟩ := Option.map_eq_some_iff.1 info_clone_rows
    simp only [Prod.mk.injEq] at hzz
    obtain ⟨hz0, hz1, hz2⟩ := hzz
    have HO : (w.alloc (.cells #[] 22)).ownsRow w.heap.size 22 1 (.slice (some ⟨w.heap.size, 0, none⟩) 0 0) 0 [] := World.ownsRow_made w #[] 0 (Nat.le_refl _) (by unfold maxLen; omega) rfl
    have HN := Lib.hid (show ∀ j u, xs[j]? = some u → (w.alloc (.cells #[] 22)).cell? (ad.add j) = some u from fun j u h => cell_below (bt (Below.refl _ _) (Nat.le_refl _) ((Below.refl _ _).alloc (Nat.le_refl _) _)) (hcc j u h))
    clear hcc
    go_enter Try.func32, Try.ntmps32
    go_wp2_with (at_builtin; refine wpList_append_own_at _ rfl (.tmp 5) (.tmp 6) 24 rfl w.heap.size 22 i0 (.slice none 0 0) 1 24 Try.underlying24 hi hz0 hz1 hz2 rfl (by omega) (.slice (some ⟨w.heap.size, 0, none⟩) 0 0) 0 [] rfl HO ad n c xs rfl (by omega) HN.out hone (by simp only [maxLen]; omega) (by omega) (by simp) ?_; intro v1 w1 HO2 hg2 _ _)
    rw [Nat.zero_add, List.nil_append] at HO2
    go_ret
    exact ⟨v1, rfl, HO2, ((Below.refl _ _).alloc (Nat.le_refl _) _).grown hg2 (by simp) (own_lo HO)⟩
end Go.Proofs.Ytpologlcfohjeaa.MendW
