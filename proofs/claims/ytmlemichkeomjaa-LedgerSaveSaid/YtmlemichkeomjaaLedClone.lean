/- slices.Clone walked, at the state's types. -/
import Derived.Test.YtmlemichkeomjaaManS
set_option linter.unusedVariables false
set_option linter.unusedSimpArgs false
namespace Go.Proofs.Ytmlemichkeomjaa.LedW
open Go.RowKit Go.Proofs.Ytmlemichkeomjaa.Base Go.Proofs.Ytmlemichkeomjaa.MendW
theorem info_clone_bool : (Try.prog.info? 4).map (fun i => (i.zero, i.size, i.bytes)) = some (some (.bool false), 1, 1) := by kernel_rfl
set_option maxRecDepth 100000 in
set_option maxHeartbeats 1000000 in
theorem clone_bool (A : Option Addr) (n c : Nat) (xs : List Value) (w : World) (hc : xs = [] ∨ ∃ b off, A = some ⟨b, off, none⟩ ∧ ∀ j u, xs[j]? = some u → w.cell? ((⟨b, off, none⟩ : Addr).add j) = some u) (hone : ∀ u ∈ xs, u.oneCell' = true) (hl : xs.length = n) (hn : n ≤ 1000000) :
    Calls Try.prog 80 #[.slice A n c] w fun e w' => ∃ v, e = .returned v ∧ w'.ownsRow w.heap.size 4 1 v n xs ∧ Below w.heap.size w w' := by
  cases A with
  | none =>
    have : xs = [] := by
      rcases hc with h | ⟨b, off, h, _⟩
      · exact h
      · cases h
    subst this
    obtain rfl : n = 0 := by simpa using hl.symm
    have hE := fun W => Lib.run_eql_slice_nil (P := Try.prog) W 37 4 none 0 c 0 0 Try.underlying37
    go_enter Try.func80, Try.ntmps80
    go_wp2
    go_ret
    exact ⟨_, rfl, World.ownsRow_nil _ _ _ _, Below.refl _ _⟩
  | some ad =>
    have hcc : ∀ j u, xs[j]? = some u → w.cell? (ad.add j) = some u := by
      rcases hc with rfl | ⟨b, off, h, h2⟩
      · intro j u h; simp at h
      · cases h; exact h2
    clear hc
    have hE := fun W => Lib.run_eql_slice_nil (P := Try.prog) W 37 4 (some ad) n c 0 0 Try.underlying37
    obtain ⟨i0, hi, hzz⟩ := Option.map_eq_some_iff.1 info_clone_bool
    simp only [Prod.mk.injEq] at hzz
    obtain ⟨hz0, hz1, hz2⟩ := hzz
    have HO : (w.alloc (.cells #[] 4)).ownsRow w.heap.size 4 1 (.slice (some ⟨w.heap.size, 0, none⟩) 0 0) 0 [] := World.ownsRow_made w #[] 0 (Nat.le_refl _) (by unfold maxLen; omega) rfl
    have HN := Lib.hid (show ∀ j u, xs[j]? = some u → (w.alloc (.cells #[] 4)).cell? (ad.add j) = some u from fun j u h => cell_below (bt (Below.refl _ _) (Nat.le_refl _) ((Below.refl _ _).alloc (Nat.le_refl _) _)) (hcc j u h))
    clear hcc
    go_enter Try.func80, Try.ntmps80
    go_wp2_with (at_builtin; refine wpList_append_own_at _ rfl (.tmp 5) (.tmp 6) 37 rfl w.heap.size 4 i0 (.bool false) 1 1 Try.underlying37 hi hz0 hz1 hz2 rfl (by omega) (.slice (some ⟨w.heap.size, 0, none⟩) 0 0) 0 [] rfl HO ad n c xs rfl (by omega) HN.out hone (by simp only [maxLen]; omega) (by omega) (by simp) ?_; intro v1 w1 HO2 hg2 _ _)
    rw [Nat.zero_add, List.nil_append] at HO2
    go_ret
    exact ⟨v1, rfl, HO2, ((Below.refl _ _).alloc (Nat.le_refl _) _).grown hg2 (by simp) (own_lo HO)⟩
theorem info_clone_errs : (Try.prog.info? 30).map (fun i => (i.zero, i.size, i.bytes)) = some (some (.int .i64 0), 1, 8) := by kernel_rfl
set_option maxRecDepth 100000 in
set_option maxHeartbeats 1000000 in
theorem clone_errs (A : Option Addr) (n c : Nat) (xs : List Value) (w : World) (hc : xs = [] ∨ ∃ b off, A = some ⟨b, off, none⟩ ∧ ∀ j u, xs[j]? = some u → w.cell? ((⟨b, off, none⟩ : Addr).add j) = some u) (hone : ∀ u ∈ xs, u.oneCell' = true) (hl : xs.length = n) (hn : n ≤ 1000000) :
    Calls Try.prog 81 #[.slice A n c] w fun e w' => ∃ v, e = .returned v ∧ w'.ownsRow w.heap.size 30 1 v n xs ∧ Below w.heap.size w w' := by
  cases A with
  | none =>
    have : xs = [] := by
      rcases hc with h | ⟨b, off, h, _⟩
      · exact h
      · cases h
    subst this
    obtain rfl : n = 0 := by simpa using hl.symm
    have hE := fun W => Lib.run_eql_slice_nil (P := Try.prog) W 39 30 none 0 c 0 0 Try.underlying39
    go_enter Try.func81, Try.ntmps81
    go_wp2
    go_ret
    exact ⟨_, rfl, World.ownsRow_nil _ _ _ _, Below.refl _ _⟩
  | some ad =>
    have hcc : ∀ j u, xs[j]? = some u → w.cell? (ad.add j) = some u := by
      rcases hc with rfl | ⟨b, off, h, h2⟩
      · intro j u h; simp at h
      · cases h; exact h2
    clear hc
    have hE := fun W => Lib.run_eql_slice_nil (P := Try.prog) W 39 30 (some ad) n c 0 0 Try.underlying39
    obtain ⟨i0, hi, hzz⟩ := Option.map_eq_some_iff.1 info_clone_errs
    simp only [Prod.mk.injEq] at hzz
    obtain ⟨hz0, hz1, hz2⟩ := hzz
    have HO : (w.alloc (.cells #[] 30)).ownsRow w.heap.size 30 1 (.slice (some ⟨w.heap.size, 0, none⟩) 0 0) 0 [] := World.ownsRow_made w #[] 0 (Nat.le_refl _) (by unfold maxLen; omega) rfl
    have HN := Lib.hid (show ∀ j u, xs[j]? = some u → (w.alloc (.cells #[] 30)).cell? (ad.add j) = some u from fun j u h => cell_below (bt (Below.refl _ _) (Nat.le_refl _) ((Below.refl _ _).alloc (Nat.le_refl _) _)) (hcc j u h))
    clear hcc
    go_enter Try.func81, Try.ntmps81
    go_wp2_with (at_builtin; refine wpList_append_own_at _ rfl (.tmp 5) (.tmp 6) 39 rfl w.heap.size 30 i0 (.int .i64 0) 1 8 Try.underlying39 hi hz0 hz1 hz2 rfl (by omega) (.slice (some ⟨w.heap.size, 0, none⟩) 0 0) 0 [] rfl HO ad n c xs rfl (by omega) HN.out hone (by simp only [maxLen]; omega) (by omega) (by simp) ?_; intro v1 w1 HO2 hg2 _ _)
    rw [Nat.zero_add, List.nil_append] at HO2
    go_ret
    exact ⟨v1, rfl, HO2, ((Below.refl _ _).alloc (Nat.le_refl _) _).grown hg2 (by simp) (own_lo HO)⟩
theorem info_clone_strs : (Try.prog.info? 9).map (fun i => (i.zero, i.size, i.bytes)) = some (some (.string ByteArray.empty), 1, 16) := by kernel_rfl
set_option maxRecDepth 100000 in
set_option maxHeartbeats 1000000 in
theorem clone_strs (A : Option Addr) (n c : Nat) (xs : List Value) (w : World) (hc : xs = [] ∨ ∃ b off, A = some ⟨b, off, none⟩ ∧ ∀ j u, xs[j]? = some u → w.cell? ((⟨b, off, none⟩ : Addr).add j) = some u) (hone : ∀ u ∈ xs, u.oneCell' = true) (hl : xs.length = n) (hn : n ≤ 1000000) :
    Calls Try.prog 82 #[.slice A n c] w fun e w' => ∃ v, e = .returned v ∧ w'.ownsRow w.heap.size 9 1 v n xs ∧ Below w.heap.size w w' := by
  cases A with
  | none =>
    have : xs = [] := by
      rcases hc with h | ⟨b, off, h, _⟩
      · exact h
      · cases h
    subst this
    obtain rfl : n = 0 := by simpa using hl.symm
    have hE := fun W => Lib.run_eql_slice_nil (P := Try.prog) W 40 9 none 0 c 0 0 Try.underlying40
    go_enter Try.func82, Try.ntmps82
    go_wp2
    go_ret
    exact ⟨_, rfl, World.ownsRow_nil _ _ _ _, Below.refl _ _⟩
  | some ad =>
    have hcc : ∀ j u, xs[j]? = some u → w.cell? (ad.add j) = some u := by
      rcases hc with rfl | ⟨b, off, h, h2⟩
      · intro j u h; simp at h
      · cases h; exact h2
    clear hc
    have hE := fun W => Lib.run_eql_slice_nil (P := Try.prog) W 40 9 (some ad) n c 0 0 Try.underlying40
    obtain ⟨i0, hi, hzz⟩ := Option.map_eq_some_iff.1 info_clone_strs
    simp only [Prod.mk.injEq] at hzz
    obtain ⟨hz0, hz1, hz2⟩ := hzz
    have HO : (w.alloc (.cells #[] 9)).ownsRow w.heap.size 9 1 (.slice (some ⟨w.heap.size, 0, none⟩) 0 0) 0 [] := World.ownsRow_made w #[] 0 (Nat.le_refl _) (by unfold maxLen; omega) rfl
    have HN := Lib.hid (show ∀ j u, xs[j]? = some u → (w.alloc (.cells #[] 9)).cell? (ad.add j) = some u from fun j u h => cell_below (bt (Below.refl _ _) (Nat.le_refl _) ((Below.refl _ _).alloc (Nat.le_refl _) _)) (hcc j u h))
    clear hcc
    go_enter Try.func82, Try.ntmps82
    go_wp2_with (at_builtin; refine wpList_append_own_at _ rfl (.tmp 5) (.tmp 6) 40 rfl w.heap.size 9 i0 (.string ByteArray.empty) 1 16 Try.underlying40 hi hz0 hz1 hz2 rfl (by omega) (.slice (some ⟨w.heap.size, 0, none⟩) 0 0) 0 [] rfl HO ad n c xs rfl (by omega) HN.out hone (by simp only [maxLen]; omega) (by omega) (by simp) ?_; intro v1 w1 HO2 hg2 _ _)
    rw [Nat.zero_add, List.nil_append] at HO2
    go_ret
    exact ⟨v1, rfl, HO2, ((Below.refl _ _).alloc (Nat.le_refl _) _).grown hg2 (by simp) (own_lo HO)⟩
theorem info_clone_mans : (Try.prog.info? 26).map (fun i => (i.zero, i.size, i.bytes)) = some (some (.agg #[.int .i64 0, .int .i64 0, .slice none 0 0, .slice none 0 0, .slice none 0 0]), 5, 88) := by kernel_rfl
set_option maxRecDepth 100000 in
set_option maxHeartbeats 1000000 in
theorem clone_mans (A : Option Addr) (n c : Nat) (xs : List Value) (w : World) (hc : xs = [] ∨ ∃ b off, A = some ⟨b, off, none⟩ ∧ ∀ j u, xs[j]? = some u → w.cell? ((⟨b, off, none⟩ : Addr).add j) = some u) (hone : ∀ u ∈ xs, u.oneCell' = true) (hl : xs.length = n * 5) (hn : n ≤ 1000000) :
    Calls Try.prog 83 #[.slice A n c] w fun e w' => ∃ v, e = .returned v ∧ w'.ownsRow w.heap.size 26 5 v n xs ∧ Below w.heap.size w w' := by
  cases A with
  | none =>
    have : xs = [] := by
      rcases hc with h | ⟨b, off, h, _⟩
      · exact h
      · cases h
    subst this
    obtain rfl : n = 0 := by simp at hl; omega
    have hE := fun W => Lib.run_eql_slice_nil (P := Try.prog) W 38 26 none 0 c 0 0 Try.underlying38
    go_enter Try.func83, Try.ntmps83
    go_wp2
    go_ret
    exact ⟨_, rfl, World.ownsRow_nil _ _ _ _, Below.refl _ _⟩
  | some ad =>
    have hcc : ∀ j u, xs[j]? = some u → w.cell? (ad.add j) = some u := by
      rcases hc with rfl | ⟨b, off, h, h2⟩
      · intro j u h; simp at h
      · cases h; exact h2
    clear hc
    have hE := fun W => Lib.run_eql_slice_nil (P := Try.prog) W 38 26 (some ad) n c 0 0 Try.underlying38
    obtain ⟨i0, hi, hzz⟩ := Option.map_eq_some_iff.1 info_clone_mans
    simp only [Prod.mk.injEq] at hzz
    obtain ⟨hz0, hz1, hz2⟩ := hzz
    have HO : (w.alloc (.cells #[] 26)).ownsRow w.heap.size 26 5 (.slice (some ⟨w.heap.size, 0, none⟩) 0 0) 0 [] := World.ownsRow_made w #[] 0 (Nat.le_refl _) (by unfold maxLen; omega) rfl
    have HN := Lib.hid (show ∀ j u, xs[j]? = some u → (w.alloc (.cells #[] 26)).cell? (ad.add j) = some u from fun j u h => cell_below (bt (Below.refl _ _) (Nat.le_refl _) ((Below.refl _ _).alloc (Nat.le_refl _) _)) (hcc j u h))
    clear hcc
    go_enter Try.func83, Try.ntmps83
    go_wp2_with (at_builtin; refine wpList_append_own_at _ rfl (.tmp 5) (.tmp 6) 38 rfl w.heap.size 26 i0 (.agg #[.int .i64 0, .int .i64 0, .slice none 0 0, .slice none 0 0, .slice none 0 0]) 5 88 Try.underlying38 hi hz0 hz1 hz2 rfl (by omega) (.slice (some ⟨w.heap.size, 0, none⟩) 0 0) 0 [] rfl HO ad n c xs rfl (by omega) HN.out hone (by simp only [maxLen]; omega) (by omega) (by simp) ?_; intro v1 w1 HO2 hg2 _ _)
    rw [Nat.zero_add, List.nil_append] at HO2
    go_ret
    exact ⟨v1, rfl, HO2, ((Below.refl _ _).alloc (Nat.le_refl _) _).grown hg2 (by simp) (own_lo HO)⟩
end Go.Proofs.Ytmlemichkeomjaa.LedW
