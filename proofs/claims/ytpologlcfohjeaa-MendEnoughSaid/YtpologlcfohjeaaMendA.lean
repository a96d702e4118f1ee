/- slices.Equal at whole numbers and at sums; slices.ContainsFunc at sizes walked. -/
import Derived.Test.YtpologlcfohjeaaMend9
set_option linter.unusedVariables false
set_option linter.unusedSimpArgs false
namespace Go.Proofs.Ytpologlcfohjeaa.MendW
open Go.RowKit Go.Proofs.Ytpologlcfohjeaa.Base

/-- Sums. -/
structure U32s (w : World) (A : Option Addr) (l : List Int) : Prop where
  le : ∀ x, x ∈ l → 0 ≤ x ∧ x ≤ 4294967295
  at_ : l = [] ∨ ∃ b off, A = some ⟨b, off, none⟩ ∧ ∀ j (h : j < l.length), w.cell? ⟨b, off + j, none⟩ = some (.int .u32 l[j])
theorem U32s.below {w w' : World} {A : Option Addr} {l : List Int} (h : U32s w A l) (hb : Below w.heap.size w w') : U32s w' A l := by
  refine ⟨h.le, ?_⟩
  rcases h.at_ with h1 | ⟨b, off, e, hc⟩
  · exact .inl h1
  · exact .inr ⟨b, off, e, fun j hj => cell_below hb (hc j hj)⟩
theorem U32s.block {w : World} {A : Option Addr} {l : List Int} (h : U32s w A l) (h0 : l.length ≠ 0) : ∃ b off, A = some ⟨b, off, none⟩ ∧ ∀ j (h : j < l.length), w.cell? ⟨b, off + j, none⟩ = some (.int .u32 l[j]) := by
  rcases h.at_ with h1 | h1
  · exact absurd (by rw [h1]; rfl) h0
  · exact h1
set_option maxRecDepth 100000 in
set_option maxHeartbeats 1000000 in
theorem sleq_int (A B : Option Addr) (n m c1 c2 : Nat) (l1 l2 : List Int) (w : World) (h1 : Ints w A l1) (hl1 : l1.length = n) (h2 : Ints w B l2) (hl2 : l2.length = m) (hn : n ≤ 1000000) :
    Calls Try.prog 22 #[.slice A n c1, .slice B m c2] w fun e w' => e = .returned (.bool (decide (l1 = l2))) ∧ Below w.heap.size w w' := by
  have HL1 := Lib.hid hl1
  have HL2 := Lib.hid hl2
  by_cases hne : n = m
  · subst hne
    have t0 : (((n : Nat) : Int) != ((n : Nat) : Int)) = false := by simp
    go_enter Try.func22, Try.ntmps22
    go_wp2
    go_loopw [5, 13] (fun _ i wr => ∃ k : Nat, k ≤ n ∧ i = .int .i64 k ∧ Below w.heap.size w wr ∧ ∀ j (hj : j < l1.length) (hj2 : j < l2.length), j < k → l1[j] = l2[j]) (fun _ i _ => n - (intOf i).toNat)
    case atStart => exact ⟨0, by omega, rfl, Below.refl _ _, fun j _ _ h => by omega⟩
    case round =>
      obtain ⟨k, hk, rfl, HB, hall⟩ := hrel
      have HA := Lib.hid hall
      clear hall
      by_cases hlt : k < n
      · obtain ⟨b, off, rfl, hc⟩ := (h1.below HB).block (by omega)
        obtain ⟨b2, off2, rfl, hc2⟩ := (h2.below HB).block (by omega)
        have g1 := hc k (by omega)
        have g2 := hc2 k (by omega)
        obtain ⟨x, hx⟩ : ∃ x, x = l1[k]'(by omega) := ⟨_, rfl⟩
        obtain ⟨y, hy⟩ : ∃ y, y = l2[k]'(by omega) := ⟨_, rfl⟩
        rw [← hx] at g1
        rw [← hy] at g2
        have HX := Lib.hid hx
        have HY := Lib.hid hy
        have r1 := regrown_cell g1
        have r2 := regrown_cell g2
        clear hc hc2 hx hy g1 g2
        by_cases he : x = y
        · have t1 : (x != y) = false := by simp [he]
          have HE9 := Lib.hid he
          clear he
          go_upto_region 6 with fail
          (refine wp_region_quiet_below (by kernel_rfl) (by kernel_rfl) ?_; (repeat (go_big_quiet_step (fail))); refine wpQuiet_nil ?_; intro wq hw'; have HQ := below_of_regrown hw'; clear hw')
          have HE := bt HB HB.size HQ
          clear HQ HB r1 r2
          go_wp2
          go_roundw
          case rel =>
            refine ⟨k + 1, by omega, by go_num, HE, fun j hj hj2 hjk => ?_⟩
            by_cases e : j = k
            · subst e; rw [← HX.out, ← HY.out]; exact HE9.out
            · exact HA.out j hj hj2 (by omega)
          case measure => simp [intOf]; omega
        · have t1 : (x != y) = true := by simp [he]
          have HE9 := Lib.hid he
          clear he
          have HD := Lib.hid (show decide (l1 = l2) = false from decide_eq_false fun e => HE9.out (by rw [HX.out, HY.out]; simp [e]))
          go_upto_region 6 with fail
          (refine wp_region_quiet_below (by kernel_rfl) (by kernel_rfl) ?_; (repeat (go_big_quiet_step (fail))); refine wpQuiet_nil ?_; intro wq hw'; have HQ := below_of_regrown hw'; clear hw')
          have HE := bt HB HB.size HQ
          clear HQ HB r1 r2
          go_wp2
          go_ret
          exact ⟨by rw [HD.out]; rfl, HE⟩
      · obtain rfl : k = n := by omega
        have HD := Lib.hid (show decide (l1 = l2) = true from decide_eq_true (List.ext_getElem (by omega) fun j hj hj2 => HA.out j hj hj2 (by omega)))
        go_wp2
        go_ret
        exact ⟨by rw [HD.out]; rfl, HB⟩
  · have t0 : (((n : Nat) : Int) != ((m : Nat) : Int)) = true := by simp; omega
    have HD := Lib.hid (show decide (l1 = l2) = false from decide_eq_false fun e => hne (by rw [← hl1, ← hl2, e]))
    go_enter Try.func22, Try.ntmps22
    go_wp2
    go_ret
    exact ⟨by rw [HD.out]; rfl, Below.refl _ _⟩
set_option maxRecDepth 100000 in
set_option maxHeartbeats 1000000 in
theorem sleq_u32 (A B : Option Addr) (n m c1 c2 : Nat) (l1 l2 : List Int) (w : World) (h1 : U32s w A l1) (hl1 : l1.length = n) (h2 : U32s w B l2) (hl2 : l2.length = m) (hn : n ≤ 1000000) :
    Calls Try.prog 23 #[.slice A n c1, .slice B m c2] w fun e w' => e = .returned (.bool (decide (l1 = l2))) ∧ Below w.heap.size w w' := by
  have HL1 := Lib.hid hl1
  have HL2 := Lib.hid hl2
  by_cases hne : n = m
  · subst hne
    have t0 : (((n : Nat) : Int) != ((n : Nat) : Int)) = false := by simp
    go_enter Try.func23, Try.ntmps23
    go_wp2
    go_loopw [5, 13] (fun _ i wr => ∃ k : Nat, k ≤ n ∧ i = .int .i64 k ∧ Below w.heap.size w wr ∧ ∀ j (hj : j < l1.length) (hj2 : j < l2.length), j < k → l1[j] = l2[j]) (fun _ i _ => n - (intOf i).toNat)
    case atStart => exact ⟨0, by omega, rfl, Below.refl _ _, fun j _ _ h => by omega⟩
    case round =>
      obtain ⟨k, hk, rfl, HB, hall⟩ := hrel
      have HA := Lib.hid hall
      clear hall
      by_cases hlt : k < n
      · obtain ⟨b, off, rfl, hc⟩ := (h1.below HB).block (by omega)
        obtain ⟨b2, off2, rfl, hc2⟩ := (h2.below HB).block (by omega)
        have g1 := hc k (by omega)
        have g2 := hc2 k (by omega)
        obtain ⟨x, hx⟩ : ∃ x, x = l1[k]'(by omega) := ⟨_, rfl⟩
        obtain ⟨y, hy⟩ : ∃ y, y = l2[k]'(by omega) := ⟨_, rfl⟩
        rw [← hx] at g1
        rw [← hy] at g2
        have HX := Lib.hid hx
        have HY := Lib.hid hy
        have r1 := regrown_cell g1
        have r2 := regrown_cell g2
        clear hc hc2 hx hy g1 g2
        by_cases he : x = y
        · have t1 : (x != y) = false := by simp [he]
          have HE9 := Lib.hid he
          clear he
          go_upto_region 6 with fail
          (refine wp_region_quiet_below (by kernel_rfl) (by kernel_rfl) ?_; (repeat (go_big_quiet_step (fail))); refine wpQuiet_nil ?_; intro wq hw'; have HQ := below_of_regrown hw'; clear hw')
          have HE := bt HB HB.size HQ
          clear HQ HB r1 r2
          go_wp2
          go_roundw
          case rel =>
            refine ⟨k + 1, by omega, by go_num, HE, fun j hj hj2 hjk => ?_⟩
            by_cases e : j = k
            · subst e; rw [← HX.out, ← HY.out]; exact HE9.out
            · exact HA.out j hj hj2 (by omega)
          case measure => simp [intOf]; omega
        · have t1 : (x != y) = true := by simp [he]
          have HE9 := Lib.hid he
          clear he
          have HD := Lib.hid (show decide (l1 = l2) = false from decide_eq_false fun e => HE9.out (by rw [HX.out, HY.out]; simp [e]))
          go_upto_region 6 with fail
          (refine wp_region_quiet_below (by kernel_rfl) (by kernel_rfl) ?_; (repeat (go_big_quiet_step (fail))); refine wpQuiet_nil ?_; intro wq hw'; have HQ := below_of_regrown hw'; clear hw')
          have HE := bt HB HB.size HQ
          clear HQ HB r1 r2
          go_wp2
          go_ret
          exact ⟨by rw [HD.out]; rfl, HE⟩
      · obtain rfl : k = n := by omega
        have HD := Lib.hid (show decide (l1 = l2) = true from decide_eq_true (List.ext_getElem (by omega) fun j hj hj2 => HA.out j hj hj2 (by omega)))
        go_wp2
        go_ret
        exact ⟨by rw [HD.out]; rfl, HB⟩
  · have t0 : (((n : Nat) : Int) != ((m : Nat) : Int)) = true := by simp; omega
    have HD := Lib.hid (show decide (l1 = l2) = false from decide_eq_false fun e => hne (by rw [← hl1, ← hl2, e]))
    go_enter Try.func23, Try.ntmps23
    go_wp2
    go_ret
    exact ⟨by rw [HD.out]; rfl, Below.refl _ _⟩
theorem right1_any (x : Int) (w : World) : Calls Try.prog 27 #[.int .i64 x] w fun e w' => e = .returned (.bool (decide (x < 0) || decide (16777216 < x))) ∧ w = w' := by
  by_cases h1 : x < 0
  · have t1 : decide (x < 0) = true := by simp [h1]
    have HT := Lib.hid (show (decide (x < 0) || decide (16777216 < x)) = true by rw [t1, Bool.true_or])
    go_enter Try.func27, Try.ntmps27
    go_wp2
    go_ret
    exact ⟨by first | (rw [HT.out]; rfl) | rfl, rfl⟩
  · have t1 : decide (x < 0) = false := by simp [h1]
    have HT := Lib.hid (show (decide (x < 0) || decide (16777216 < x)) = decide (16777216 < x) by rw [t1, Bool.false_or])
    go_enter Try.func27, Try.ntmps27
    go_wp2
    go_ret
    exact ⟨by first | (rw [HT.out]; rfl) | rfl, rfl⟩
end Go.Proofs.Ytpologlcfohjeaa.MendW
