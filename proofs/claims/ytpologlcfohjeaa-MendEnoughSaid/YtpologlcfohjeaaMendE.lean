/- slices.EqualFunc of rows walked. -/
import Derived.Test.YtpologlcfohjeaaMendD
set_option linter.unusedVariables false
set_option linter.unusedSimpArgs false
namespace Go.Proofs.Ytpologlcfohjeaa.MendW
open Go.RowKit Go.Proofs.Ytpologlcfohjeaa.Base

set_option maxRecDepth 100000 in
set_option maxHeartbeats 1000000 in
theorem eqf_any (A B : Option Addr) (n m c1 c2 : Nat) (l1 l2 : List (List Int)) (w : World) (h1 : IRows w A l1) (hl1 : l1.length = n) (h2 : IRows w B l2) (hl2 : l2.length = m) (hn : n ≤ 1000000) (hr : ∀ i (h : i < l1.length), l1[i].length ≤ 1000000) :
    Calls Try.prog 24 #[.slice A n c1, .slice B m c2, .func (.func 22) #[] #[]] w fun e w' => e = .returned (.bool (decide (l1 = l2))) ∧ Below w.heap.size w w' := by
  have HL1 := Lib.hid hl1
  have HL2 := Lib.hid hl2
  have HR := Lib.hid hr
  clear hr
  by_cases hne : n = m
  · subst hne
    have t0 : (((n : Nat) : Int) != ((n : Nat) : Int)) = false := by simp
    go_enter Try.func24, Try.ntmps24
    go_wp2
    go_loopw [7, 8, 9, 17] (fun _ _ _ i wr => ∃ k : Nat, k ≤ n ∧ i = .int .i64 k ∧ Below w.heap.size w wr ∧ ∀ j (hj : j < l1.length) (hj2 : j < l2.length), j < k → l1[j] = l2[j]) (fun _ _ _ i _ => n - (intOf i).toNat)
    case atStart => exact ⟨0, by omega, rfl, Below.refl _ _, fun j _ _ h => by omega⟩
    case round =>
      obtain ⟨k, hk, rfl, HB, hall⟩ := hrel
      have HA := Lib.hid hall
      clear hall
      by_cases hlt : k < n
      · obtain ⟨b, off, rfl, hc⟩ := (h1.below HB).block (by omega)
        obtain ⟨b2, off2, rfl, hc2⟩ := (h2.below HB).block (by omega)
        obtain ⟨B1, cb1, g1, _, hI1⟩ := hc k (by omega)
        obtain ⟨B2, cb2, g2, _, hI2⟩ := hc2 k (by omega)
        have hq := HR.out k (by omega)
        obtain ⟨x, hx⟩ : ∃ x, x = l1[k]'(by omega) := ⟨_, rfl⟩
        obtain ⟨y, hy⟩ : ∃ y, y = l2[k]'(by omega) := ⟨_, rfl⟩
        rw [← hx] at g1 hI1 hq
        rw [← hy] at g2 hI2
        have HX := Lib.hid hx
        have HY := Lib.hid hy
        clear hc hc2 hx hy
        have HC := Lib.hid (sleq_int B1 B2 x.length y.length cb1 cb2 x y wr hI1 rfl hI2 rfl hq)
        by_cases he : x = y
        · rw [decide_eq_true he] at HC
          have HE9 := Lib.hid he
          clear he
          go_wp2_with (go_at_call 22; (with_reducible refine (HC.out).mono ?_); rintro e w3 ⟨rfl, hd⟩; have HE := bt HB HB.size hd; clear hd)
          go_roundw
          case rel =>
            refine ⟨k + 1, by omega, by go_num, HE, fun j hj hj2 hjk => ?_⟩
            by_cases e : j = k
            · subst e; rw [← HX.out, ← HY.out]; exact HE9.out
            · exact HA.out j hj hj2 (by omega)
          case measure => simp [intOf]; omega
        · rw [decide_eq_false he] at HC
          have HE9 := Lib.hid he
          clear he
          have HD := Lib.hid (show decide (l1 = l2) = false from decide_eq_false fun e => HE9.out (by rw [HX.out, HY.out]; simp [e]))
          go_wp2_with (go_at_call 22; (with_reducible refine (HC.out).mono ?_); rintro e w3 ⟨rfl, hd⟩; have HE := bt HB HB.size hd; clear hd)
          go_ret
          exact ⟨by rw [HD.out]; rfl, HE⟩
      · obtain rfl : k = n := by omega
        have HD := Lib.hid (show decide (l1 = l2) = true from decide_eq_true (List.ext_getElem (by omega) fun j hj hj2 => HA.out j hj hj2 (by omega)))
        go_wp2
        go_ret
        exact ⟨by rw [HD.out]; rfl, HB⟩
  · have t0 : (((n : Nat) : Int) != ((m : Nat) : Int)) = true := by simp; omega
    have HD := Lib.hid (show decide (l1 = l2) = false from decide_eq_false fun e => hne (by rw [← hl1, ← hl2, e]))
    go_enter Try.func24, Try.ntmps24
    go_wp2
    go_ret
    exact ⟨by rw [HD.out]; rfl, Below.refl _ _⟩
end Go.Proofs.Ytpologlcfohjeaa.MendW
