/- Whole, equal walked. -/
import Derived.Test.YtpologlcfohjeaaMend4
set_option linter.unusedVariables false
set_option linter.unusedSimpArgs false
namespace Go.Proofs.Ytpologlcfohjeaa.MendW
open Go.RowKit Go.Proofs.Ytpologlcfohjeaa.Base

/-- A block that holds a manifest. -/
structure ManBox (w : World) (b : Nat) (t a : Int) (A2 : Option Addr) (n2 c2 : Nat) (A3 : Option Addr) (n3 c3 : Nat) (A4 : Option Addr) (n4 c4 : Nat) : Prop where
  f0 : w.cell? ⟨b, 0, none⟩ = some (.int .i64 t)
  f1 : w.cell? ⟨b, 1, none⟩ = some (.int .i64 a)
  f2 : w.cell? ⟨b, 2, none⟩ = some (.slice A2 n2 c2)
  f3 : w.cell? ⟨b, 3, none⟩ = some (.slice A3 n3 c3)
  f4 : w.cell? ⟨b, 4, none⟩ = some (.slice A4 n4 c4)
theorem ManBox.below {w w' : World} {b : Nat} {t a : Int} {A2 : Option Addr} {n2 c2 : Nat} {A3 : Option Addr} {n3 c3 : Nat} {A4 : Option Addr} {n4 c4 : Nat} (h : ManBox w b t a A2 n2 c2 A3 n3 c3 A4 n4 c4) (hb : Below w.heap.size w w') : ManBox w' b t a A2 n2 c2 A3 n3 c3 A4 n4 c4 :=
  ⟨cell_below hb h.f0, cell_below hb h.f1, cell_below hb h.f2, cell_below hb h.f3, cell_below hb h.f4⟩
theorem ManBox.mk' (w : World) (t a : Int) (A2 : Option Addr) (n2 c2 : Nat) (A3 : Option Addr) (n3 c3 : Nat) (A4 : Option Addr) (n4 c4 : Nat) : ManBox (w.alloc (.cells #[.int .i64 t, .int .i64 a, .slice A2 n2 c2, .slice A3 n3 c3, .slice A4 n4 c4] 26)) w.heap.size t a A2 n2 c2 A3 n3 c3 A4 n4 c4 := by
  constructor <;> (rw [cell_of_row _ _ _ _ _ _ (heap_alloc_new w _)]; rfl)
def wholeB (hv : List (List Bool)) (live : List Bool) (hm : List (List Int)) (k : Int) (n : Nat) : Bool := (List.range n).all fun p => !decide (((presOf hv live hm p).length : Int) < k)
theorem wholeB_succ (hv : List (List Bool)) (live : List Bool) (hm : List (List Int)) (k : Int) (n : Nat) : wholeB hv live hm k (n + 1) = (wholeB hv live hm k n && !decide (((presOf hv live hm n).length : Int) < k)) := by
  unfold wholeB
  rw [List.range_succ, List.all_append]
  simp
theorem wholeB_false {hv : List (List Bool)} {live : List Bool} {hm : List (List Int)} {k : Int} {n p : Nat} (hp : p < n) (h : ((presOf hv live hm p).length : Int) < k) : wholeB hv live hm k n = false := by
  cases hb : wholeB hv live hm k n with
  | false => rfl
  | true =>
    have := List.all_eq_true.1 hb p (List.mem_range.2 hp)
    simp at this
    omega
section
variable (t a : Int) (A2 : Option Addr) (n2 c2 : Nat) (A3 : Option Addr) (n3 c3 : Nat) (A4 : Option Addr) (n4 c4 : Nat) (hm : List (List Int)) (Ah : Option Addr) (nh ch : Nat) (hv : List (List Bool)) (Al : Option Addr) (nl cl : Nat) (live : List Bool) (w : World)
set_option maxRecDepth 100000 in
set_option maxHeartbeats 1000000 in
theorem whole_any (k : Int) (hH : IRows w A4 hm) (hl : hm.length = n4) (h4 : n4 ≤ 1000000) (hr : ∀ i (h : i < hm.length), hm[i].length ≤ 1000000) (hV : BRows w Ah hv) (hvl : hv.length = nh) (hB : Bools w Al live) (hll : live.length = nl) :
    Calls Try.prog 11 #[.agg #[.int .i64 t, .int .i64 a, .slice A2 n2 c2, .slice A3 n3 c3, .slice A4 n4 c4], .int .i64 k, .slice Ah nh ch, .slice Al nl cl] w fun e w' => e = .returned (.bool (wholeB hv live hm k n4)) ∧ Below w.heap.size w w' := by
  have HPR := Lib.hid (fun Wx (p : Nat) (hp : p < n4) (h1 : IRows Wx A4 hm) (h2 : BRows Wx Ah hv) (h3 : Bools Wx Al live) => present_any t a A2 n2 c2 A3 n3 c3 A4 n4 c4 hm Ah nh ch hv Al nl cl live Wx p hp h1 hl hr h2 hvl h3 hll)
  clear hr hl hvl hll
  go_enter Try.func11, Try.ntmps11
  go_upto_region 1 with fail
  have HM := ManBox.mk' w t a A2 n2 c2 A3 n3 c3 A4 n4 c4
  have HB : Below w.heap.size w (w.alloc (.cells #[.int .i64 t, .int .i64 a, .slice A2 n2 c2, .slice A3 n3 c3, .slice A4 n4 c4] 26)) := (Below.refl _ _).alloc (Nat.le_refl _) _
  generalize w.alloc (.cells #[.int .i64 t, .int .i64 a, .slice A2 n2 c2, .slice A3 n3 c3, .slice A4 n4 c4] 26) = W at HM HB ⊢
  have q4 := HM.f4
  have HB0 := HB
  go_wp2
  clear q4
  go_loopw [9, 13] (fun _ i wr => ∃ p : Nat, p ≤ n4 ∧ i = .int .i64 p ∧ wholeB hv live hm k p = true ∧ Below w.heap.size w wr ∧ ManBox wr w.heap.size t a A2 n2 c2 A3 n3 c3 A4 n4 c4) (fun _ i _ => n4 - (intOf i).toNat)
  case atStart => exact ⟨0, by omega, rfl, rfl, HB, HM⟩
  case round =>
    obtain ⟨p, hp, rfl, hw, HB, HM⟩ := hrel
    have HW := Lib.hid hw
    clear hw HB0
    by_cases hlt : p < n4
    · obtain ⟨q0, q1, q2, q3, q4⟩ := HM
      have HM : ManBox wr w.heap.size t a A2 n2 c2 A3 n3 c3 A4 n4 c4 := ⟨q0, q1, q2, q3, q4⟩
      have HMH := Lib.hid HM
      obtain ⟨s, hs⟩ : ∃ s, s = (presOf hv live hm p).length := ⟨_, rfl⟩
      have HPP := Lib.hid (HPR.out wr p hlt (hH.below HB) (hV.below HB) (hB.below HB))
      rw [← hs] at HPP
      have HS := Lib.hid hs
      clear hs HM
      by_cases hk : (s : Int) < k
      · have t1 : decide ((s : Int) < k) = true := by simp [hk]
        have HF := Lib.hid (wholeB_false (hv := hv) (live := live) (hm := hm) (k := k) hlt (by rw [← HS.out]; exact hk))
        clear hk
        go_wp2_with (go_at_call 9; (with_reducible refine (HPP.out).mono ?_); rintro e w3 ⟨A5, c5, rfl, hc5, hI5, hd⟩; replace HB := bt HB HB.size hd; clear hd)
        go_ret
        exact ⟨by rw [HF.out]; rfl, HB⟩
      · have t1 : decide ((s : Int) < k) = false := by simp [hk]
        have HF := Lib.hid (show wholeB hv live hm k (p + 1) = true by rw [wholeB_succ, HW.out, ← HS.out, t1]; rfl)
        clear hk
        go_wp2_with (go_at_call 9; (with_reducible refine (HPP.out).mono ?_); rintro e w3 ⟨A5, c5, rfl, hc5, hI5, hd⟩; have HM2 := HMH.out.below hd; replace HB := bt HB HB.size hd; clear hd)
        go_roundw
        case rel => exact ⟨p + 1, by omega, by go_num, HF.out, HB, HM2⟩
        case measure => simp [intOf]; omega
    · obtain rfl : p = n4 := by omega
      go_wp2
      go_ret
      exact ⟨by rw [HW.out]; rfl, HB⟩
end
set_option maxRecDepth 100000 in
set_option maxHeartbeats 1000000 in
theorem equal_any (A B : Option Addr) (n m c1 c2 : Nat) (l1 l2 : List Int) (w : World) (h1 : Ints w A l1) (hl1 : l1.length = n) (h2 : Ints w B l2) (hl2 : l2.length = m) (hn : n ≤ 1000000) :
    Calls Try.prog 12 #[.slice A n c1, .slice B m c2] w fun e w' => e = .returned (.bool (decide (l1 = l2))) ∧ Below w.heap.size w w' := by
  have HL1 := Lib.hid hl1
  have HL2 := Lib.hid hl2
  by_cases hne : n = m
  · subst hne
    have t0 : (((n : Nat) : Int) != ((n : Nat) : Int)) = false := by simp
    go_enter Try.func12, Try.ntmps12
    go_wp2
    go_loopw [5] (fun i wr => ∃ k : Nat, k ≤ n ∧ i = .int .i64 k ∧ Below w.heap.size w wr ∧ ∀ j (hj : j < l1.length) (hj2 : j < l2.length), j < k → l1[j] = l2[j]) (fun i _ => n - (intOf i).toNat)
    case atStart => exact ⟨0, by omega, rfl, Below.refl _ _, fun j _ _ h => by omega⟩
    case round =>
      obtain ⟨k, hk, rfl, HB, hall⟩ := hrel
      have HA := Lib.hid hall
      clear hall
      by_cases hlt : k < n
      · obtain ⟨b, off, rfl, hc⟩ := (h1.below HB).block (by omega)
        obtain ⟨b2, off2, rfl, hc2⟩ := (h2.below HB).block (by omega)
        have g1 := hc k (by omega)
        have g2 := hc2 k (by omega)
        obtain ⟨x, hx⟩ : ∃ x, x = l1[k]'(by omega) := ⟨_, rfl⟩
        obtain ⟨y, hy⟩ : ∃ y, y = l2[k]'(by omega) := ⟨_, rfl⟩
        rw [← hx] at g1
        rw [← hy] at g2
        have HX := Lib.hid hx
        have HY := Lib.hid hy
        have r1 := regrown_cell g1
        have r2 := regrown_cell g2
        clear hc hc2 hx hy g1 g2
        by_cases he : x = y
        · have t1 : (x != y) = false := by simp [he]
          have HE9 := Lib.hid he
          clear he
          go_upto_region 6 with fail
          (refine wp_region_quiet_below (by kernel_rfl) (by kernel_rfl) ?_; (repeat (go_big_quiet_step (fail))); refine wpQuiet_nil ?_; intro wq hw'; have HQ := below_of_regrown hw'; clear hw')
          have HE := bt HB HB.size HQ
          clear HQ HB r1 r2
          go_wp2
          go_roundw
          case rel =>
            refine ⟨k + 1, by omega, by go_num, HE, fun j hj hj2 hjk => ?_⟩
            by_cases e : j = k
            · subst e; rw [← HX.out, ← HY.out]; exact HE9.out
            · exact HA.out j hj hj2 (by omega)
          case measure => simp [intOf]; omega
        · have t1 : (x != y) = true := by simp [he]
          have HE9 := Lib.hid he
          clear he
          have HD := Lib.hid (show decide (l1 = l2) = false from decide_eq_false fun e => HE9.out (by rw [HX.out, HY.out]; simp [e]))
          go_upto_region 6 with fail
          (refine wp_region_quiet_below (by kernel_rfl) (by kernel_rfl) ?_; (repeat (go_big_quiet_step (fail))); refine wpQuiet_nil ?_; intro wq hw'; have HQ := below_of_regrown hw'; clear hw')
          have HE := bt HB HB.size HQ
          clear HQ HB r1 r2
          go_wp2
          go_ret
          exact ⟨by rw [HD.out]; rfl, HE⟩
      · obtain rfl : k = n := by omega
        have HD := Lib.hid (show decide (l1 = l2) = true from decide_eq_true (List.ext_getElem (by omega) fun j hj hj2 => HA.out j hj hj2 (by omega)))
        go_wp2
        go_ret
        exact ⟨by rw [HD.out]; rfl, HB⟩
  · have t0 : (((n : Nat) : Int) != ((m : Nat) : Int)) = true := by simp; omega
    have HD := Lib.hid (show decide (l1 = l2) = false from decide_eq_false fun e => hne (by rw [← hl1, ← hl2, e]))
    go_enter Try.func12, Try.ntmps12
    go_wp2
    go_ret
    exact ⟨by rw [HD.out]; rfl, Below.refl _ _⟩
end Go.Proofs.Ytpologlcfohjeaa.MendW
