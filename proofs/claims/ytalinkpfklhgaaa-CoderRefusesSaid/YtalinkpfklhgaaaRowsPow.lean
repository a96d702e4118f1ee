/- rows.Powers walked. -/
import Derived.Test.YtalinkpfklhgaaaRowsMul
set_option linter.unusedVariables false
set_option linter.unusedSimpArgs false
namespace Go.Proofs.Ytalinkpfklhgaaa.RowsW
open Go.RowKit Go.Proofs.Ytalinkpfklhgaaa.Base Go.Proofs.Ytalinkpfklhgaaa.GfP Go.Proofs.Ytalinkpfklhgaaa.GfW Go.Proofs.Ytalinkpfklhgaaa.Lin

/-- The rows of powers. -/
def powT : M := fun i j => pwr (toF i) j
theorem pwr_rp (a k : Nat) (ha : a ≤ 255) : (pwr (toF a) k).v = rp a k := by
  induction k with
  | zero => rfl
  | succ k ih =>
    show (pwr (toF a) k * toF a).v = mul (rp a k) a
    rw [v_mul, ih, toF_v ha]
theorem pow_powT {i j : Nat} (hi : i ≤ 255) : pow i (j : Nat) = (powT i j).v := by
  rw [rp_nat hi]
  exact (pwr_rp i j hi).symm
/-- Filled row by row. -/
def fillR (P : M) (i j : Nat) : M := fun r l => if r < i ∨ (r = i ∧ l < j) then P r l else 0
theorem fillR_zero (P : M) (n q : Nat) : Eqv n q (fillR P 0 0) (fun _ _ => 0) := fun i _ l _ => if_neg (by omega)
theorem fillR_next (P : M) (n q i : Nat) : Eqv n q (fillR P i q) (fillR P (i + 1) 0) := by
  intro r hr l hl
  unfold fillR
  by_cases h : r < i + 1
  · rw [if_pos (by omega), if_pos (by omega)]
  · rw [if_neg (by omega), if_neg (by omega)]
theorem fillR_all (P : M) (n q : Nat) : Eqv n q (fillR P n 0) P := fun i hi l hl => if_pos (by omega)
theorem fillR_step (P : M) (n q i j : Nat) : Eqv n q (fun r => if r = i then (fun l => if l = j then P i j else fillR P i j i l) else fillR P i j r) (fillR P i (j + 1)) := by
  intro r _ l _
  by_cases e : r = i
  · subst e
    simp only [if_pos]
    unfold fillR
    by_cases e2 : l = j
    · subst e2; rw [if_pos rfl, if_pos (by omega)]
    · rw [if_neg e2]
      by_cases h : l < j
      · rw [if_pos (by omega), if_pos (by omega)]
      · rw [if_neg (by omega), if_neg (by omega)]
  · simp only [if_neg e]
    unfold fillR
    by_cases h : r < i
    · rw [if_pos (by omega), if_pos (by omega)]
    · rw [if_neg (by omega), if_neg (by omega)]
theorem Mat.wide {w : World} {lo lo' g n q : Nat} {bs : Nat → Nat} {A : M} (h : Mat w lo g n q bs A) (hl : lo' ≤ lo) : Mat w lo' g n q bs A :=
  ⟨h.top, h.free, h.lt, h.row, h.inj, h.ne, Nat.le_trans hl h.lo_g, fun i hi => Nat.le_trans hl (h.lo_b i hi)⟩
theorem powers_no (n k : Int) (w : World) (h1 : ¬ ((1 ≤ n ∧ n ≤ 32) ∧ (1 ≤ k ∧ k ≤ 32))) :
    Calls Try.prog 45 #[.int .i64 n, .int .i64 k] w fun e w' => e = .returned (.tuple #[.slice none 0 0, .bool false]) ∧ w = w' := by
  by_cases hn : 1 ≤ n ∧ n ≤ 32
  · have hk : ¬ (1 ≤ k ∧ k ≤ 32) := fun h => h1 ⟨hn, h⟩
    have H := Lib.hid (fits_yes n w hn.1 hn.2)
    have H2 := Lib.hid (fits_no k w hk)
    clear h1 hn hk
    go_enter Try.func45, Try.ntmps45
    go_wp2_with (first | (go_at_call 62; (with_reducible refine (H.out).mono ?_); rintro e w2 ⟨rfl, rfl⟩; clear H) | (go_at_call 62; (with_reducible refine (H2.out).mono ?_); rintro e w2 ⟨rfl, rfl⟩))
    go_ret2
    exact ⟨rfl, rfl⟩
  · have H := Lib.hid (fits_no n w hn)
    clear h1 hn
    go_enter Try.func45, Try.ntmps45
    go_wp2_with (go_at_call 62; (with_reducible refine (H.out).mono ?_); rintro e w2 ⟨rfl, rfl⟩)
    go_ret2
    exact ⟨rfl, rfl⟩
set_option maxRecDepth 100000 in
set_option maxHeartbeats 1000000 in
theorem powers_ok (n q : Nat) (w : World) (h1 : 1 ≤ n) (h2 : n ≤ 32) (h3 : 1 ≤ q) (h4 : q ≤ 32) :
    Calls Try.prog 45 #[.int .i64 (n : Nat), .int .i64 (q : Nat)] w fun e w' => ∃ g cap bs, e = .returned (.tuple #[.slice (some ⟨g, 0, none⟩) n cap, .bool true]) ∧ n ≤ cap ∧ Mat w' w.heap.size g n q bs powT ∧ Below w.heap.size w w' := by
  have HF := Lib.hid (fun (x : Nat) (a : 1 ≤ x) (b : x ≤ 32) => fits_yes x w (by omega) (by omega))
  have HMD := Lib.hid (fun W => made_any n q W (by omega) (by omega) (by omega))
  go_enter Try.func45, Try.ntmps45
  go_wp2_with (first | (go_at_call 62; (with_reducible refine (HF.out _ (by omega) (by omega)).mono ?_); rintro e w2 ⟨rfl, rfl⟩) | (go_at_call 20; (with_reducible refine (new_field _).mono ?_); rintro e w2 ⟨fb, rfl, hF, hfb, HB0⟩) | (go_at_call 59; (with_reducible refine (HMD.out _).mono ?_); rintro e w3 ⟨g, cap, bs, rfl, hcap, hM, hd3⟩))
  go_loopw [8, 9, 24] (fun _ _ i wr => ∃ k : Nat, k ≤ n ∧ i = .int .i64 k ∧ Mat wr w2.heap.size g n q bs (fillR powT k 0) ∧ Below w2.heap.size w2 wr) (fun _ _ i _ => n - (intOf i).toNat)
  case atStart => exact ⟨0, by omega, rfl, hM.congr (fillR_zero powT n q).symm, hd3⟩
  case round =>
    obtain ⟨k, hk, rfl, HM, HB⟩ := hrel
    by_cases hlt : k < n
    · go_wp2
      go_loopw [9, 28] (fun _ i wr => ∃ j : Nat, j ≤ q ∧ i = .int .i64 j ∧ Mat wr w2.heap.size g n q bs (fillR powT k j) ∧ Below w2.heap.size w2 wr) (fun _ i _ => q - (intOf i).toNat)
      case atStart => exact ⟨0, by omega, rfl, HM, HB⟩
      case round =>
        obtain ⟨j, hj, rfl, HM1, HB1⟩ := hrel
        by_cases hlt2 : j < q
        · have ht := HM1.top k hlt
          have hr := HM1.row k hlt
          have hck := hr.cell j hlt2
          have hfk := hr.free j
          have hFr := FieldIn.below hF HB1
          have hv := pow_powT (i := k) (j := j) (by omega)
          have HD := Lib.hid (fun W (h3 : FieldIn W fb) => pow_any fb k (j : Nat) W (by omega) h3)
          rw [hv] at HD
          clear hv
          have hcv : IntKind.u8.wrap ((k : Nat) : Int) = ((k : Nat) : Int) := by rw [IntKind.wrap_u8]; omega
          go_upto_region 11 with fail
          have d1 : wr.drew.cell? ⟨g, k, none⟩ = some (.slice (some ⟨bs k, 0, none⟩) q q) := ht
          have d2 : wr.drew.cell? ⟨bs k, j, none⟩ = some (.int .u8 (((fillR powT k j k j).v : Nat) : Int)) := hck
          have d3 : wr.drew.frozen? ⟨bs k, j, none⟩ = false := hfk
          have D5 := Lib.hid (HD.out wr.drew (FieldIn.below hFr ((Below.refl wr.heap.size wr).drew)))
          clear ht hck hfk hr hFr
          go_region_with (go_at_call 27; (with_reducible refine (D5.out).mono ?_); rintro e w5 ⟨rfl, hd⟩; replace d3 := (frozen_below hd.below d2).trans d3; replace d1 := cell_below hd.below d1; replace d2 := cell_below hd.below d2)
          clear hcv
          all_goals go_wp2
          all_goals (
            have hb0 : Below wr.heap.size wr w5 := bt_drew' hd.below
            exact ⟨⟨j + 1, by omega, by go_num, ((HM1.below hb0).set k j hlt hlt2 (powT k j)).congr (fillR_step powT n q k j), (bt HB1 HB1.size hb0).setCell (HM1.lo_b k hlt) _⟩, by simp [intOf]; omega⟩)
        · obtain rfl : j = q := by omega
          go_wp2
          go_roundw
          case rel => exact ⟨k + 1, by omega, by go_num, HM1.congr (fillR_next powT n j k), HB1⟩
          case measure => simp [intOf]; omega
    · obtain rfl : k = n := by omega
      go_wp2
      go_ret2
      exact ⟨g, cap, bs, rfl, hcap, (HM.congr (fillR_all powT k q)).wide HB0.size, bt HB0 HB0.size HB⟩
end Go.Proofs.Ytalinkpfklhgaaa.RowsW
