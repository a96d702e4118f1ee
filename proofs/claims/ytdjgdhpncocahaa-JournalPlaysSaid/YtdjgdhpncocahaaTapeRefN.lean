/- The document's numbers and texts as bytes. -/
import Derived.Test.YtdjgdhpncocahaaTapeTexts
set_option linter.unusedVariables false
set_option linter.unusedSimpArgs false
namespace Go.Proofs.Ytdjgdhpncocahaa.TapeW
open Go.RowKit Go.Proofs.Ytdjgdhpncocahaa.Base Go.Proofs.Ytdjgdhpncocahaa.TapeP Go.Proofs.Ytdjgdhpncocahaa.BuildW

theorem one_at (x : Nat) (hx : x < 256) (W : World) (B : Nat) (h : W.cell? ⟨B, 0, none⟩ = some (.int .u8 (x : Int))) :
    (convert 42 9 (.slice (some ⟨B, 0, none⟩) 1 1)).run Try.prog W = .ok (.string (str [UInt8.ofNat x])) W := by
  have hB : Bytes W (some ⟨B, 0, none⟩) [x] := by
    refine ⟨fun y hy => by simp only [List.mem_cons, List.mem_nil_iff, or_false] at hy; omega, by simp, Or.inr ⟨_, _, rfl, fun j hj => ?_⟩⟩
    simp only [List.length_cons, List.length_nil] at hj
    obtain rfl : j = 0 := by omega
    exact h
  exact conv_str Try.underlying42 Try.underlying5 Try.underlying9 _ _ _ 1 1 hB rfl
theorem one_byte (x : Nat) (hx : x < 256) (W : World) :
    (convert 42 9 (.slice (some ⟨W.heap.size, 0, none⟩) 1 1)).run Try.prog (W.alloc (.cells #[.int .u8 (x : Int)] 5)) = .ok (.string (str [UInt8.ofNat x])) (W.alloc (.cells #[.int .u8 (x : Int)] 5)) :=
  one_at x hx _ _ (by rw [cell_of_row _ _ _ _ _ _ (heap_alloc_new _ _)]; rfl)

set_option maxRecDepth 100000 in
set_option maxHeartbeats 1000000 in
theorem rnum_in : ∀ (n : Nat) (w : World), n ≤ 9007199254740991 →
    Calls Try.prog 43 #[.int .i64 n] w fun e w' => e = .returned (.string (str (num n))) ∧ Below w.heap.size w w' := by
  intro n
  induction n using Nat.strongRecOn with
  | _ n ih =>
    intro w hn
    have HB : Below w.heap.size w w := Below.refl _ _
    by_cases h : n < 128
    · rw [num_small h]
      have hone := one_byte n (by omega)
      go_enter Try.func43, Try.ntmps43
      go_wp2
      go_ret
      exact ⟨rfl, (Below.refl _ _).alloc (Nat.le_refl _) _⟩
    · rw [num_big h]
      have hone : ∀ W : World, (convert 42 9 (.slice (some ⟨W.heap.size, 0, none⟩) 1 1)).run Try.prog (W.alloc (.cells #[.int .u8 ((n : Int) % 128 + 128)] 5)) = .ok (.string (str [UInt8.ofNat (128 + n % 128)])) (W.alloc (.cells #[.int .u8 ((n : Int) % 128 + 128)] 5)) := fun W => by
        have h := one_byte (128 + n % 128) (by omega) W
        have e : ((128 + n % 128 : Nat) : Int) = (n : Int) % 128 + 128 := by omega
        rw [e] at h; exact h
      have hone2 : ∀ W : World, (convert 42 9 (.slice (some ⟨W.heap.size, 0, none⟩) 1 1)).run Try.prog (W.alloc (.cells #[.int .u8 ((n : Int) % 128 + 128)] 5)).drew = .ok (.string (str [UInt8.ofNat (128 + n % 128)])) (W.alloc (.cells #[.int .u8 ((n : Int) % 128 + 128)] 5)).drew := fun W => hone W.drew
      have m1 : (n : Int).tmod 128 = (n : Int) % 128 := Int.tmod_eq_emod_of_nonneg (by omega)
      have m2 : (n : Int).tdiv 128 = ((n / 128 : Nat) : Int) := by rw [Int.tdiv_eq_ediv_of_nonneg (by omega)]; omega
      have m3 : IntKind.i64.wrap (128 + (n : Int) % 128) = 128 + (n : Int) % 128 := IntWalk.i64_in _ (by omega)
      have m4 : IntKind.u8.wrap (128 + (n : Int) % 128) = (n : Int) % 128 + 128 := by
        rw [IntKind.wrap]; simp [IntKind.bits, IntKind.signed]; omega
      have m5 : (n : Int) / 128 = ((n / 128 : Nat) : Int) := by omega
      have H1 := Lib.hid hone
      have hone3 : ∀ W : World, W.cell? ⟨w.heap.size, 0, none⟩ = some (.int .u8 ((n : Int) % 128 + 128)) → (convert 42 9 (.slice (some ⟨w.heap.size, 0, none⟩) 1 1)).run Try.prog W = .ok (.string (str [UInt8.ofNat (128 + n % 128)])) W := fun W h => by
        refine one_at (128 + n % 128) (by omega) W _ ?_
        have e : ((128 + n % 128 : Nat) : Int) = (n : Int) % 128 + 128 := by omega
        rw [e]; exact h
      have H3 := Lib.hid hone3
      clear hone3
      have hcell : ((w.alloc (.cells #[.int .u8 ((n : Int) % 128 + 128)] 5)).drew).cell? ⟨w.heap.size, 0, none⟩ = some (.int .u8 ((n : Int) % 128 + 128)) := by
        show (w.alloc _).cell? _ = _
        rw [cell_of_row _ _ _ _ _ _ (heap_alloc_new _ _)]; rfl
      have hw1 := hone2 w
      clear hone hone2
      have IH := ih (n / 128) (by omega)
      clear ih
      have hap : str [UInt8.ofNat (128 + n % 128)] ++ str (num (n / 128)) = str (UInt8.ofNat (128 + n % 128) :: num (n / 128)) := by rw [str_append]; rfl
      have hsz : (str [UInt8.ofNat (128 + n % 128)]).size + (str (num (n / 128))).size ≤ 9223372036854775807 := by
        have := num_length 7 (n / 128) (by omega)
        rw [str_size, str_size, List.length_singleton]; omega
      go_enter Try.func43, Try.ntmps43
      have hq9 : n / 128 ≤ 9007199254740991 := by omega
      generalize n / 128 = q at m2 m5 IH hap hsz hq9 ⊢
      have m6 : IntKind.i64.wrap (q : Int) = (q : Int) := IntWalk.i64_in _ (by omega)
      generalize UInt8.ofNat (128 + n % 128) = b at H1 H3 hw1 hap hsz ⊢
      go_upto_region 5 with fail
      go_region_with (go_at_call 43; (with_reducible refine (IH _ hq9).mono ?_); rintro e w2 ⟨rfl, hd⟩; have hw2 := H1.out w2; (first | (replace HB := bt_drew HB HB.size hd) | (replace HB := bt_drew ((Below.refl w.heap.size w).alloc (Nat.le_refl _) (.cells #[.int .u8 ((n : Int) % 128 + 128)] 5)) ((Below.refl w.heap.size w).alloc (Nat.le_refl _) (.cells #[.int .u8 ((n : Int) % 128 + 128)] 5)).size hd; have hw3 := H3.out w2 (cell_below hd hcell))); clear hd)
      all_goals go_wp2
      all_goals go_ret
      all_goals (first | exact ⟨rfl, HB⟩ | exact ⟨rfl, HB.alloc HB.size _⟩)
set_option maxRecDepth 100000 in
set_option maxHeartbeats 400000 in
theorem rnum_out (n : Int) (w : World) (h : n < 0 ∨ 9007199254740991 < n) :
    Calls Try.prog 43 #[.int .i64 n] w fun e w' => e = .returned (.string (str [])) ∧ Below w.heap.size w w' := by
  by_cases h1 : n < 0
  · clear h
    go_enter Try.func43, Try.ntmps43
    go_wp2
    go_ret
    exact ⟨rfl, Below.refl _ _⟩
  · have h2 : 9007199254740991 < n := by omega
    clear h
    go_enter Try.func43, Try.ntmps43
    go_wp2
    go_ret
    exact ⟨rfl, Below.refl _ _⟩
theorem rnum_any (n : Int) (w : World) :
    Calls Try.prog 43 #[.int .i64 n] w fun e w' => e = .returned (.string (str (numI n))) ∧ Below w.heap.size w w' := by
  by_cases h : n < 0 ∨ 9007199254740991 < n
  · rw [numI_out h]; exact rnum_out n w h
  · rw [numI_in (by omega) (by omega)]
    obtain ⟨m, rfl⟩ := Int.eq_ofNat_of_zero_le (show 0 ≤ n by omega)
    exact rnum_in m w (by omega)
set_option maxRecDepth 100000 in
set_option maxHeartbeats 400000 in
theorem rwhole_any (n : Int) (w : World) :
    Calls Try.prog 46 #[.int .i64 n] w fun e w' => e = .returned (.string (str (wholeI n))) ∧ Below w.heap.size w w' := by
  unfold wholeI
  by_cases h : n < -4503599627370496 ∨ 4503599627370496 ≤ n
  · rw [if_pos h]
    by_cases h1 : n < -4503599627370496
    · clear h
      go_enter Try.func46, Try.ntmps46
      go_wp2
      go_ret
      exact ⟨rfl, Below.refl _ _⟩
    · have h2 : 4503599627370495 < n := by omega
      clear h
      go_enter Try.func46, Try.ntmps46
      go_wp2
      go_ret
      exact ⟨rfl, Below.refl _ _⟩
  · rw [if_neg h]
    have h3 : -4503599627370496 ≤ n := by omega
    have h4 : n ≤ 4503599627370495 := by omega
    clear h
    by_cases h1 : n < 0
    · rw [if_pos h1]
      go_enter Try.func46, Try.ntmps46
      go_wp2_with (go_at_call 43; (with_reducible refine (rnum_any _ _).mono ?_); rintro e w2 ⟨rfl, HB⟩)
      go_ret
      exact ⟨by first | rfl | (congr 4; omega), HB⟩
    · rw [if_neg h1]
      go_enter Try.func46, Try.ntmps46
      go_wp2_with (go_at_call 43; (with_reducible refine (rnum_any _ _).mono ?_); rintro e w2 ⟨rfl, HB⟩)
      go_ret
      exact ⟨by first | rfl | (congr 4; omega), HB⟩
set_option maxRecDepth 100000 in
set_option maxHeartbeats 400000 in
theorem rtext_any (s : ByteArray) (w : World) (hs : s.size ≤ 140737488351232) :
    Calls Try.prog 44 #[.string s] w fun e w' => e = .returned (.string (str (text s.data.toList))) ∧ Below w.heap.size w w' := by
  have hap : str (num s.size) ++ s = str (text s.data.toList) := by
    rw [str_append, str_list]; unfold text; rw [list_size]
  have hsz : (str (num s.size)).size + s.size ≤ 9223372036854775807 := by
    have := num_length 7 s.size (by omega)
    rw [str_size]; omega
  go_enter Try.func44, Try.ntmps44
  go_wp2_with (go_at_call 43; (with_reducible refine (rnum_in _ _ (by omega)).mono ?_); rintro e w2 ⟨rfl, HB⟩)
  go_ret
  exact ⟨rfl, HB⟩
end Go.Proofs.Ytdjgdhpncocahaa.TapeW
