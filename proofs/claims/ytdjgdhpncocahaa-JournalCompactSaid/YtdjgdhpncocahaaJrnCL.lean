/- The law JournalCompact walked. -/
import Derived.Test.YtdjgdhpncocahaaJrnC
import Derived.Deep.Upon
set_option linter.unusedVariables false
set_option linter.unusedSimpArgs false
namespace Go.Proofs.Ytdjgdhpncocahaa.JrnW
open Go.RowKit Go.Proofs.Ytdjgdhpncocahaa.Base Go.Proofs.Ytdjgdhpncocahaa.TapeP Go.Proofs.Ytdjgdhpncocahaa.TapeW Go.Proofs.Ytdjgdhpncocahaa.CrcP Go.Proofs.Ytdjgdhpncocahaa.CrcW Go.Proofs.Ytdjgdhpncocahaa.JrnP Go.Proofs.Ytdjgdhpncocahaa.BuildW Go.Proofs.Ytdjgdhpncocahaa.EqsW Go.Proofs.Ytdjgdhpncocahaa.JrnI
attribute [-go_sem] Builtin.append_
theorem append_zero (B : Nat) (x : Option Addr) (k : Nat) (W : World) : (Builtin.append_ #[26, 26] 26 #[.slice (some ⟨B, 0, none⟩) 1 1, .slice x 0 k]).run Try.prog W = .ok (.slice (some ⟨B, 0, none⟩) 1 1) W := by
  obtain ⟨i0, hi, hz0, hz1, hz2⟩ := info_parts info_str
  cases x with
  | none => exact run_append_nothing W _ _ _ 9 i0 Try.underlying26 hi _ 1 1 (Nat.le_refl _) _ (Src.ofNil W Try.underlying26 k)
  | some a => exact run_append_nothing W _ _ _ 9 i0 Try.underlying26 hi _ 1 1 (Nat.le_refl _) _ (Src.ofSlice W Try.underlying26 a 0 k [] (by simp) (fun j u h => by simp at h) (fun _ h => by cases h))
theorem own_one (w : World) (s : ByteArray) : (w.alloc (.cells #[.string s] 9)).ownsRow w.heap.size 9 1 (.slice (some ⟨w.heap.size, 0, none⟩) 1 1) 1 (sv [s]) :=
  ⟨rfl, .inr ⟨w.heap.size, 1, #[.string s], rfl, Nat.le_refl _, World.alloc_heap_new w _, Nat.le_refl _, by unfold maxLen; omega, rfl, rfl⟩⟩
theorem strs_news {w : World} {g off n : Nat} {ss : List ByteArray} (h : Strs w (some ⟨g, off, none⟩) n ss) : ∀ j u, (sv ss)[j]? = some u → w.cell? ((⟨g, off, none⟩ : Addr).add j) = some u := by
  intro j u hj
  have hjl : j < ss.length := by
    rcases Nat.lt_or_ge j ss.length with h' | h'
    · exact h'
    · rw [List.getElem?_eq_none (by rw [sv_length]; exact h')] at hj; cases hj
  have hl := h.len
  obtain ⟨g', off', e, hc⟩ := h.block (by omega)
  cases e
  rw [show (⟨g, off, none⟩ : Addr).add j = ⟨g, off + j, none⟩ by cases j <;> simp [Addr.add], hc j hjl]
  simpa [sv, hjl] using hj

set_option maxRecDepth 100000 in
set_option maxHeartbeats 2000000 in
theorem lawcompact_err (A : Option Addr) (n c : Nat) (ss : List ByteArray) (s : ByteArray) (m : Int) (w : World) (hS : Strs w A n ss) (hn : n ≤ 9223372036854775807) (hnc : n ≤ c) (hb : smallB ss = true) (h1 : s.size ≤ 3000) (hm : m < 0 ∨ (n : Int) < m) :
    Calls Try.prog 15 #[.slice A n c, .string s, .int .i64 m] w fun e w' => e = .returned (.bool true) ∧ Below w.heap.size w w' := by
  have HB : Below w.heap.size w w := Below.refl _ _
  have SM := Lib.hid (small_is A n c ss true hb hn)
  obtain ⟨hlen, htot, hsm⟩ := smallB_yes hb
  have hl := hS.len
  have HM := Lib.hid hsm
  have HC := Lib.hid (fun base b W (h : JAt W base b ss) => compact_err base b ss s m W h (by omega) (by omega))
  clear hb hsm htot
  by_cases h2 : m < 0
  · go_enter Try.func15, Try.ntmps15
    go_wp2_with (first | (go_at_call 56; (with_reducible refine (awake_any _).mono ?_); rintro e w2 ⟨rfl, hd⟩; (first | replace HB := bt HB HB.size hd | replace HB := bt_drew HB HB.size hd | replace HB := bt_drewN HB HB.size hd); clear hd) | (go_at_call 61; (with_reducible refine (SM.out _ (hS.below HB)).mono ?_); rintro e w2 ⟨rfl, rfl⟩) | (go_at_call 62; refine (laid_any _ _ _ ss _ (hS.below HB) HM.out (by omega)).mono ?_; rintro e w3 ⟨b, rfl, hJ, hd⟩; (first | replace HB := bt HB HB.size hd | replace HB := bt_drew HB HB.size hd | replace HB := bt_drewN HB HB.size hd); clear hd) | (go_at_call 63; refine (HC.out _ _ _ hJ).mono ?_; rintro e w4 ⟨rfl, hd⟩; clear hJ; (first | replace HB := bt HB HB.size hd | replace HB := bt_drew HB HB.size hd | replace HB := bt_drewN HB HB.size hd); clear hd))
    all_goals (go_ret; exact ⟨rfl, HB⟩)
  · have h3 : (n : Int) < m := by omega
    go_enter Try.func15, Try.ntmps15
    go_wp2_with (first | (go_at_call 56; (with_reducible refine (awake_any _).mono ?_); rintro e w2 ⟨rfl, hd⟩; (first | replace HB := bt HB HB.size hd | replace HB := bt_drew HB HB.size hd | replace HB := bt_drewN HB HB.size hd); clear hd) | (go_at_call 61; (with_reducible refine (SM.out _ (hS.below HB)).mono ?_); rintro e w2 ⟨rfl, rfl⟩) | (go_at_call 62; refine (laid_any _ _ _ ss _ (hS.below HB) HM.out (by omega)).mono ?_; rintro e w3 ⟨b, rfl, hJ, hd⟩; (first | replace HB := bt HB HB.size hd | replace HB := bt_drew HB HB.size hd | replace HB := bt_drewN HB HB.size hd); clear hd) | (go_at_call 63; refine (HC.out _ _ _ hJ).mono ?_; rintro e w4 ⟨rfl, hd⟩; clear hJ; (first | replace HB := bt HB HB.size hd | replace HB := bt_drew HB HB.size hd | replace HB := bt_drewN HB HB.size hd); clear hd))
    all_goals (go_ret; exact ⟨rfl, HB⟩)
set_option maxRecDepth 100000 in
set_option maxHeartbeats 2000000 in
theorem lawcompact_some (A : Option Addr) (n c : Nat) (ss : List ByteArray) (s : ByteArray) (q : Nat) (w : World) (hS : Strs w A n ss) (hn : n ≤ 9223372036854775807) (hnc : n ≤ c) (hb : smallB ss = true) (h1 : s.size ≤ 3000) (hq : q < n) :
    Calls Try.prog 15 #[.slice A n c, .string s, .int .i64 (q : Nat)] w fun e w' => e = .returned (.bool true) ∧ Below w.heap.size w w' := by
  have HB : Below w.heap.size w w := Below.refl _ _
  have SM := Lib.hid (small_is A n c ss true hb hn)
  obtain ⟨i0, hi, hz0, hz1, hz2⟩ := info_parts info_str
  obtain ⟨hlen, htot, hsm⟩ := smallB_yes hb
  have hl := hS.len
  have HM := Lib.hid hsm
  have HC := Lib.hid (fun base b W (h : JAt W base b ss) => compact_ok base b ss s q W h (by omega) (by omega) (by omega))
  have HK := Lib.hid (fun base b W (h : JAt W base b (s :: ss.drop q)) => by
    have h9 := all_jat base b _ (by simp; omega) W h
    exact h9.mono (R' := fun e W' => ∃ A c, e = .returned (.slice A (1 + (n - q)) c) ∧ Strs W' A (1 + (n - q)) (s :: ss.drop q) ∧ Below W.heap.size W W') (by
      rintro e w' ⟨A, c, h1, h2, _, _, h3⟩
      have hL : (s :: ss.drop q).length = (1 + (n - q)) := by simp; omega
      rw [hL] at h1 h2
      exact ⟨A, c, h1, h2, h3⟩))
  have HSK := Lib.hid (fun A1 A2 c1 c2 W (h1 : Strs W A1 (1 + (n - q)) (s :: ss.drop q)) (h2 : Strs W A2 (1 + (n - q)) (s :: ss.drop q)) => by
    have h9 := same_texts A1 A2 (1 + (n - q)) c1 (1 + (n - q)) c2 _ _ W h1 h2 (by omega)
    rw [eqs_refl] at h9
    exact h9)
  have HA := Lib.hid (fun base b W (h : JAt W base b ss) => by
    have h9 := all_jat base b _ (by omega) W h
    exact h9.mono (R' := fun e W' => ∃ A c, e = .returned (.slice A n c) ∧ Strs W' A n ss ∧ Below W.heap.size W W') (by
      rintro e w' ⟨A, c, h1, h2, _, _, h3⟩
      rw [hl] at h1 h2
      exact ⟨A, c, h1, h2, h3⟩))
  have HSA := Lib.hid (fun A1 A2 c1 c2 W (h1 : Strs W A1 n ss) (h2 : Strs W A2 n ss) => by
    have h9 := same_texts A1 A2 n c1 n c2 _ _ W h1 h2 (by omega)
    rw [eqs_refl] at h9
    exact h9)
  have h3 : decide (n < q) = false := by simp; omega
  clear hb hsm htot
  go_enter Try.func15, Try.ntmps15
  go_upto_region 7 with (first | (go_at_call 56; (with_reducible refine (awake_any _).mono ?_); rintro e w2 ⟨rfl, hd⟩; (first | replace HB := bt HB HB.size hd | replace HB := bt_drew HB HB.size hd | replace HB := bt_drewN HB HB.size hd); clear hd) | (go_at_call 61; (with_reducible refine (SM.out _ (hS.below HB)).mono ?_); rintro e w2 ⟨rfl, rfl⟩) | (go_at_call 62; refine (laid_any _ _ _ ss _ (hS.below HB) HM.out (by omega)).mono ?_; rintro e w3 ⟨b, rfl, hJ, hd⟩; (first | replace HB := bt HB HB.size hd | replace HB := bt_drew HB HB.size hd | replace HB := bt_drewN HB HB.size hd); clear hd) | (go_at_call 63; refine (HC.out _ _ _ hJ).mono ?_; rintro e w4 ⟨O, rfl, hJ2, hd⟩; replace hJ := hJ.below hd; (first | replace HB := bt HB HB.size hd | replace HB := bt_drew HB HB.size hd | replace HB := bt_drewN HB HB.size hd); clear hd))
  clear h3
  have hSq := hS.below HB
  obtain ⟨g, off, rfl, _⟩ := hSq.block (by omega)
  have hSd := strs_drop hSq rfl q (by omega)
  have hal := (Below.refl w4.heap.size w4).alloc (Nat.le_refl _) (.cells #[.string s] 9)
  have hne : c ≠ q := by omega
  obtain ⟨v', w5, hrun, hown, hgrow, _⟩ := run_append_own (P := Try.prog) (w4.alloc (.cells #[.string s] 9)) w4.heap.size 26 26 9 i0 (.string (str [])) 1 16 Try.underlying26 hi hz0 hz1 hz2 rfl (by decide) (.slice (some ⟨w4.heap.size, 0, none⟩) 1 1) 1 (sv [s]) (own_one w4 s) ⟨g, off + q, none⟩ (n - q) (c - q) (sv (ss.drop q)) (by rw [sv_length, List.length_drop]; omega) (strs_news (hSd.below hal)) (fun u hu => by obtain ⟨t, _, rfl⟩ := List.mem_map.1 hu; rfl) (by unfold maxLen; omega) (by omega) (by simp)
  have hd : Below w4.heap.size w4 w5 := hal.grown hgrow (by simp) fun j ej => by
    have : w4.heap.size = j := by simpa [Value.ownBlock] using ej
    omega
  obtain ⟨A5, c5, rfl, hS5⟩ := own_strs (ss := s :: ss.drop q) hown
  replace hJ := hJ.below hd
  replace hJ2 := hJ2.below hd
  (first | replace HB := bt HB HB.size hd | replace HB := bt_drew HB HB.size hd | replace HB := bt_drewN HB HB.size hd); clear hd
  go_upto_region 8 with fail
  clear hrun
  (go_wp2_with (first | (go_at_call 64; refine (HK.out _ _ _ hJ2).mono ?_; rintro e w6 ⟨A6, c6, rfl, hS6, hd⟩; replace hJ := hJ.below hd; replace hS5 := hS5.below hd; clear hJ2; (first | replace HB := bt HB HB.size hd | replace HB := bt_drew HB HB.size hd | replace HB := bt_drewN HB HB.size hd); clear hd) | (go_at_call 58; refine (HSK.out _ _ _ _ _ hS6 hS5).mono ?_; rintro e w7 ⟨rfl, hd⟩; replace hJ := hJ.below hd; clear hS5 hS6; (first | replace HB := bt HB HB.size hd | replace HB := bt_drew HB HB.size hd | replace HB := bt_drewN HB HB.size hd); clear hd) | (go_at_call 64; refine (HA.out _ _ _ hJ).mono ?_; rintro e w8 ⟨A8, c8, rfl, hS8, hd⟩; clear hJ; (first | replace HB := bt HB HB.size hd | replace HB := bt_drew HB HB.size hd | replace HB := bt_drewN HB HB.size hd); clear hd) | (go_at_call 58; refine (HSA.out _ _ _ _ _ hS8 (hS.below HB)).mono ?_; rintro e w9 ⟨rfl, hd⟩; clear hS8; (first | replace HB := bt HB HB.size hd | replace HB := bt_drew HB HB.size hd | replace HB := bt_drewN HB HB.size hd); clear hd)))
  all_goals go_ret
  all_goals exact ⟨rfl, HB⟩
set_option maxRecDepth 100000 in
set_option maxHeartbeats 2000000 in
theorem lawcompact_none (A : Option Addr) (n c : Nat) (ss : List ByteArray) (s : ByteArray) (w : World) (hS : Strs w A n ss) (hn : n ≤ 9223372036854775807) (hnc : n ≤ c) (hb : smallB ss = true) (h1 : s.size ≤ 3000) :
    Calls Try.prog 15 #[.slice A n c, .string s, .int .i64 (n : Nat)] w fun e w' => e = .returned (.bool true) ∧ Below w.heap.size w w' := by
  have HB : Below w.heap.size w w := Below.refl _ _
  have SM := Lib.hid (small_is A n c ss true hb hn)
  obtain ⟨i0, hi, hz0, hz1, hz2⟩ := info_parts info_str
  obtain ⟨hlen, htot, hsm⟩ := smallB_yes hb
  have hl := hS.len
  have HM := Lib.hid hsm
  have HC := Lib.hid (fun base b W (h : JAt W base b ss) => compact_ok base b ss s n W h (by omega) (by omega) (by omega))
  have HK := Lib.hid (fun base b W (h : JAt W base b (s :: ss.drop n)) => by
    have h9 := all_jat base b _ (by simp; omega) W h
    exact h9.mono (R' := fun e W' => ∃ A c, e = .returned (.slice A 1 c) ∧ Strs W' A 1 (s :: ss.drop n) ∧ Below W.heap.size W W') (by
      rintro e w' ⟨A, c, h1, h2, _, _, h3⟩
      have hL : (s :: ss.drop n).length = 1 := by simp; omega
      rw [hL] at h1 h2
      exact ⟨A, c, h1, h2, h3⟩))
  have HSK := Lib.hid (fun A1 A2 c1 c2 W (h1 : Strs W A1 1 (s :: ss.drop n)) (h2 : Strs W A2 1 (s :: ss.drop n)) => by
    have h9 := same_texts A1 A2 1 c1 1 c2 _ _ W h1 h2 (by omega)
    rw [eqs_refl] at h9
    exact h9)
  have HA := Lib.hid (fun base b W (h : JAt W base b ss) => by
    have h9 := all_jat base b _ (by omega) W h
    exact h9.mono (R' := fun e W' => ∃ A c, e = .returned (.slice A n c) ∧ Strs W' A n ss ∧ Below W.heap.size W W') (by
      rintro e w' ⟨A, c, h1, h2, _, _, h3⟩
      rw [hl] at h1 h2
      exact ⟨A, c, h1, h2, h3⟩))
  have HSA := Lib.hid (fun A1 A2 c1 c2 W (h1 : Strs W A1 n ss) (h2 : Strs W A2 n ss) => by
    have h9 := same_texts A1 A2 n c1 n c2 _ _ W h1 h2 (by omega)
    rw [eqs_refl] at h9
    exact h9)
  have h3 : decide (n < n) = false := by simp
  clear hb hsm htot
  go_enter Try.func15, Try.ntmps15
  go_upto_region 7 with (first | (go_at_call 56; (with_reducible refine (awake_any _).mono ?_); rintro e w2 ⟨rfl, hd⟩; (first | replace HB := bt HB HB.size hd | replace HB := bt_drew HB HB.size hd | replace HB := bt_drewN HB HB.size hd); clear hd) | (go_at_call 61; (with_reducible refine (SM.out _ (hS.below HB)).mono ?_); rintro e w2 ⟨rfl, rfl⟩) | (go_at_call 62; refine (laid_any _ _ _ ss _ (hS.below HB) HM.out (by omega)).mono ?_; rintro e w3 ⟨b, rfl, hJ, hd⟩; (first | replace HB := bt HB HB.size hd | replace HB := bt_drew HB HB.size hd | replace HB := bt_drewN HB HB.size hd); clear hd) | (go_at_call 63; refine (HC.out _ _ _ hJ).mono ?_; rintro e w4 ⟨O, rfl, hJ2, hd⟩; replace hJ := hJ.below hd; (first | replace HB := bt HB HB.size hd | replace HB := bt_drew HB HB.size hd | replace HB := bt_drewN HB HB.size hd); clear hd))
  clear h3
  have hd := (Below.refl w4.heap.size w4).alloc (Nat.le_refl _) (.cells #[.string s] 9)
  obtain ⟨A5, c5, e5, hS5⟩ := own_strs (ss := [s]) (own_one w4 s)
  obtain ⟨rfl, rfl⟩ : A5 = some ⟨w4.heap.size, 0, none⟩ ∧ c5 = 1 := by
    simp only [Value.slice.injEq] at e5
    exact ⟨e5.1.symm, e5.2.2.symm⟩
  rw [show [s] = s :: ss.drop n by rw [List.drop_of_length_le (by omega)]] at hS5
  have hz := fun x k => append_zero w4.heap.size x k (w4.alloc (.cells #[.string s] 9))
  clear e5
  go_upto_region 8 with fail
  all_goals clear hz
  all_goals replace hJ := hJ.below hd
  all_goals replace hJ2 := hJ2.below hd
  all_goals replace HB := bt HB HB.size hd
  all_goals clear hd
  all_goals generalize w4.alloc (.cells #[.string s] 9) = w5 at hJ hJ2 HB hS5 ⊢
  all_goals (go_wp2_with (first | (go_at_call 64; refine (HK.out _ _ _ hJ2).mono ?_; rintro e w6 ⟨A6, c6, rfl, hS6, hd⟩; replace hJ := hJ.below hd; replace hS5 := hS5.below hd; clear hJ2; (first | replace HB := bt HB HB.size hd | replace HB := bt_drew HB HB.size hd | replace HB := bt_drewN HB HB.size hd); clear hd) | (go_at_call 58; refine (HSK.out _ _ _ _ _ hS6 hS5).mono ?_; rintro e w7 ⟨rfl, hd⟩; replace hJ := hJ.below hd; clear hS5 hS6; (first | replace HB := bt HB HB.size hd | replace HB := bt_drew HB HB.size hd | replace HB := bt_drewN HB HB.size hd); clear hd) | (go_at_call 64; refine (HA.out _ _ _ hJ).mono ?_; rintro e w8 ⟨A8, c8, rfl, hS8, hd⟩; clear hJ; (first | replace HB := bt HB HB.size hd | replace HB := bt_drew HB HB.size hd | replace HB := bt_drewN HB HB.size hd); clear hd) | (go_at_call 58; refine (HSA.out _ _ _ _ _ hS8 (hS.below HB)).mono ?_; rintro e w9 ⟨rfl, hd⟩; clear hS8; (first | replace HB := bt HB HB.size hd | replace HB := bt_drew HB HB.size hd | replace HB := bt_drewN HB HB.size hd); clear hd)))
  all_goals go_ret
  all_goals exact ⟨rfl, HB⟩
set_option maxRecDepth 100000 in
set_option maxHeartbeats 1000000 in
theorem lawcompact_any (A : Option Addr) (n c : Nat) (ss : List ByteArray) (s : ByteArray) (m : Int) (w : World) (hS : Strs w A n ss) (hn : n ≤ 9223372036854775807) (hnc : n ≤ c) (hs : s.size ≤ 140737488351232) :
    Calls Try.prog 15 #[.slice A n c, .string s, .int .i64 m] w fun e w' => e = .returned (.bool true) ∧ Below w.heap.size w w' := by
  have HB : Below w.heap.size w w := Below.refl _ _
  cases hb : smallB ss with
  | false =>
    have SM := Lib.hid (small_is A n c ss false hb hn)
    clear hb
    go_enter Try.func15, Try.ntmps15
    go_wp2_with (first | (go_at_call 56; (with_reducible refine (awake_any _).mono ?_); rintro e w2 ⟨rfl, hd⟩; (first | replace HB := bt HB HB.size hd | replace HB := bt_drew HB HB.size hd | replace HB := bt_drewN HB HB.size hd); clear hd) | (go_at_call 61; (with_reducible refine (SM.out _ (hS.below HB)).mono ?_); rintro e w2 ⟨rfl, rfl⟩))
    all_goals (go_ret; exact ⟨rfl, HB⟩)
  | true =>
    by_cases h1 : 3000 < s.size
    · have SM := Lib.hid (small_is A n c ss true hb hn)
      clear hb
      go_enter Try.func15, Try.ntmps15
      go_wp2_with (first | (go_at_call 56; (with_reducible refine (awake_any _).mono ?_); rintro e w2 ⟨rfl, hd⟩; (first | replace HB := bt HB HB.size hd | replace HB := bt_drew HB HB.size hd | replace HB := bt_drewN HB HB.size hd); clear hd) | (go_at_call 61; (with_reducible refine (SM.out _ (hS.below HB)).mono ?_); rintro e w2 ⟨rfl, rfl⟩))
      all_goals (go_ret; exact ⟨rfl, HB⟩)
    · by_cases hm : m < 0 ∨ (n : Int) < m
      · exact lawcompact_err A n c ss s m w hS hn hnc hb (by omega) hm
      · obtain ⟨q, rfl⟩ : ∃ q : Nat, m = (q : Int) := ⟨m.toNat, by omega⟩
        by_cases hq : q = n
        · subst hq
          exact lawcompact_none A q c ss s w hS hn hnc hb (by omega)
        · exact lawcompact_some A n c ss s q w hS hn hnc hb (by omega) (by omega)
end Go.Proofs.Ytdjgdhpncocahaa.JrnW
