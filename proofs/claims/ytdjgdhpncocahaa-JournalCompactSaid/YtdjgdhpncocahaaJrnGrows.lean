/- The law JournalGrows walked. -/
import Derived.Test.YtdjgdhpncocahaaJrnAgain
set_option linter.unusedVariables false
set_option linter.unusedSimpArgs false
namespace Go.Proofs.Ytdjgdhpncocahaa.JrnW
open Go.RowKit Go.Proofs.Ytdjgdhpncocahaa.Base Go.Proofs.Ytdjgdhpncocahaa.TapeP Go.Proofs.Ytdjgdhpncocahaa.TapeW Go.Proofs.Ytdjgdhpncocahaa.CrcP Go.Proofs.Ytdjgdhpncocahaa.CrcW Go.Proofs.Ytdjgdhpncocahaa.JrnP Go.Proofs.Ytdjgdhpncocahaa.BuildW Go.Proofs.Ytdjgdhpncocahaa.EqsW

theorem append_own (base b : Nat) (ss : List ByteArray) (s : ByteArray) (w : World) (hJ : JAt w base b ss) (hs : s.size ≤ 1048576) (hl : ss.length ≤ 1000000) :
    Calls Try.prog 66 #[.pointer (some ⟨b, 0, none⟩), .string s] w fun e w' => e = .returned (.int .i64 0) ∧ JAt w' base b (ss ++ [s]) ∧ Below base w w' :=
  (append_ok base b ss s w w hJ hs hl (Below.refl _ _) (by have := hJ.lo; have := hJ.lt; omega)).mono fun _ _ ⟨h1, h2, h3, _⟩ => ⟨h1, h2, h3⟩
theorem small_is (A : Option Addr) (n c : Nat) (ss : List ByteArray) (b : Bool) (hb : smallB ss = b) (hn : n ≤ 9223372036854775807) (w : World) (hS : Strs w A n ss) :
    Calls Try.prog 61 #[.slice A n c] w fun e w' => e = .returned (.int .i64 (if b then 1 else 0)) ∧ w = w' := by
  have := small_any A n c ss w hS hn
  unfold smallV at this
  rw [hb] at this
  exact this
set_option maxRecDepth 100000 in
set_option maxHeartbeats 1000000 in
theorem grows_any (A : Option Addr) (n c : Nat) (ss : List ByteArray) (s : ByteArray) (w : World) (hS : Strs w A n ss) (hn : n ≤ 9223372036854775807) (hs : s.size ≤ 140737488351232) :
    Calls Try.prog 16 #[.slice A n c, .string s] w fun e w' => e = .returned (.bool true) ∧ Below w.heap.size w w' := by
  have HB : Below w.heap.size w w := Below.refl _ _
  cases hb : smallB ss with
  | false =>
    have SM := Lib.hid (small_is A n c ss false hb hn)
    clear hb
    go_enter Try.func16, Try.ntmps16
    go_wp2_with (first | (go_at_call 56; (with_reducible refine (awake_any _).mono ?_); rintro e w2 ⟨rfl, hd⟩; (first | replace HB := bt HB HB.size hd | replace HB := bt_drew HB HB.size hd | replace HB := bt_drewN HB HB.size hd); clear hd) | (go_at_call 61; (with_reducible refine (SM.out _ (hS.below HB)).mono ?_); rintro e w2 ⟨rfl, rfl⟩))
    all_goals (go_ret; exact ⟨rfl, HB⟩)
  | true =>
    have SM := Lib.hid (small_is A n c ss true hb hn)
    by_cases h1 : 3000 < s.size
    · clear hb
      go_enter Try.func16, Try.ntmps16
      go_wp2_with (first | (go_at_call 56; (with_reducible refine (awake_any _).mono ?_); rintro e w2 ⟨rfl, hd⟩; (first | replace HB := bt HB HB.size hd | replace HB := bt_drew HB HB.size hd | replace HB := bt_drewN HB HB.size hd); clear hd) | (go_at_call 61; (with_reducible refine (SM.out _ (hS.below HB)).mono ?_); rintro e w2 ⟨rfl, rfl⟩))
      all_goals (go_ret; exact ⟨rfl, HB⟩)
    · obtain ⟨hlen, htot, hsm⟩ := smallB_yes hb
      have hl := hS.len
      have hsz : s.size ≤ 1048576 := by omega
      have htot2 : total (ss ++ [s]) ≤ 6000 := by
        rw [total_append]
        show total ss + (s.size + 0) ≤ 6000
        omega
      have hlen2 : (ss ++ [s]).length = ss.length + 1 := by simp
      have hb1 : ∀ base b W, JAt W base b ss → Calls Try.prog 60 #[.pointer (some ⟨b, 0, none⟩)] W fun e w' => e = .returned (.string (str (frames (lst ss)))) ∧ Below W.heap.size W w' := fun base b W h => jbytes_any base b _ W h (by omega) (by omega)
      have hb2 : ∀ base b W, JAt W base b (ss ++ [s]) → Calls Try.prog 60 #[.pointer (some ⟨b, 0, none⟩)] W fun e w' => e = .returned (.string (str (frames (lst (ss ++ [s]))))) ∧ Below W.heap.size W w' := fun base b W h => jbytes_any base b _ W h (by omega) (by omega)
      have hap : str (frames (lst ss)) ++ str (frame s.data.toList) = str (frames (lst (ss ++ [s]))) := by
        rw [lst_append, frames_append, str_append]
        show _ = str (_ ++ (frame s.data.toList ++ []))
        rw [List.append_nil]
        rfl
      have hz1 : (str (frames (lst ss))).size + (str (frame s.data.toList)).size ≤ 9223372036854775807 := by
        have h1 := frames_le ss hsm
        have h2 := frame_le s hsz
        rw [str_size, str_size]
        omega
      have hll : ∀ base b W, JAt W base b (ss ++ [s]) → Calls Try.prog 67 #[.pointer (some ⟨b, 0, none⟩)] W fun e w' => e = .returned (.int .i64 ((n : Int) + 1)) ∧ W = w' := fun base b W h => by
        have := jlen_any base b _ W h
        rw [hlen2, hl] at this
        exact this
      have B1 := Lib.hid hb1
      have B2 := Lib.hid hb2
      have AP := Lib.hid hap
      have LL := Lib.hid hll
      have HM := Lib.hid hsm
      have hn40 : n ≤ 40 := by omega
      clear hb hb1 hb2 hap hll hsm hlen2 htot htot2
      generalize str (frames (lst (ss ++ [s]))) = f2 at *
      generalize str (frames (lst ss)) = f1 at *
      have hq : (f2.toList == (f1 ++ str (frame s.data.toList)).toList) = true := by rw [AP.out]; simp
      go_enter Try.func16, Try.ntmps16
      go_upto_region 3 with (first | (go_at_call 56; (with_reducible refine (awake_any _).mono ?_); rintro e w2 ⟨rfl, hd⟩; (first | replace HB := bt HB HB.size hd | replace HB := bt_drew HB HB.size hd | replace HB := bt_drewN HB HB.size hd); clear hd) | (go_at_call 61; (with_reducible refine (SM.out _ (hS.below HB)).mono ?_); rintro e w2 ⟨rfl, rfl⟩))
      go_wp2_with (first | (go_at_call 62; refine (laid_any _ _ _ ss _ (hS.below HB) HM.out (by omega)).mono ?_; rintro e w3 ⟨b, rfl, hJ, hd⟩; have HZ := HB.size; (first | replace HB := bt HB HB.size hd | replace HB := bt_drew HB HB.size hd | replace HB := bt_drewN HB HB.size hd); clear hd) | (go_at_call 60; refine (B1.out _ _ _ hJ).mono ?_; rintro e w4 ⟨rfl, hd⟩; replace hJ := hJ.below hd; (first | replace HB := bt HB HB.size hd | replace HB := bt_drew HB HB.size hd | replace HB := bt_drewN HB HB.size hd); clear hd) | (go_at_call 60; refine (B2.out _ _ _ hJ).mono ?_; rintro e w4 ⟨rfl, hd⟩; replace hJ := hJ.below hd; (first | replace HB := bt HB HB.size hd | replace HB := bt_drew HB HB.size hd | replace HB := bt_drewN HB HB.size hd); clear hd) | (go_at_call 65; (with_reducible refine (frame_in _ _ hsz).mono ?_); rintro e w5 ⟨rfl, hd⟩; replace hJ := hJ.below hd; (first | replace HB := bt HB HB.size hd | replace HB := bt_drew HB HB.size hd | replace HB := bt_drewN HB HB.size hd); clear hd) | (go_at_call 66; refine (append_own _ _ _ _ _ hJ hsz (by omega)).mono ?_; rintro e w6 ⟨rfl, hJ, hB6⟩; replace HB := HB.trans (hB6.mono HZ)) | (go_at_call 67; refine (LL.out _ _ _ hJ).mono ?_; rintro e w7 ⟨rfl, rfl⟩))
      all_goals go_ret
      all_goals exact ⟨rfl, HB⟩
end Go.Proofs.Ytdjgdhpncocahaa.JrnW
