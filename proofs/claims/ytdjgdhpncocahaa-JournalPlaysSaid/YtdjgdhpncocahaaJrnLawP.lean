/- The law JournalPlays walked. -/
import Derived.Test.YtdjgdhpncocahaaJrnRef
set_option linter.unusedVariables false
set_option linter.unusedSimpArgs false
namespace Go.Proofs.Ytdjgdhpncocahaa.JrnW
open Go.RowKit Go.Proofs.Ytdjgdhpncocahaa.Base Go.Proofs.Ytdjgdhpncocahaa.TapeP Go.Proofs.Ytdjgdhpncocahaa.TapeW Go.Proofs.Ytdjgdhpncocahaa.CrcP Go.Proofs.Ytdjgdhpncocahaa.CrcW Go.Proofs.Ytdjgdhpncocahaa.JrnP Go.Proofs.Ytdjgdhpncocahaa.BuildW Go.Proofs.Ytdjgdhpncocahaa.EqsW Go.Proofs.Ytdjgdhpncocahaa.JrnI Go.Proofs.Ytdjgdhpncocahaa.JrnR

set_option maxRecDepth 100000 in
set_option maxHeartbeats 2000000 in
theorem lawplays_in (A : Option Addr) (n c : Nat) (ss : List ByteArray) (s : ByteArray) (w : World) (hS : Strs w A n ss) (hn : n ≤ 9223372036854775807) (hb : smallB ss = true) (h1 : s.size ≤ 3000) :
    Calls Try.prog 18 #[.string s, .slice A n c] w fun e w' => e = .returned (.bool true) ∧ Below w.heap.size w w' := by
  have HB : Below w.heap.size w w := Below.refl _ _
  have SM := Lib.hid (small_is A n c _ true hb hn)
  obtain ⟨hlen, htot, hsm⟩ := smallB_yes hb
  have hl := hS.len
  obtain ⟨hk, hfr, hsr⟩ := recs_facts s.data.toList
  rw [list_size] at hk
  have hr1 := fun W => read_any s W (by omega)
  have hr2 := fun W => rjread s W (by omega)
  have hcnt := count_frames (recs s.data.toList).1
  have hlk : (frames (recs s.data.toList).1).length = (recs s.data.toList).2 := by rw [← hfr, List.length_take, list_size]; omega
  have hmm : (recs s.data.toList).1.length = ((recs s.data.toList).1.map str).length := (List.length_map _).symm
  rw [hmm] at hr1 hr2
  have hc2 : ((recs s.data.toList).1.map str).length ≤ 3000 := by omega
  generalize (recs s.data.toList).1.map str = rs at *
  generalize (recs s.data.toList).2 = k at *
  have hby : ∀ base b W, JAt W base b ss → Calls Try.prog 60 #[.pointer (some ⟨b, 0, none⟩)] W fun e w' => e = .returned (.string (str (frames (lst ss)))) ∧ Below W.heap.size W w' := fun base b W h => jbytes_any base b _ W h (by omega) (by omega)
  have hfm : ∀ W, Strs W A n ss → Calls Try.prog 69 #[.slice A n c] W fun e w' => e = .returned (.string (str (frames (lst ss)))) ∧ Below W.heap.size W w' := fun W h => rframes A n c ss W h hsm (by omega) (by omega)
  have hll : ∀ base b W, JAt W base b ss → Calls Try.prog 67 #[.pointer (some ⟨b, 0, none⟩)] W fun e w' => e = .returned (.int .i64 (n : Int)) ∧ W = w' := fun base b W h => by
    have := jlen_any base b _ W h
    rw [hl] at this
    exact this
  have hall : ∀ base b W, JAt W base b ss → Calls Try.prog 64 #[.pointer (some ⟨b, 0, none⟩)] W fun e W' => ∃ A c, e = .returned (.slice A n c) ∧ Strs W' A n ss ∧ n ≤ c ∧ (∀ a, A = some a → W.heap.size ≤ a.block) ∧ Below W.heap.size W W' := fun base b W h => by
    have := all_jat base b _ (by omega) W h
    rwa [hl] at this
  have hsame : ∀ A1 A2 m c1 c2 tt W, m ≤ 3000 → Strs W A1 m tt → Strs W A2 m tt → Calls Try.prog 58 #[.slice A1 m c1, .slice A2 m c2] W fun e w' => e = .returned (.bool true) ∧ Below W.heap.size W w' := fun A1 A2 m c1 c2 tt W hm g1 g2 => by
    have := same_texts A1 A2 m c1 m c2 _ _ W g1 g2 (by omega)
    rwa [eqs_refl] at this
  have hn40 : n ≤ 40 := by omega
  have R1 := Lib.hid hr1
  have R2 := Lib.hid hr2
  have BY := Lib.hid hby
  have FM := Lib.hid hfm
  have LL := Lib.hid hll
  have AL := Lib.hid hall
  have SA := Lib.hid hsame
  have HM := Lib.hid hsm
  clear hr1 hr2 hby hfm hll hall hsame hsm hb hfr hsr hcnt hlk hmm htot
  generalize str (frames (lst ss)) = fs at *
  have hqq : (fs.toList == fs.toList) = true := by simp
  have hkk : ((k : Int) == (k : Int)) = true := int_eq rfl
  go_enter Try.func18, Try.ntmps18
  go_upto_region 3 with (first | (go_at_call 56; (with_reducible refine (awake_any _).mono ?_); rintro e w2 ⟨rfl, hd⟩; (first | replace HB := bt HB HB.size hd | replace HB := bt_drew HB HB.size hd | replace HB := bt_drewN HB HB.size hd); clear hd) | (go_at_call 61; (with_reducible refine (SM.out _ (hS.below HB)).mono ?_); rintro e w2 ⟨rfl, rfl⟩))
  go_wp2_with fail
  refine (R1.out _).mono ?_
  rintro e w3 ⟨v1, rfl, HO, hd⟩
  obtain ⟨A1, c1, rfl, hS1⟩ := own_strs HO
  (first | replace HB := bt HB HB.size hd | replace HB := bt_drew HB HB.size hd | replace HB := bt_drewN HB HB.size hd); clear hd
  clear HO
  go_wp2_with fail
  refine (R2.out _).mono ?_
  rintro e w4 ⟨v2, rfl, HO, hd⟩
  obtain ⟨A2, c2, rfl, hS2⟩ := own_strs HO
  replace hS1 := hS1.below hd
  (first | replace HB := bt HB HB.size hd | replace HB := bt_drew HB HB.size hd | replace HB := bt_drewN HB HB.size hd); clear hd
  clear HO R1 R2
  go_wp2_with fail
  refine (laid_any _ _ _ ss _ (hS.below HB) HM.out (by omega)).mono ?_
  rintro e w5 ⟨b, rfl, hJ, hd⟩
  replace hS1 := hS1.below hd
  replace hS2 := hS2.below hd
  (first | replace HB := bt HB HB.size hd | replace HB := bt_drew HB HB.size hd | replace HB := bt_drewN HB HB.size hd); clear hd
  go_wp2_with fail
  refine (SA.out _ _ _ _ _ _ _ hc2 hS1 hS2).mono ?_
  rintro e w6 ⟨rfl, hd⟩
  replace hJ := hJ.below hd
  (first | replace HB := bt HB HB.size hd | replace HB := bt_drew HB HB.size hd | replace HB := bt_drewN HB HB.size hd); clear hd
  go_wp2_with (first | (go_at_call 60; refine (BY.out _ _ _ hJ).mono ?_; rintro e w7 ⟨rfl, hd⟩; replace hJ := hJ.below hd; (first | replace HB := bt HB HB.size hd | replace HB := bt_drew HB HB.size hd | replace HB := bt_drewN HB HB.size hd); clear hd) | (go_at_call 69; refine (FM.out _ (hS.below HB)).mono ?_; rintro e w8 ⟨rfl, hd⟩; replace hJ := hJ.below hd; (first | replace HB := bt HB HB.size hd | replace HB := bt_drew HB HB.size hd | replace HB := bt_drewN HB HB.size hd); clear hd) | (go_at_call 67; refine (LL.out _ _ _ hJ).mono ?_; rintro e w9 ⟨rfl, rfl⟩) | (go_at_call 64; refine (AL.out _ _ _ hJ).mono ?_; rintro e w10 ⟨A3, c3, rfl, hS3, hc3, hA3, hd⟩; (first | replace HB := bt HB HB.size hd | replace HB := bt_drew HB HB.size hd | replace HB := bt_drewN HB HB.size hd); clear hd) | (go_at_call 58; refine (SA.out _ _ _ _ _ _ _ (by omega) hS3 (hS.below HB)).mono ?_; rintro e w11 ⟨rfl, hd⟩; (first | replace HB := bt HB HB.size hd | replace HB := bt_drew HB HB.size hd | replace HB := bt_drewN HB HB.size hd); clear hd))
  all_goals go_ret
  all_goals exact ⟨rfl, HB⟩
set_option maxRecDepth 100000 in
set_option maxHeartbeats 1000000 in
theorem lawplays_any (A : Option Addr) (n c : Nat) (ss : List ByteArray) (s : ByteArray) (w : World) (hS : Strs w A n ss) (hn : n ≤ 9223372036854775807) (hs : s.size ≤ 140737488351232) :
    Calls Try.prog 18 #[.string s, .slice A n c] w fun e w' => e = .returned (.bool true) ∧ Below w.heap.size w w' := by
  have HB : Below w.heap.size w w := Below.refl _ _
  by_cases h1 : 3000 < s.size
  · go_enter Try.func18, Try.ntmps18
    go_wp2_with (go_at_call 56; (with_reducible refine (awake_any _).mono ?_); rintro e w2 ⟨rfl, hd⟩; (first | replace HB := bt HB HB.size hd | replace HB := bt_drew HB HB.size hd | replace HB := bt_drewN HB HB.size hd); clear hd)
    all_goals (go_ret; exact ⟨rfl, HB⟩)
  · cases hb : smallB ss with
    | false =>
      have SM := Lib.hid (small_is A n c ss false hb hn)
      clear hb
      go_enter Try.func18, Try.ntmps18
      go_wp2_with (first | (go_at_call 56; (with_reducible refine (awake_any _).mono ?_); rintro e w2 ⟨rfl, hd⟩; (first | replace HB := bt HB HB.size hd | replace HB := bt_drew HB HB.size hd | replace HB := bt_drewN HB HB.size hd); clear hd) | (go_at_call 61; (with_reducible refine (SM.out _ (hS.below HB)).mono ?_); rintro e w2 ⟨rfl, rfl⟩))
      all_goals (go_ret; exact ⟨rfl, HB⟩)
    | true => exact lawplays_in A n c ss s w hS hn hb (by omega)
end Go.Proofs.Ytdjgdhpncocahaa.JrnW
