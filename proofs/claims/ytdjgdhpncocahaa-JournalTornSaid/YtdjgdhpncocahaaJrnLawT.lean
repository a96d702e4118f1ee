/- The law JournalTorn walked. -/
import Derived.Test.YtdjgdhpncocahaaJrnK
set_option linter.unusedVariables false
set_option linter.unusedSimpArgs false
namespace Go.Proofs.Ytdjgdhpncocahaa.JrnW
open Go.RowKit Go.Proofs.Ytdjgdhpncocahaa.Base Go.Proofs.Ytdjgdhpncocahaa.TapeP Go.Proofs.Ytdjgdhpncocahaa.TapeW Go.Proofs.Ytdjgdhpncocahaa.CrcP Go.Proofs.Ytdjgdhpncocahaa.CrcW Go.Proofs.Ytdjgdhpncocahaa.JrnP Go.Proofs.Ytdjgdhpncocahaa.BuildW Go.Proofs.Ytdjgdhpncocahaa.EqsW Go.Proofs.Ytdjgdhpncocahaa.JrnI

set_option maxRecDepth 100000 in
set_option maxHeartbeats 2000000 in
theorem lawtorn_in (A : Option Addr) (n c : Nat) (ss : List ByteArray) (x : Nat) (s : ByteArray) (w : World) (hS : Strs w A n ss) (hn : n ≤ 9223372036854775807) (hnc : n ≤ c) (hx : x ≤ 65535) (hb : smallB ss = true) (h1 : s.size ≤ 3000) :
    Calls Try.prog 17 #[.slice A n c, .int .u16 x, .string s] w fun e w' => e = .returned (.bool true) ∧ Below w.heap.size w w' := by
  have HB : Below w.heap.size w w := Below.refl _ _
  have SM := Lib.hid (small_is A n c ss true hb hn)
  obtain ⟨hlen, htot, hsm⟩ := smallB_yes hb
  have hl := hS.len
  have hfl := frames_le ss hsm
  have hfs : (str (frames (lst ss))).size ≤ 10000 := by rw [str_size]; omega
  have hb1 : ∀ base b W, JAt W base b ss → Calls Try.prog 60 #[.pointer (some ⟨b, 0, none⟩)] W fun e w' => e = .returned (.string (str (frames (lst ss)))) ∧ Below W.heap.size W w' := fun base b W h => jbytes_any base b _ W h (by omega) (by omega)
  obtain ⟨q, hq⟩ : ∃ q : Nat, q = x % ((str (frames (lst ss))).size + 1) := ⟨_, rfl⟩
  have hq1 : ((x : Nat) : Int) % (((str (frames (lst ss))).size : Int) + 1) = (q : Int) := by rw [hq, Int.natCast_emod, Int.natCast_add]; rfl
  have hq2 : q ≤ (str (frames (lst ss))).size := by
    have := Nat.mod_lt x (show 0 < (str (frames (lst ss))).size + 1 by omega)
    omega
  obtain ⟨k, hk, hcut⟩ := jopen_cut ss hsm (by omega) (by omega) q
  have hk2 : (ss.take k).length = k := by rw [List.length_take]; omega
  have htk := total_take_le ss k
  have hsmk : ∀ t, t ∈ ss.take k → t.size ≤ 1048576 := fun t ht => hsm t (List.mem_of_mem_take ht)
  have htk2 : total (ss.take k ++ [s]) ≤ 6000 := by
    rw [total_append]
    show total (ss.take k) + (s.size + 0) ≤ 6000
    omega
  have hlk2 : (ss.take k ++ [s]).length = k + 1 := by rw [List.length_append, hk2]; rfl
  have hsmk2 : ∀ t, t ∈ ss.take k ++ [s] → t.size ≤ 1048576 := fun t ht => by
    rcases List.mem_append.1 ht with h | h
    · exact hsmk t h
    · rw [List.mem_singleton.1 h]; omega
  have hall1 : ∀ base b W, JAt W base b (ss.take k) → Calls Try.prog 64 #[.pointer (some ⟨b, 0, none⟩)] W fun e W' => ∃ A c, e = .returned (.slice A k c) ∧ Strs W' A k (ss.take k) ∧ k ≤ c ∧ (∀ a, A = some a → W.heap.size ≤ a.block) ∧ Below W.heap.size W W' := fun base b W h => by
    have := all_jat base b _ (by omega) W h
    rwa [hk2] at this
  have hall2 : ∀ base b W, JAt W base b (ss.take k ++ [s]) → Calls Try.prog 64 #[.pointer (some ⟨b, 0, none⟩)] W fun e W' => ∃ A c, e = .returned (.slice A (k + 1) c) ∧ Strs W' A (k + 1) (ss.take k ++ [s]) ∧ k + 1 ≤ c ∧ (∀ a, A = some a → W.heap.size ≤ a.block) ∧ Below W.heap.size W W' := fun base b W h => by
    have := all_jat base b _ (by omega) W h
    rwa [hlk2] at this
  have hb2 : ∀ base b W, JAt W base b (ss.take k ++ [s]) → Calls Try.prog 60 #[.pointer (some ⟨b, 0, none⟩)] W fun e w' => e = .returned (.string (str (frames (lst (ss.take k ++ [s]))))) ∧ Below W.heap.size W w' := fun base b W h => jbytes_any base b _ W h (by omega) (by omega)
  have hop2 := fun W => jopen_frames (ss.take k ++ [s]) hsmk2 (by omega) (by omega) W
  have hlast : ∀ (h : k < (ss.take k ++ [s]).length), (ss.take k ++ [s])[k] = s := fun h => by
    rw [List.getElem_append_right (by omega)]
    simp [hk2]
  have htake : (ss.take k ++ [s]).take k = ss.take k := by
    rw [List.take_append_of_le_length (by omega), List.take_of_length_le (by omega)]
  have hsame : ∀ A1 A2 c1 c2 W, Strs W A1 k (ss.take k) → Strs W A2 k (ss.take k) → Calls Try.prog 58 #[.slice A1 k c1, .slice A2 k c2] W fun e w' => e = .returned (.bool true) ∧ Below W.heap.size W w' := fun A1 A2 c1 c2 W g1 g2 => by
    have := same_texts A1 A2 k c1 k c2 _ _ W g1 g2 (by omega)
    rwa [eqs_refl] at this
  have happ : ∀ base b hi W, JAt W base b (ss.take k) → Low W b hi → Calls Try.prog 66 #[.pointer (some ⟨b, 0, none⟩), .string s] W fun e w' => e = .returned (.int .i64 0) ∧ JAt w' base b (ss.take k ++ [s]) ∧ Below base W w' ∧ ∀ A n tt, (∀ a, A = some a → hi ≤ a.block) → Strs W A n tt → Strs w' A n tt := fun base b hi W h hL => append_keep base b hi _ s W h hL (by omega) (by omega)
  have hn40 : n ≤ 40 := by omega
  have hkn : k ≤ n := by omega
  have HS0 := Lib.hid hS
  have B1 := Lib.hid hb1
  have B2 := Lib.hid hb2
  have CU := Lib.hid hcut
  have L1 := Lib.hid hall1
  have L2 := Lib.hid hall2
  have O2 := Lib.hid hop2
  have LA := Lib.hid hlast
  have TK := Lib.hid htake
  have SA := Lib.hid hsame
  have AP := Lib.hid happ
  have HM := Lib.hid hsm
  have LK2 := Lib.hid hlk2
  clear hb hb1 hb2 hcut hall1 hall2 hop2 hlast htake hsame happ hsm hlk2 hk2 hsmk hsmk2 htk htk2 htot hfl hq
  generalize str (frames (lst (ss.take k ++ [s]))) = f2 at *
  generalize str (frames (lst ss)) = f1 at *
  go_enter Try.func17, Try.ntmps17
  go_upto_region 3 with (first | (go_at_call 56; (with_reducible refine (awake_any _).mono ?_); rintro e w2 ⟨rfl, hd⟩; (first | replace HB := bt HB HB.size hd | replace HB := bt_drew HB HB.size hd | replace HB := bt_drewN HB HB.size hd); clear hd) | (go_at_call 61; (with_reducible refine (SM.out _ (hS.below HB)).mono ?_); rintro e w2 ⟨rfl, rfl⟩))
  go_upto_region 4 with (first | (go_at_call 62; refine (laid_any _ _ _ ss _ (hS.below HB) HM.out (by omega)).mono ?_; rintro e w3 ⟨b, rfl, hJ, hd⟩; (first | replace HB := bt HB HB.size hd | replace HB := bt_drew HB HB.size hd | replace HB := bt_drewN HB HB.size hd); clear hd) | (go_at_call 60; refine (B1.out _ _ _ hJ).mono ?_; rintro e w4 ⟨rfl, hd⟩; clear hJ; (first | replace HB := bt HB HB.size hd | replace HB := bt_drew HB HB.size hd | replace HB := bt_drewN HB HB.size hd); clear hd))
  have HZ := HB.size
  go_upto_region 5 with fail
  go_upto_region 7 with (first | (go_at_call 59; refine (CU.out _).mono ?_; rintro e w5 ⟨b2, rfl, hJ, hd⟩; have hLo := Low.of_jat hJ; (first | replace HB := bt HB HB.size hd | replace HB := bt_drew HB HB.size hd | replace HB := bt_drewN HB HB.size hd); clear hd) | (go_at_call 64; refine (L1.out _ _ _ hJ).mono ?_; rintro e w6 ⟨A2, c2, rfl, hS2, hc2, hA2, hd⟩; replace hJ := hJ.below hd; replace hLo := hLo.below hd; (first | replace HB := bt HB HB.size hd | replace HB := bt_drew HB HB.size hd | replace HB := bt_drewN HB HB.size hd); clear hd))
  have HA2 := Lib.hid hA2
  clear hA2
  go_upto_region 9 with (first | (go_at_call 58; refine (SA.out A2 A _ _ _ hS2 (strs_take (hS.below HB) k hkn)).mono ?_; rintro e w7 ⟨rfl, hd⟩; replace hJ := hJ.below hd; replace hLo := hLo.below hd; replace hS2 := hS2.below hd; (first | replace HB := bt HB HB.size hd | replace HB := bt_drew HB HB.size hd | replace HB := bt_drewN HB HB.size hd); clear hd) | (go_at_call 66; refine (AP.out _ _ _ _ hJ hLo).mono ?_; rintro e w8 ⟨rfl, hJ2, hd8, hke⟩; replace hS2 := hke _ _ _ HA2.out hS2; replace HB := HB.trans (hd8.mono HZ); clear hke hd8 hLo))
  go_upto_region 10 with (first | (go_at_call 60; refine (B2.out _ _ _ hJ2).mono ?_; rintro e w9 ⟨rfl, hd⟩; replace hS2 := hS2.below hd; (first | replace HB := bt HB HB.size hd | replace HB := bt_drew HB HB.size hd | replace HB := bt_drewN HB HB.size hd); clear hd) | (go_at_call 59; refine (O2.out _).mono ?_; rintro e w10 ⟨b3, rfl, hJ3, hd⟩; replace hS2 := hS2.below hd; (first | replace HB := bt HB HB.size hd | replace HB := bt_drew HB HB.size hd | replace HB := bt_drewN HB HB.size hd); clear hd) | (go_at_call 64; refine (L2.out _ _ _ hJ3).mono ?_; rintro e w11 ⟨A3, c3, rfl, hS3, hc3, hA3, hd⟩; replace hS2 := hS2.below hd; (first | replace HB := bt HB HB.size hd | replace HB := bt_drew HB HB.size hd | replace HB := bt_drewN HB HB.size hd); clear hd))
  obtain ⟨g3, off3, rfl, hc3'⟩ := hS3.block (by omega)
  have hcell := hc3' k (by rw [LK2.out]; omega)
  rw [LA.out] at hcell
  have hq3 : (s.toList == s.toList) = true := by simp
  have hk3 : ((k : Nat) : Int) ≤ (c3 : Int) := by omega
  have hSt := strs_take hS3 k (by omega)
  rw [TK.out] at hSt
  clear hc3' hS3 hA3
  go_wp2_with (go_at_call 58; refine (SA.out _ A2 _ _ _ hSt hS2).mono ?_; rintro e w12 ⟨rfl, hd⟩; (first | replace HB := bt HB HB.size hd | replace HB := bt_drew HB HB.size hd | replace HB := bt_drewN HB HB.size hd); clear hd)
  all_goals go_ret
  all_goals exact ⟨rfl, HB⟩
set_option maxRecDepth 100000 in
set_option maxHeartbeats 1000000 in
theorem lawtorn_any (A : Option Addr) (n c : Nat) (ss : List ByteArray) (x : Nat) (s : ByteArray) (w : World) (hS : Strs w A n ss) (hn : n ≤ 9223372036854775807) (hnc : n ≤ c) (hx : x ≤ 65535) (hs : s.size ≤ 140737488351232) :
    Calls Try.prog 17 #[.slice A n c, .int .u16 x, .string s] w fun e w' => e = .returned (.bool true) ∧ Below w.heap.size w w' := by
  have HB : Below w.heap.size w w := Below.refl _ _
  cases hb : smallB ss with
  | false =>
    have SM := Lib.hid (small_is A n c ss false hb hn)
    clear hb
    go_enter Try.func17, Try.ntmps17
    go_wp2_with (first | (go_at_call 56; (with_reducible refine (awake_any _).mono ?_); rintro e w2 ⟨rfl, hd⟩; (first | replace HB := bt HB HB.size hd | replace HB := bt_drew HB HB.size hd | replace HB := bt_drewN HB HB.size hd); clear hd) | (go_at_call 61; (with_reducible refine (SM.out _ (hS.below HB)).mono ?_); rintro e w2 ⟨rfl, rfl⟩))
    all_goals (go_ret; exact ⟨rfl, HB⟩)
  | true =>
    by_cases h1 : 3000 < s.size
    · have SM := Lib.hid (small_is A n c ss true hb hn)
      clear hb
      go_enter Try.func17, Try.ntmps17
      go_wp2_with (first | (go_at_call 56; (with_reducible refine (awake_any _).mono ?_); rintro e w2 ⟨rfl, hd⟩; (first | replace HB := bt HB HB.size hd | replace HB := bt_drew HB HB.size hd | replace HB := bt_drewN HB HB.size hd); clear hd) | (go_at_call 61; (with_reducible refine (SM.out _ (hS.below HB)).mono ?_); rintro e w2 ⟨rfl, rfl⟩))
      all_goals (go_ret; exact ⟨rfl, HB⟩)
    · exact lawtorn_in A n c ss x s w hS hn hnc hx hb (by omega)
end Go.Proofs.Ytdjgdhpncocahaa.JrnW
