/- The law MsgBack walked. -/
import Derived.Test.YtdjgdhpncocahaaMsgF
set_option linter.unusedVariables false
set_option linter.unusedSimpArgs false
namespace Go.Proofs.Ytdjgdhpncocahaa.MsgW
open Go.RowKit Go.Proofs.Ytdjgdhpncocahaa.Base Go.Proofs.Ytdjgdhpncocahaa.EqsW Go.Proofs.Ytdjgdhpncocahaa.TapeP Go.Proofs.Ytdjgdhpncocahaa.TapeW Go.Proofs.Ytdjgdhpncocahaa.CrcP Go.Proofs.Ytdjgdhpncocahaa.CrcW Go.Proofs.Ytdjgdhpncocahaa.CrcL Go.Proofs.Ytdjgdhpncocahaa.MsgP

theorem heap_old2 {w : World} {k : Nat} {o : Obj} (x : Obj) (h : w.heap[k]? = some o) : (w.alloc x).heap[k]? = some o := heap_below h ((Below.refl w.heap.size w).alloc (Nat.le_refl _) x)
theorem eqs_self (ss : List ByteArray) : eqs ss ss = true := eqs_all rfl fun k h1 h2 => str_eq rfl
theorem same_self (n0 n1 n2 n3 n4 n5 n6 n7 n8 : Int) (t : ByteArray) (A : Option Addr) (ln cp : Nat) (ss : List ByteArray) : sameB n0 n1 n2 n3 n4 n5 n6 n7 n8 t ss n0 n1 n2 n3 n4 n5 n6 n7 n8 t ss = true := by
  unfold sameB numeq
  simp [eqs_self]
/-- What Bytes laid, read again. -/
theorem read_back (n0 n1 n2 n3 n4 n5 n6 n7 n8 : Int) (t : ByteArray) (A : Option Addr) (ln cp : Nat) (ss : List ByteArray) (w : World) (hr : rightM (numAt n0 n1 n2 n3 n4 n5 n6 n7 n8) t ss = true) :
    Calls Try.prog 72 #[.string (str (sealed (body (numAt n0 n1 n2 n3 n4 n5 n6 n7 n8) t ss)))] w fun e w' => Below w.heap.size w w' ∧ ∃ A c, e = .returned (.tuple #[.agg #[.int .i64 n0, .int .i64 n1, .int .i64 n2, .int .i64 n3, .int .i64 n4, .int .i64 n5, .int .i64 n6, .int .i64 n7, .int .i64 n8, .string t, .slice A ss.length c], .int .i64 0]) ∧ Strs w' A ss.length ss := by
  have hbl := body_length hr
  obtain ⟨q1, q2, q3, a1, a2, a3, a4⟩ := body_read hr (.inr (numL_nine (rightM_yes hr).1))
  have hk := numL_nine (rightM_yes hr).1
  have g0 : (((nine (numAt n0 n1 n2 n3 n4 n5 n6 n7 n8)).getD 0 0 : Nat) : Int) = n0 := hk 0 (by omega)
  have g1 : (((nine (numAt n0 n1 n2 n3 n4 n5 n6 n7 n8)).getD 1 0 : Nat) : Int) = n1 := hk 1 (by omega)
  have g2 : (((nine (numAt n0 n1 n2 n3 n4 n5 n6 n7 n8)).getD 2 0 : Nat) : Int) = n2 := hk 2 (by omega)
  have g3 : (((nine (numAt n0 n1 n2 n3 n4 n5 n6 n7 n8)).getD 3 0 : Nat) : Int) = n3 := hk 3 (by omega)
  have g4 : (((nine (numAt n0 n1 n2 n3 n4 n5 n6 n7 n8)).getD 4 0 : Nat) : Int) = n4 := hk 4 (by omega)
  have g5 : (((nine (numAt n0 n1 n2 n3 n4 n5 n6 n7 n8)).getD 5 0 : Nat) : Int) = n5 := hk 5 (by omega)
  have g6 : (((nine (numAt n0 n1 n2 n3 n4 n5 n6 n7 n8)).getD 6 0 : Nat) : Int) = n6 := hk 6 (by omega)
  have g7 : (((nine (numAt n0 n1 n2 n3 n4 n5 n6 n7 n8)).getD 7 0 : Nat) : Int) = n7 := hk 7 (by omega)
  have g8 : (((nine (numAt n0 n1 n2 n3 n4 n5 n6 n7 n8)).getD 8 0 : Nat) : Int) = n8 := hk 8 (by omega)
  refine (read_ok _ (body (numAt n0 n1 n2 n3 n4 n5 n6 n7 n8) t ss) w (by rw [str_size, sealed_len]; omega) (by rw [str_list, opened_sealed])).mono ?_
  rintro e w' ⟨hB, h⟩
  refine ⟨hB, ?_⟩
  rcases h with ⟨h1, h2⟩ | ⟨h1, A, c, h2, h3⟩
  · exact absurd (body_ok hr) h1
  · rw [a1] at h2 h3
    dsimp only at h2 h3
    rw [a2] at h2 h3
    dsimp only at h2 h3
    rw [a3] at h2 h3
    dsimp only at h2 h3
    rw [map_back, List.length_map] at h3
    refine ⟨A, c, ?_, h3⟩
    rw [h2, List.length_map]
    unfold msgV
    rw [g0, g1, g2, g3, g4, g5, g6, g7, g8]
    rfl

set_option maxRecDepth 100000 in
set_option maxHeartbeats 2000000 in
theorem back_few (n0 n1 n2 n3 n4 n5 n6 n7 n8 : Int) (t : ByteArray) (A : Option Addr) (ln cp : Nat) (x : Nat) (by' : Int) (ss : List ByteArray) (w : World) (hS : Strs w A ln ss) (ht : t.size ≤ 140737488351232) (hf : fewB t ss = false) :
    Calls Try.prog 22 #[(.agg #[.int .i64 n0, .int .i64 n1, .int .i64 n2, .int .i64 n3, .int .i64 n4, .int .i64 n5, .int .i64 n6, .int .i64 n7, .int .i64 n8, .string t, .slice A ln cp]), .int .u16 x, .int .u8 by'] w fun e w' => e = .returned (.bool true) ∧ Below w.heap.size w w' := by
  have hF := fun W h => few_any n0 n1 n2 n3 n4 n5 n6 n7 n8 t A ln cp ss W h ht
  rw [hf] at hF
  have HF := Lib.hid hF
  clear hF hf
  go_enter Try.func22, Try.ntmps22
  go_upto_region 1 with fail
  have hA := heap_alloc_new w (.cells #[.int .i64 n0, .int .i64 n1, .int .i64 n2, .int .i64 n3, .int .i64 n4, .int .i64 n5, .int .i64 n6, .int .i64 n7, .int .i64 n8, .string t, .slice A ln cp] 28)
  have HB : Below w.heap.size w (w.alloc (.cells #[.int .i64 n0, .int .i64 n1, .int .i64 n2, .int .i64 n3, .int .i64 n4, .int .i64 n5, .int .i64 n6, .int .i64 n7, .int .i64 n8, .string t, .slice A ln cp] 28)) := (Below.refl w.heap.size w).alloc (by simp) _
  generalize w.alloc (.cells #[.int .i64 n0, .int .i64 n1, .int .i64 n2, .int .i64 n3, .int .i64 n4, .int .i64 n5, .int .i64 n6, .int .i64 n7, .int .i64 n8, .string t, .slice A ln cp] 28) = W1 at hA HB ⊢
  go_wp2_with (first | (go_at_call 25; (with_reducible refine (awake_any _).mono ?_); rintro e w2 ⟨rfl, hd⟩; replace hA := heap_below hA hd; obtain ⟨f0, f1, f2, f3, f4, f5, f6, f7, f8, f9, f10⟩ := box_cells hA; (first | replace HB := bt HB HB.size hd | replace HB := bt_drew HB HB.size hd | replace HB := bt_drewN HB HB.size hd); clear hd) | (go_at_call 26; refine (HF.out _ (hS.below HB)).mono ?_; rintro e w3 ⟨rfl, hd⟩; replace hA := heap_below hA hd; (first | replace HB := bt HB HB.size hd | replace HB := bt_drew HB HB.size hd | replace HB := bt_drewN HB HB.size hd); clear hd))
  all_goals (go_ret; exact ⟨rfl, HB⟩)
set_option maxRecDepth 100000 in
set_option maxHeartbeats 4000000 in
theorem back_wrong (n0 n1 n2 n3 n4 n5 n6 n7 n8 : Int) (t : ByteArray) (A : Option Addr) (ln cp : Nat) (x : Nat) (by' : Int) (ss : List ByteArray) (w : World) (hS : Strs w A ln ss) (ht : t.size ≤ 140737488351232) (hf : fewB t ss = true) (hn : ln ≤ 9223372036854775807) (hr : rightM (numAt n0 n1 n2 n3 n4 n5 n6 n7 n8) t ss = false) :
    Calls Try.prog 22 #[(.agg #[.int .i64 n0, .int .i64 n1, .int .i64 n2, .int .i64 n3, .int .i64 n4, .int .i64 n5, .int .i64 n6, .int .i64 n7, .int .i64 n8, .string t, .slice A ln cp]), .int .u16 x, .int .u8 by'] w fun e w' => e = .returned (.bool true) ∧ Below w.heap.size w w' := by
  have hF := fun W h => few_any n0 n1 n2 n3 n4 n5 n6 n7 n8 t A ln cp ss W h ht
  rw [hf] at hF
  have HF := Lib.hid hF
  have hR := fun W hS => right_any n0 n1 n2 n3 n4 n5 n6 n7 n8 t A ln cp ss W hS hn
  rw [hr] at hR
  have HR := Lib.hid hR
  have hz : (str []).toList.isEmpty = true := by rw [ByteArray.toList_eq]; rfl
  have HY := Lib.hid (fun W hS => bytes_wrong n0 n1 n2 n3 n4 n5 n6 n7 n8 t A ln cp ss W hS hn hr)
  clear hF hf hR hr
  go_enter Try.func22, Try.ntmps22
  go_upto_region 1 with fail
  have hA := heap_alloc_new w (.cells #[.int .i64 n0, .int .i64 n1, .int .i64 n2, .int .i64 n3, .int .i64 n4, .int .i64 n5, .int .i64 n6, .int .i64 n7, .int .i64 n8, .string t, .slice A ln cp] 28)
  have HB : Below w.heap.size w (w.alloc (.cells #[.int .i64 n0, .int .i64 n1, .int .i64 n2, .int .i64 n3, .int .i64 n4, .int .i64 n5, .int .i64 n6, .int .i64 n7, .int .i64 n8, .string t, .slice A ln cp] 28)) := (Below.refl w.heap.size w).alloc (by simp) _
  generalize w.alloc (.cells #[.int .i64 n0, .int .i64 n1, .int .i64 n2, .int .i64 n3, .int .i64 n4, .int .i64 n5, .int .i64 n6, .int .i64 n7, .int .i64 n8, .string t, .slice A ln cp] 28) = W1 at hA HB ⊢
  go_wp2_with (first | (go_at_call 25; (with_reducible refine (awake_any _).mono ?_); rintro e w2 ⟨rfl, hd⟩; replace hA := heap_below hA hd; obtain ⟨f0, f1, f2, f3, f4, f5, f6, f7, f8, f9, f10⟩ := box_cells hA; (first | replace HB := bt HB HB.size hd | replace HB := bt_drew HB HB.size hd | replace HB := bt_drewN HB HB.size hd); clear hd) | (go_at_call 26; refine (HF.out _ (hS.below HB)).mono ?_; rintro e w3 ⟨rfl, hd⟩; (replace hA := heap_below hA hd; obtain ⟨f0, f1, f2, f3, f4, f5, f6, f7, f8, f9, f10⟩ := box_cells hA); (first | replace HB := bt HB HB.size hd | replace HB := bt_drew HB HB.size hd | replace HB := bt_drewN HB HB.size hd); clear hd) | (go_at_call 29; refine (of_any _ _ _ _ _ _ _ _ _ _ _ _ _ _).mono ?_; rintro e w4 ⟨rfl, hd⟩; (replace hA := heap_below hA hd; obtain ⟨f0, f1, f2, f3, f4, f5, f6, f7, f8, f9, f10⟩ := box_cells hA); (first | replace HB := bt HB HB.size hd | replace HB := bt_drew HB HB.size hd | replace HB := bt_drewN HB HB.size hd); clear hd)  | (go_at_call 71; refine (HY.out _ (hS.below HB)).mono ?_; rintro e w3 ⟨rfl, hd⟩; (replace hA := heap_below hA hd; obtain ⟨f0, f1, f2, f3, f4, f5, f6, f7, f8, f9, f10⟩ := box_cells hA); (first | replace HB := bt HB HB.size hd | replace HB := bt_drew HB HB.size hd | replace HB := bt_drewN HB HB.size hd); clear hd) | (go_at_call 73; refine (HR.out _ (hS.below HB)).mono ?_; rintro e w3 ⟨rfl, hd⟩; (replace hA := heap_below hA hd; obtain ⟨f0, f1, f2, f3, f4, f5, f6, f7, f8, f9, f10⟩ := box_cells hA); (first | replace HB := bt HB HB.size hd | replace HB := bt_drew HB HB.size hd | replace HB := bt_drewN HB HB.size hd); clear hd))
  all_goals (go_ret; exact ⟨rfl, HB⟩)
set_option maxRecDepth 100000 in
set_option maxHeartbeats 4000000 in
theorem back_right (n0 n1 n2 n3 n4 n5 n6 n7 n8 : Int) (t : ByteArray) (A : Option Addr) (ln cp : Nat) (x y : Nat) (ss : List ByteArray) (w : World) (hS : Strs w A ln ss) (ht : t.size ≤ 140737488351232) (hf : fewB t ss = true) (hn : ln ≤ 9223372036854775807) (hx : x ≤ 65535) (hy : y ≤ 255) (hr : rightM (numAt n0 n1 n2 n3 n4 n5 n6 n7 n8) t ss = true) :
    Calls Try.prog 22 #[(.agg #[.int .i64 n0, .int .i64 n1, .int .i64 n2, .int .i64 n3, .int .i64 n4, .int .i64 n5, .int .i64 n6, .int .i64 n7, .int .i64 n8, .string t, .slice A ln cp]), .int .u16 x, .int .u8 (y : Nat)] w fun e w' => e = .returned (.bool true) ∧ Below w.heap.size w w' := by
  have hF := fun W h => few_any n0 n1 n2 n3 n4 n5 n6 n7 n8 t A ln cp ss W h ht
  rw [hf] at hF
  have HF := Lib.hid hF
  obtain ⟨_, _, hlt, _, _⟩ := rightM_yes hr
  have hlen := hS.len
  have hbl := body_length hr
  obtain ⟨S, hS1, hS2, hY, hRd, hFl⟩ : ∃ S : ByteArray, 0 < S.size ∧ S.size ≤ 1000000000 ∧
      (∀ W, Strs W A ln ss → Calls Try.prog 71 #[(.agg #[.int .i64 n0, .int .i64 n1, .int .i64 n2, .int .i64 n3, .int .i64 n4, .int .i64 n5, .int .i64 n6, .int .i64 n7, .int .i64 n8, .string t, .slice A ln cp])] W fun e w' => e = .returned (.tuple #[.string S, .int .i64 0]) ∧ Below W.heap.size W w') ∧
      (∀ W, Calls Try.prog 72 #[.string S] W fun e w' => Below W.heap.size W w' ∧ ∃ A c, e = .returned (.tuple #[.agg #[.int .i64 n0, .int .i64 n1, .int .i64 n2, .int .i64 n3, .int .i64 n4, .int .i64 n5, .int .i64 n6, .int .i64 n7, .int .i64 n8, .string t, .slice A ln c], .int .i64 0]) ∧ Strs w' A ln ss) ∧
      (∀ j (hj : j < S.data.toList.length), y ≠ 0 → ∀ W, Calls Try.prog 72 #[.string (str (S.data.toList.set j (S.data.toList[j] ^^^ UInt8.ofNat y)))] W fun e w' => e = .returned (.tuple #[.agg #[.int .i64 0, .int .i64 0, .int .i64 0, .int .i64 0, .int .i64 0, .int .i64 0, .int .i64 0, .int .i64 0, .int .i64 0, .string ⟨#[]⟩, .slice none 0 0], .int .i64 7]) ∧ Below W.heap.size W w') := by
    refine ⟨str (sealed (body (numAt n0 n1 n2 n3 n4 n5 n6 n7 n8) t ss)), by rw [str_size, sealed_len]; omega, by rw [str_size, sealed_len]; omega, fun W hS => bytes_right n0 n1 n2 n3 n4 n5 n6 n7 n8 t A ln cp ss W hS hn hr, fun W => ?_, fun j hj h0 W => ?_⟩
    · have := read_back n0 n1 n2 n3 n4 n5 n6 n7 n8 t A ln cp ss W hr
      rwa [hlen] at this
    · refine read_bad _ W (by rw [str_size, List.length_set, list_size, str_size, sealed_len]; omega) 7 ?_ (by omega)
      rw [str_list]
      simp only [str_list] at hj ⊢
      refine flip_opened _ j (UInt8.ofNat y) ?_ hj
      intro e
      have e2 := congrArg UInt8.toNat e
      rw [UInt8.toNat_ofNat', Nat.mod_eq_of_lt (by omega)] at e2
      exact h0 e2
  have hsame : ∀ A' c' W, Strs W A' ln ss → Strs W A ln ss → Calls Try.prog 32 #[.agg #[.int .i64 n0, .int .i64 n1, .int .i64 n2, .int .i64 n3, .int .i64 n4, .int .i64 n5, .int .i64 n6, .int .i64 n7, .int .i64 n8, .string t, .slice A' ln c'], (.agg #[.int .i64 n0, .int .i64 n1, .int .i64 n2, .int .i64 n3, .int .i64 n4, .int .i64 n5, .int .i64 n6, .int .i64 n7, .int .i64 n8, .string t, .slice A ln cp])] W fun e w' => e = .returned (.bool true) ∧ Below W.heap.size W w' := fun A' c' W g1 g2 => by
    have := msame_any n0 n1 n2 n3 n4 n5 n6 n7 n8 t A' ln c' n0 n1 n2 n3 n4 n5 n6 n7 n8 t A ln cp ss ss W g1 g2 (by omega)
    rwa [same_self n0 n1 n2 n3 n4 n5 n6 n7 n8 t A ln cp ss] at this
  have HY := Lib.hid hY
  have HRD := Lib.hid hRd
  have HFL := Lib.hid hFl
  have HSA := Lib.hid hsame
  clear hF hf hY hRd hFl hsame hlen hbl hr hlt
  have hcv : ∀ W : World, (convert 9 42 (.string S)).run Try.prog W = .ok (.slice (some ⟨W.heap.size, 0, none⟩) S.size (grownCap W S.size 0 5)) (Lib.bytesWorld W 5 S) := fun W => Lib.run_convert_string_bytes W _ _ _ S Try.underlying9 Try.underlying42 Try.underlying5
  have hk : ((x : Int) % (S.size : Int)) = ((x % S.size : Nat) : Int) := by rw [Int.natCast_emod]
  have hk2 : x % S.size < S.size := Nat.mod_lt _ hS1
  generalize x % S.size = j at hk hk2
  have hs0 : (S.size : Int) ≠ 0 := by omega
  go_enter Try.func22, Try.ntmps22
  go_upto_region 1 with fail
  have hA := heap_alloc_new w (.cells #[.int .i64 n0, .int .i64 n1, .int .i64 n2, .int .i64 n3, .int .i64 n4, .int .i64 n5, .int .i64 n6, .int .i64 n7, .int .i64 n8, .string t, .slice A ln cp] 28)
  have HB : Below w.heap.size w (w.alloc (.cells #[.int .i64 n0, .int .i64 n1, .int .i64 n2, .int .i64 n3, .int .i64 n4, .int .i64 n5, .int .i64 n6, .int .i64 n7, .int .i64 n8, .string t, .slice A ln cp] 28)) := (Below.refl w.heap.size w).alloc (by simp) _
  generalize w.alloc (.cells #[.int .i64 n0, .int .i64 n1, .int .i64 n2, .int .i64 n3, .int .i64 n4, .int .i64 n5, .int .i64 n6, .int .i64 n7, .int .i64 n8, .string t, .slice A ln cp] 28) = W1 at hA HB ⊢
  go_upto_region 6 with (first | (go_at_call 25; (with_reducible refine (awake_any _).mono ?_); rintro e w2 ⟨rfl, hd⟩; replace hA := heap_below hA hd; obtain ⟨f0, f1, f2, f3, f4, f5, f6, f7, f8, f9, f10⟩ := box_cells hA; (first | replace HB := bt HB HB.size hd | replace HB := bt_drew HB HB.size hd | replace HB := bt_drewN HB HB.size hd); clear hd) | (go_at_call 26; refine (HF.out _ (hS.below HB)).mono ?_; rintro e w3 ⟨rfl, hd⟩; (replace hA := heap_below hA hd; obtain ⟨f0, f1, f2, f3, f4, f5, f6, f7, f8, f9, f10⟩ := box_cells hA); (first | replace HB := bt HB HB.size hd | replace HB := bt_drew HB HB.size hd | replace HB := bt_drewN HB HB.size hd); clear hd) | (go_at_call 29; refine (of_any _ _ _ _ _ _ _ _ _ _ _ _ _ _).mono ?_; rintro e w4 ⟨rfl, hd⟩; (replace hA := heap_below hA hd; obtain ⟨f0, f1, f2, f3, f4, f5, f6, f7, f8, f9, f10⟩ := box_cells hA); (first | replace HB := bt HB HB.size hd | replace HB := bt_drew HB HB.size hd | replace HB := bt_drewN HB HB.size hd); clear hd) | (go_at_call 71; refine (HY.out _ (hS.below HB)).mono ?_; rintro e w3 ⟨rfl, hd⟩; (replace hA := heap_below hA hd; obtain ⟨f0, f1, f2, f3, f4, f5, f6, f7, f8, f9, f10⟩ := box_cells hA); (first | replace HB := bt HB HB.size hd | replace HB := bt_drew HB HB.size hd | replace HB := bt_drewN HB HB.size hd); clear hd))
  clear f0 f1 f2 f3 f4 f5 f6 f7 f8 f9 f10
  go_wp2_with fail
  refine (HRD.out _).mono ?_
  rintro e w5 ⟨hd, A', c', rfl, hS'⟩
  replace hA := heap_below hA hd
  (first | replace HB := bt HB HB.size hd | replace HB := bt_drew HB HB.size hd | replace HB := bt_drewN HB HB.size hd); clear hd
  go_upto_region 7 with fail
  have hX := heap_alloc_new w5 (.cells #[.int .i64 n0, .int .i64 n1, .int .i64 n2, .int .i64 n3, .int .i64 n4, .int .i64 n5, .int .i64 n6, .int .i64 n7, .int .i64 n8, .string t, .slice A' ln c'] 33)
  replace hA := heap_old2 (.cells #[.int .i64 n0, .int .i64 n1, .int .i64 n2, .int .i64 n3, .int .i64 n4, .int .i64 n5, .int .i64 n6, .int .i64 n7, .int .i64 n8, .string t, .slice A' ln c'] 33) hA
  replace HB := HB.alloc HB.size (.cells #[.int .i64 n0, .int .i64 n1, .int .i64 n2, .int .i64 n3, .int .i64 n4, .int .i64 n5, .int .i64 n6, .int .i64 n7, .int .i64 n8, .string t, .slice A' ln c'] 33)
  replace hS' := hS'.below ((Below.refl w5.heap.size w5).alloc (Nat.le_refl _) (.cells #[.int .i64 n0, .int .i64 n1, .int .i64 n2, .int .i64 n3, .int .i64 n4, .int .i64 n5, .int .i64 n6, .int .i64 n7, .int .i64 n8, .string t, .slice A' ln c'] 33))
  generalize w5.alloc (.cells #[.int .i64 n0, .int .i64 n1, .int .i64 n2, .int .i64 n3, .int .i64 n4, .int .i64 n5, .int .i64 n6, .int .i64 n7, .int .i64 n8, .string t, .slice A' ln c'] 33) = w6 at hX hA HB hS' ⊢
  generalize w5.heap.size = X at *
  go_upto_region 8 with fail
  have HM := Mine.conv w6 5 S
  have HC := bytes_below w6 5 S
  clear hcv
  generalize Lib.bytesWorld w6 5 S = w7 at HM HC ⊢
  generalize grownCap w6 S.size 0 5 = cq
  have hl := list_size S
  generalize S.data.toList = l at HM HFL hl
  have hj : j < l.length := by omega
  have hc1 := HM.cell j hj
  have hf1 := HM.free j hj
  have hlj := byte_lt l[j]
  have hv : bits BinOp.xor IntKind.u8 ((l[j].toNat : Nat) : Int) ((y : Nat) : Int) = (((l[j] ^^^ UInt8.ofNat y).toNat : Nat) : Int) := by
    rw [u8_xor_nat _ _ hlj (by omega), UInt8.toNat_xor, UInt8.toNat_ofNat', Nat.mod_eq_of_lt (by omega)]
  have HS := Lib.hid (HM.set j hj (l[j] ^^^ UInt8.ofNat y))
  have HV := Lib.hid hv
  have HJ := Lib.hid hj
  have hll : (l.set j (l[j] ^^^ UInt8.ofNat y)).length = S.size := by rw [List.length_set]; exact hl
  have HLL := Lib.hid hll
  clear hv hll hlj
  go_upto_region 9 with fail
  rw [HV.out]
  have HM2 := HS.out
  replace HC := Below.setCell (p := ⟨w6.heap.size, j, none⟩) HC (Nat.le_refl _) (.int .u8 (((l[j] ^^^ UInt8.ofNat y).toNat : Nat) : Int))
  generalize (w7.setCell ⟨w6.heap.size, j, none⟩ (.int .u8 (((l[j] ^^^ UInt8.ofNat y).toNat : Nat) : Int))) = w8 at HM2 HC ⊢
  clear HS HM hc1 hf1 hk
  have hq := HM2.conv_str (c := cq) HLL.out (by omega)
  go_wp2_with fail
  clear hq
  by_cases h0 : y = 0
  · have hy0 : ((y : Int) == 0) = true := int_eq (by omega)
    refine (read_gen _ _ (by rw [str_size]; exact Nat.le_trans (Nat.le_of_eq HLL.out) hS2)).mono ?_
    rintro e w9 ⟨hd, h⟩
    replace HC := bt HC HC.size hd
    clear hd HM2
    rcases h with ⟨er, he, rfl⟩ | ⟨m0, m1, m2, m3, m4, m5, m6, m7, m8, t', A2, n2', c2, tt, rfl, hT, hn', hr'⟩
    all_goals clear h0
    · clear he
      go_upto_region 10 with fail
      replace HC := HC.alloc HC.size (.cells #[.int .i64 0, .int .i64 0, .int .i64 0, .int .i64 0, .int .i64 0, .int .i64 0, .int .i64 0, .int .i64 0, .int .i64 0, .string ⟨#[]⟩, .slice none 0 0] 33)
      generalize w9.alloc (.cells #[.int .i64 0, .int .i64 0, .int .i64 0, .int .i64 0, .int .i64 0, .int .i64 0, .int .i64 0, .int .i64 0, .int .i64 0, .string ⟨#[]⟩, .slice none 0 0] 33) = wz at HC ⊢
      obtain ⟨f0, f1, f2, f3, f4, f5, f6, f7, f8, f9, f10⟩ := box_cells (heap_below hA HC)
      obtain ⟨g0, g1, g2, g3, g4, g5, g6, g7, g8, g9, g10⟩ := box_cells (heap_below hX HC)
      have r0 := regrown_cell f0; have r1 := regrown_cell f1; have r2 := regrown_cell f2; have r3 := regrown_cell f3; have r4 := regrown_cell f4; have r5 := regrown_cell f5; have r6 := regrown_cell f6; have r7 := regrown_cell f7; have r8 := regrown_cell f8; have r9 := regrown_cell f9; have r10 := regrown_cell f10
      have s0 := regrown_cell g0; have s1 := regrown_cell g1; have s2 := regrown_cell g2; have s3 := regrown_cell g3; have s4 := regrown_cell g4; have s5 := regrown_cell g5; have s6 := regrown_cell g6; have s7 := regrown_cell g7; have s8 := regrown_cell g8; have s9 := regrown_cell g9; have s10 := regrown_cell g10
      have RS1 := fun p : Regrown => (hS'.below HC).below (below_of_regrown (w := wz) ⟨p, rfl⟩)
      have RS2 := fun p : Regrown => (hS.below (bt HB HB.size HC)).below (below_of_regrown (w := wz) ⟨p, rfl⟩)
      (refine wp_region_quiet_below (by kernel_rfl) (by kernel_rfl) ?_; (repeat (go_big_quiet_step ((first | (go_at_call 29; (with_reducible exact Calls.regrown_of (of_any _ _ _ _ _ _ _ _ _ _ _ _ _ _))) | (go_at_call 32; (with_reducible exact Calls.regrown_of (HSA.out _ _ _ (RS1 _) (RS2 _)))))))); refine wpQuiet_nil ?_; intro wq hw'; have HQ := below_of_regrown hw'; clear hw')
      have HE := bt (bt HB HB.size HC) (bt HB HB.size HC).size HQ
      clear f0 f1 f2 f3 f4 f5 f6 f7 f8 f9 f10 g0 g1 g2 g3 g4 g5 g6 g7 g8 g9 g10 r0 r1 r2 r3 r4 r5 r6 r7 r8 r9 r10 s0 s1 s2 s3 s4 s5 s6 s7 s8 s9 s10 RS1 RS2 HQ HC HB
      go_wp2_with fail
      go_ret
      exact ⟨rfl, HE⟩
    · clear hT hn' hr'
      go_upto_region 10 with fail
      replace HC := HC.alloc HC.size (.cells #[.int .i64 m0, .int .i64 m1, .int .i64 m2, .int .i64 m3, .int .i64 m4, .int .i64 m5, .int .i64 m6, .int .i64 m7, .int .i64 m8, .string t', .slice A2 n2' c2] 33)
      generalize w9.alloc (.cells #[.int .i64 m0, .int .i64 m1, .int .i64 m2, .int .i64 m3, .int .i64 m4, .int .i64 m5, .int .i64 m6, .int .i64 m7, .int .i64 m8, .string t', .slice A2 n2' c2] 33) = wz at HC ⊢
      obtain ⟨f0, f1, f2, f3, f4, f5, f6, f7, f8, f9, f10⟩ := box_cells (heap_below hA HC)
      obtain ⟨g0, g1, g2, g3, g4, g5, g6, g7, g8, g9, g10⟩ := box_cells (heap_below hX HC)
      have r0 := regrown_cell f0; have r1 := regrown_cell f1; have r2 := regrown_cell f2; have r3 := regrown_cell f3; have r4 := regrown_cell f4; have r5 := regrown_cell f5; have r6 := regrown_cell f6; have r7 := regrown_cell f7; have r8 := regrown_cell f8; have r9 := regrown_cell f9; have r10 := regrown_cell f10
      have s0 := regrown_cell g0; have s1 := regrown_cell g1; have s2 := regrown_cell g2; have s3 := regrown_cell g3; have s4 := regrown_cell g4; have s5 := regrown_cell g5; have s6 := regrown_cell g6; have s7 := regrown_cell g7; have s8 := regrown_cell g8; have s9 := regrown_cell g9; have s10 := regrown_cell g10
      have RS1 := fun p : Regrown => (hS'.below HC).below (below_of_regrown (w := wz) ⟨p, rfl⟩)
      have RS2 := fun p : Regrown => (hS.below (bt HB HB.size HC)).below (below_of_regrown (w := wz) ⟨p, rfl⟩)
      (refine wp_region_quiet_below (by kernel_rfl) (by kernel_rfl) ?_; (repeat (go_big_quiet_step ((first | (go_at_call 29; (with_reducible exact Calls.regrown_of (of_any _ _ _ _ _ _ _ _ _ _ _ _ _ _))) | (go_at_call 32; (with_reducible exact Calls.regrown_of (HSA.out _ _ _ (RS1 _) (RS2 _)))))))); refine wpQuiet_nil ?_; intro wq hw'; have HQ := below_of_regrown hw'; clear hw')
      have HE := bt (bt HB HB.size HC) (bt HB HB.size HC).size HQ
      clear f0 f1 f2 f3 f4 f5 f6 f7 f8 f9 f10 g0 g1 g2 g3 g4 g5 g6 g7 g8 g9 g10 r0 r1 r2 r3 r4 r5 r6 r7 r8 r9 r10 s0 s1 s2 s3 s4 s5 s6 s7 s8 s9 s10 RS1 RS2 HQ HC HB
      go_wp2_with fail
      go_ret
      exact ⟨rfl, HE⟩
  · have hy0 : ((y : Int) == 0) = false := int_ne (by omega)
    refine (HFL.out j HJ.out h0 _).mono ?_
    rintro e w9 ⟨rfl, hd⟩
    replace HC := bt HC HC.size hd
    clear hd HM2 h0
    go_upto_region 10 with fail
    replace HC := HC.alloc HC.size (.cells #[.int .i64 0, .int .i64 0, .int .i64 0, .int .i64 0, .int .i64 0, .int .i64 0, .int .i64 0, .int .i64 0, .int .i64 0, .string ⟨#[]⟩, .slice none 0 0] 33)
    have hY := heap_alloc_new w9 (.cells #[.int .i64 0, .int .i64 0, .int .i64 0, .int .i64 0, .int .i64 0, .int .i64 0, .int .i64 0, .int .i64 0, .int .i64 0, .string ⟨#[]⟩, .slice none 0 0] 33)
    generalize w9.alloc (.cells #[.int .i64 0, .int .i64 0, .int .i64 0, .int .i64 0, .int .i64 0, .int .i64 0, .int .i64 0, .int .i64 0, .int .i64 0, .string ⟨#[]⟩, .slice none 0 0] 33) = wz at hY HC ⊢
    generalize w9.heap.size = Z at *
    obtain ⟨z0, z1, z2, z3, z4, z5, z6, z7, z8, z9, z10⟩ := box_cells hY
    have zz0 := regrown_cell z0
    have zz9 := regrown_cell z9
    obtain ⟨f0, f1, f2, f3, f4, f5, f6, f7, f8, f9, f10⟩ := box_cells (heap_below hA HC)
    obtain ⟨g0, g1, g2, g3, g4, g5, g6, g7, g8, g9, g10⟩ := box_cells (heap_below hX HC)
    have r0 := regrown_cell f0; have r1 := regrown_cell f1; have r2 := regrown_cell f2; have r3 := regrown_cell f3; have r4 := regrown_cell f4; have r5 := regrown_cell f5; have r6 := regrown_cell f6; have r7 := regrown_cell f7; have r8 := regrown_cell f8; have r9 := regrown_cell f9; have r10 := regrown_cell f10
    have s0 := regrown_cell g0; have s1 := regrown_cell g1; have s2 := regrown_cell g2; have s3 := regrown_cell g3; have s4 := regrown_cell g4; have s5 := regrown_cell g5; have s6 := regrown_cell g6; have s7 := regrown_cell g7; have s8 := regrown_cell g8; have s9 := regrown_cell g9; have s10 := regrown_cell g10
    have RS1 := fun p : Regrown => (hS'.below HC).below (below_of_regrown (w := wz) ⟨p, rfl⟩)
    have RS2 := fun p : Regrown => (hS.below (bt HB HB.size HC)).below (below_of_regrown (w := wz) ⟨p, rfl⟩)
    (refine wp_region_quiet_below (by kernel_rfl) (by kernel_rfl) ?_; (repeat (go_big_quiet_step ((first | (go_at_call 29; (with_reducible exact Calls.regrown_of (of_any _ _ _ _ _ _ _ _ _ _ _ _ _ _))) | (go_at_call 32; (with_reducible exact Calls.regrown_of (HSA.out _ _ _ (RS1 _) (RS2 _)))))))); refine wpQuiet_nil ?_; intro wq hw'; have HQ := below_of_regrown hw'; clear hw')
    have HE := bt (bt HB HB.size HC) (bt HB HB.size HC).size HQ
    clear f0 f1 f2 f3 f4 f5 f6 f7 f8 f9 f10 g0 g1 g2 g3 g4 g5 g6 g7 g8 g9 g10 r0 r1 r2 r3 r4 r5 r6 r7 r8 r9 r10 s0 s1 s2 s3 s4 s5 s6 s7 s8 s9 s10 RS1 RS2 HQ HC HB
    go_wp2_with fail
    go_ret
    exact ⟨rfl, HE⟩
theorem msg_back (n0 n1 n2 n3 n4 n5 n6 n7 n8 : Int) (t : ByteArray) (A : Option Addr) (ln cp : Nat) (x y : Nat) (ss : List ByteArray) (w : World) (hS : Strs w A ln ss) (ht : t.size ≤ 140737488351232) (hn : ln ≤ 9223372036854775807) (hx : x ≤ 65535) (hy : y ≤ 255) :
    Calls Try.prog 22 #[(.agg #[.int .i64 n0, .int .i64 n1, .int .i64 n2, .int .i64 n3, .int .i64 n4, .int .i64 n5, .int .i64 n6, .int .i64 n7, .int .i64 n8, .string t, .slice A ln cp]), .int .u16 x, .int .u8 (y : Nat)] w fun e w' => e = .returned (.bool true) ∧ Below w.heap.size w w' := by
  rcases hf : fewB t ss with _ | _
  · exact back_few n0 n1 n2 n3 n4 n5 n6 n7 n8 t A ln cp x y ss w hS ht hf
  · rcases hr : rightM (numAt n0 n1 n2 n3 n4 n5 n6 n7 n8) t ss with _ | _
    · exact back_wrong n0 n1 n2 n3 n4 n5 n6 n7 n8 t A ln cp x y ss w hS ht hf hn hr
    · exact back_right n0 n1 n2 n3 n4 n5 n6 n7 n8 t A ln cp x y ss w hS ht hf hn hx hy hr
end Go.Proofs.Ytdjgdhpncocahaa.MsgW
