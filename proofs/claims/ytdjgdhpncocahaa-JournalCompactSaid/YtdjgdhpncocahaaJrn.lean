/- Frames and single records, walked. -/
import Derived.Test.YtdjgdhpncocahaaJrnP
import Derived.Test.YtdjgdhpncocahaaCrcFns
set_option linter.unusedVariables false
set_option linter.unusedSimpArgs false
namespace Go.Proofs.Ytdjgdhpncocahaa.JrnW
open Go.RowKit Go.Proofs.Ytdjgdhpncocahaa.Base Go.Proofs.Ytdjgdhpncocahaa.TapeP Go.Proofs.Ytdjgdhpncocahaa.TapeW Go.Proofs.Ytdjgdhpncocahaa.CrcP Go.Proofs.Ytdjgdhpncocahaa.CrcW Go.Proofs.Ytdjgdhpncocahaa.JrnP

theorem text_size (s : ByteArray) (h : s.size ≤ 1048576) : (text s.data.toList).length ≤ s.size + 8 := text_length s (by omega)
set_option maxRecDepth 100000 in
set_option maxHeartbeats 1000000 in
theorem frame_in (s : ByteArray) (w : World) (hs : s.size ≤ 1048576) :
    Calls Try.prog 65 #[.string s] w fun e w' => e = .returned (.tuple #[.string (str (frame s.data.toList)), .int .i64 0]) ∧ Below w.heap.size w w' := by
  have HB : Below w.heap.size w w := Below.refl _ _
  have ht := text_size s hs
  have h1 : (str (text s.data.toList)).size ≤ 140737488351232 := by rw [str_size]; omega
  go_enter Try.func65, Try.ntmps65
  go_wp2_with (first | (go_at_call 47; (with_reducible refine (text_any _ _ (by omega)).mono ?_); rintro e w2 ⟨rfl, hd⟩; (first | replace HB := bt HB HB.size hd | replace HB := bt_drew HB HB.size hd | replace HB := bt_drewN HB HB.size hd); clear hd) | (go_at_call 40; refine (seal_any _ _ h1).mono ?_; rintro e w2 ⟨rfl, hd⟩; (first | replace HB := bt HB HB.size hd | replace HB := bt_drew HB HB.size hd | replace HB := bt_drewN HB HB.size hd); clear hd))
  go_ret2
  exact ⟨rfl, HB⟩
set_option maxRecDepth 100000 in
set_option maxHeartbeats 1000000 in
theorem frame_out (s : ByteArray) (w : World) (hs : 1048576 < s.size) (hs2 : s.size ≤ 140737488351232) :
    Calls Try.prog 65 #[.string s] w fun e w' => e = .returned (.tuple #[.string (str []), .int .i64 3]) ∧ Below w.heap.size w w' := by
  go_enter Try.func65, Try.ntmps65
  go_wp2
  go_ret2
  exact ⟨rfl, Below.refl _ _⟩

theorem left_is (b : Nat) (s : ByteArray) (p L : Nat) (w : World) (hT : TapeAt w b s p) (hL : s.size = p + L) :
    Calls Try.prog 50 #[.pointer (some ⟨b, 0, none⟩)] w fun e w' => e = .returned (.int .i64 (L : Nat)) ∧ Drawn w w' := by
  have h := left_any b s p w hT
  have e : (s.size : Int) - p = ((L : Nat) : Int) := by omega
  rwa [e] at h
set_option maxRecDepth 100000 in
set_option maxHeartbeats 1000000 in
/-- No text of so many bytes: no record. -/
theorem one_bad (s : ByteArray) (w : World) (hs : s.size ≤ 140737488351232) {n i er : Nat} (hp : pk (s.data.toList.drop 0) = (n, i, er)) (hbad : er ≠ 0 ∨ 1048576 < n ∨ s.size < i + n) :
    Calls Try.prog 80 #[.string s] w fun e w' => e = .returned (.tuple #[.string (str []), .int .i64 0]) ∧ Below w.heap.size w w' := by
  have HB : Below w.heap.size w w := Below.refl _ _
  have key : ∃ er' : Nat, er' ≠ 0 ∧ ∀ b W, TapeAt W b s 0 → Calls Try.prog 51 #[.pointer (some ⟨b, 0, none⟩), .int .i64 1048576] W fun e w' => e = .returned (.tuple #[.string (str []), .int .i64 (er' : Nat)]) ∧ Drawn W w' := by
    by_cases h1 : er = 0
    · subst h1
      by_cases h2 : 1048576 < n
      · exact ⟨3, by omega, fun b W hT => ttext_large b s 0 1048576 W hT hp (by omega)⟩
      · exact ⟨2, by omega, fun b W hT => ttext_short b s 0 1048576 W hT hp (by omega) (by omega)⟩
    · exact ⟨er, h1, fun b W hT => ttext_err b s 0 1048576 W hT hp h1⟩
  obtain ⟨er', he, key⟩ := key
  have HK := Lib.hid key
  have h0 : (((er' : Nat) : Int) != 0) = true := int_bne (by omega)
  clear key hp hbad he
  go_enter Try.func80, Try.ntmps80
  go_wp2_with (go_at_call 49; (with_reducible refine (new_tape s _ hs).mono ?_); rintro e w1 ⟨b, rfl, hT, hb, hd⟩; replace HB := HB.trans (hd.mono HB.size); clear hd)
  refine (HK.out b _ hT).mono ?_
  rintro e w2 ⟨rfl, hd⟩
  replace hT := hT.drawn hd
  replace HB := HB.trans (hd.below (B := w.heap.size))
  clear hd HK
  go_wp2_with (go_at_call 50; (with_reducible refine (left_any _ _ _ _ hT).mono ?_); rintro e w3 ⟨rfl, hd⟩; replace HB := HB.trans (hd.below (B := w.heap.size)); clear hd)
  all_goals (go_ret2; exact ⟨rfl, HB⟩)
set_option maxRecDepth 100000 in
set_option maxHeartbeats 1000000 in
theorem one_good (s : ByteArray) (w : World) (hs : s.size ≤ 140737488351232) {n i : Nat} (hp : pk (s.data.toList.drop 0) = (n, i, 0)) (h1 : n ≤ 1048576) (h2 : i + n ≤ s.size) (r : List UInt8 × Nat)
    (hr : r = if s.size < i + n + 4 then ([], 0) else if (s.data.toList.drop (i + n)).take 4 = four (crc (s.data.toList.take (i + n))) then ((s.data.toList.drop i).take n, i + n + 4) else ([], 0)) :
    Calls Try.prog 80 #[.string s] w fun e w' => e = .returned (.tuple #[.string (str r.1), .int .i64 (r.2 : Nat)]) ∧ Below w.heap.size w w' := by
  have HB : Below w.heap.size w w := Below.refl _ _
  have HP := Lib.hid hp
  clear hp
  by_cases h3 : s.size < i + n + 4
  · rw [if_pos h3] at hr
    subst hr
    go_enter Try.func80, Try.ntmps80
    go_wp2_with (go_at_call 49; (with_reducible refine (new_tape s _ hs).mono ?_); rintro e w1 ⟨b, rfl, hT, hb, hd⟩; replace HB := HB.trans (hd.mono HB.size); clear hd)
    refine (ttext_ok b s 0 1048576 _ hT HP.out (by omega) (by omega)).mono ?_
    rintro e w2 ⟨rfl, hd⟩
    replace hT := hd.tape
    replace HB := HB.trans (hd.only.below (B := w.heap.size) hb HB.size)
    obtain ⟨L, hL⟩ : ∃ L : Nat, s.size = 0 + i + n + L := ⟨s.size - (i + n), by omega⟩
    have hz : (s.size : Int) - (L : Int) = (i : Int) + n := by omega
    have HL := Lib.hid hL
    clear hd HP hL
    go_wp2_with (go_at_call 50; (with_reducible refine (left_is _ _ _ L _ hT HL.out).mono ?_); rintro e w3 ⟨rfl, hd⟩; replace HB := HB.trans (hd.below (B := w.heap.size)); clear hd)
    all_goals (go_ret2; exact ⟨rfl, HB⟩)
  · rw [if_neg h3] at hr
    have hex : (s.extract 0 (i + n + 4)).data.toList = s.data.toList.take (i + n + 4) := by rw [extract_str, str_list]; rfl
    have hlen : (s.data.toList.take (i + n + 4)).length = i + n + 4 := by rw [List.length_take, list_size]; omega
    have hop : opened (s.extract 0 (i + n + 4)).data.toList = if (s.data.toList.drop (i + n)).take 4 = four (crc (s.data.toList.take (i + n))) then (s.data.toList.take (i + n), 0) else ([], 7) := by
      unfold opened
      rw [hex, hlen, if_neg (by omega)]
      have e1 : i + n + 4 - 4 = i + n := by omega
      rw [e1, List.drop_take, List.take_take]
      have e2 : i + n + 4 - (i + n) = 4 := by omega
      have e3 : min (i + n) (i + n + 4) = i + n := by omega
      rw [e2, e3]
    have hes : (s.extract 0 (i + n + 4)).size ≤ 140737488351232 := extract_le _ _ hs
    have htn : ((i : Int) + n + 4).toNat = i + n + 4 := by omega
    by_cases h4 : (s.data.toList.drop (i + n)).take 4 = four (crc (s.data.toList.take (i + n)))
    · rw [if_pos h4] at hr hop
      subst hr
      have HO := Lib.hid hop
      clear hop h4 hex hlen
      go_enter Try.func80, Try.ntmps80
      go_wp2_with (go_at_call 49; (with_reducible refine (new_tape s _ hs).mono ?_); rintro e w1 ⟨b, rfl, hT, hb, hd⟩; replace HB := HB.trans (hd.mono HB.size); clear hd)
      refine (ttext_ok b s 0 1048576 _ hT HP.out (by omega) (by omega)).mono ?_
      rintro e w2 ⟨rfl, hd⟩
      replace hT := hd.tape
      replace HB := HB.trans (hd.only.below (B := w.heap.size) hb HB.size)
      obtain ⟨L, hL⟩ : ∃ L : Nat, s.size = 0 + i + n + L := ⟨s.size - (i + n), by omega⟩
      have hz : (s.size : Int) - (L : Int) = (i : Int) + n := by omega
      have HL := Lib.hid hL
      clear hd HP hL
      go_wp2_with (first | (go_at_call 50; (with_reducible refine (left_is _ _ _ L _ hT HL.out).mono ?_); rintro e w3 ⟨rfl, hd⟩; replace HB := HB.trans (hd.below (B := w.heap.size)); clear hd) | (go_at_call 39; refine (open_any _ _ hes).mono ?_; rw [HO.out]; rintro e w2 ⟨rfl, hd⟩; (first | replace HB := bt HB HB.size hd | replace HB := bt_drew HB HB.size hd | replace HB := bt_drewN HB HB.size hd); clear hd))
      all_goals (go_ret2; exact ⟨rfl, HB⟩)
    · rw [if_neg h4] at hr hop
      subst hr
      have HO := Lib.hid hop
      clear hop h4 hex hlen
      go_enter Try.func80, Try.ntmps80
      go_wp2_with (go_at_call 49; (with_reducible refine (new_tape s _ hs).mono ?_); rintro e w1 ⟨b, rfl, hT, hb, hd⟩; replace HB := HB.trans (hd.mono HB.size); clear hd)
      refine (ttext_ok b s 0 1048576 _ hT HP.out (by omega) (by omega)).mono ?_
      rintro e w2 ⟨rfl, hd⟩
      replace hT := hd.tape
      replace HB := HB.trans (hd.only.below (B := w.heap.size) hb HB.size)
      obtain ⟨L, hL⟩ : ∃ L : Nat, s.size = 0 + i + n + L := ⟨s.size - (i + n), by omega⟩
      have hz : (s.size : Int) - (L : Int) = (i : Int) + n := by omega
      have HL := Lib.hid hL
      clear hd HP hL
      go_wp2_with (first | (go_at_call 50; (with_reducible refine (left_is _ _ _ L _ hT HL.out).mono ?_); rintro e w3 ⟨rfl, hd⟩; replace HB := HB.trans (hd.below (B := w.heap.size)); clear hd) | (go_at_call 39; refine (open_any _ _ hes).mono ?_; rw [HO.out]; rintro e w2 ⟨rfl, hd⟩; (first | replace HB := bt HB HB.size hd | replace HB := bt_drew HB HB.size hd | replace HB := bt_drewN HB HB.size hd); clear hd))
      all_goals (go_ret2; exact ⟨rfl, HB⟩)
theorem one_any (s : ByteArray) (w : World) (hs : s.size ≤ 140737488351232) :
    Calls Try.prog 80 #[.string s] w fun e w' => e = .returned (.tuple #[.string (str (one1 s.data.toList).1), .int .i64 ((one1 s.data.toList).2 : Nat)]) ∧ Below w.heap.size w w' := by
  obtain ⟨n, i, er, hp⟩ : ∃ n i er, pk (s.data.toList.drop 0) = (n, i, er) := ⟨_, _, _, rfl⟩
  have hp0 : pk s.data.toList = (n, i, er) := hp
  by_cases hb : er ≠ 0 ∨ 1048576 < n ∨ s.size < i + n
  · have : one1 s.data.toList = ([], 0) := by
      unfold one1
      rw [hp0]
      dsimp only
      rw [if_pos (by rw [list_size]; omega)]
    rw [this]
    exact one_bad s w hs hp hb
  · have her : er = 0 := by omega
    subst her
    refine one_good s w hs hp (by omega) (by omega) _ ?_
    unfold one1
    rw [hp0]
    dsimp only
    rw [list_size]
    by_cases h4 : s.size < i + n + 4
    · rw [if_pos h4, if_pos (by omega)]
    · rw [if_neg h4, if_neg (by omega)]
end Go.Proofs.Ytdjgdhpncocahaa.JrnW
