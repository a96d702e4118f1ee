/- The law JournalAgain walked. -/
import Derived.Test.YtdjgdhpncocahaaJrnL
set_option linter.unusedVariables false
set_option linter.unusedSimpArgs false
namespace Go.Proofs.Ytdjgdhpncocahaa.JrnW
open Go.RowKit Go.Proofs.Ytdjgdhpncocahaa.Base Go.Proofs.Ytdjgdhpncocahaa.TapeP Go.Proofs.Ytdjgdhpncocahaa.TapeW Go.Proofs.Ytdjgdhpncocahaa.CrcP Go.Proofs.Ytdjgdhpncocahaa.CrcW Go.Proofs.Ytdjgdhpncocahaa.JrnP Go.Proofs.Ytdjgdhpncocahaa.BuildW Go.Proofs.Ytdjgdhpncocahaa.EqsW

theorem eqs_refl (ss : List ByteArray) : eqs ss ss = true := eqs_all rfl fun k h1 h2 => str_eq rfl
theorem lst_str (l : List (List UInt8)) : lst (l.map str) = l := by
  unfold lst
  rw [List.map_map]
  have : ((fun s : ByteArray => s.data.toList) ∘ str) = id := rfl
  rw [this, List.map_id]
theorem total_frames (l : List (List UInt8)) : total (l.map str) ≤ (frames l).length := by
  induction l with
  | nil => exact Nat.zero_le _
  | cons s l ih =>
    show (str s).size + total (l.map str) ≤ (frame s ++ frames l).length
    rw [List.length_append, frame_length, str_size]
    omega
theorem count_frames (l : List (List UInt8)) : l.length ≤ (frames l).length := by
  induction l with
  | nil => exact Nat.zero_le _
  | cons s l ih =>
    show l.length + 1 ≤ (frame s ++ frames l).length
    rw [List.length_append, frame_length]
    omega
set_option maxRecDepth 100000 in
set_option maxHeartbeats 1000000 in
theorem again_any (s : ByteArray) (w : World) (hs : s.size ≤ 140737488351232) :
    Calls Try.prog 14 #[.string s] w fun e w' => e = .returned (.bool true) ∧ Below w.heap.size w w' := by
  have HB : Below w.heap.size w w := Below.refl _ _
  by_cases h1 : 3000 < s.size
  · go_enter Try.func14, Try.ntmps14
    go_wp2_with (go_at_call 56; (with_reducible refine (awake_any _).mono ?_); rintro e w2 ⟨rfl, hd⟩; (first | replace HB := bt HB HB.size hd | replace HB := bt_drew HB HB.size hd | replace HB := bt_drewN HB HB.size hd); clear hd)
    all_goals (go_ret; exact ⟨rfl, HB⟩)
  · obtain ⟨hn, hfr, hsm⟩ := recs_facts s.data.toList
    rw [list_size] at hn
    have hr1 := fun W => read_any s W (by omega)
    have hj := fun W => jopen_any s W (by omega)
    generalize hrs : (recs s.data.toList).1 = rs at *
    generalize hk : (recs s.data.toList).2 = k at *
    have hex : s.extract 0 k = str (frames rs) := by rw [extract_str, ← hfr]; rfl
    have hlen : (frames rs).length = k := by rw [← hfr, List.length_take, list_size]; omega
    have hr2 := fun W => read_any (str (frames rs)) W (by rw [str_size]; omega)
    rw [str_list, recs_all rs hsm, hlen] at hr2
    have htot := total_frames rs
    have hcnt := count_frames rs
    have hb : ∀ base b W, JAt W base b (rs.map str) → Calls Try.prog 60 #[.pointer (some ⟨b, 0, none⟩)] W fun e w' => e = .returned (.string (str (frames rs))) ∧ Below W.heap.size W w' := fun base b W h => by
      have := jbytes_any base b _ W h (by omega) (by rw [List.length_map]; omega)
      rwa [lst_str] at this
    have hmm : rs.length = (rs.map str).length := (List.length_map _).symm
    rw [hmm] at hr1 hr2
    generalize rs.map str = ss at *
    have hss : ss.length ≤ 3000 := by omega
    have hkk : ((k : Int) == (k : Int)) = true := int_eq rfl
    have hnn : (0 : Int) ≤ (k : Int) ∧ (k : Int) ≤ (s.size : Int) := by omega
    have R1 := Lib.hid hr1
    have R2 := Lib.hid hr2
    have HJ := Lib.hid hj
    have BB := Lib.hid hb
    have EX := Lib.hid hex
    clear hr1 hr2 hj hb hex hlen hfr hsm hrs hk hmm htot hcnt
    generalize str (frames rs) = fr at *
    have hq : (fr.toList == (s.extract 0 k).toList) = true := by rw [EX.out]; simp
    go_enter Try.func14, Try.ntmps14
    go_upto_region 3 with (go_at_call 56; (with_reducible refine (awake_any _).mono ?_); rintro e w2 ⟨rfl, hd⟩; (first | replace HB := bt HB HB.size hd | replace HB := bt_drew HB HB.size hd | replace HB := bt_drewN HB HB.size hd); clear hd)
    go_wp2_with fail
    refine (R1.out _).mono ?_
    rintro e w2 ⟨v, rfl, HO, hd⟩
    obtain ⟨A, c, rfl, hS1⟩ := own_strs HO
    (first | replace HB := bt HB HB.size hd | replace HB := bt_drew HB HB.size hd | replace HB := bt_drewN HB HB.size hd); clear hd
    clear HO
    go_wp2_with fail
    rw [EX.out]
    refine (R2.out _).mono ?_
    rintro e w3 ⟨v3, rfl, HO, hd⟩
    obtain ⟨A3, c3, rfl, hS2⟩ := own_strs HO
    replace hS1 := hS1.below hd
    (first | replace HB := bt HB HB.size hd | replace HB := bt_drew HB HB.size hd | replace HB := bt_drewN HB HB.size hd); clear hd
    clear HO
    go_upto_region 7 with fail
    have T1 := fun W hA hB => same_texts A A3 ss.length c ss.length c3 ss ss W hA hB (by omega)
    rw [eqs_refl] at T1
    have T := Lib.hid (T1 w3.drew (hS1.below ((Below.refl _ _).drew)) (hS2.below ((Below.refl _ _).drew)))
    clear T1
    go_region_with (first | (go_at_call 58; refine T.out.mono ?_; rintro e w4 ⟨rfl, hd4⟩) | (go_at_call 59; refine (HJ.out _).mono ?_; rintro e w5 ⟨b, rfl, hJ5, hd5⟩) | (go_at_call 60; refine (BB.out _ _ _ hJ5).mono ?_; rintro e w6 ⟨rfl, hd6⟩))
    all_goals go_wp2
    all_goals go_ret
    all_goals exact ⟨rfl, bt (bt (bt_drew HB HB.size hd4) (bt_drew HB HB.size hd4).size hd5) (bt (bt_drew HB HB.size hd4) (bt_drew HB HB.size hd4).size hd5).size hd6⟩
end Go.Proofs.Ytdjgdhpncocahaa.JrnW
