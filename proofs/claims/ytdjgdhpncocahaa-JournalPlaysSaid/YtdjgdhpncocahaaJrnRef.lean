/- The document's journal: stookref19, walked. -/
import Derived.Test.YtdjgdhpncocahaaRd5
import Derived.Test.YtdjgdhpncocahaaJrnK
import Derived.Test.YtdjgdhpncocahaaCrcRef
import Derived.Test.YtdjgdhpncocahaaTapeRefN
set_option linter.unusedVariables false
set_option linter.unusedSimpArgs false
namespace Go.Proofs.Ytdjgdhpncocahaa.JrnR
open Go.RowKit Go.Proofs.Ytdjgdhpncocahaa.Base Go.Proofs.Ytdjgdhpncocahaa.TapeP Go.Proofs.Ytdjgdhpncocahaa.TapeW Go.Proofs.Ytdjgdhpncocahaa.CrcP Go.Proofs.Ytdjgdhpncocahaa.CrcW Go.Proofs.Ytdjgdhpncocahaa.CrcR Go.Proofs.Ytdjgdhpncocahaa.JrnP Go.Proofs.Ytdjgdhpncocahaa.JrnW Go.Proofs.Ytdjgdhpncocahaa.BuildW Go.Proofs.Ytdjgdhpncocahaa.Rd5

set_option maxRecDepth 100000 in
set_option maxHeartbeats 1000000 in
theorem rframe (s : ByteArray) (w : World) (hs : s.size ≤ 1048576) :
    Calls Try.prog 85 #[.string s] w fun e w' => e = .returned (.string (str (frame s.data.toList))) ∧ Below w.heap.size w w' := by
  have HB : Below w.heap.size w w := Below.refl _ _
  have ht := text_size s hs
  have h1 : (str (text s.data.toList)).size ≤ 140737488351232 := by rw [str_size]; omega
  have h2 : crc (text s.data.toList) < 4294967296 := crc_lt _
  have h3 : (str (text s.data.toList)).size + (str (four (crc (text s.data.toList)))).size ≤ 9223372036854775807 := by rw [str_size, str_size, four_length]; omega
  have hap : str (text s.data.toList) ++ str (four (crc (text s.data.toList))) = str (frame s.data.toList) := by rw [str_append]; rfl
  have hsum := fun W => rsum (str (text s.data.toList)) W h1
  rw [str_list] at hsum
  have HS := Lib.hid hsum
  have HA := Lib.hid hap
  clear hsum hap
  go_enter Try.func85, Try.ntmps85
  go_wp2_with (first | (go_at_call 44; (with_reducible refine (rtext_any _ _ (by omega)).mono ?_); rintro e w2 ⟨rfl, hd⟩; (first | replace HB := bt HB HB.size hd | replace HB := bt_drew HB HB.size hd | replace HB := bt_drewN HB HB.size hd); clear hd) | (go_at_call 35; refine (HS.out _).mono ?_; rintro e w3 ⟨rfl, rfl⟩) | (go_at_call 42; (with_reducible refine (rbytes _ _ h2).mono ?_); rintro e w4 ⟨rfl, hd⟩; (first | replace HB := bt HB HB.size hd | replace HB := bt_drew HB HB.size hd | replace HB := bt_drewN HB HB.size hd); clear hd))
  go_ret
  exact ⟨by rw [← HA.out]; rfl, HB⟩
set_option maxRecDepth 100000 in
set_option maxHeartbeats 1000000 in
theorem rframes (A : Option Addr) (n c : Nat) (ss : List ByteArray) (w : World) (hS : Strs w A n ss) (hsm : ∀ s, s ∈ ss → s.size ≤ 1048576) (ht : total ss ≤ 10000000000) (hn : n ≤ 100000000) :
    Calls Try.prog 69 #[.slice A n c] w fun e w' => e = .returned (.string (str (frames (lst ss)))) ∧ Below w.heap.size w w' := by
  have hlen := hS.len
  go_enter Try.func69, Try.ntmps69
  go_wp2
  go_loopw [3, 4] (fun v i wr => ∃ k : Nat, k ≤ n ∧ i = .int .i64 k ∧ v = .string (str (frames (lst (ss.take k)))) ∧ Below w.heap.size w wr) (fun _ i _ => n - (intOf i).toNat)
  case atStart => exact ⟨0, by omega, rfl, by rw [List.take_zero]; rfl, Below.refl _ _⟩
  case round =>
    obtain ⟨k, hk, rfl, rfl, HB⟩ := hrel
    by_cases hlt : k < n
    · have hks : k < ss.length := by omega
      obtain ⟨b, off, rfl, hc⟩ := hS.block (by omega)
      have hcell := cell_below HB (hc k hks)
      have hsz := hsm _ (List.getElem_mem hks)
      have htk : ss.take (k + 1) = ss.take k ++ [ss[k]] := take_snoc_list ss k hks
      have htl := frames_le (ss.take k) (fun s hs => hsm s (List.mem_of_mem_take hs))
      have htl2 := total_take_le ss k
      have hkl : (ss.take k).length = k := by rw [List.length_take]; omega
      have htx := frame_le ss[k] hsz
      generalize hsk : ss[k] = s at hcell hsz htk htx
      clear hsk
      have hnx : (str (frames (lst (ss.take k)))).size + (str (frame s.data.toList)).size ≤ 9223372036854775807 := by
        rw [str_size, str_size]; omega
      have hnext : str (frames (lst (ss.take (k + 1)))) = str (frames (lst (ss.take k))) ++ str (frame s.data.toList) := by
        rw [htk, lst_append, frames_append, str_append]
        show _ = str (_ ++ frame s.data.toList)
        show str (_ ++ (frame s.data.toList ++ [])) = _
        rw [List.append_nil]
        rfl
      have HN := Lib.hid hnext
      clear hnext htk htl htl2 hkl hsm hc
      go_wp2_with (go_at_call 85; (with_reducible refine (rframe _ _ hsz).mono ?_); rintro e w4 ⟨rfl, hd⟩; (first | replace HB := bt HB HB.size hd | replace HB := bt_drew HB HB.size hd | replace HB := bt_drewN HB HB.size hd); clear hd)
      go_roundw
      case rel => exact ⟨k + 1, by omega, by go_num, by rw [HN.out], HB⟩
      case measure => simp [intOf]; omega
    · obtain rfl : k = n := by omega
      have e : ss.take k = ss := by rw [← hlen, List.take_length]
      rw [e]
      go_wp2
      go_ret
      exact ⟨rfl, HB⟩
theorem recs_step {d o : List UInt8} {k : Nat} (h : one1 d = (o, k)) (h0 : k ≠ 0) : recs d = (o :: (recs (d.drop k)).1, k + (recs (d.drop k)).2) := by
  rw [recs_some (by rw [h]; exact h0), h]
theorem rsum_b (s : ByteArray) (w : World) (hs : s.size ≤ 140737488351232) :
    Calls Try.prog 35 #[.string s] w fun e w' => e = .returned (.int .i64 (crc s.data.toList : Nat)) ∧ Below w.heap.size w w' :=
  (rsum s w hs).mono fun e w' ⟨h1, h2⟩ => ⟨h1, by rw [← h2]; exact Below.refl _ _⟩
set_option maxRecDepth 100000 in
set_option maxHeartbeats 2000000 in
theorem rjread (s : ByteArray) (w : World) (hs : s.size ≤ 1000000000) :
    Calls Try.prog 68 #[.string s] w fun e w' => ∃ v, e = .returned (.tuple #[v, .int .i64 ((recs s.data.toList).2 : Nat)]) ∧ w'.ownsRow w.heap.size 9 1 v (recs s.data.toList).1.length (sv ((recs s.data.toList).1.map str)) ∧ Below w.heap.size w w' := by
  go_enter Try.func68, Try.ntmps68
  go_wp2
  go_loopw [4, 5] (fun v x wr => ∃ (p : Nat) (acc : List (List UInt8)), p ≤ s.size ∧ x = .int .i64 p ∧ recs s.data.toList = (acc ++ (recs (s.data.toList.drop p)).1, p + (recs (s.data.toList.drop p)).2) ∧ acc.length ≤ p ∧ wr.ownsRow w.heap.size 9 1 v acc.length (sv (acc.map str)) ∧ Below w.heap.size w wr) (fun _ x _ => s.size - (intOf x).toNat)
  case atStart => exact ⟨0, [], by omega, rfl, by rw [List.drop_zero, List.nil_append, Nat.zero_add], by simp, own_none _ _ _ _, Below.refl _ _⟩
  case round =>
    obtain ⟨p, acc, hp, rfl, hrec, hlen, HO, HB⟩ := hrel
    have hex : (s.extract p s.size).data.toList = s.data.toList.drop p := by rw [extract_str, str_list, List.take_of_length_le (by rw [list_size]; exact Nat.le_refl _)]
    have hes : (s.extract p s.size).size ≤ 140737488351232 := extract_le _ _ (by omega)
    have hrd := fun W => rread_any (s.extract p s.size) W hes
    rw [hex] at hrd
    obtain ⟨x, i, er, hpk⟩ : ∃ x i er, pk (s.data.toList.drop p) = (x, i, er) := ⟨_, _, _, rfl⟩
    rw [hpk] at hrd
    have hxle := pk_le (s.data.toList.drop p)
    have hile := pk_ilen (s.data.toList.drop p)
    rw [hpk] at hxle hile
    rw [List.length_drop, list_size] at hile
    dsimp only at hrd hxle hile
    by_cases hbad : er ≠ 0 ∨ 1048576 < x ∨ s.size < p + i + x + 4
    · have h0 : one1 (s.data.toList.drop p) = ([], 0) := by
        unfold one1
        rw [hpk]
        dsimp only
        rw [if_pos (by rw [List.length_drop, list_size]; omega)]
      rw [recs_none (l := s.data.toList.drop p) (by rw [h0])] at hrec
      have HR := Lib.hid hrec
      have HN := Lib.hid hrd
      clear hrec hrd h0 hex hpk
      by_cases he : er = 0
      · subst he
        by_cases hx : 1048576 < x
        · clear hbad
          go_wp2_with (go_at_call 84; refine (HN.out _).mono ?_; rintro e w2 ⟨rfl, rfl⟩)
          go_ret2
          refine ⟨_, by rw [HR.out]; rfl, ?_, HB⟩
          rw [HR.out, List.append_nil]
          exact HO
        · have hlt : ((s.size : Int) - p - i - 4) < (x : Int) := by omega
          clear hbad
          go_wp2_with (go_at_call 84; refine (HN.out _).mono ?_; rintro e w2 ⟨rfl, rfl⟩)
          go_ret2
          refine ⟨_, by rw [HR.out]; rfl, ?_, HB⟩
          rw [HR.out, List.append_nil]
          exact HO
      · have hz : (((er : Nat) : Int) != 0) = true := int_bne (by omega)
        clear hbad
        go_wp2_with (go_at_call 84; refine (HN.out _).mono ?_; rintro e w2 ⟨rfl, rfl⟩)
        go_ret2
        refine ⟨_, by rw [HR.out]; rfl, ?_, HB⟩
        rw [HR.out, List.append_nil]
        exact HO
    · have he : er = 0 := by omega
      subst he
      have h1 : x ≤ 1048576 := by omega
      have h2 : p + i + x + 4 ≤ s.size := by omega
      have ht : (s.extract p (p + i + x)).data.toList = (s.data.toList.drop p).take (i + x) := by
        rw [extract_str, str_list, List.drop_take]
        have : p + i + x - p = i + x := by omega
        rw [this]
      have hq : (s.extract (p + i + x) (p + i + x + 4)).data.toList = ((s.data.toList.drop p).drop (i + x)).take 4 := by
        rw [extract_str, str_list, List.drop_take, List.drop_drop]
        have e1 : p + i + x + 4 - (p + i + x) = 4 := by omega
        have e2 : p + (i + x) = p + i + x := by omega
        rw [e1, e2]
      have hts : (s.extract p (p + i + x)).size ≤ 140737488351232 := extract_le _ _ (by omega)
      have htsz : (s.extract p (p + i + x)).size = i + x := by rw [← list_size, ht, List.length_take, List.length_drop, list_size]; omega
      have hone : one1 (s.data.toList.drop p) = if ((s.data.toList.drop p).drop (i + x)).take 4 = four (crc ((s.data.toList.drop p).take (i + x))) then (((s.data.toList.drop p).drop i).take x, i + x + 4) else ([], 0) := by
        unfold one1
        rw [hpk]
        dsimp only
        rw [if_neg (by rw [List.length_drop, list_size]; omega)]
      have hsum := fun W => rsum_b (s.extract p (p + i + x)) W hts
      rw [ht] at hsum
      have hn1 : ((p : Int) + i).toNat = p + i := by omega
      have hn2 : ((p : Int) + i + x).toNat = p + i + x := by omega
      have hn3 : ((p : Int) + i + x + 4).toNat = p + i + x + 4 := by omega
      have hb0 : (x : Int) ≤ (s.size : Int) - p - i - 4 := by omega
      have hb1 : (0 : Int) ≤ (p : Int) ∧ (p : Int) ≤ (p : Int) + i + x := by omega
      have hb2 : (0 : Int) ≤ (p : Int) + i + x ∧ (p : Int) + i + x ≤ (s.size : Int) := by omega
      have hb3 : (p : Int) + i + x ≤ (p : Int) + i + x + 4 ∧ (p : Int) + i + x + 4 ≤ (s.size : Int) := by omega
      have hby := fun W => rbytes (crc ((s.data.toList.drop p).take (i + x))) W (crc_lt _)
      by_cases hc : ((s.data.toList.drop p).drop (i + x)).take 4 = four (crc ((s.data.toList.drop p).take (i + x)))
      · rw [if_pos hc] at hone
        have h0 : (one1 (s.data.toList.drop p)).2 ≠ 0 := by rw [hone]; show i + x + 4 ≠ 0; omega
        have hnx : recs s.data.toList = ((acc ++ [((s.data.toList.drop p).drop i).take x]) ++ (recs (s.data.toList.drop (p + (i + x + 4)))).1, (p + (i + x + 4)) + (recs (s.data.toList.drop (p + (i + x + 4)))).2) := by
          have e3 : (s.data.toList.drop p).drop (i + x + 4) = s.data.toList.drop (p + (i + x + 4)) := List.drop_drop ..
          rw [hrec, recs_step hone (by omega), e3]
          refine Prod.ext ?_ ?_
          · simp
          · dsimp only; omega
        have hqq : ((s.extract (p + i + x) (p + i + x + 4)).toList == (str (four (crc ((s.data.toList.drop p).take (i + x))))).toList) = true := str_eq (by rw [hq, hc, str_list])
        have hbody : (s.extract p (p + i + x)).extract i (s.extract p (p + i + x)).size = str (((s.data.toList.drop p).drop i).take x) := by
          rw [extract_str, ht, htsz, List.take_take, List.drop_take]
          have e1 : min (i + x) (i + x) = i + x := by omega
          have e2 : i + x - i = x := by omega
          rw [e1, e2]
        have HR := Lib.hid hnx
        have HN := Lib.hid hrd
        have HS := Lib.hid hsum
        have HY := Lib.hid hby
        have HD := Lib.hid hbody
        have HSZ := Lib.hid htsz
        clear hrec hrd hsum hby hbody h0 hone hpk hex ht hq hc hnx hbad
        generalize four (crc ((s.data.toList.drop p).take (i + x))) = ff at *
        generalize crc ((s.data.toList.drop p).take (i + x)) = cc at *
        have hl2 : (sv (acc.map str)).length = acc.length := by rw [sv_length, List.length_map]
        have HL2 := Lib.hid hl2
        clear hl2
        go_upto_region 7 with (go_at_call 84; refine (HN.out _).mono ?_; rintro e w2 ⟨rfl, rfl⟩)
        (refine wp_region_quiet_below (by kernel_rfl) (by kernel_rfl) ?_; (repeat (go_big_quiet_step ((first | (go_at_call 35; exact Calls.regrown_of (HS.out _)) | (go_at_call 42; exact Calls.regrown_of (HY.out _)))))); refine wpQuiet_nil ?_; intro wq hw'; have HQ := below_of_regrown hw'; clear hw')
        replace HO := own_below HO HQ
        replace HB := bt HB HB.size HQ
        clear HS HY
        go_wp2_with (at_builtin; refine app_one w.heap.size rfl (.tmp 64) (.tmp 68) 26 9 (.string (str [])) 16 rfl Try.underlying26 info_str rfl (by omega) _ _ _ acc.length HL2.out rfl rfl rfl HO HB HB.size (by omega) ?_; intro v1 w3 HO1 HB1 hg1)
        go_roundw
        case rel => exact ⟨p + (i + x + 4), acc ++ [((s.data.toList.drop p).drop i).take x], by omega, by go_num, HR.out, by rw [List.length_append]; simp only [List.length_cons, List.length_nil]; omega, by rw [map_snoc, List.length_append, ← HD.out, HSZ.out]; exact HO1, HB1⟩
        case measure => simp [intOf]; omega
      · rw [if_neg hc] at hone
        rw [recs_none (l := s.data.toList.drop p) (by rw [hone])] at hrec
        have hqq : ((s.extract (p + i + x) (p + i + x + 4)).toList == (str (four (crc ((s.data.toList.drop p).take (i + x))))).toList) = false := str_ne (by rw [hq, str_list]; exact hc)
        have HR := Lib.hid hrec
        have HN := Lib.hid hrd
        have HS := Lib.hid hsum
        have HY := Lib.hid hby
        clear hrec hrd hsum hby hone hpk hex ht hq hc hbad
        generalize four (crc ((s.data.toList.drop p).take (i + x))) = ff at *
        generalize crc ((s.data.toList.drop p).take (i + x)) = cc at *
        go_upto_region 7 with (go_at_call 84; refine (HN.out _).mono ?_; rintro e w2 ⟨rfl, rfl⟩)
        (refine wp_region_quiet_below (by kernel_rfl) (by kernel_rfl) ?_; (repeat (go_big_quiet_step ((first | (go_at_call 35; exact Calls.regrown_of (HS.out _)) | (go_at_call 42; exact Calls.regrown_of (HY.out _)))))); refine wpQuiet_nil ?_; intro wq hw'; have HQ := below_of_regrown hw'; clear hw')
        replace HO := own_below HO HQ
        replace HB := bt HB HB.size HQ
        go_wp2
        go_ret2
        refine ⟨_, by rw [HR.out]; rfl, ?_, HB⟩
        rw [HR.out, List.append_nil]
        exact HO
end Go.Proofs.Ytdjgdhpncocahaa.JrnR
