/- The statements' own functions of chapter 19, walked: the examples, sizes, journals laid. -/
import Derived.Test.YtdjgdhpncocahaaJrn3
import Derived.Test.YtdjgdhpncocahaaSum
import Derived.Test.YtdjgdhpncocahaaEqs
set_option linter.unusedVariables false
set_option linter.unusedSimpArgs false
namespace Go.Proofs.Ytdjgdhpncocahaa.JrnW
open Go.RowKit Go.Proofs.Ytdjgdhpncocahaa.Base Go.Proofs.Ytdjgdhpncocahaa.TapeP Go.Proofs.Ytdjgdhpncocahaa.TapeW Go.Proofs.Ytdjgdhpncocahaa.CrcP Go.Proofs.Ytdjgdhpncocahaa.CrcW Go.Proofs.Ytdjgdhpncocahaa.JrnP Go.Proofs.Ytdjgdhpncocahaa.BuildW Go.Proofs.Ytdjgdhpncocahaa.EqsW

theorem one_x : one1 [120] = ([], 0) := by decide +kernel
theorem recs_a : recs (frame [97] ++ [120]) = ([[97]], (frame [97]).length) := by
  have h := recs_frames [[97]] [120] (fun s hs => by rw [List.mem_singleton.1 hs]; decide)
  rw [recs_none (l := [120]) (by rw [one_x])] at h
  have e : frames [[97]] = frame [97] := List.append_nil _
  rw [e] at h
  exact h
theorem frame_a : (frame [97]).length = 6 := by decide +kernel
set_option maxRecDepth 100000 in
set_option maxHeartbeats 1000000 in
theorem awake_any (w : World) :
    Calls Try.prog 56 #[] w fun e w' => e = .returned (.bool true) ∧ Below w.heap.size w w' := by
  have h0 := read_any (str []) w (by rw [str_size]; simp)
  rw [str_list, recs_nil] at h0
  have h1 := fun W => frame_in (str [97]) W (by rw [str_size]; simp)
  have e1 : (str [97]).data.toList = [97] := rfl
  rw [e1] at h1
  have hsz : (str (frame [97])).size = 6 := by rw [str_size, frame_a]
  have e2 : str (frame [97]) ++ str [120] = str (frame [97] ++ [120]) := by rw [str_append]; rfl
  have h2 := fun W => read_any (str (frame [97] ++ [120])) W (by rw [str_size, List.length_append, frame_a]; simp)
  have e3 : (str (frame [97] ++ [120])).data.toList = frame [97] ++ [120] := rfl
  rw [e3, recs_a, frame_a] at h2
  generalize str (frame [97]) = f at *
  have H0 := Lib.hid h0
  have H1 := Lib.hid h1
  have H2 := Lib.hid h2
  have E2 := Lib.hid e2
  have HSZ := Lib.hid hsz
  clear h0 h1 h2 e1 e2 e3
  go_enter Try.func56, Try.ntmps56
  go_wp2_with fail
  refine H0.out.mono ?_
  rintro e w1 ⟨v, rfl, HO, HB⟩
  obtain ⟨A, c, rfl, _⟩ := own_strs (ss := []) HO
  go_wp2_with fail
  refine (H1.out _).mono ?_
  rintro e w2 ⟨rfl, hd⟩
  (first | replace HB := bt HB HB.size hd | replace HB := bt_drew HB HB.size hd | replace HB := bt_drewN HB HB.size hd); clear hd
  go_wp2_with fail
  rw [show (f ++ ⟨#[120]⟩ : ByteArray) = f ++ str [120] from rfl, E2.out]
  refine (H2.out _).mono ?_
  rintro e w3 ⟨v3, rfl, HO3, hd⟩
  (first | replace HB := bt HB HB.size hd | replace HB := bt_drew HB HB.size hd | replace HB := bt_drewN HB HB.size hd); clear hd
  obtain ⟨A3, c3, rfl, hS⟩ := own_strs (ss := [str [97]]) HO3
  obtain ⟨b, off, rfl, hc⟩ := hS.block (by simp)
  have hc0 : w3.cell? ⟨b, off, none⟩ = some (.string (str [97])) := hc 0 (by simp)
  have hq : ((str [97]).toList == [97]) = true := by rw [ByteArray.toList_eq]; rfl
  clear HO HO3 hc hS H0 H1 H2 E2 HSZ
  go_wp2
  go_ret
  exact ⟨rfl, HB⟩

def smallB (ss : List ByteArray) : Bool := decide (ss.length ≤ 40) && decide (summed (ss.take 41) ≤ 3000)
def smallV (ss : List ByteArray) : Int := if smallB ss = true then 1 else 0
theorem smallB_yes {ss : List ByteArray} (h : smallB ss = true) : ss.length ≤ 40 ∧ total ss ≤ 3000 ∧ ∀ s, s ∈ ss → s.size ≤ 1048576 := by
  unfold smallB at h
  rw [Bool.and_eq_true, decide_eq_true_eq, decide_eq_true_eq] at h
  have e : ss.take 41 = ss := List.take_of_length_le (by omega)
  rw [e] at h
  have h2 := summed_total ss (by omega)
  refine ⟨h.1, by omega, fun s hs => ?_⟩
  obtain ⟨j, hj, rfl⟩ := List.mem_iff_getElem.1 hs
  have := total_get hj
  omega
set_option maxRecDepth 100000 in
set_option maxHeartbeats 1000000 in
theorem small_any (A : Option Addr) (n c : Nat) (ss : List ByteArray) (w : World) (hS : Strs w A n ss) (hn : n ≤ 9223372036854775807) :
    Calls Try.prog 61 #[.slice A n c] w fun e w' => e = .returned (.int .i64 (smallV ss)) ∧ w = w' := by
  have hlen := hS.len
  go_enter Try.func61, Try.ntmps61
  go_wp2
  go_loop [3, 4] (fun v i => ∃ k : Nat, k ≤ n ∧ k ≤ 41 ∧ i = .int .i64 k ∧ v = .int .i64 ((summed (ss.take k) : Nat) : Int)) (fun _ i => 41 - (intOf i).toNat)
  case atStart => exact ⟨0, by omega, by omega, rfl, rfl⟩
  case round =>
    obtain ⟨k, hk, hk2, rfl, rfl⟩ := hrel
    by_cases hlt : k < n ∧ k < 41
    · obtain ⟨hlt1, hlt2⟩ := hlt
      have hks : k < ss.length := by omega
      obtain ⟨b, off, rfl, hc⟩ := hS.block (by omega)
      have hcell := cell_below (Below.refl _ w) (hc k hks)
      have htk : summed (ss.take (k + 1)) = summed (ss.take k) + min ss[k].size 100000 := by
        rw [take_snoc_list ss k hks, summed_append]; rfl
      have hsl := summed_le (ss.take k)
      have hkl : (ss.take k).length = k := by rw [List.length_take]; omega
      obtain ⟨s, hs⟩ : ∃ s, s = ss[k]'hks := ⟨_, rfl⟩
      rw [← hs] at hcell htk
      clear hs hc
      generalize summed (ss.take k) = q at hsl htk ⊢
      have HT := Lib.hid htk
      clear htk
      go_wp2
      go_round
      case rel =>
        refine ⟨k + 1, by omega, by omega, by go_num, ?_⟩
        rw [HT.out]
        congr 1
        split <;> omega
      case measure => simp [intOf]; omega
    · have hcond : k = n ∨ k = 41 := by omega
      have e : ss.take k = ss.take 41 := by
        rcases hcond with rfl | rfl
        · rw [List.take_of_length_le (by omega), List.take_of_length_le (by omega)]
        · rfl
      have hfew : smallB ss = (decide (n ≤ 40) && decide (summed (ss.take k) ≤ 3000)) := by
        unfold smallB
        rw [hlen, e]
      have hsl := summed_le (ss.take k)
      have hkl : (ss.take k).length ≤ k := by rw [List.length_take]; omega
      generalize summed (ss.take k) = q at hsl hfew ⊢
      clear e
      have HF := Lib.hid hfew
      clear hfew
      by_cases hl : n ≤ 40
      · by_cases hq : q ≤ 3000
        · go_wp2
          all_goals go_ret
          all_goals exact ⟨by unfold smallV; rw [HF.out, decide_eq_true hl, decide_eq_true hq]; rfl, rfl⟩
        · go_wp2
          all_goals go_ret
          all_goals exact ⟨by unfold smallV; rw [HF.out, decide_eq_true hl, decide_eq_false hq]; rfl, rfl⟩
      · go_wp2
        all_goals go_ret
        all_goals exact ⟨by unfold smallV; rw [HF.out, decide_eq_false hl]; rfl, rfl⟩
set_option maxRecDepth 100000 in
set_option maxHeartbeats 1000000 in
theorem laid_any (A : Option Addr) (n c : Nat) (ss : List ByteArray) (w : World) (hS : Strs w A n ss) (hsm : ∀ s, s ∈ ss → s.size ≤ 1048576) (hn : n ≤ 1000) :
    Calls Try.prog 62 #[.slice A n c] w fun e w' => ∃ b, e = .returned (.pointer (some ⟨b, 0, none⟩)) ∧ JAt w' w.heap.size b ss ∧ Below w.heap.size w w' := by
  have hlen := hS.len
  have h0 := jopen_any (str []) w (by rw [str_size]; simp)
  rw [str_list, recs_nil] at h0
  have H0 := Lib.hid h0
  clear h0
  go_enter Try.func62, Try.ntmps62
  go_wp2_with fail
  refine H0.out.mono ?_
  rintro e w1 ⟨B, rfl, hJ, HB⟩
  clear H0
  go_wp2
  go_loopw [4] (fun i wr => ∃ k : Nat, k ≤ n ∧ i = .int .i64 k ∧ JAt wr w.heap.size B (ss.take k) ∧ Below w.heap.size w wr) (fun i _ => n - (intOf i).toNat)
  case atStart => exact ⟨0, by omega, rfl, by rw [List.take_zero]; exact hJ, HB⟩
  case round =>
    clear HB hJ
    obtain ⟨k, hk, rfl, hJ, HB⟩ := hrel
    by_cases hlt : k < n
    · have hks : k < ss.length := by omega
      obtain ⟨b, off, rfl, hc⟩ := hS.block (by omega)
      have hcell := cell_below HB (hc k hks)
      have hsz := hsm _ (List.getElem_mem hks)
      have htk : ss.take (k + 1) = ss.take k ++ [ss[k]] := take_snoc_list ss k hks
      have hkl : (ss.take k).length ≤ 1000000 := by rw [List.length_take]; omega
      generalize ss[k] = s at hcell hsz htk
      have HT := Lib.hid htk
      clear htk hsm
      go_wp2_with (go_at_call 66; refine (append_ok _ _ _ _ _ _ hJ hsz hkl HB HB.size).mono ?_; rintro e w4 ⟨rfl, hJ4, hB4, hz4⟩)
      go_roundw
      case rel => exact ⟨k + 1, by omega, by go_num, by rw [HT.out]; exact hJ4, hB4⟩
      case measure => simp [intOf]; omega
    · obtain rfl : k = n := by omega
      have e : ss.take k = ss := by rw [← hlen, List.take_length]
      rw [e] at hJ
      go_wp2
      go_ret
      exact ⟨_, rfl, hJ, HB⟩
end Go.Proofs.Ytdjgdhpncocahaa.JrnW
