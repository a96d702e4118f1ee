/- A journal torn: walked. -/
import Derived.Test.YtdjgdhpncocahaaJrnAgain
import Derived.Test.YtdjgdhpncocahaaJrnAll
set_option linter.unusedVariables false
set_option linter.unusedSimpArgs false
namespace Go.Proofs.Ytdjgdhpncocahaa.JrnW
open Go.RowKit Go.Proofs.Ytdjgdhpncocahaa.Base Go.Proofs.Ytdjgdhpncocahaa.TapeP Go.Proofs.Ytdjgdhpncocahaa.TapeW Go.Proofs.Ytdjgdhpncocahaa.CrcP Go.Proofs.Ytdjgdhpncocahaa.CrcW Go.Proofs.Ytdjgdhpncocahaa.JrnP Go.Proofs.Ytdjgdhpncocahaa.BuildW

theorem regrown_cell {w : World} {a : Addr} {v : Value} (h : w.cell? a = some v) (p : Regrown) : (Go.Sort.grow (redrawn w p.d) p.os).cell? a = some v := cell_below (below_of_regrown ⟨p, rfl⟩) h
theorem torn_nil (n : Int) (w : World) :
    Calls Try.prog 70 #[.pointer none, .int .i64 n] w fun e w' => e = .returned (.string (str [])) ∧ w = w' := by
  go_enter Try.func70, Try.ntmps70
  go_wp2_with (go_at_call 67; (with_reducible refine (jlen_nil _).mono ?_); rintro e w2 ⟨rfl, rfl⟩)
  go_ret
  exact ⟨rfl, rfl⟩
theorem torn_ext (a l : List UInt8) (k : Nat) (h : a.length + l.length ≤ 100000000000) : (str a).size + ((str l).extract 0 k).size ≤ 9223372036854775807 ∧ str a ++ (str l).extract 0 k = str (a ++ l.take k) := by
  refine ⟨?_, ?_⟩
  · rw [ByteArray.size_extract, str_size, str_size]; omega
  · rw [extract_str, str_append, str_list, str_list, str_list, List.drop_zero]
theorem JAt.row2 {w : World} {base b : Nat} {ss : List ByteArray} (h : JAt w base b ss) : ∃ A c, w.cell? ⟨b, 0, none⟩ = some (.slice A ss.length c) ∧ Strs w A ss.length ss ∧ ss.length ≤ c := by
  obtain ⟨v, hb, HO⟩ := h.ex
  obtain ⟨A, c, rfl, hS⟩ := own_strs HO
  refine ⟨A, c, by rw [cell_of_row _ _ _ _ _ _ hb]; rfl, hS, ?_⟩
  rcases HO.2 with ⟨h1, h2⟩ | ⟨g, cap, cur, hv, _, _, hc, _⟩
  · omega
  · injection hv with _ _ e
    omega
set_option maxRecDepth 100000 in
set_option maxHeartbeats 1000000 in
theorem torn_any (base b : Nat) (ss : List ByteArray) (s : ByteArray) (n : Int) (w : World) (hJ : JAt w base b (ss ++ [s])) (ht : total ss ≤ 10000000000) (hl : ss.length ≤ 1000000) :
    Calls Try.prog 70 #[.pointer (some ⟨b, 0, none⟩), .int .i64 n] w fun e w' => e = .returned (.string (str (frames (lst ss) ++ (frame s.data.toList).take (max (min n ((frame s.data.toList).length : Int)) 0).toNat))) ∧ Below w.heap.size w w' := by
  have hlen := jlen_any base b _ w hJ
  have hlen2 : (ss ++ [s]).length = ss.length + 1 := by simp
  rw [hlen2] at hlen
  obtain ⟨A, c, c0, hS, hcap⟩ := hJ.row2
  rw [hlen2] at c0 hS hcap
  have hcap2 : ((ss.length : Nat) : Int) ≤ (c : Int) := by omega
  obtain ⟨g, off, rfl, hc⟩ := hS.block (by omega)
  have hs := hJ.small s (by simp)
  have hsm : ∀ x, x ∈ ss → x.size ≤ 1048576 := fun x hx => hJ.small x (List.mem_append_left _ hx)
  have c1 : w.cell? ⟨g, off + ss.length, none⟩ = some (.string s) := by
    rw [hc ss.length (by omega)]
    simp
  have hS2 : Strs w (some ⟨g, off, none⟩) ss.length ss := ⟨rfl, .inr ⟨g, off, rfl, fun j hj => by
    rw [hc j (by omega), List.getElem_append_left hj]⟩⟩
  have hfl := frame_le s hs
  have hfl2 := frames_le ss hsm
  have hz : (0 : Int) ≤ ((ss.length : Nat) : Int) := by omega
  have HM := Lib.hid hsm
  have HL := Lib.hid hlen
  clear hJ hc hS hsm hlen hlen2
  go_enter Try.func70, Try.ntmps70
  go_upto_region 3 with (go_at_call 67; refine HL.out.mono ?_; rintro e w2 ⟨rfl, rfl⟩)
  have r0 := regrown_cell c0
  have r1 := regrown_cell c1
  (refine wp_region_quiet_below (by kernel_rfl) (by kernel_rfl) ?_; (repeat (go_big_quiet_step ((go_at_call 65; exact Calls.regrown_of (frame_in _ _ hs))))); refine wpQuiet_nil ?_; intro wq hw'; have HQ := below_of_regrown hw'; clear hw')
  have HQ1 := HQ
  clear HQ
  clear r0 r1
  go_upto_region 4 with fail
  have r0 := regrown_cell (cell_below HQ1 c0)
  have RS := fun p : Regrown => (hS2.below HQ1).below (below_of_regrown (w := wq) ⟨p, rfl⟩)
  have hE := fun k => torn_ext (frames (lst ss)) (frame s.data.toList) k (by omega)
  have hsz : (str (frame s.data.toList)).size = (frame s.data.toList).length := str_size _
  have hF := fun W hS => framed_any (some ⟨g, off, none⟩) ss.length c ss W hS HM.out ht (by omega)
  generalize hfe : frame s.data.toList = f at *
  generalize hfL : f.length = L at *
  generalize hfr : frames (lst ss) = fr at *
  have HFE := Lib.hid hfe
  have HFL := Lib.hid hfL
  have HFR := Lib.hid hfr
  clear HM hfe hfl2 hfL hfr
  have FF := Lib.hid hF
  have EE := Lib.hid hE
  clear hF hE
  by_cases h1 : (L : Int) < n
  · have hm : (max (min n (L : Int)) 0).toNat = L := by omega
    have HMX := Lib.hid hm
    have hx := (EE.out L).1
    have hn : (L : Int).toNat = L := by omega
    have HX := Lib.hid (EE.out L).2
    clear hm EE
    (refine wp_region_quiet_below (by kernel_rfl) (by kernel_rfl) ?_; (repeat (go_big_quiet_step ((go_at_call 81; exact Calls.regrown_of (FF.out _ (RS _)))))); refine wpQuiet_nil ?_; intro wq hw'; have HQ := below_of_regrown hw'; clear hw')
    go_wp2
    go_ret
    exact ⟨by rw [HFE.out, HFR.out, HFL.out, HMX.out, ← HX.out]; rfl, bt HQ1 HQ1.size HQ⟩
  · by_cases h2 : n < 0
    · have hm : (max (min n (L : Int)) 0).toNat = 0 := by omega
      have HMX := Lib.hid hm
      have hx := (EE.out 0).1
      have HX := Lib.hid (EE.out 0).2
      clear hm EE
      (refine wp_region_quiet_below (by kernel_rfl) (by kernel_rfl) ?_; (repeat (go_big_quiet_step ((go_at_call 81; exact Calls.regrown_of (FF.out _ (RS _)))))); refine wpQuiet_nil ?_; intro wq hw'; have HQ := below_of_regrown hw'; clear hw')
      go_wp2
      go_ret
      exact ⟨by rw [HFE.out, HFR.out, HFL.out, HMX.out, List.take_zero, List.append_nil]; rfl, bt HQ1 HQ1.size HQ⟩
    · obtain ⟨m, rfl⟩ : ∃ m : Nat, n = (m : Int) := ⟨n.toNat, by omega⟩
      have hm : (max (min (m : Int) (L : Int)) 0).toNat = m := by omega
      have HMX := Lib.hid hm
      have hx := (EE.out m).1
      have HX := Lib.hid (EE.out m).2
      have hmL : m ≤ L := by omega
      clear hm EE
      (refine wp_region_quiet_below (by kernel_rfl) (by kernel_rfl) ?_; (repeat (go_big_quiet_step ((go_at_call 81; exact Calls.regrown_of (FF.out _ (RS _)))))); refine wpQuiet_nil ?_; intro wq hw'; have HQ := below_of_regrown hw'; clear hw')
      go_wp2
      go_ret
      exact ⟨by rw [HFE.out, HFR.out, HFL.out, HMX.out, ← HX.out]; rfl, bt HQ1 HQ1.size HQ⟩
end Go.Proofs.Ytdjgdhpncocahaa.JrnW
