/- The law JournalCrash walked. -/
import Derived.Test.YtdjgdhpncocahaaJrnK
set_option linter.unusedVariables false
set_option linter.unusedSimpArgs false
namespace Go.Proofs.Ytdjgdhpncocahaa.JrnW
open Go.RowKit Go.Proofs.Ytdjgdhpncocahaa.Base Go.Proofs.Ytdjgdhpncocahaa.TapeP Go.Proofs.Ytdjgdhpncocahaa.TapeW Go.Proofs.Ytdjgdhpncocahaa.CrcP Go.Proofs.Ytdjgdhpncocahaa.CrcW Go.Proofs.Ytdjgdhpncocahaa.JrnP Go.Proofs.Ytdjgdhpncocahaa.BuildW Go.Proofs.Ytdjgdhpncocahaa.EqsW Go.Proofs.Ytdjgdhpncocahaa.JrnI

set_option maxRecDepth 100000 in
set_option maxHeartbeats 2000000 in
theorem lawcrash_in (A : Option Addr) (n c : Nat) (ini : List ByteArray) (s : ByteArray) (x : Int) (w : World) (hS : Strs w A n (ini ++ [s])) (hn : n ≤ 9223372036854775807) (hnc : n ≤ c) (hb : smallB (ini ++ [s]) = true) :
    Calls Try.prog 19 #[.slice A n c, .int .i64 x] w fun e w' => e = .returned (.bool true) ∧ Below w.heap.size w w' := by
  have HB : Below w.heap.size w w := Below.refl _ _
  have SM := Lib.hid (small_is A n c _ true hb hn)
  obtain ⟨hlen, htot, hsm⟩ := smallB_yes hb
  have hl := hS.len
  have hil : (ini ++ [s]).length = ini.length + 1 := by simp
  obtain ⟨k, rfl⟩ : ∃ k, n = k + 1 := ⟨ini.length, by omega⟩
  have hik : ini.length = k := by omega
  have hs : s.size ≤ 1048576 := hsm s (by simp)
  have hsmi : ∀ t, t ∈ ini → t.size ≤ 1048576 := fun t ht => hsm t (List.mem_append_left _ ht)
  have htoti : total ini ≤ 3000 := by
    rw [total_append] at htot
    omega
  have hto : ∀ base b W, JAt W base b (ini ++ [s]) → Calls Try.prog 70 #[.pointer (some ⟨b, 0, none⟩), .int .i64 x] W fun e w' => e = .returned (.string (str (frames (lst ini) ++ (frame s.data.toList).take (max (min x ((frame s.data.toList).length : Int)) 0).toNat))) ∧ Below W.heap.size W w' := fun base b W h => torn_any base b ini s x W h (by omega) (by omega)
  obtain ⟨g, off, rfl, hc⟩ := hS.block (by omega)
  have hcell : w.cell? ⟨g, off + k, none⟩ = some (.string s) := by
    rw [hc k (by omega), List.getElem_append_right (by omega)]
    simp [hik]
  have hfe : (str (frame s.data.toList)).size = (frame s.data.toList).length := str_size _
  have hfl := frame_le s hs
  have hk40 : k ≤ 39 := by omega
  have HM := Lib.hid hsm
  have hSi : Strs w (some ⟨g, off, none⟩) k ini := by
    have := strs_take hS k (by omega)
    rwa [List.take_append_of_le_length (by omega), List.take_of_length_le (by omega)] at this
  have hfi := frames_le ini hsmi
  by_cases hx : ((frame s.data.toList).length : Int) ≤ x
  · have hmin : (max (min x ((frame s.data.toList).length : Int)) 0).toNat = (frame s.data.toList).length := by omega
    rw [hmin, List.take_length] at hto
    have hfr : frames (lst ini) ++ frame s.data.toList = frames (lst (ini ++ [s])) := by
      rw [lst_append, frames_append]
      show _ = _ ++ (frame s.data.toList ++ [])
      rw [List.append_nil]
    rw [hfr] at hto
    have hop := fun W => jopen_frames (ini ++ [s]) hsm (by omega) (by omega) W
    have hall : ∀ base b W, JAt W base b (ini ++ [s]) → Calls Try.prog 64 #[.pointer (some ⟨b, 0, none⟩)] W fun e W' => ∃ A c, e = .returned (.slice A (k + 1) c) ∧ Strs W' A (k + 1) (ini ++ [s]) ∧ k + 1 ≤ c ∧ (∀ a, A = some a → W.heap.size ≤ a.block) ∧ Below W.heap.size W W' := fun base b W h => by
      have := all_jat base b _ (by omega) W h
      rwa [hil, hik] at this
    have hsame : ∀ A1 A2 c1 c2 W, Strs W A1 (k + 1) (ini ++ [s]) → Strs W A2 (k + 1) (ini ++ [s]) → Calls Try.prog 58 #[.slice A1 (k + 1) c1, .slice A2 (k + 1) c2] W fun e w' => e = .returned (.bool true) ∧ Below W.heap.size W w' := fun A1 A2 c1 c2 W g1 g2 => by
      have := same_texts A1 A2 (k + 1) c1 (k + 1) c2 _ _ W g1 g2 (by omega)
      rwa [eqs_refl] at this
    have hby : ∀ base b W, JAt W base b (ini ++ [s]) → Calls Try.prog 60 #[.pointer (some ⟨b, 0, none⟩)] W fun e w' => e = .returned (.string (str (frames (lst (ini ++ [s]))))) ∧ Below W.heap.size W w' := fun base b W h => jbytes_any base b _ W h (by omega) (by omega)
    have TO := Lib.hid hto
    have OP := Lib.hid hop
    have AL := Lib.hid hall
    have SA := Lib.hid hsame
    have BY := Lib.hid hby
    clear hto hop hall hsame hby hfr hmin hsm hsmi htot htoti hb hc hil hfi
    generalize str (frames (lst (ini ++ [s]))) = fs at *
    have hqq : (fs.toList == fs.toList) = true := by simp
    generalize hff : str (frame s.data.toList) = f at *
    generalize (frame s.data.toList).length = L at *
    have hdec : decide ((L : Int) ≤ x) = true := decide_eq_true hx
    have HFF := Lib.hid hff
    have hfrm := fun W => frame_in s W hs
    rw [hff] at hfrm
    have FM := Lib.hid hfrm
    clear hff hfrm
    go_enter Try.func19, Try.ntmps19
    go_upto_region 3 with (first | (go_at_call 56; (with_reducible refine (awake_any _).mono ?_); rintro e w2 ⟨rfl, hd⟩; (first | replace HB := bt HB HB.size hd | replace HB := bt_drew HB HB.size hd | replace HB := bt_drewN HB HB.size hd); clear hd) | (go_at_call 61; (with_reducible refine (SM.out _ (hS.below HB)).mono ?_); rintro e w2 ⟨rfl, rfl⟩))
    go_upto_region 4 with (first | (go_at_call 62; refine (laid_any _ _ _ _ _ (hS.below HB) HM.out (by omega)).mono ?_; rintro e w3 ⟨b, rfl, hJ, hd⟩; (first | replace HB := bt HB HB.size hd | replace HB := bt_drew HB HB.size hd | replace HB := bt_drewN HB HB.size hd); clear hd))
    have hcell2 := cell_below HB hcell
    go_upto_region 5 with (first | (go_at_call 65; refine (FM.out _).mono ?_; rintro e w4 ⟨rfl, hd⟩; replace hJ := hJ.below hd; (first | replace HB := bt HB HB.size hd | replace HB := bt_drew HB HB.size hd | replace HB := bt_drewN HB HB.size hd); clear hd))
    clear hcell2
    go_wp2_with (first | (go_at_call 70; refine (TO.out _ _ _ hJ).mono ?_; rintro e w5 ⟨rfl, hd⟩; replace hJ := hJ.below hd; (try replace hS2 := hS2.below hd); (first | replace HB := bt HB HB.size hd | replace HB := bt_drew HB HB.size hd | replace HB := bt_drewN HB HB.size hd); clear hd) | (go_at_call 59; refine (OP.out _).mono ?_; rintro e w6 ⟨b2, rfl, hJ2, hd⟩; replace hJ := hJ.below hd; (first | replace HB := bt HB HB.size hd | replace HB := bt_drew HB HB.size hd | replace HB := bt_drewN HB HB.size hd); clear hd) | (go_at_call 64; refine (AL.out _ _ _ hJ2).mono ?_; rintro e w7 ⟨A2, c2, rfl, hS2, hc2, hA2, hd⟩; replace hJ := hJ.below hd; (first | replace HB := bt HB HB.size hd | replace HB := bt_drew HB HB.size hd | replace HB := bt_drewN HB HB.size hd); clear hd) | (go_at_call 58; refine (SA.out _ _ _ _ _ hS2 (hS.below HB)).mono ?_; rintro e w8 ⟨rfl, hd⟩; replace hJ := hJ.below hd; (first | replace HB := bt HB HB.size hd | replace HB := bt_drew HB HB.size hd | replace HB := bt_drewN HB HB.size hd); clear hd) | (go_at_call 60; refine (BY.out _ _ _ hJ).mono ?_; rintro e w9 ⟨rfl, hd⟩; (first | replace HB := bt HB HB.size hd | replace HB := bt_drew HB HB.size hd | replace HB := bt_drewN HB HB.size hd); clear hd))
    all_goals go_ret
    all_goals exact ⟨rfl, HB⟩
  · obtain ⟨q, hq⟩ : ∃ q : Nat, q = (max (min x ((frame s.data.toList).length : Int)) 0).toNat := ⟨_, rfl⟩
    have hql : q < (frame s.data.toList).length := by
      rw [hq, frame_length] at *
      omega
    rw [← hq] at hto
    have hrec := recs_last (lst ini) s.data.toList (lst_small hsmi) (by rw [list_size]; exact hs) q hql
    have hop : ∀ W, Calls Try.prog 59 #[.string (str (frames (lst ini) ++ (frame s.data.toList).take q))] W fun e w' => ∃ b, e = .returned (.pointer (some ⟨b, 0, none⟩)) ∧ JAt w' W.heap.size b ini ∧ Below W.heap.size W w' := fun W => by
      have h1 : ((frame s.data.toList).take q).length ≤ q := List.length_take_le _ _
      have := jopen_any (str (frames (lst ini) ++ (frame s.data.toList).take q)) W (by rw [str_size, List.length_append]; omega)
      rw [str_list, hrec] at this
      dsimp only at this
      rwa [map_lst] at this
    have hall : ∀ base b W, JAt W base b ini → Calls Try.prog 64 #[.pointer (some ⟨b, 0, none⟩)] W fun e W' => ∃ A c, e = .returned (.slice A k c) ∧ Strs W' A k ini ∧ k ≤ c ∧ (∀ a, A = some a → W.heap.size ≤ a.block) ∧ Below W.heap.size W W' := fun base b W h => by
      have := all_jat base b _ (by omega) W h
      rwa [hik] at this
    have hsame : ∀ A1 A2 c1 c2 W, Strs W A1 k ini → Strs W A2 k ini → Calls Try.prog 58 #[.slice A1 k c1, .slice A2 k c2] W fun e w' => e = .returned (.bool true) ∧ Below W.heap.size W w' := fun A1 A2 c1 c2 W g1 g2 => by
      have := same_texts A1 A2 k c1 k c2 _ _ W g1 g2 (by omega)
      rwa [eqs_refl] at this
    have hll : ∀ base b W, JAt W base b (ini ++ [s]) → Calls Try.prog 67 #[.pointer (some ⟨b, 0, none⟩)] W fun e w' => e = .returned (.int .i64 ((k : Int) + 1)) ∧ W = w' := fun base b W h => by
      have := jlen_any base b _ W h
      rw [hil, hik] at this
      exact this
    have TO := Lib.hid hto
    have OP := Lib.hid hop
    have AL := Lib.hid hall
    have SA := Lib.hid hsame
    have LL := Lib.hid hll
    have HQ := Lib.hid hq
    clear hto hop hall hsame hll hrec hsm hsmi htot htoti hb hc hil hfi hq hql
    generalize str (frames (lst ini) ++ (frame s.data.toList).take q) = fs at *
    generalize hff : str (frame s.data.toList) = f at *
    have hfrm := fun W => frame_in s W hs
    rw [hff] at hfrm
    have FM := Lib.hid hfrm
    clear hff hfrm HQ
    generalize (frame s.data.toList).length = L at *
    have hdec : decide ((L : Int) ≤ x) = false := decide_eq_false hx
    have hkc : ((k : Nat) : Int) ≤ (c : Int) := by omega
    go_enter Try.func19, Try.ntmps19
    go_upto_region 3 with (first | (go_at_call 56; (with_reducible refine (awake_any _).mono ?_); rintro e w2 ⟨rfl, hd⟩; (first | replace HB := bt HB HB.size hd | replace HB := bt_drew HB HB.size hd | replace HB := bt_drewN HB HB.size hd); clear hd) | (go_at_call 61; (with_reducible refine (SM.out _ (hS.below HB)).mono ?_); rintro e w2 ⟨rfl, rfl⟩))
    go_upto_region 4 with (first | (go_at_call 62; refine (laid_any _ _ _ _ _ (hS.below HB) HM.out (by omega)).mono ?_; rintro e w3 ⟨b, rfl, hJ, hd⟩; (first | replace HB := bt HB HB.size hd | replace HB := bt_drew HB HB.size hd | replace HB := bt_drewN HB HB.size hd); clear hd))
    have hcell2 := cell_below HB hcell
    go_upto_region 5 with (first | (go_at_call 65; refine (FM.out _).mono ?_; rintro e w4 ⟨rfl, hd⟩; replace hJ := hJ.below hd; (first | replace HB := bt HB HB.size hd | replace HB := bt_drew HB HB.size hd | replace HB := bt_drewN HB HB.size hd); clear hd))
    clear hcell2
    go_wp2_with (first | (go_at_call 70; refine (TO.out _ _ _ hJ).mono ?_; rintro e w5 ⟨rfl, hd⟩; replace hJ := hJ.below hd; (try replace hS2 := hS2.below hd); (first | replace HB := bt HB HB.size hd | replace HB := bt_drew HB HB.size hd | replace HB := bt_drewN HB HB.size hd); clear hd) | (go_at_call 59; refine (OP.out _).mono ?_; rintro e w6 ⟨b2, rfl, hJ2, hd⟩; replace hJ := hJ.below hd; (first | replace HB := bt HB HB.size hd | replace HB := bt_drew HB HB.size hd | replace HB := bt_drewN HB HB.size hd); clear hd) | (go_at_call 64; refine (AL.out _ _ _ hJ2).mono ?_; rintro e w7 ⟨A2, c2, rfl, hS2, hc2, hA2, hd⟩; replace hJ := hJ.below hd; (first | replace HB := bt HB HB.size hd | replace HB := bt_drew HB HB.size hd | replace HB := bt_drewN HB HB.size hd); clear hd) | (go_at_call 58; refine (SA.out _ _ _ _ _ hS2 (hSi.below HB)).mono ?_; rintro e w8 ⟨rfl, hd⟩; replace hJ := hJ.below hd; (first | replace HB := bt HB HB.size hd | replace HB := bt_drew HB HB.size hd | replace HB := bt_drewN HB HB.size hd); clear hd) | (go_at_call 67; refine (LL.out _ _ _ hJ).mono ?_; rintro e w9 ⟨rfl, rfl⟩))
    all_goals go_ret
    all_goals exact ⟨rfl, HB⟩
set_option maxRecDepth 100000 in
set_option maxHeartbeats 1000000 in
theorem lawcrash_any (A : Option Addr) (n c : Nat) (ss : List ByteArray) (x : Int) (w : World) (hS : Strs w A n ss) (hn : n ≤ 9223372036854775807) (hnc : n ≤ c) :
    Calls Try.prog 19 #[.slice A n c, .int .i64 x] w fun e w' => e = .returned (.bool true) ∧ Below w.heap.size w w' := by
  have HB : Below w.heap.size w w := Below.refl _ _
  cases hb : smallB ss with
  | false =>
    have SM := Lib.hid (small_is A n c ss false hb hn)
    clear hb
    go_enter Try.func19, Try.ntmps19
    go_wp2_with (first | (go_at_call 56; (with_reducible refine (awake_any _).mono ?_); rintro e w2 ⟨rfl, hd⟩; (first | replace HB := bt HB HB.size hd | replace HB := bt_drew HB HB.size hd | replace HB := bt_drewN HB HB.size hd); clear hd) | (go_at_call 61; (with_reducible refine (SM.out _ (hS.below HB)).mono ?_); rintro e w2 ⟨rfl, rfl⟩))
    all_goals (go_ret; exact ⟨rfl, HB⟩)
  | true =>
    by_cases h0 : n = 0
    · subst h0
      have SM := Lib.hid (small_is A 0 c ss true hb hn)
      clear hb
      go_enter Try.func19, Try.ntmps19
      go_wp2_with (first | (go_at_call 56; (with_reducible refine (awake_any _).mono ?_); rintro e w2 ⟨rfl, hd⟩; (first | replace HB := bt HB HB.size hd | replace HB := bt_drew HB HB.size hd | replace HB := bt_drewN HB HB.size hd); clear hd) | (go_at_call 61; (with_reducible refine (SM.out _ (hS.below HB)).mono ?_); rintro e w2 ⟨rfl, rfl⟩))
      all_goals (go_ret; exact ⟨rfl, HB⟩)
    · have hne : ss ≠ [] := by
        intro e
        have := hS.len
        rw [e] at this
        exact h0 this.symm
      rw [← List.dropLast_concat_getLast hne] at hS hb
      exact lawcrash_in A n c _ _ x w hS hn hnc hb
end Go.Proofs.Ytdjgdhpncocahaa.JrnW
