/- coder.column and coder.even walked. -/
import Derived.Test.YtalinkpfklhgaaaCodP
import Derived.Lib.JoinLaws
set_option linter.unusedVariables false
set_option linter.unusedSimpArgs false
namespace Go.Proofs.Ytalinkpfklhgaaa.CodW
open Go.RowKit Go.Proofs.Ytalinkpfklhgaaa.Base Go.Proofs.Ytalinkpfklhgaaa.GfP Go.Proofs.Ytalinkpfklhgaaa.GfW Go.Proofs.Ytalinkpfklhgaaa.Lin Go.Proofs.Ytalinkpfklhgaaa.RowsW Go.Proofs.Ytalinkpfklhgaaa.CodP

/-- A column of texts. -/
def colT (ss : List ByteArray) (p : Nat) : List Nat := ss.map fun s => txb s p
theorem colT_length (ss : List ByteArray) (p : Nat) : (colT ss p).length = ss.length := by simp [colT]
theorem colT_take (ss : List ByteArray) (p k : Nat) (h : k < ss.length) : lv (colT (ss.take (k + 1)) p) = lv (colT (ss.take k) p) ++ [.int .u8 ((txb ss[k] p : Nat) : Int)] := by
  unfold colT lv
  rw [List.take_succ_eq_append_getElem h, List.map_append, List.map_append]
  rfl
theorem colT_le (ss : List ByteArray) (p : Nat) : ∀ x, x ∈ colT ss p → x ≤ 255 := fun x hx => by
  obtain ⟨s, _, rfl⟩ := List.mem_map.1 hx
  exact txb_le s p
theorem txb_get {s : ByteArray} {p : Nat} (h : p < s.size) : txb s p = s[p].toNat := by
  unfold txb
  rw [List.getD_eq_getElem?_getD, List.getElem?_eq_getElem (by rw [list_size]; exact h)]
  rfl
set_option maxRecDepth 100000 in
set_option maxHeartbeats 1000000 in
theorem colT_any (A : Option Addr) (n c : Nat) (ss : List ByteArray) (p : Nat) (w : World) (hS : Strs w A n ss) (hn : n ≤ 1000) (hp : p ≤ 1000000) (hq : ∀ i (hi : i < ss.length), p < ss[i].size) :
    Calls Try.prog 73 #[.slice A n c, .int .i64 (p : Nat)] w fun e w' => ∃ A' c', e = .returned (.slice A' n c') ∧ Bytes w' A' (colT ss p) ∧ (∀ b off s, A' = some ⟨b, off, s⟩ → w.heap.size ≤ b ∧ b < w'.heap.size) ∧ Below w.heap.size w w' := by
  have HQ := Lib.hid hq
  have HL := Lib.hid hS.len
  clear hq
  have hmk := fun W => run_make_room (P := Try.prog) 29 5 (.int .u8 0) 1 Try.underlying29 info_byte rfl .i64 .i64 n (by omega) (by omega) W
  have HO0 : (w.alloc (.cells (madeCells #[.int .u8 0] n) 5)).ownsRow w.heap.size 5 1 (.slice (some ⟨w.heap.size, 0, none⟩) 0 n) 0 (lv (colT (ss.take 0) p)) := World.ownsRow_made w _ n (Nat.le_refl _) (by unfold maxLen; omega) (by simp [madeCells])
  have HB0 : Below w.heap.size w (w.alloc (.cells (madeCells #[.int .u8 0] n) 5)) := (Below.refl _ _).alloc (Nat.le_refl _) _
  go_enter Try.func73, Try.ntmps73
  go_wp2
  go_loopw [5, 7, 13] (fun d _ i wr => ∃ k : Nat, k ≤ n ∧ i = .int .i64 k ∧ wr.ownsRow w.heap.size 5 1 d k (lv (colT (ss.take k) p)) ∧ Below w.heap.size w wr) (fun _ _ i _ => n - (intOf i).toNat)
  case atStart => exact ⟨0, by omega, rfl, HO0, HB0⟩
  case round =>
    obtain ⟨k, hk, rfl, HO, HB⟩ := hrel
    by_cases hlt : k < n
    · have hkl : k < ss.length := by have := HL.out; omega
      obtain ⟨b, off, rfl, hc⟩ := (hS.below HB).block (by omega)
      have hck := hc k hkl
      have hps := HQ.out k hkl
      have HT := Lib.hid (colT_take ss p k hkl)
      have HX := Lib.hid (txb_get hps)
      clear hc
      generalize ss[k] = s at hck hps HT HX
      go_wp2_with (at_builtin; refine app_one w.heap.size rfl (.tmp 17) (.tmp 21) 29 5 (.int .u8 0) 1 rfl Try.underlying29 info_byte rfl (by omega) _ (lv (colT (ss.take k) p)) _ k (by rw [lv_length, colT_length, List.length_take]; omega) rfl rfl rfl HO HB HB.size (by omega) ?_; intro v1 w1 HO2 HB2 hg2)
      go_roundw
      case rel => exact ⟨k + 1, by omega, by go_num, by rw [HT.out, HX.out]; exact HO2, HB2⟩
      case measure => simp [intOf]; omega
    · obtain rfl : k = n := by omega
      rw [List.take_of_length_le (by have := HL.out; omega)] at HO
      have hlo := HO.lt
      obtain ⟨A', c', rfl, hl, hr⟩ := own_row1 HO (colT_le ss p)
      have hfar : ∀ b off s, A' = some ⟨b, off, s⟩ → w.heap.size ≤ b ∧ b < wr.heap.size := fun b off s e => by
        subst e
        exact hlo b rfl
      have HF := Lib.hid hfar
      clear hlo hfar hl
      go_wp2
      go_ret
      exact ⟨A', c', rfl, hr.bytes (by rw [colT_length, HL.out]; omega), HF.out, HB⟩
/-- Texts all as long. -/
def evenB (ss : List ByteArray) : Bool := ss.all fun s => s.size == (ss.getD 0 ByteArray.empty).size
theorem even_iff {ss : List ByteArray} {L : Nat} (hL : (ss.getD 0 ByteArray.empty).size = L) : evenB ss = true ↔ ∀ i (h : i < ss.length), ss[i].size = L := by
  unfold evenB
  rw [hL]
  simp only [List.all_eq_true, beq_iff_eq]
  exact ⟨fun h i hi => h _ (List.getElem_mem hi), fun h s hs => by obtain ⟨i, hi, rfl⟩ := List.mem_iff_getElem.1 hs; exact h i hi⟩
set_option maxRecDepth 100000 in
set_option maxHeartbeats 1000000 in
theorem even_any (A : Option Addr) (n c : Nat) (ss : List ByteArray) (w : World) (hS : Strs w A n ss) (hn : n ≤ 140737488355328) :
    Calls Try.prog 68 #[.slice A n c] w fun e w' => e = .returned (.bool (evenB ss)) ∧ w = w' := by
  obtain ⟨L, hL⟩ : ∃ L, (ss.getD 0 ByteArray.empty).size = L := ⟨_, rfl⟩
  have HI := Lib.hid (even_iff hL)
  have HL := Lib.hid hS.len
  obtain ⟨R, hR⟩ : ∃ R, evenB ss = R := ⟨_, rfl⟩
  rw [hR] at HI ⊢
  have HLL := Lib.hid hL
  clear hR hL
  go_enter Try.func68, Try.ntmps68
  go_wp2
  go_loop [4, 7] (fun _ i => ∃ k : Nat, k ≤ n ∧ i = .int .i64 k ∧ ∀ j (hj : j < ss.length), j < k → ss[j].size = L) (fun _ i => n - (intOf i).toNat)
  case atStart => exact ⟨0, by omega, rfl, fun j _ h => by omega⟩
  case round =>
    obtain ⟨k, hk, rfl, hall⟩ := hrel
    have HA := Lib.hid hall
    clear hall
    by_cases hlt : k < n
    · have hkl : k < ss.length := by have := HL.out; omega
      obtain ⟨b, off, rfl, hc⟩ := hS.block (by omega)
      have hck := hc k hkl
      have h0c := hc 0 (by omega)
      rw [Nat.add_zero] at h0c
      have z0 : (0 : Int) < n := by omega
      have HL0 := Lib.hid (show ss[0].size = L by rw [← HLL.out, List.getD_eq_getElem?_getD, List.getElem?_eq_getElem (by omega)]; rfl)
      obtain ⟨s, hs⟩ : ∃ s, s = ss[k] := ⟨_, rfl⟩
      obtain ⟨s0, hs0⟩ : ∃ s, s = ss[0] := ⟨_, rfl⟩
      rw [← hs] at hck
      rw [← hs0] at h0c HL0
      have HSK := Lib.hid hs
      clear hc hs hs0
      by_cases he : s.size = s0.size
      · have e1 : (((s.size : Nat) : Int) != ((s0.size : Nat) : Int)) = false := int_beq (by omega)
        have HEQ := Lib.hid he
        clear he
        go_wp2
        go_round
        case rel =>
          refine ⟨k + 1, by omega, by go_num, fun j hj hjk => ?_⟩
          rcases Nat.lt_or_ge j k with h | h
          · exact HA.out j hj h
          · obtain rfl : j = k := by omega
            rw [← HSK.out, HEQ.out, HL0.out]
        case measure => simp [intOf]; omega
      · have e1 : (((s.size : Nat) : Int) != ((s0.size : Nat) : Int)) = true := int_bne (by omega)
        have HEQ := Lib.hid he
        clear he
        go_wp2
        go_ret
        refine ⟨?_, rfl⟩
        have : R = false := by
          cases R with
          | false => rfl
          | true =>
            have h1 := HI.out.1 rfl k hkl
            rw [← HSK.out] at h1
            exact absurd (h1.trans HL0.out.symm) HEQ.out
        rw [this]
        rfl
    · obtain rfl : k = n := by omega
      go_wp2
      go_ret
      refine ⟨?_, rfl⟩
      have : R = true := HI.out.2 fun i hi => HA.out i hi (by have := HL.out; omega)
      rw [this]
      rfl
end Go.Proofs.Ytalinkpfklhgaaa.CodW
