/- rows.column walked. -/
import Derived.Test.YtalinkpfklhgaaaRowsRight
set_option linter.unusedVariables false
set_option linter.unusedSimpArgs false
namespace Go.Proofs.Ytalinkpfklhgaaa.RowsW
open Go.RowKit Go.Proofs.Ytalinkpfklhgaaa.Base Go.Proofs.Ytalinkpfklhgaaa.GfP Go.Proofs.Ytalinkpfklhgaaa.GfW Go.Proofs.Ytalinkpfklhgaaa.Lin

/-- A column of rows, as values. -/
def colv (ls : List (List Nat)) (j : Nat) : List Value := ls.map fun r => Value.int .u8 ((r.getD j 0 : Nat) : Int)
theorem colv_length (ls : List (List Nat)) (j : Nat) : (colv ls j).length = ls.length := by simp [colv]
def col (ls : List (List Nat)) (j : Nat) : List Nat := ls.map fun r => r.getD j 0
theorem col_length (ls : List (List Nat)) (j : Nat) : (col ls j).length = ls.length := by simp [col]
theorem colv_take (ls : List (List Nat)) (j k : Nat) (h : k < ls.length) : colv (ls.take (k + 1)) j = colv (ls.take k) j ++ [.int .u8 ((ls[k].getD j 0 : Nat) : Int)] := by
  unfold colv
  rw [List.take_succ_eq_append_getElem h, List.map_append]
  rfl
/-- What is owned lies in a new block. -/
theorem own_col {w : World} {base e n j : Nat} {v : Value} {ls : List (List Nat)} (h : w.ownsRow base e 1 v n (colv ls j)) (hle : ∀ i (hi : i < ls.length), ∀ x, x ∈ ls[i] → x ≤ 255) (hn : n ≤ 140737488355328) :
    ∃ A c, v = .slice A n c ∧ Bytes w A (col ls j) ∧ ∀ b off s, A = some ⟨b, off, s⟩ → base ≤ b ∧ b < w.heap.size := by
  have hl : ls.length = n := by have := h.1; rw [colv_length] at this; omega
  have hle2 : ∀ x, x ∈ col ls j → x ≤ 255 := fun x hx => by
    obtain ⟨r, hr, rfl⟩ := List.mem_map.1 hx
    obtain ⟨i, hi, rfl⟩ := List.mem_iff_getElem.1 hr
    rw [List.getD_eq_getElem?_getD]
    cases h9 : ls[i][j]? with
    | none => simp
    | some y => simpa using hle i hi y (List.mem_of_getElem? h9)
  rcases h.2 with ⟨rfl, h0⟩ | ⟨g, cap, cur, rfl, hb, hg, _⟩
  · have : ls = [] := List.eq_nil_of_length_eq_zero (by omega)
    subst this
    exact ⟨none, 0, by rw [h0], Bytes.nil _ _, fun b off s e => by cases e⟩
  · have hglt : g < w.heap.size := by
      rcases Nat.lt_or_ge g w.heap.size with h1 | h1
      · exact h1
      · rw [Array.getElem?_eq_none h1] at hg; cases hg
    refine ⟨_, cap, rfl, ⟨hle2, by rw [col_length]; omega, Or.inr ⟨g, 0, rfl, fun i hi => ?_⟩⟩, fun b off s e => by cases e; exact ⟨hb, hglt⟩⟩
    have hi' : i < ls.length := by simpa [col] using hi
    have hc := h.cells (g := g) rfl i (.int .u8 ((ls[i].getD j 0 : Nat) : Int)) (by simp [colv, hi'])
    have ha : (⟨g, 0, none⟩ : Addr).add i = ⟨g, 0 + i, none⟩ := by unfold Addr.add; split <;> simp_all
    rw [ha] at hc
    rw [hc]
    simp [col, List.getD_eq_getElem?_getD, hi']
set_option maxRecDepth 100000 in
set_option maxHeartbeats 1000000 in
theorem column_any (A : Option Addr) (n c : Nat) (ls : List (List Nat)) (j : Nat) (w : World) (hR : Base.Rows w A ls) (hl : ls.length = n) (hn : n ≤ 1000) (hq : ∀ i (hi : i < ls.length), j < ls[i].length) (hj : j ≤ 1000) :
    Calls Try.prog 64 #[.slice A n c, .int .i64 (j : Nat)] w fun e w' => ∃ A' c', e = .returned (.slice A' n c') ∧ Bytes w' A' (col ls j) ∧ (∀ b off s, A' = some ⟨b, off, s⟩ → w.heap.size ≤ b ∧ b < w'.heap.size) ∧ Below w.heap.size w w' := by
  have HQ := Lib.hid hq
  have HLE := Lib.hid hR.le
  clear hq
  go_enter Try.func64, Try.ntmps64
  go_wp2
  go_loopw [5, 7, 10] (fun d _ i wr => ∃ k : Nat, k ≤ n ∧ i = .int .i64 k ∧ wr.ownsRow w.heap.size 5 1 d k (colv (ls.take k) j) ∧ Below w.heap.size w wr) (fun _ _ i _ => n - (intOf i).toNat)
  case atStart => exact ⟨0, by omega, rfl, World.ownsRow_nil _ _ _ _, Below.refl _ _⟩
  case round =>
    obtain ⟨k, hk, rfl, HO, HB⟩ := hrel
    by_cases hlt : k < n
    · have hkl : k < ls.length := by omega
      obtain ⟨b, off, rfl, hc⟩ := (hR.below HB).block (by omega)
      obtain ⟨B1, c1, hcell, hrow⟩ := hc k hkl
      clear hc
      have hjq := HQ.out k hkl
      obtain ⟨b2, off2, rfl, hc2⟩ := hrow.block (by omega)
      have hcj := hc2 j hjq
      clear hc2 hrow
      have HT := Lib.hid (colv_take ls j k hkl)
      obtain ⟨q, hqe⟩ : ∃ q, q = ls[k].length := ⟨_, rfl⟩
      rw [← hqe] at hcell hjq
      obtain ⟨x, hx⟩ : ∃ x, x = ls[k].getD j 0 := ⟨_, rfl⟩
      rw [← hx] at hcj
      have HX := Lib.hid hx
      clear hx hqe
      go_wp2_with (at_builtin; refine app_one w.heap.size rfl (.tmp 14) (.tmp 19) 29 5 (.int .u8 0) 1 rfl Try.underlying29 info_byte rfl (by omega) _ (colv (ls.take k) j) _ k (by rw [colv_length, List.length_take]; omega) rfl rfl rfl HO HB HB.size (by omega) ?_; intro v1 w1 HO2 HB2 hg2)
      go_roundw
      case rel => exact ⟨k + 1, by omega, by go_num, by rw [HT.out, ← HX.out]; exact HO2, HB2⟩
      case measure => simp [intOf]; omega
    · obtain rfl : k = n := by omega
      rw [List.take_of_length_le (by omega)] at HO
      obtain ⟨A', c', rfl, h1, h2⟩ := own_col HO HLE.out (by omega)
      go_wp2
      go_ret
      exact ⟨A', c', rfl, h1, h2, HB⟩
end Go.Proofs.Ytalinkpfklhgaaa.RowsW
