/- A message read: what was sealed. -/
import Derived.Test.YtdjgdhpncocahaaMsg8
import Derived.Test.YtdjgdhpncocahaaJrn3
set_option linter.unusedVariables false
set_option linter.unusedSimpArgs false
namespace Go.Proofs.Ytdjgdhpncocahaa.MsgW
open Go.RowKit Go.Proofs.Ytdjgdhpncocahaa.Base Go.Proofs.Ytdjgdhpncocahaa.EqsW Go.Proofs.Ytdjgdhpncocahaa.TapeP Go.Proofs.Ytdjgdhpncocahaa.TapeW Go.Proofs.Ytdjgdhpncocahaa.CrcP Go.Proofs.Ytdjgdhpncocahaa.CrcW Go.Proofs.Ytdjgdhpncocahaa.MsgP Go.Proofs.Ytdjgdhpncocahaa.BuildW
open Go.Proofs.Ytdjgdhpncocahaa.JrnW (sv sv_length sv_append info_str own_strs map_snoc own_set)

theorem heap_set {w : World} {b k j : Nat} {o : Obj} {v : Value} (h : w.heap[k]? = some o) (hne : k ≠ b) : (w.setCell ⟨b, j, none⟩ v).heap[k]? = some o := by
  rw [Below.heap_setCell _ _ _ k (by intro e; first | exact hne e | exact hne e.symm)]
  exact h
theorem tape_set {w : World} {b c j : Nat} {s : ByteArray} {p : Nat} {v : Value} (h : TapeAt w b s p) (hne : b ≠ c) : TapeAt (w.setCell ⟨c, j, none⟩ v) b s p := ⟨heap_set h.blk hne, h.le, h.sz⟩
theorem arr9_at (a : List Nat) (j : Nat) (h : j < 9) : ∃ v, (arr9 a)[j]? = some v := ⟨_, Array.getElem?_eq_getElem (show j < 9 from h)⟩
theorem list9 {α : Type} {l : List α} (h : l.length = 9) : ∃ c0 c1 c2 c3 c4 c5 c6 c7 c8, l = [c0, c1, c2, c3, c4, c5, c6, c7, c8] := by
  match l, h with
  | [c0, c1, c2, c3, c4, c5, c6, c7, c8], _ => exact ⟨_, _, _, _, _, _, _, _, _, rfl⟩
theorem box9_cells {W : World} {b : Nat} {T : TypeId} {n0 n1 n2 n3 n4 n5 n6 n7 n8 : Int} (h : W.heap[b]? = some (.cells #[.int .i64 n0, .int .i64 n1, .int .i64 n2, .int .i64 n3, .int .i64 n4, .int .i64 n5, .int .i64 n6, .int .i64 n7, .int .i64 n8] T (0, 0))) :
    W.cell? ⟨b, 0, none⟩ = some (.int .i64 n0) ∧ W.cell? ⟨b, 1, none⟩ = some (.int .i64 n1) ∧ W.cell? ⟨b, 2, none⟩ = some (.int .i64 n2) ∧ W.cell? ⟨b, 3, none⟩ = some (.int .i64 n3) ∧ W.cell? ⟨b, 4, none⟩ = some (.int .i64 n4) ∧ W.cell? ⟨b, 5, none⟩ = some (.int .i64 n5) ∧ W.cell? ⟨b, 6, none⟩ = some (.int .i64 n6) ∧ W.cell? ⟨b, 7, none⟩ = some (.int .i64 n7) ∧ W.cell? ⟨b, 8, none⟩ = some (.int .i64 n8) := by
  have e := fun j => cell_of_row _ b j _ _ _ h
  exact ⟨e 0, e 1, e 2, e 3, e 4, e 5, e 6, e 7, e 8⟩
theorem txs_len (k : Nat) : ∀ (l : List UInt8) (p : Nat), (txs k l p).1.length ≤ k := by
  induction k with
  | zero => intro l p; exact Nat.zero_le _
  | succ k ih =>
    intro l p
    unfold txs
    split
    · exact Nat.zero_le _
    · unfold app
      split
      · exact Nat.zero_le _
      · have := ih l (tx 65536 l p).2.1
        show ([(tx 65536 l p).1] ++ _).length ≤ k + 1
        rw [List.length_append]
        simp only [List.length_cons, List.length_nil]
        omega
theorem lsT_len (l : List UInt8) (p : Nat) : (lsT l p).1.length ≤ 4096 := by
  unfold lsT
  split
  · exact Nat.zero_le _
  · split
    · exact Nat.zero_le _
    · have := txs_len (pk (l.drop p)).1 l (p + (pk (l.drop p)).2.1)
      omega
theorem strs_row {w : World} {A : Option Addr} {n g : Nat} {ss : List ByteArray} (cs : Array Value) (h : Strs w A n ss) (hA : ∀ a, A = some a → a.block ≠ g) : Strs (w.setRow g cs) A n ss := by
  refine ⟨h.len, ?_⟩
  rcases h.at_ with h1 | ⟨b, off, e, hc⟩
  · exact .inl h1
  · refine .inr ⟨b, off, e, fun j hj => ?_⟩
    rw [cell_setRow_other _ _ _ _ (by have := hA _ e; exact this)]
    exact hc j hj
theorem strs_cell {w : World} {A : Option Addr} {n g i : Nat} {ss : List ByteArray} (v : Value) (h : Strs w A n ss) (hA : ∀ a, A = some a → a.block ≠ g) : Strs (w.setCell ⟨g, i, none⟩ v) A n ss := by
  refine ⟨h.len, ?_⟩
  rcases h.at_ with h1 | ⟨b, off, e, hc⟩
  · exact .inl h1
  · refine .inr ⟨b, off, e, fun j hj => ?_⟩
    rw [World.cell?_setCell_other _ _ _ _ (fun h => hA _ e (by injection h with h1 _; exact h1.symm))]
    exact hc j hj
theorem own_addr {w : World} {base e n c : Nat} {A : Option Addr} {xs : List Value} (h : w.ownsRow base e 1 (.slice A n c) n xs) : ∀ a, A = some a → base ≤ a.block := by
  intro a ha
  rcases h.2 with ⟨h1, _⟩ | ⟨g, cap, cur, hv, hbg, _⟩
  · injection h1 with h2
    rw [ha] at h2
    cases h2
  · injection hv with h2
    rw [ha] at h2
    cases h2
    exact hbg
theorem hi33 : (Try.prog.info? 33).map (·.size) = some 11 := by kernel_rfl
theorem zone : (#[.int .i64 0, .int .i64 0, .int .i64 0, .int .i64 0, .int .i64 0, .int .i64 0, .int .i64 0, .int .i64 0, .int .i64 0, .string ⟨#[]⟩, .slice none 0 0] : Array Value).all (·.oneCell') = true := by simp [Value.oneCell']

set_option maxRecDepth 100000 in
set_option maxHeartbeats 4000000 in
theorem read_ok (s : ByteArray) (l : List UInt8) (w : World) (hs : s.size ≤ 1000000000) (ho : opened s.data.toList = (l, 0)) :
    Calls Try.prog 72 #[.string s] w (ReadPost w l) := by
  have hop := fun W => open_any s W (by omega)
  rw [ho] at hop
  have hll : l.length ≤ s.size := by
    have : (opened s.data.toList).1.length ≤ s.data.toList.length := by
      unfold opened
      split
      · exact Nat.zero_le _
      · split
        · show (List.take _ _).length ≤ _; rw [List.length_take]; omega
        · exact Nat.zero_le _
    rw [ho, list_size] at this
    exact this
  have hsl : (str l).size ≤ 1000000000 := by rw [str_size]; omega
  have hlsz : (str l).size = l.length := str_size l
  have OP := Lib.hid hop
  clear hop ho
  go_enter Try.func72, Try.ntmps72
  go_upto_region 1 with fail
  have hA := heap_alloc_new w (.cells #[.int .i64 0, .int .i64 0, .int .i64 0, .int .i64 0, .int .i64 0, .int .i64 0, .int .i64 0, .int .i64 0, .int .i64 0, .string ⟨#[]⟩, .slice none 0 0] 33)
  have HB : Below w.heap.size w (w.alloc (.cells #[.int .i64 0, .int .i64 0, .int .i64 0, .int .i64 0, .int .i64 0, .int .i64 0, .int .i64 0, .int .i64 0, .int .i64 0, .string ⟨#[]⟩, .slice none 0 0] 33)) := (Below.refl w.heap.size w).alloc (by simp) _
  generalize w.alloc (.cells #[.int .i64 0, .int .i64 0, .int .i64 0, .int .i64 0, .int .i64 0, .int .i64 0, .int .i64 0, .int .i64 0, .int .i64 0, .string ⟨#[]⟩, .slice none 0 0] 33) = W1 at hA HB ⊢
  go_upto_region 5 with (first | (go_at_call 39; refine (OP.out _).mono ?_; rintro e w2 ⟨rfl, hd⟩; replace hA := heap_below hA hd; (first | replace HB := bt HB HB.size hd | replace HB := bt_drew HB HB.size hd | replace HB := bt_drewN HB HB.size hd); clear hd) | (go_at_call 49; refine (new_tape (str l) _ (by omega)).mono ?_; rintro e w3 ⟨b, rfl, hT, hb, hd⟩; have hbR : b ≠ w.heap.size := (by have := heap_lt hA; omega); have hbw : w.heap.size ≤ b := Nat.le_trans HB.size hb; replace hA := heap_below hA hd; (first | replace HB := bt HB HB.size hd | replace HB := bt_drew HB HB.size hd | replace HB := bt_drewN HB HB.size hd); clear hd))
  go_upto_region 6 with fail
  have hL : (w3.alloc (.cells #[.int .i64 0, .int .i64 0, .int .i64 0, .int .i64 0, .int .i64 0, .int .i64 0, .int .i64 0, .int .i64 0, .int .i64 0] 25)).heap[w3.heap.size]? = some (.cells (arr9 []) 25 (0, 0)) := heap_alloc_new _ _
  have hLR : w3.heap.size ≠ w.heap.size := by have := heap_lt hA; omega
  have hLb : w3.heap.size ≠ b := by have := hT.lt; omega
  have hLw : w.heap.size ≤ w3.heap.size := HB.size
  replace hA := (heap_alloc_old w3 (.cells #[.int .i64 0, .int .i64 0, .int .i64 0, .int .i64 0, .int .i64 0, .int .i64 0, .int .i64 0, .int .i64 0, .int .i64 0] 25) (heap_lt hA)).trans hA
  replace hT := hT.below ((Below.refl w3.heap.size w3).alloc (Nat.le_refl _) (.cells #[.int .i64 0, .int .i64 0, .int .i64 0, .int .i64 0, .int .i64 0, .int .i64 0, .int .i64 0, .int .i64 0, .int .i64 0] 25))
  replace HB := HB.alloc HB.size (.cells #[.int .i64 0, .int .i64 0, .int .i64 0, .int .i64 0, .int .i64 0, .int .i64 0, .int .i64 0, .int .i64 0, .int .i64 0] 25)
  generalize w3.alloc (.cells #[.int .i64 0, .int .i64 0, .int .i64 0, .int .i64 0, .int .i64 0, .int .i64 0, .int .i64 0, .int .i64 0, .int .i64 0] 25) = W4 at hA hT hL HB ⊢
  generalize w3.heap.size = L at *
  clear hb OP
  go_wp2
  go_loopw [21] (fun i wr => ∃ (j q : Nat) (acc : List Nat), j ≤ 9 ∧ i = .int .i64 j ∧ acc.length = j ∧ nms 9 l 0 = appN acc (nms (9 - j) l q) ∧ wr.heap[L]? = some (.cells (arr9 acc) 25 (0, 0)) ∧ wr.heap[w.heap.size]? = some (.cells #[.int .i64 0, .int .i64 0, .int .i64 0, .int .i64 0, .int .i64 0, .int .i64 0, .int .i64 0, .int .i64 0, .int .i64 0, .string ⟨#[]⟩, .slice none 0 0] 33 (0, 0)) ∧ TapeAt wr b (str l) q ∧ Below w.heap.size w wr) (fun i _ => 9 - (intOf i).toNat)
  case atStart => exact ⟨0, 0, [], by omega, rfl, rfl, appN_nil _ _ _, hL, hA, hT, HB⟩
  case round =>
    clear hL hA hT HB
    obtain ⟨j, q, acc, hj, rfl, hacc, hnm, hL, hA, hT, HB⟩ := hrel
    by_cases hlt : j < 9
    · obtain ⟨n, i, er, hp⟩ : ∃ n i er, pk ((str l).data.toList.drop q) = (n, i, er) := ⟨_, _, _, rfl⟩
      have hj1 : 9 - j = (9 - (j + 1)) + 1 := by omega
      rw [hj1] at hnm
      obtain ⟨v0, hv0⟩ := arr9_at acc j hlt
      by_cases he : er = 0
      · subst he
        rw [nms_step acc _ l q n i hp] at hnm
        have HX := Lib.hid hnm
        have HC := Lib.hid (tnum_ok b (str l) q wr hT hp)
        have HLL := Lib.hid hL
        have HAA := Lib.hid hA
        clear hnm hp hj1 hL hA
        go_wp2_with fail
        refine HC.out.mono ?_
        rintro e w5 ⟨rfl, hd⟩
        have hL := heap_only HLL.out hd.only hLb
        have hA := heap_only HAA.out hd.only (Ne.symm hbR)
        have hT5 := hd.tape
        have hB5 : Below w.heap.size w w5 := HB.trans (hd.only.below hbw HB.size)
        have c5 : w5.cell? ⟨L, j, none⟩ = some v0 := by rw [cell_of_row _ _ _ _ _ _ hL]; exact hv0
        have f5 : w5.frozen? ⟨L, j, none⟩ = false := frozen_of_row _ _ _ _ _ hL
        have hLn : (w5.setCell ⟨L, j, none⟩ (.int .i64 n)).heap[L]? = some (.cells (arr9 (acc ++ [n])) 25 (0, 0)) := by
          rw [heap_setCell_same _ _ _ _ _ _ hL, ← arr9_snoc acc n (by omega), hacc]
        have hAn := heap_set (j := j) (v := .int .i64 n) hA (Ne.symm hLR)
        have hTn := tape_set (j := j) (v := .int .i64 n) hT5 (Ne.symm hLb)
        have hBn := hB5.setCell (p := ⟨L, j, none⟩) hLw (.int .i64 n)
        have HN1 := Lib.hid hLn
        have HN2 := Lib.hid hAn
        have HN3 := Lib.hid hTn
        clear hd hL hA hT5 hB5 HC HLL HAA hLn hAn hTn hT HB
        go_wp2
        go_roundw
        case rel => exact ⟨j + 1, q + i, acc ++ [n], by omega, by go_num, by rw [List.length_append, hacc]; rfl, HX.out, HN1.out, HN2.out, HN3.out, hBn⟩
        case measure => simp [intOf]; omega
      · rw [nms_stop acc _ l q n i er hp he] at hnm
        have hE : rdE l = er := by unfold rdE; rw [hnm]; dsimp only; rw [if_pos he]
        have HE := Lib.hid hE
        have HNZ := Lib.hid he
        have hz : (((er : Nat) : Int) != 0) = true := int_bne (by omega)
        have HC := Lib.hid (tnum_err b (str l) q wr hT hp he)
        have HLL := Lib.hid hL
        have HAA := Lib.hid hA
        clear hnm hp hj1 hL hA hE he hT
        go_wp2_with fail
        refine HC.out.mono ?_
        rintro e w5 ⟨rfl, hd⟩
        have hL := heap_below HLL.out hd.below
        have hA5 := heap_below HAA.out hd.below
        have hB5 : Below w.heap.size w w5 := HB.trans hd.below
        have c5 : w5.cell? ⟨L, j, none⟩ = some v0 := by rw [cell_of_row _ _ _ _ _ _ hL]; exact hv0
        have f5 : w5.frozen? ⟨L, j, none⟩ = false := frozen_of_row _ _ _ _ _ hL
        have hA := heap_set (j := j) (v := .int .i64 0) hA5 (Ne.symm hLR)
        clear HB
        have HB := hB5.setCell (p := ⟨L, j, none⟩) hLw (.int .i64 0)
        clear hd hL hA5 hB5 HC HLL HAA
        go_upto_region 11 with fail
        go_wp2_with (refine wpList_store_row rfl 33 (.tmp 2) (.tmp 33) rfl w.heap.size #[.int .i64 0, .int .i64 0, .int .i64 0, .int .i64 0, .int .i64 0, .int .i64 0, .int .i64 0, .int .i64 0, .int .i64 0, .string ⟨#[]⟩, .slice none 0 0] rfl rfl 33 #[.int .i64 0, .int .i64 0, .int .i64 0, .int .i64 0, .int .i64 0, .int .i64 0, .int .i64 0, .int .i64 0, .int .i64 0, .string ⟨#[]⟩, .slice none 0 0] hA hi33 rfl zone ?_)
        (have hR := setRow_heap _ _ _ #[.int .i64 0, .int .i64 0, .int .i64 0, .int .i64 0, .int .i64 0, .int .i64 0, .int .i64 0, .int .i64 0, .int .i64 0, .string ⟨#[]⟩, .slice none 0 0] _ _ hA; refine bodyPost_ret (results_cell_slot rfl _ _ w.heap.size 33 _ (0, 0) _ rfl hR Try.underlying33 rfl hi33 rfl) rfl ?_; exact ⟨below_setRow HB w.heap.size _ (Nat.le_refl _), .inl ⟨by rw [HE.out]; exact HNZ.out, by rw [HE.out]; rfl⟩⟩)
    · obtain rfl : j = 9 := by omega
      have hx : appN acc (nms (9 - 9) l q) = (acc, q, 0) := by
        show appN acc ([], q, 0) = _
        unfold appN
        rw [if_neg (by simp), List.append_nil]
      rw [hx] at hnm
      have HX := Lib.hid hnm
      clear hnm hx
      obtain ⟨x0, x1, x2, x3, x4, x5, x6, x7, x8, rfl⟩ := list9 hacc
      have hL2 : wr.heap[L]? = some (.cells #[.int .i64 ((x0 : Nat) : Int), .int .i64 ((x1 : Nat) : Int), .int .i64 ((x2 : Nat) : Int), .int .i64 ((x3 : Nat) : Int), .int .i64 ((x4 : Nat) : Int), .int .i64 ((x5 : Nat) : Int), .int .i64 ((x6 : Nat) : Int), .int .i64 ((x7 : Nat) : Int), .int .i64 ((x8 : Nat) : Int)] 25 (0, 0)) := hL
      obtain ⟨a0, a1, a2, a3, a4, a5, a6, a7, a8⟩ := box9_cells hL2
      clear hL2 hacc
      go_upto_region 14 with fail
      clear a0 a1 a2 a3 a4 a5 a6 a7 a8 hL
      have hM := heap_alloc_new wr (.cells #[.int .i64 ((x0 : Nat) : Int), .int .i64 ((x1 : Nat) : Int), .int .i64 ((x2 : Nat) : Int), .int .i64 ((x3 : Nat) : Int), .int .i64 ((x4 : Nat) : Int), .int .i64 ((x5 : Nat) : Int), .int .i64 ((x6 : Nat) : Int), .int .i64 ((x7 : Nat) : Int), .int .i64 ((x8 : Nat) : Int), .string ⟨#[]⟩, .slice none 0 0] 33)
      have hMR : wr.heap.size ≠ w.heap.size := by have := heap_lt hA; omega
      have hMb : wr.heap.size ≠ b := by have := hT.lt; omega
      have hMw : w.heap.size ≤ wr.heap.size := HB.size
      replace hA := (heap_alloc_old wr (.cells #[.int .i64 ((x0 : Nat) : Int), .int .i64 ((x1 : Nat) : Int), .int .i64 ((x2 : Nat) : Int), .int .i64 ((x3 : Nat) : Int), .int .i64 ((x4 : Nat) : Int), .int .i64 ((x5 : Nat) : Int), .int .i64 ((x6 : Nat) : Int), .int .i64 ((x7 : Nat) : Int), .int .i64 ((x8 : Nat) : Int), .string ⟨#[]⟩, .slice none 0 0] 33) (heap_lt hA)).trans hA
      replace hT := hT.below ((Below.refl wr.heap.size wr).alloc (Nat.le_refl _) (.cells #[.int .i64 ((x0 : Nat) : Int), .int .i64 ((x1 : Nat) : Int), .int .i64 ((x2 : Nat) : Int), .int .i64 ((x3 : Nat) : Int), .int .i64 ((x4 : Nat) : Int), .int .i64 ((x5 : Nat) : Int), .int .i64 ((x6 : Nat) : Int), .int .i64 ((x7 : Nat) : Int), .int .i64 ((x8 : Nat) : Int), .string ⟨#[]⟩, .slice none 0 0] 33))
      replace HB := HB.alloc HB.size (.cells #[.int .i64 ((x0 : Nat) : Int), .int .i64 ((x1 : Nat) : Int), .int .i64 ((x2 : Nat) : Int), .int .i64 ((x3 : Nat) : Int), .int .i64 ((x4 : Nat) : Int), .int .i64 ((x5 : Nat) : Int), .int .i64 ((x6 : Nat) : Int), .int .i64 ((x7 : Nat) : Int), .int .i64 ((x8 : Nat) : Int), .string ⟨#[]⟩, .slice none 0 0] 33)
      generalize wr.alloc (.cells #[.int .i64 ((x0 : Nat) : Int), .int .i64 ((x1 : Nat) : Int), .int .i64 ((x2 : Nat) : Int), .int .i64 ((x3 : Nat) : Int), .int .i64 ((x4 : Nat) : Int), .int .i64 ((x5 : Nat) : Int), .int .i64 ((x6 : Nat) : Int), .int .i64 ((x7 : Nat) : Int), .int .i64 ((x8 : Nat) : Int), .string ⟨#[]⟩, .slice none 0 0] 33) = W5 at hA hT hM HB ⊢
      generalize wr.heap.size = M at *
      have hC := ttext_any b (str l) q 1048576 W5 hT
      rw [str_list] at hC
      obtain ⟨t, q2, er, htx⟩ : ∃ t q2 er, tx 1048576 l q = (t, q2, er) := ⟨_, _, _, rfl⟩
      rw [htx] at hC
      dsimp only at hC
      have HTX := Lib.hid htx
      have HC := Lib.hid hC
      have HMM := Lib.hid hM
      have HAA := Lib.hid hA
      clear htx hC hM hA
      go_wp2_with fail
      refine HC.out.mono ?_
      rintro e w6 ⟨rfl, hd⟩
      have hM := heap_only HMM.out hd.only hMb
      have hA6 := heap_only HAA.out hd.only (Ne.symm hbR)
      have hT6 := hd.tape
      have hB6 : Below w.heap.size w w6 := HB.trans (hd.only.below hbw HB.size)
      have c6 : w6.cell? ⟨M, 9, none⟩ = some (.string ⟨#[]⟩) := by rw [cell_of_row _ _ _ _ _ _ hM]; rfl
      have f6 : w6.frozen? ⟨M, 9, none⟩ = false := frozen_of_row _ _ _ _ _ hM
      have hMn : (w6.setCell ⟨M, 9, none⟩ (.string (str t))).heap[M]? = some (.cells #[.int .i64 ((x0 : Nat) : Int), .int .i64 ((x1 : Nat) : Int), .int .i64 ((x2 : Nat) : Int), .int .i64 ((x3 : Nat) : Int), .int .i64 ((x4 : Nat) : Int), .int .i64 ((x5 : Nat) : Int), .int .i64 ((x6 : Nat) : Int), .int .i64 ((x7 : Nat) : Int), .int .i64 ((x8 : Nat) : Int), .string (str t), .slice none 0 0] 33 (0, 0)) := by
        rw [heap_setCell_same _ _ _ _ _ _ hM]; rfl
      have hA := heap_set (j := 9) (v := .string (str t)) hA6 (Ne.symm hMR)
      have hTn := tape_set (j := 9) (v := .string (str t)) hT6 (Ne.symm hMb)
      clear HB
      have HB := hB6.setCell (p := ⟨M, 9, none⟩) hMw (.string (str t))
      have HTT := Lib.hid hTn
      have HMN := Lib.hid hMn
      clear hd hM hA6 hT6 hB6 HC HMM HAA hMn hTn hT
      by_cases he : er = 0
      · subst he
        go_upto_region 17 with fail
        generalize w6.setCell ⟨M, 9, none⟩ (.string (str t)) = W7 at *
        clear c6 f6
        have hLs := list_any b (str l) q2 W7 HTT.out hsl
        rw [str_list] at hLs
        obtain ⟨ts, q3, er, hls⟩ : ∃ ts q3 er, lsT l q2 = (ts, q3, er) := ⟨_, _, _, rfl⟩
        rw [hls] at hLs
        dsimp only at hLs
        have HLX := Lib.hid hls
        have HC := Lib.hid hLs
        have HAA := Lib.hid hA
        clear hls hLs hA
        go_wp2_with fail
        refine HC.out.mono ?_
        rintro e w8 ⟨v, rfl, HO, hR⟩
        have hlen : ts.length = (ts.map str).length := (List.length_map _).symm
        rw [hlen] at HO
        obtain ⟨A, c, rfl, hS⟩ := own_strs HO
        rw [← hlen] at hS HO ⊢
        clear hlen
        have hM := heap_only HMN.out hR.only hMb
        have hA8 := heap_only HAA.out hR.only (Ne.symm hbR)
        have hT8 := hR.tape
        have hB8 : Below w.heap.size w w8 := HB.trans (hR.only.below hbw HB.size)
        have c8 : w8.cell? ⟨M, 10, none⟩ = some (.slice none 0 0) := by rw [cell_of_row _ _ _ _ _ _ hM]; rfl
        have f8 : w8.frozen? ⟨M, 10, none⟩ = false := frozen_of_row _ _ _ _ _ hM
        have hMn : (w8.setCell ⟨M, 10, none⟩ (.slice A ts.length c)).heap[M]? = some (.cells #[.int .i64 ((x0 : Nat) : Int), .int .i64 ((x1 : Nat) : Int), .int .i64 ((x2 : Nat) : Int), .int .i64 ((x3 : Nat) : Int), .int .i64 ((x4 : Nat) : Int), .int .i64 ((x5 : Nat) : Int), .int .i64 ((x6 : Nat) : Int), .int .i64 ((x7 : Nat) : Int), .int .i64 ((x8 : Nat) : Int), .string (str t), .slice A ts.length c] 33 (0, 0)) := by
          rw [heap_setCell_same _ _ _ _ _ _ hM]; rfl
        have hA := heap_set (j := 10) (v := .slice A ts.length c) hA8 (Ne.symm hMR)
        have hTn := tape_set (j := 10) (v := .slice A ts.length c) hT8 (Ne.symm hMb)
        clear HB
        have HB := hB8.setCell (p := ⟨M, 10, none⟩) hMw (.slice A ts.length c)
        have hMlt := heap_lt HMN.out
        have hAlt := heap_lt HAA.out
        have hoa := own_addr HO
        have hSn := strs_cell (i := 10) (.slice A ts.length c) hS (g := M) (fun a ha => by have := hoa a ha; omega)
        have hne : ∀ a, A = some a → a.block ≠ w.heap.size := fun a ha => by have := hoa a ha; omega
        have HNE := Lib.hid hne
        have HTT := Lib.hid hTn
        have HMN := Lib.hid hMn
        clear hM hA8 hT8 hB8 HC HAA hMn hTn hR HO hS hoa hne
        by_cases he : er = 0
        · subst he
          go_upto_region 20 with fail
          generalize w8.setCell ⟨M, 10, none⟩ (.slice A ts.length c) = W9 at *
          clear c8 f8
          have hC := end_any b (str l) q3 W9 HTT.out
          have hnts : ts.length ≤ 4096 := by
            have h := lsT_len l q2
            rw [HLX.out] at h
            exact h
          have hq3 : q3 ≤ l.length := by have := HTT.out.le; omega
          have HAA := Lib.hid hA
          clear hA
          have hrd : rdE l = if q3 < l.length then 6 else if rightM (numL [x0, x1, x2, x3, x4, x5, x6, x7, x8]) (str t) (ts.map str) = true then 0 else 6 := by
            unfold rdE
            rw [HX.out]
            dsimp only
            rw [if_neg (by simp), HTX.out]
            dsimp only
            rw [if_neg (by simp), HLX.out]
            dsimp only
            rw [if_neg (by simp)]
          by_cases hq : q3 < l.length
          · rw [if_pos hq] at hrd
            have HE := Lib.hid hrd
            have HNZ : Hid ((6 : Nat) ≠ 0) := Lib.hid (by omega)
            have hz : ((((str l).size : Nat) : Int) - (q3 : Int) == 0) = false := int_ne (by omega)
            rw [hz] at hC
            have HC := Lib.hid hC
            clear hrd hq hz hC
            go_wp2_with fail
            refine HC.out.mono ?_
            rintro e w10 ⟨rfl, hd⟩
            have hA := heap_below HAA.out hd.below
            replace HB := HB.trans (hd.below (B := w.heap.size))
            clear hd HC HAA
            go_upto_region 21 with fail
            go_wp2_with (refine wpList_store_row rfl 33 (.tmp 2) (.tmp 83) rfl w.heap.size #[.int .i64 0, .int .i64 0, .int .i64 0, .int .i64 0, .int .i64 0, .int .i64 0, .int .i64 0, .int .i64 0, .int .i64 0, .string ⟨#[]⟩, .slice none 0 0] rfl rfl 33 #[.int .i64 0, .int .i64 0, .int .i64 0, .int .i64 0, .int .i64 0, .int .i64 0, .int .i64 0, .int .i64 0, .int .i64 0, .string ⟨#[]⟩, .slice none 0 0] hA hi33 rfl zone ?_)
            (have hR := setRow_heap _ _ _ #[.int .i64 0, .int .i64 0, .int .i64 0, .int .i64 0, .int .i64 0, .int .i64 0, .int .i64 0, .int .i64 0, .int .i64 0, .string ⟨#[]⟩, .slice none 0 0] _ _ hA; refine bodyPost_ret (results_cell_slot rfl _ _ w.heap.size 33 _ (0, 0) _ rfl hR Try.underlying33 rfl hi33 rfl) rfl ?_; exact ⟨below_setRow HB w.heap.size _ (Nat.le_refl _), .inl ⟨by rw [HE.out]; exact HNZ.out, by rw [HE.out]; rfl⟩⟩)
          · rw [if_neg hq] at hrd
            have hz : ((((str l).size : Nat) : Int) - (q3 : Int) == 0) = true := int_eq (by omega)
            rw [hz] at hC
            have HC := Lib.hid hC
            clear hz hC
            have hRg := fun W hS => right_any (x0 : Int) (x1 : Int) (x2 : Int) (x3 : Int) (x4 : Int) (x5 : Int) (x6 : Int) (x7 : Int) (x8 : Int) (str t) A ts.length c (ts.map str) W hS (by have := hnts; omega)
            have hnl : numL [x0, x1, x2, x3, x4, x5, x6, x7, x8] = numAt (x0 : Int) (x1 : Int) (x2 : Int) (x3 : Int) (x4 : Int) (x5 : Int) (x6 : Int) (x7 : Int) (x8 : Int) := rfl
            rw [hnl] at hrd
            clear hq hnl
            cases hr : rightM (numAt (x0 : Int) (x1 : Int) (x2 : Int) (x3 : Int) (x4 : Int) (x5 : Int) (x6 : Int) (x7 : Int) (x8 : Int)) (str t) (ts.map str) with
            | false =>
              rw [hr] at hrd hRg
              rw [if_neg (by simp)] at hrd
              have HE := Lib.hid hrd
              have HNZ : Hid ((6 : Nat) ≠ 0) := Lib.hid (by omega)
              have RG := Lib.hid hRg
              clear hrd hRg hr
              go_wp2_with fail
              refine HC.out.mono ?_
              rintro e w10 ⟨rfl, hd⟩
              have hA10 := heap_below HAA.out hd.below
              have hM10 := heap_below HMN.out hd.below
              have hS10 := hSn.below hd.below
              replace HB := HB.trans (hd.below (B := w.heap.size))
              obtain ⟨m0, m1, m2, m3, m4, m5, m6, m7, m8, m9, m10⟩ := box_cells hM10
              have HA10 := Lib.hid hA10
              clear hd HC HAA hM10 hA10
              go_wp2_with fail
              refine (RG.out _ hS10).mono ?_
              rintro e w11 ⟨rfl, hd⟩
              have hA := heap_below HA10.out hd
              (first | replace HB := bt HB HB.size hd | replace HB := bt_drew HB HB.size hd | replace HB := bt_drewN HB HB.size hd); clear hd
              clear m0 m1 m2 m3 m4 m5 m6 m7 m8 m9 m10 RG
              go_upto_region 21 with fail
              go_wp2_with (refine wpList_store_row rfl 33 (.tmp 2) (.tmp 83) rfl w.heap.size #[.int .i64 0, .int .i64 0, .int .i64 0, .int .i64 0, .int .i64 0, .int .i64 0, .int .i64 0, .int .i64 0, .int .i64 0, .string ⟨#[]⟩, .slice none 0 0] rfl rfl 33 #[.int .i64 0, .int .i64 0, .int .i64 0, .int .i64 0, .int .i64 0, .int .i64 0, .int .i64 0, .int .i64 0, .int .i64 0, .string ⟨#[]⟩, .slice none 0 0] hA hi33 rfl zone ?_)
              (have hR := setRow_heap _ _ _ #[.int .i64 0, .int .i64 0, .int .i64 0, .int .i64 0, .int .i64 0, .int .i64 0, .int .i64 0, .int .i64 0, .int .i64 0, .string ⟨#[]⟩, .slice none 0 0] _ _ hA; refine bodyPost_ret (results_cell_slot rfl _ _ w.heap.size 33 _ (0, 0) _ rfl hR Try.underlying33 rfl hi33 rfl) rfl ?_; exact ⟨below_setRow HB w.heap.size _ (Nat.le_refl _), .inl ⟨by rw [HE.out]; exact HNZ.out, by rw [HE.out]; rfl⟩⟩)
            | true =>
              rw [hr] at hrd hRg
              rw [if_pos rfl] at hrd
              have HE := Lib.hid hrd
              have RG := Lib.hid hRg
              clear hrd hRg hr
              go_wp2_with fail
              refine HC.out.mono ?_
              rintro e w10 ⟨rfl, hd⟩
              have hA10 := heap_below HAA.out hd.below
              have hM10 := heap_below HMN.out hd.below
              have hS10 := hSn.below hd.below
              replace HB := HB.trans (hd.below (B := w.heap.size))
              obtain ⟨m0, m1, m2, m3, m4, m5, m6, m7, m8, m9, m10⟩ := box_cells hM10
              have HA10 := Lib.hid hA10
              have HM10 := Lib.hid hM10
              clear hd HC HAA hM10 hA10
              go_wp2_with fail
              refine (RG.out _ hS10).mono ?_
              rintro e w11 ⟨rfl, hd⟩
              have hA := heap_below HA10.out hd
              have hM := heap_below HM10.out hd
              have hS11 := hS10.below hd
              (first | replace HB := bt HB HB.size hd | replace HB := bt_drew HB HB.size hd | replace HB := bt_drewN HB HB.size hd); clear hd
              clear m0 m1 m2 m3 m4 m5 m6 m7 m8 m9 m10 RG
              obtain ⟨m0, m1, m2, m3, m4, m5, m6, m7, m8, m9, m10⟩ := box_cells hM
              have hone : (#[.int .i64 ((x0 : Nat) : Int), .int .i64 ((x1 : Nat) : Int), .int .i64 ((x2 : Nat) : Int), .int .i64 ((x3 : Nat) : Int), .int .i64 ((x4 : Nat) : Int), .int .i64 ((x5 : Nat) : Int), .int .i64 ((x6 : Nat) : Int), .int .i64 ((x7 : Nat) : Int), .int .i64 ((x8 : Nat) : Int), .string (str t), .slice A ts.length c] : Array Value).all (·.oneCell') = true := by simp [Value.oneCell']
              clear hM
              go_upto_region 22 with fail
              go_wp2_with (refine wpList_store_row rfl 33 (.tmp 2) (.tmp 84) rfl w.heap.size #[.int .i64 ((x0 : Nat) : Int), .int .i64 ((x1 : Nat) : Int), .int .i64 ((x2 : Nat) : Int), .int .i64 ((x3 : Nat) : Int), .int .i64 ((x4 : Nat) : Int), .int .i64 ((x5 : Nat) : Int), .int .i64 ((x6 : Nat) : Int), .int .i64 ((x7 : Nat) : Int), .int .i64 ((x8 : Nat) : Int), .string (str t), .slice A ts.length c] rfl rfl 33 #[.int .i64 0, .int .i64 0, .int .i64 0, .int .i64 0, .int .i64 0, .int .i64 0, .int .i64 0, .int .i64 0, .int .i64 0, .string ⟨#[]⟩, .slice none 0 0] hA hi33 rfl hone ?_)
              have hR := setRow_heap _ _ _ #[.int .i64 ((x0 : Nat) : Int), .int .i64 ((x1 : Nat) : Int), .int .i64 ((x2 : Nat) : Int), .int .i64 ((x3 : Nat) : Int), .int .i64 ((x4 : Nat) : Int), .int .i64 ((x5 : Nat) : Int), .int .i64 ((x6 : Nat) : Int), .int .i64 ((x7 : Nat) : Int), .int .i64 ((x8 : Nat) : Int), .string (str t), .slice A ts.length c] _ _ hA
              refine bodyPost_ret (results_cell_slot rfl _ _ w.heap.size 33 _ (0, 0) _ rfl hR Try.underlying33 rfl hi33 rfl) rfl ?_
              refine ⟨below_setRow HB w.heap.size _ (Nat.le_refl _), .inr ⟨HE.out, A, c, ?_, ?_⟩⟩
              · rw [HX.out]; dsimp only; rw [HTX.out]; dsimp only; rw [HLX.out]; rfl
              · rw [HX.out]; dsimp only; rw [HTX.out]; dsimp only; rw [HLX.out]; exact strs_row _ hS11 HNE.out
        · have hE : rdE l = er := by
            unfold rdE
            rw [HX.out]
            dsimp only
            rw [if_neg (by simp), HTX.out]
            dsimp only
            rw [if_neg (by simp), HLX.out]
            dsimp only
            rw [if_pos he]
          have HE := Lib.hid hE
          have HNZ := Lib.hid he
          have hz : (((er : Nat) : Int) != 0) = true := int_bne (by omega)
          clear hE he hSn
          go_upto_region 19 with fail
          go_wp2_with (refine wpList_store_row rfl 33 (.tmp 2) (.tmp 73) rfl w.heap.size #[.int .i64 0, .int .i64 0, .int .i64 0, .int .i64 0, .int .i64 0, .int .i64 0, .int .i64 0, .int .i64 0, .int .i64 0, .string ⟨#[]⟩, .slice none 0 0] rfl rfl 33 #[.int .i64 0, .int .i64 0, .int .i64 0, .int .i64 0, .int .i64 0, .int .i64 0, .int .i64 0, .int .i64 0, .int .i64 0, .string ⟨#[]⟩, .slice none 0 0] hA hi33 rfl zone ?_)
          (have hR := setRow_heap _ _ _ #[.int .i64 0, .int .i64 0, .int .i64 0, .int .i64 0, .int .i64 0, .int .i64 0, .int .i64 0, .int .i64 0, .int .i64 0, .string ⟨#[]⟩, .slice none 0 0] _ _ hA; refine bodyPost_ret (results_cell_slot rfl _ _ w.heap.size 33 _ (0, 0) _ rfl hR Try.underlying33 rfl hi33 rfl) rfl ?_; exact ⟨below_setRow HB w.heap.size _ (Nat.le_refl _), .inl ⟨by rw [HE.out]; exact HNZ.out, by rw [HE.out]; rfl⟩⟩)
      · have hE : rdE l = er := by
          unfold rdE
          rw [HX.out]
          dsimp only
          rw [if_neg (by simp), HTX.out]
          dsimp only
          rw [if_pos he]
        have HE := Lib.hid hE
        have HNZ := Lib.hid he
        have hz : (((er : Nat) : Int) != 0) = true := int_bne (by omega)
        clear hE he
        go_upto_region 16 with fail
        go_wp2_with (refine wpList_store_row rfl 33 (.tmp 2) (.tmp 63) rfl w.heap.size #[.int .i64 0, .int .i64 0, .int .i64 0, .int .i64 0, .int .i64 0, .int .i64 0, .int .i64 0, .int .i64 0, .int .i64 0, .string ⟨#[]⟩, .slice none 0 0] rfl rfl 33 #[.int .i64 0, .int .i64 0, .int .i64 0, .int .i64 0, .int .i64 0, .int .i64 0, .int .i64 0, .int .i64 0, .int .i64 0, .string ⟨#[]⟩, .slice none 0 0] hA hi33 rfl zone ?_)
        (have hR := setRow_heap _ _ _ #[.int .i64 0, .int .i64 0, .int .i64 0, .int .i64 0, .int .i64 0, .int .i64 0, .int .i64 0, .int .i64 0, .int .i64 0, .string ⟨#[]⟩, .slice none 0 0] _ _ hA; refine bodyPost_ret (results_cell_slot rfl _ _ w.heap.size 33 _ (0, 0) _ rfl hR Try.underlying33 rfl hi33 rfl) rfl ?_; exact ⟨below_setRow HB w.heap.size _ (Nat.le_refl _), .inl ⟨by rw [HE.out]; exact HNZ.out, by rw [HE.out]; rfl⟩⟩)
end Go.Proofs.Ytdjgdhpncocahaa.MsgW
