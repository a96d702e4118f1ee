/- rows.made walked. -/
import Derived.Test.YtalinkpfklhgaaaRowsMat
import Derived.OwnWalk
set_option linter.unusedVariables false
set_option linter.unusedSimpArgs false
namespace Go.Proofs.Ytalinkpfklhgaaa.RowsW
open Go.RowKit Go.Proofs.Ytalinkpfklhgaaa.Base Go.Proofs.Ytalinkpfklhgaaa.GfP Go.Proofs.Ytalinkpfklhgaaa.GfW Go.Proofs.Ytalinkpfklhgaaa.Lin

def sl (q : Nat) (bs : List Nat) : List Value := bs.map fun b => Value.slice (some ⟨b, 0, none⟩) q q
theorem sl_length (q : Nat) (bs : List Nat) : (sl q bs).length = bs.length := by simp [sl]
theorem info_row : (Try.prog.info? 29).map (fun i => (i.zero, i.size, i.bytes)) = some (some (.slice none 0 0), 1, 24) := by kernel_rfl
theorem info_byte : (Try.prog.info? 5).map (fun i => (i.zero, i.size, i.bytes)) = some (some (.int .u8 0), 1, 1) := by kernel_rfl
theorem rowIs_grown {w w' : World} {b : Nat} {t : TypeId} {q : Nat} {f : Nat → Value} {row : Option Nat} (h : w.rowIs b t q f) (hg : w.grownBy w' row) (hne : some b ≠ row) : w'.rowIs b t q f := by
  have hlt := h.lt
  obtain ⟨c, h1, h2⟩ := h
  exact ⟨c, (hg.block b hlt hne).trans h1, h2⟩
theorem row_not_own {w : World} {b : Nat} {t e : TypeId} {q base size n : Nat} {f : Nat → Value} {v : Value} {xs : List Value} (h : w.rowIs b t q f) (ho : w.ownsRow base e size v n xs) (hte : t ≠ e) : some b ≠ v.ownBlock := by
  obtain ⟨c, h1, _⟩ := h
  rcases ho.2 with ⟨rfl, _⟩ | ⟨g, cap, cur, rfl, _, hg, _⟩
  · simp [Value.ownBlock]
  · intro e'
    obtain rfl : b = g := by simpa [Value.ownBlock] using e'
    rw [h1] at hg
    simp at hg
    exact hte hg.2
/-- What made has made so far. -/
structure Made (w0 w : World) (d : Value) (q k : Nat) (bs : List Nat) : Prop where
  len : bs.length = k
  own : w.ownsRow w0.heap.size 29 1 d k (sl q bs)
  row : ∀ b, b ∈ bs → w.rowIs b 5 q (fun _ => .int .u8 0)
  lo : ∀ b, b ∈ bs → w0.heap.size ≤ b
  nd : bs.Nodup
  below : Below w0.heap.size w0 w
set_option maxRecDepth 100000 in
set_option maxHeartbeats 1000000 in
theorem made_list (n q : Nat) (w : World) (hn : n ≤ 1000) (hq : q ≤ 1000) :
    Calls Try.prog 59 #[.int .i64 (n : Nat), .int .i64 (q : Nat)] w fun e w' => ∃ d bs, e = .returned d ∧ Made w w' d q n bs := by
  have hmk := fun W => run_make_row' (P := Try.prog) 29 5 (.int .u8 0) 1 Try.underlying29 info_byte rfl .i64 .i64 q (by omega) (by omega) W
  go_enter Try.func59, Try.ntmps59
  go_wp2
  go_loopw [5, 7] (fun d i wr => ∃ (k : Nat) (bs : List Nat), k ≤ n ∧ i = .int .i64 k ∧ Made w wr d q k bs) (fun _ i _ => n - (intOf i).toNat)
  case atStart => exact ⟨0, [], by omega, rfl, ⟨rfl, World.ownsRow_nil _ _ _ _, (fun _ h => nomatch h), (fun _ h => nomatch h), List.nodup_nil, Below.refl _ _⟩⟩
  case round =>
    obtain ⟨k, bs, hk, rfl, HM⟩ := hrel
    by_cases hlt : k < n
    · have HO1 := HM.own.alloc (.cells (madeCells #[.int .u8 0] q) 5)
      have HB1 := HM.below.alloc HM.below.size (.cells (madeCells #[.int .u8 0] q) 5)
      have hnew := World.rowIs_made wr (.int .u8 0) q 5
      have hlen := HM.len
      go_wp2_with (at_builtin; refine app_one w.heap.size rfl (.tmp 9) (.tmp 12) 40 29 (.slice none 0 0) 24 rfl Try.underlying40 info_row rfl (by omega) _ (sl q bs) _ k (by rw [sl_length]; exact hlen) rfl (by rw [World.size_alloc]; rfl) rfl HO1 HB1 HB1.size (by omega) ?_; intro v1 w1 HO2 HB2 hg2)
      go_roundw
      case rel =>
        refine ⟨k + 1, bs ++ [wr.heap.size], by omega, by go_num, ⟨by simp [hlen], by simpa [sl] using HO2, fun b hb => ?_, fun b hb => ?_, ?_, HB2⟩⟩
        · rcases List.mem_append.1 hb with h | h
          · exact rowIs_grown ((HM.row b h).alloc _) hg2 (row_not_own ((HM.row b h).alloc _) HO1 (by decide))
          · obtain rfl := List.mem_singleton.1 h
            exact rowIs_grown hnew hg2 (row_not_own hnew HO1 (by decide))
        · rcases List.mem_append.1 hb with h | h
          · exact HM.lo b h
          · rw [List.mem_singleton.1 h]; exact HM.below.size
        · refine List.nodup_append.2 ⟨HM.nd, (by simp), fun a ha b hb e => ?_⟩
          rw [List.mem_singleton.1 hb] at e
          have := (HM.row a ha).lt
          omega
      case measure => simp [intOf]; omega
    · obtain rfl : k = n := by omega
      go_wp2
      go_ret
      exact ⟨_, bs, rfl, HM⟩
theorem made_mat {w0 w : World} {d : Value} {q n : Nat} {bs : List Nat} (h : Made w0 w d q n bs) (hn : 0 < n) :
    ∃ g cap, d = .slice (some ⟨g, 0, none⟩) n cap ∧ n ≤ cap ∧ Mat w w0.heap.size g n q (fun i => bs.getD i 0) (fun _ _ => 0) := by
  have hl := h.len
  rcases h.own.2 with ⟨_, h0⟩ | ⟨g, cap, cur, rfl, hb, hg, hc, hm, hs, ht⟩
  · omega
  refine ⟨g, cap, rfl, hc, ?_, fun i => Lib.frozen_of_heap hg i, ?_, fun i hi => ?_, fun i j hi hj e => ?_, fun i hi => ?_, hb, fun i hi => ?_⟩
  · intro i hi
    rw [cell_of_row w g i _ _ _ hg]
    have h1 : (sl q bs)[i]? = some (.slice (some ⟨bs.getD i 0, 0, none⟩) q q) := by
      simp only [sl, List.getElem?_map, List.getD_eq_getElem?_getD]
      rw [List.getElem?_eq_getElem (by omega)]
      rfl
    rw [← ht, List.getElem?_take, if_pos (by omega)] at h1
    simpa using h1
  · rcases Nat.lt_or_ge g w.heap.size with h' | h'
    · exact h'
    · simp [Array.getElem?_eq_none h'] at hg
  · have hmem : bs.getD i 0 ∈ bs := by
      rw [List.getD_eq_getElem?_getD, List.getElem?_eq_getElem (by omega)]
      exact List.getElem_mem _
    have hr := h.row _ hmem
    exact ⟨fun j hj => hr.cell hj, fun j => hr.frozen j, hr.lt, by obtain ⟨cur, h1, h2, _⟩ := hr; exact ⟨cur, h1, h2⟩⟩
  · simp only [List.getD_eq_getElem?_getD] at e
    rw [List.getElem?_eq_getElem (by omega), List.getElem?_eq_getElem (by omega)] at e
    exact (List.getElem_inj h.nd).1 e
  · have hmem : bs.getD i 0 ∈ bs := by
      rw [List.getD_eq_getElem?_getD, List.getElem?_eq_getElem (by omega)]
      exact List.getElem_mem _
    have := row_not_own (h.row _ hmem) h.own (by decide)
    intro e
    apply this
    rw [e]
    rfl
  · have hmem : bs.getD i 0 ∈ bs := by
      rw [List.getD_eq_getElem?_getD, List.getElem?_eq_getElem (by omega)]
      exact List.getElem_mem _
    exact h.lo _ hmem
theorem made_any (n q : Nat) (w : World) (hn : n ≤ 1000) (hq : q ≤ 1000) (h0 : 0 < n) :
    Calls Try.prog 59 #[.int .i64 (n : Nat), .int .i64 (q : Nat)] w fun e w' => ∃ g cap bs, e = .returned (.slice (some ⟨g, 0, none⟩) n cap) ∧ n ≤ cap ∧ Mat w' w.heap.size g n q bs (fun _ _ => 0) ∧ Below w.heap.size w w' := by
  refine (made_list n q w hn hq).mono ?_
  rintro e w' ⟨d, bs, rfl, h⟩
  obtain ⟨g, cap, rfl, hc, hM⟩ := made_mat h h0
  exact ⟨g, cap, _, rfl, hc, hM, h.below⟩
end Go.Proofs.Ytalinkpfklhgaaa.RowsW
