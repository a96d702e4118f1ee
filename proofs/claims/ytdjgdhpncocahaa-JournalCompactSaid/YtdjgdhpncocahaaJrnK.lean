/- Helps for the laws of chapter 19: a journal opened of frames, nil's answers. -/
import Derived.Test.YtdjgdhpncocahaaJrnTorn
import Derived.Test.YtdjgdhpncocahaaJrnGrows
set_option linter.unusedVariables false
set_option linter.unusedSimpArgs false
namespace Go.Proofs.Ytdjgdhpncocahaa.JrnW
open Go.RowKit Go.Proofs.Ytdjgdhpncocahaa.Base Go.Proofs.Ytdjgdhpncocahaa.TapeP Go.Proofs.Ytdjgdhpncocahaa.TapeW Go.Proofs.Ytdjgdhpncocahaa.CrcP Go.Proofs.Ytdjgdhpncocahaa.CrcW Go.Proofs.Ytdjgdhpncocahaa.JrnP Go.Proofs.Ytdjgdhpncocahaa.BuildW Go.Proofs.Ytdjgdhpncocahaa.EqsW Go.Proofs.Ytdjgdhpncocahaa.JrnI

theorem own_strs2 {w : World} {base e n : Nat} {v : Value} {ss : List ByteArray} (h : w.ownsRow base e 1 v n (sv ss)) : ∃ A c, v = .slice A n c ∧ Strs w A n ss ∧ n ≤ c := by
  obtain ⟨A, c, rfl, hS⟩ := own_strs h
  refine ⟨A, c, rfl, hS, ?_⟩
  rcases h.2 with ⟨h1, h2⟩ | ⟨g, cap, cur, hv, _, _, hc, _⟩
  · omega
  · injection hv with _ _ e
    omega
theorem strs_take {w : World} {A : Option Addr} {n : Nat} {ss : List ByteArray} (h : Strs w A n ss) (k : Nat) (hk : k ≤ n) : Strs w A k (ss.take k) := by
  have hl := h.len
  refine ⟨by rw [List.length_take]; omega, ?_⟩
  rcases h.at_ with h1 | ⟨b, off, e, hc⟩
  · exact .inl (by omega)
  · refine .inr ⟨b, off, e, fun j hj => ?_⟩
    rw [List.length_take] at hj
    rw [hc j (by omega), List.getElem_take]
theorem strs_drop {w : World} {A : Option Addr} {n : Nat} {ss : List ByteArray} (h : Strs w A n ss) {b off : Nat} (hA : A = some ⟨b, off, none⟩) (k : Nat) (hk : k ≤ n) : Strs w (some ⟨b, off + k, none⟩) (n - k) (ss.drop k) := by
  have hl := h.len
  refine ⟨by rw [List.length_drop]; omega, ?_⟩
  rcases h.at_ with h1 | ⟨b', off', e, hc⟩
  · exact .inl (by omega)
  · rw [hA] at e
    simp only [Option.some.injEq, Addr.mk.injEq] at e
    obtain ⟨rfl, rfl, _⟩ := e
    refine .inr ⟨b, off + k, rfl, fun j hj => ?_⟩
    rw [List.length_drop] at hj
    rw [Nat.add_assoc, hc (k + j) (by omega), List.getElem_drop]
theorem map_lst (ss : List ByteArray) : (lst ss).map str = ss := by
  unfold lst
  rw [List.map_map]
  have : (str ∘ fun s : ByteArray => s.data.toList) = id := rfl
  rw [this, List.map_id]
theorem lst_small {ss : List ByteArray} (h : ∀ s, s ∈ ss → s.size ≤ 1048576) : ∀ l, l ∈ lst ss → l.length ≤ 1048576 := by
  intro l hl
  obtain ⟨s, hs, rfl⟩ := List.mem_map.1 hl
  rw [list_size]
  exact h s hs
theorem lst_take (ss : List ByteArray) (k : Nat) : lst (ss.take k) = (lst ss).take k := List.map_take ..
theorem jopen_frames (ss : List ByteArray) (h : ∀ s, s ∈ ss → s.size ≤ 1048576) (ht : total ss ≤ 100000) (hl : ss.length ≤ 1000) (w : World) :
    Calls Try.prog 59 #[.string (str (frames (lst ss)))] w fun e w' => ∃ b, e = .returned (.pointer (some ⟨b, 0, none⟩)) ∧ JAt w' w.heap.size b ss ∧ Below w.heap.size w w' := by
  have hle := frames_le ss h
  have := jopen_any (str (frames (lst ss))) w (by rw [str_size]; omega)
  rw [str_list, recs_all _ (lst_small h)] at this
  dsimp only at this
  rwa [map_lst] at this
/-- Opened of what is left of frames: a beginning of the records. -/
theorem jopen_cut (ss : List ByteArray) (h : ∀ s, s ∈ ss → s.size ≤ 1048576) (ht : total ss ≤ 100000) (hl : ss.length ≤ 1000) (q : Nat) :
    ∃ k, k ≤ ss.length ∧ ∀ w, Calls Try.prog 59 #[.string ((str (frames (lst ss))).extract 0 q)] w fun e w' => ∃ b, e = .returned (.pointer (some ⟨b, 0, none⟩)) ∧ JAt w' w.heap.size b (ss.take k) ∧ Below w.heap.size w w' := by
  have hle := frames_le ss h
  obtain ⟨m, hm, e⟩ := recs_cut (lst ss) (lst_small h) q
  refine ⟨m, by rwa [lst_length] at hm, fun w => ?_⟩
  have := jopen_any ((str (frames (lst ss))).extract 0 q) w (extract_le _ _ (by rw [str_size]; omega))
  rw [extract_str, str_list, List.drop_zero] at this ⊢
  rw [str_list, e, ← lst_take, map_lst] at this
  exact this
/-- The journal's block, and its row's, lie below hi. -/
def Low (w : World) (b hi : Nat) : Prop := b < hi ∧ b < w.heap.size ∧ ∀ v, w.heap[b]? = some (.cells #[v] 112 (0, 0)) → ∀ k, v.ownBlock = some k → k < hi
theorem Low.of_jat {w : World} {base b : Nat} {ss : List ByteArray} (h : JAt w base b ss) : Low w b w.heap.size := by
  obtain ⟨v, hb, HO⟩ := h.ex
  refine ⟨h.lt, h.lt, fun v' hv' k hk => ?_⟩
  rw [hb] at hv'
  have e : v = v' := by simpa using hv'
  subst e
  exact (HO.lt k hk).2
theorem Low.below {w w' : World} {b hi : Nat} (h : Low w b hi) (hb : Below w.heap.size w w') : Low w' b hi :=
  ⟨h.1, by have := hb.size; have := h.2.1; omega, fun v hv => h.2.2 v ((hb.block b h.2.1).symm.trans hv)⟩
/-- Appended to; what lies from hi on is kept. -/
theorem append_keep (base b hi : Nat) (ss : List ByteArray) (s : ByteArray) (w : World) (hJ : JAt w base b ss) (hL : Low w b hi) (hs : s.size ≤ 1048576) (hl : ss.length ≤ 1000000) :
    Calls Try.prog 66 #[.pointer (some ⟨b, 0, none⟩), .string s] w fun e w' => e = .returned (.int .i64 0) ∧ JAt w' base b (ss ++ [s]) ∧ Below base w w' ∧
      ∀ A n tt, (∀ a, A = some a → hi ≤ a.block) → Strs w A n tt → Strs w' A n tt := by
  refine (append_ok base b ss s w w hJ hs hl (Below.refl _ _) (by have := hJ.lo; have := hJ.lt; omega)).mono ?_
  rintro e w' ⟨h1, h2, h3, _, h5⟩
  refine ⟨h1, h2, h3, fun A n tt hA hS => ⟨hS.len, ?_⟩⟩
  rcases hS.at_ with h0 | ⟨g, off, rfl, hc⟩
  · exact .inl h0
  · refine .inr ⟨g, off, rfl, fun j hj => ?_⟩
    have hg := hA _ rfl
    dsimp only at hg
    obtain ⟨v, hb, HO⟩ := hJ.ex
    have hgl := World.block_lt_of_cell? w _ (hc j hj)
    have hk := h5 v hb g hgl (by have := hL.1; omega) (fun e => by have := hL.2.2 v hb g e; omega)
    rw [World.cell?_of_block (w := w) (w' := w') (a := ⟨g, off + j, none⟩) hk]
    exact hc j hj
/-- The records of a journal are all handed on. -/
theorem all_jat (base b : Nat) (ss : List ByteArray) (hl : ss.length ≤ 1000) (w : World) (hJ : JAt w base b ss) :
    Calls Try.prog 64 #[.pointer (some ⟨b, 0, none⟩)] w fun e W' => ∃ A c, e = .returned (.slice A ss.length c) ∧ Strs W' A ss.length ss ∧ ss.length ≤ c ∧ (∀ a, A = some a → w.heap.size ≤ a.block) ∧ Below w.heap.size w W' := by
  refine (all_any _ ss (by omega) w (Recs.of_jat hJ)).mono ?_
  rintro e w' ⟨v, rfl, HO, hB⟩
  obtain ⟨A, c, rfl, hS, hc⟩ := own_strs2 HO
  refine ⟨A, c, rfl, hS, hc, fun a ha => ?_, hB⟩
  rcases HO.2 with ⟨h1, _⟩ | ⟨g, cap, cur, hv, hbg, _⟩
  · injection h1 with h2
    rw [ha] at h2
    cases h2
  · injection hv with h2
    rw [ha] at h2
    cases h2
    exact hbg
theorem all_nil (w : World) :
    Calls Try.prog 64 #[.pointer none] w fun e W' => ∃ A c, e = .returned (.slice A 0 c) ∧ Below w.heap.size w W' := by
  refine (all_any none [] (by simp) w (.inl ⟨rfl, rfl⟩)).mono ?_
  rintro e w' ⟨v, rfl, HO, hB⟩
  obtain ⟨A, c, rfl, hS, hc⟩ := own_strs2 HO
  exact ⟨A, c, rfl, hB⟩
set_option maxRecDepth 100000 in
set_option maxHeartbeats 1000000 in
theorem compact_nil (s : ByteArray) (n : Int) (w : World) :
    Calls Try.prog 63 #[.pointer none, .string s, .int .i64 n] w fun e w' => e = .returned (.tuple #[.pointer none, .int .i64 1]) ∧ Below w.heap.size w w' := by
  go_enter Try.func63, Try.ntmps63
  go_upto_region 1 with fail
  have HB : Below w.heap.size w (w.alloc (.cells #[.int .i64 n] 3)) := (Below.refl _ _).alloc (Nat.le_refl _) _
  generalize w.alloc (.cells #[.int .i64 n] 3) = w1 at HB ⊢
  go_quiet (fail)
  go_wp2
  go_ret2
  exact ⟨rfl, below_drewN HB _⟩
set_option maxRecDepth 100000 in
set_option maxHeartbeats 1000000 in
theorem nil_any (s : ByteArray) (w : World) :
    Calls Try.prog 20 #[.string s] w fun e w' => e = .returned (.bool true) ∧ Below w.heap.size w w' := by
  have HB : Below w.heap.size w w := Below.refl _ _
  have hq : (str []).toList.isEmpty = true := by rw [ByteArray.toList_eq]; rfl
  go_enter Try.func20, Try.ntmps20
  go_wp2_with (first | (go_at_call 56; (with_reducible refine (awake_any _).mono ?_); rintro e w2 ⟨rfl, hd⟩; (first | replace HB := bt HB HB.size hd | replace HB := bt_drew HB HB.size hd | replace HB := bt_drewN HB HB.size hd); clear hd) | (go_at_call 63; (with_reducible refine (compact_nil _ _ _).mono ?_); rintro e w2 ⟨rfl, hd⟩; (first | replace HB := bt HB HB.size hd | replace HB := bt_drew HB HB.size hd | replace HB := bt_drewN HB HB.size hd); clear hd) | (go_at_call 66; (with_reducible refine (append_nil _ _).mono ?_); rintro e w2 ⟨rfl, rfl⟩) | (go_at_call 60; (with_reducible refine (jbytes_nil _).mono ?_); rintro e w2 ⟨rfl, rfl⟩) | (go_at_call 67; (with_reducible refine (jlen_nil _).mono ?_); rintro e w2 ⟨rfl, rfl⟩) | (go_at_call 70; (with_reducible refine (torn_nil _ _).mono ?_); rintro e w2 ⟨rfl, rfl⟩) | (go_at_call 64; (with_reducible refine (all_nil _).mono ?_); rintro e w2 ⟨A, c, rfl, hd⟩; (first | replace HB := bt HB HB.size hd | replace HB := bt_drew HB HB.size hd | replace HB := bt_drewN HB HB.size hd); clear hd))
  all_goals go_ret
  all_goals exact ⟨rfl, HB⟩
end Go.Proofs.Ytdjgdhpncocahaa.JrnW
