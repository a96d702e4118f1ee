/- Journals: opened, appended to: walked. -/
import Derived.Test.YtdjgdhpncocahaaJrn2
set_option linter.unusedVariables false
set_option linter.unusedSimpArgs false
namespace Go.Proofs.Ytdjgdhpncocahaa.JrnW
open Go.RowKit Go.Proofs.Ytdjgdhpncocahaa.Base Go.Proofs.Ytdjgdhpncocahaa.TapeP Go.Proofs.Ytdjgdhpncocahaa.TapeW Go.Proofs.Ytdjgdhpncocahaa.CrcP Go.Proofs.Ytdjgdhpncocahaa.CrcW Go.Proofs.Ytdjgdhpncocahaa.JrnP Go.Proofs.Ytdjgdhpncocahaa.BuildW

/-- A journal in block b: its records. -/
structure JAt (w : World) (base b : Nat) (ss : List ByteArray) : Prop where
  ex : ∃ v, w.heap[b]? = some (.cells #[v] 112 (0, 0)) ∧ w.ownsRow base 9 1 v ss.length (sv ss)
  lo : base ≤ b
  small : ∀ s, s ∈ ss → s.size ≤ 1048576
theorem JAt.lt {w : World} {base b : Nat} {ss : List ByteArray} (h : JAt w base b ss) : b < w.heap.size := by
  obtain ⟨v, hb, _⟩ := h.ex
  rcases Nat.lt_or_ge b w.heap.size with h' | h'
  · exact h'
  · simp [Array.getElem?_eq_none h'] at hb
theorem JAt.below {w w' : World} {base b : Nat} {ss : List ByteArray} (h : JAt w base b ss) (hb : Below w.heap.size w w') : JAt w' base b ss := by
  obtain ⟨v, h1, h2⟩ := h.ex
  exact ⟨⟨v, (hb.block b h.lt).trans h1, own_below h2 hb⟩, h.lo, h.small⟩
theorem recs_small (s : ByteArray) : ∀ x, x ∈ (recs s.data.toList).1.map str → x.size ≤ 1048576 := by
  intro x hx
  obtain ⟨l, hl, rfl⟩ := List.mem_map.1 hx
  rw [str_size]
  exact (recs_facts s.data.toList).2.2 l hl

set_option maxRecDepth 100000 in
set_option maxHeartbeats 1000000 in
theorem jopen_any (s : ByteArray) (w : World) (hs : s.size ≤ 1000000000) :
    Calls Try.prog 59 #[.string s] w fun e w' => ∃ b, e = .returned (.pointer (some ⟨b, 0, none⟩)) ∧ JAt w' w.heap.size b ((recs s.data.toList).1.map str) ∧ Below w.heap.size w w' := by
  go_enter Try.func59, Try.ntmps59
  go_wp2_with fail
  refine (read_any _ _ hs).mono ?_
  rintro e w2 ⟨v, rfl, HO, hd⟩
  have HO' := HO
  rw [show (recs s.data.toList).1.length = ((recs s.data.toList).1.map str).length from (List.length_map _).symm] at HO'
  obtain ⟨A, c, rfl, _⟩ := own_strs HO'
  clear HO'
  go_wp2
  go_ret
  have HO2 := HO.alloc (.cells #[.slice A (recs s.data.toList).1.length c] 112)
  refine ⟨_, rfl, ⟨⟨_, heap_alloc_new _ _, ?_⟩, hd.size, recs_small s⟩, hd.alloc hd.size _⟩
  rw [List.length_map] at HO2 ⊢
  exact HO2
theorem own_set {w : World} {base e n b j : Nat} {v u : Value} {xs : List Value} {cs : Array Value} {T : TypeId} {fr : Nat × Nat} (h : w.ownsRow base e 1 v n xs) (hb : w.heap[b]? = some (.cells cs T fr)) (hT : T ≠ e) : (w.setCell ⟨b, j, none⟩ u).ownsRow base e 1 v n xs := by
  obtain ⟨hl, h0 | ⟨g, cap, cur, hv, hB, hh, r⟩⟩ := h
  · exact ⟨hl, .inl h0⟩
  · refine ⟨hl, .inr ⟨g, cap, cur, hv, hB, ?_, r⟩⟩
    rw [← hh]
    refine Below.heap_setCell _ _ _ _ ?_
    intro hne
    have hne2 : g = b := by first | exact hne | exact hne.symm
    rw [hne2, hb] at hh
    simp at hh
    exact hT hh.2.1
theorem app_facts {w2 w3 : World} {base b : Nat} {ss : List ByteArray} {s : ByteArray} {v v1 : Value} (HO : w2.ownsRow base 9 1 v ss.length (sv ss)) (hb : w2.heap[b]? = some (.cells #[v] 112 (0, 0))) (hlt : b < w2.heap.size)
    (HO1 : w3.ownsRow base 9 1 v1 (ss.length + 1) (sv ss ++ [Value.string s])) (hg : w2.grownBy w3 v.ownBlock) :
    ∃ A1 c1, v1 = .slice A1 (ss.length + 1) c1 ∧ w3.heap[b]? = some (.cells #[v] 112 (0, 0)) ∧ w3.cell? ⟨b, 0, none⟩ = some v ∧ w3.frozen? ⟨b, 0, none⟩ = false := by
  have e : sv ss ++ [Value.string s] = sv (ss ++ [s]) := (sv_append ss [s]).symm
  rw [e] at HO1
  obtain ⟨A1, c1, rfl, _⟩ := own_strs HO1
  have hb3 : w3.heap[b]? = some (.cells #[v] 112 (0, 0)) := (hg.block b hlt (fun e => Lib.ownBlock_ne HO hb (by decide) e.symm)).trans hb
  exact ⟨A1, c1, rfl, hb3, by rw [cell_of_row _ _ _ _ _ _ hb3]; rfl, frozen_of_row _ _ _ _ _ hb3⟩
set_option maxRecDepth 100000 in
set_option maxHeartbeats 1000000 in
theorem append_ok (base b : Nat) (ss : List ByteArray) (s : ByteArray) (w w0 : World) (hJ : JAt w base b ss) (hs : s.size ≤ 1048576) (hl : ss.length ≤ 1000000) (HB : Below base w0 w) (hbase : base ≤ w.heap.size) :
    Calls Try.prog 66 #[.pointer (some ⟨b, 0, none⟩), .string s] w fun e w' => e = .returned (.int .i64 0) ∧ JAt w' base b (ss ++ [s]) ∧ Below base w0 w' ∧ base ≤ w'.heap.size ∧ ∀ v, w.heap[b]? = some (.cells #[v] 112 (0, 0)) → ∀ k, k < w.heap.size → k ≠ b → v.ownBlock ≠ some k → w'.heap[k]? = w.heap[k]? := by
  have hltw := hJ.lt
  go_enter Try.func66, Try.ntmps66
  go_wp2_with fail
  refine (frame_in _ _ hs).mono ?_
  rintro e w2 ⟨rfl, hd⟩
  replace hJ := hJ.below hd
  replace HB := HB.trans (hd.mono hbase)
  have hbase2 : base ≤ w2.heap.size := by have := hd.size; omega
  obtain ⟨v, hb, HO⟩ := hJ.ex
  have c0 : w2.cell? ⟨b, 0, none⟩ = some v := by rw [cell_of_row _ _ _ _ _ _ hb]; rfl
  have f0 : w2.frozen? ⟨b, 0, none⟩ = false := frozen_of_row _ _ _ _ _ hb
  have hkeep : ∀ v', w.heap[b]? = some (.cells #[v'] 112 (0, 0)) → v' = v := fun v' h' => by
    have h1 := (hd.block b hltw).trans h'
    rw [hb] at h1
    simpa using h1.symm
  have HKP := Lib.hid hkeep
  have HDD := Lib.hid hd
  clear hkeep
  have hx : ∀ x, x ∈ ss ++ [s] → x.size ≤ 1048576 := fun x hx => by
    rcases List.mem_append.1 hx with h | h
    · exact hJ.small x h
    · rw [List.mem_singleton.1 h]; exact hs
  have hlo := hJ.lo
  have hlt := hJ.lt
  have HX := Lib.hid hx
  have HBB := Lib.hid hb
  clear hJ hb hd hx
  have HS : (sv ss).length = ss.length := sv_length ss
  have HS2 := Lib.hid HS
  clear HS
  obtain ⟨A, c, rfl, _⟩ := own_strs HO
  go_wp2_with (at_builtin; refine app_one base rfl (.tmp 21) (.tmp 23) 26 9 (.string (str [])) 16 rfl Try.underlying26 info_str rfl (by omega) _ _ _ ss.length HS2.out rfl rfl rfl HO HB hbase2 (by omega) ?_; intro v1 w3 HO1 HB1 hg1; obtain ⟨A1, c1, rfl, hb3, c3, f3⟩ := app_facts HO HBB.out hlt HO1 hg1)
  go_ret
  have HO3 := own_set (j := 0) (u := .slice A1 (ss.length + 1) c1) HO1 hb3 (by decide)
  have hb4 : (w3.setCell ⟨b, 0, none⟩ (.slice A1 (ss.length + 1) c1)).heap[b]? = some (.cells #[.slice A1 (ss.length + 1) c1] 112 (0, 0)) := by
    rw [heap_setCell_same _ _ _ _ _ _ hb3]; rfl
  refine ⟨rfl, ⟨⟨_, hb4, ?_⟩, hlo, HX.out⟩, HB1.setCell (p := ⟨b, 0, none⟩) hlo _, ?_, ?_⟩
  · rw [sv_append, List.length_append]; exact HO3
  · have h1 : (w3.setCell ⟨b, 0, none⟩ (.slice A1 (ss.length + 1) c1)).heap.size = w3.heap.size := by simp [World.setCell]
    have h2 := hg1.size
    simp only [World.setCell] at h1 ⊢
    omega
  · intro v' hv' k hk hkb hkv
    have e := HKP.out v' hv'
    subst e
    rw [Below.heap_setCell _ _ _ k (by intro h; first | exact hkb h | exact hkb h.symm)]
    refine (hg1.block k (by have := HDD.out.size; omega) (fun h => hkv h.symm)).trans (HDD.out.block k hk)
set_option maxRecDepth 100000 in
set_option maxHeartbeats 1000000 in
theorem append_out (base b : Nat) (ss : List ByteArray) (s : ByteArray) (w : World) (hs : 1048576 < s.size) (hs2 : s.size ≤ 140737488351232) :
    Calls Try.prog 66 #[.pointer (some ⟨b, 0, none⟩), .string s] w fun e w' => e = .returned (.int .i64 3) ∧ Below w.heap.size w w' := by
  go_enter Try.func66, Try.ntmps66
  go_wp2_with (go_at_call 65; (with_reducible refine (frame_out _ _ hs hs2).mono ?_); rintro e w2 ⟨rfl, hd⟩)
  go_ret
  exact ⟨rfl, hd⟩
theorem append_nil (s : ByteArray) (w : World) :
    Calls Try.prog 66 #[.pointer none, .string s] w fun e w' => e = .returned (.int .i64 1) ∧ w = w' := by
  go_enter Try.func66, Try.ntmps66
  go_wp2
  go_ret
  exact ⟨rfl, rfl⟩

/-- The bytes of texts. -/
def lst (ss : List ByteArray) : List (List UInt8) := ss.map fun s => s.data.toList
theorem lst_length (ss : List ByteArray) : (lst ss).length = ss.length := by simp [lst]
theorem lst_append (l m : List ByteArray) : lst (l ++ m) = lst l ++ lst m := by simp [lst]
theorem frame_le (s : ByteArray) (h : s.size ≤ 1048576) : (frame s.data.toList).length ≤ s.size + 12 := by
  rw [frame_length, list_size]
  have := num_length 7 s.size (by omega)
  omega
theorem frames_le (ss : List ByteArray) (h : ∀ s, s ∈ ss → s.size ≤ 1048576) : (frames (lst ss)).length ≤ total ss + 12 * ss.length := by
  induction ss with
  | nil => exact Nat.zero_le _
  | cons s l ih =>
    have h1 := frame_le s (h s (List.mem_cons_self ..))
    have h2 := ih fun t ht => h t (List.mem_cons_of_mem _ ht)
    show (frame s.data.toList ++ frames (lst l)).length ≤ s.size + total l + 12 * (l.length + 1)
    rw [List.length_append]
    omega
set_option maxRecDepth 100000 in
set_option maxHeartbeats 1000000 in
theorem framed_any (A : Option Addr) (n c : Nat) (ss : List ByteArray) (w : World) (hS : Strs w A n ss) (hsm : ∀ s, s ∈ ss → s.size ≤ 1048576) (ht : total ss ≤ 10000000000) (hn : n ≤ 100000000) :
    Calls Try.prog 81 #[.slice A n c] w fun e w' => e = .returned (.string (str (frames (lst ss)))) ∧ Below w.heap.size w w' := by
  have hlen := hS.len
  go_enter Try.func81, Try.ntmps81
  go_upto_region 2 with fail
  have hI := Lib.fresh_isBuilder 102 5 w
  have HB : Below w.heap.size w (w.alloc (.cells #[.pointer none, .slice none 0 0] 102)) := (Below.refl _ _).alloc (Nat.le_refl _) _
  generalize w.alloc (.cells #[.pointer none, .slice none 0 0] 102) = w1 at hI HB ⊢
  go_wp2
  go_loopw [10] (fun i wr => ∃ k : Nat, k ≤ n ∧ i = .int .i64 k ∧ Lib.IsBuilder 102 5 w.heap.size w.heap.size (bv (frames (lst (ss.take k)))) wr ∧ Below w.heap.size w wr) (fun i _ => n - (intOf i).toNat)
  case atStart => exact ⟨0, by omega, rfl, by rw [List.take_zero]; exact hI, HB⟩
  case round =>
    clear HB hI
    obtain ⟨k, hk, rfl, hI, HB⟩ := hrel
    by_cases hlt : k < n
    · have hks : k < ss.length := by omega
      obtain ⟨b, off, rfl, hc⟩ := hS.block (by omega)
      have hcell := cell_below HB (hc k hks)
      have hsz := hsm _ (List.getElem_mem hks)
      have htk : ss.take (k + 1) = ss.take k ++ [ss[k]] := take_snoc_list ss k hks
      have htl := frames_le (ss.take k) (fun s hs => hsm s (List.mem_of_mem_take hs))
      have htl2 := total_take_le ss k
      have hkl : (ss.take k).length = k := by rw [List.length_take]; omega
      have htx := frame_le ss[k] hsz
      generalize hsk : ss[k] = s at hcell hsz htk htx
      clear hsk
      have hnx : (frames (lst (ss.take k))).length + (str (frame s.data.toList)).size ≤ 140737488355328 := by
        rw [str_size]; omega
      have hnext : frames (lst (ss.take (k + 1))) = frames (lst (ss.take k)) ++ (str (frame s.data.toList)).data.toList := by
        rw [htk, lst_append, frames_append, str_list]
        show _ = _ ++ frame s.data.toList
        show _ ++ (frame s.data.toList ++ []) = _
        rw [List.append_nil]
      generalize frames (lst (ss.take k)) = l at hI hnx hnext
      have HN := Lib.hid hnext
      clear hnext htk htl htl2 hkl hsm
      go_wp2_with (go_at_call 65; (with_reducible refine (frame_in _ _ hsz).mono ?_); rintro e w4 ⟨rfl, hd⟩)
      replace hI := builder_below hI hd
      (first | replace HB := bt HB HB.size hd | replace HB := bt_drew HB HB.size hd | replace HB := bt_drewN HB HB.size hd); clear hd
      go_wp2_with (go_at_call 77; refine (write_any _ _ l _ _ hI hnx HB.size).mono ?_)
      rintro e w5 ⟨rfl, hI5, hd⟩
      replace HB := HB.trans hd
      go_wp2
      go_roundw
      case rel => exact ⟨k + 1, by omega, by go_num, by rw [HN.out]; exact hI5, HB⟩
      case measure => simp [intOf]; omega
    · obtain rfl : k = n := by omega
      have e : ss.take k = ss := by rw [← hlen, List.take_length]
      rw [e] at hI
      go_wp2_with (go_at_call 78; refine (string_all _ _ _ _ hI HB.size).mono ?_)
      rintro e w5 ⟨rfl, hd⟩
      replace HB := HB.trans hd
      go_wp2
      go_ret
      exact ⟨rfl, HB⟩
theorem JAt.row {w : World} {base b : Nat} {ss : List ByteArray} (h : JAt w base b ss) : ∃ A c, w.heap[b]? = some (.cells #[.slice A ss.length c] 112 (0, 0)) ∧ w.cell? ⟨b, 0, none⟩ = some (.slice A ss.length c) ∧ Strs w A ss.length ss := by
  obtain ⟨v, hb, HO⟩ := h.ex
  obtain ⟨A, c, rfl, hS⟩ := own_strs HO
  exact ⟨A, c, hb, by rw [cell_of_row _ _ _ _ _ _ hb]; rfl, hS⟩
set_option maxRecDepth 100000 in
set_option maxHeartbeats 1000000 in
theorem jbytes_any (base b : Nat) (ss : List ByteArray) (w : World) (hJ : JAt w base b ss) (ht : total ss ≤ 10000000000) (hn : ss.length ≤ 100000000) :
    Calls Try.prog 60 #[.pointer (some ⟨b, 0, none⟩)] w fun e w' => e = .returned (.string (str (frames (lst ss)))) ∧ Below w.heap.size w w' := by
  obtain ⟨A, c, _, c0, hS⟩ := hJ.row
  have hsm := hJ.small
  clear hJ
  have HM := Lib.hid hsm
  clear hsm
  go_enter Try.func60, Try.ntmps60
  go_wp2_with (go_at_call 81; (with_reducible refine (framed_any _ _ _ ss _ hS HM.out ht hn).mono ?_); rintro e w4 ⟨rfl, hd⟩)
  go_ret
  exact ⟨rfl, hd⟩
theorem jbytes_nil (w : World) :
    Calls Try.prog 60 #[.pointer none] w fun e w' => e = .returned (.string (str [])) ∧ w = w' := by
  go_enter Try.func60, Try.ntmps60
  go_wp2
  go_ret
  exact ⟨rfl, rfl⟩
theorem jlen_any (base b : Nat) (ss : List ByteArray) (w : World) (hJ : JAt w base b ss) :
    Calls Try.prog 67 #[.pointer (some ⟨b, 0, none⟩)] w fun e w' => e = .returned (.int .i64 ss.length) ∧ w = w' := by
  obtain ⟨A, c, _, c0, hS⟩ := hJ.row
  clear hJ
  go_enter Try.func67, Try.ntmps67
  go_wp2
  go_ret
  exact ⟨rfl, rfl⟩
theorem jlen_nil (w : World) :
    Calls Try.prog 67 #[.pointer none] w fun e w' => e = .returned (.int .i64 0) ∧ w = w' := by
  go_enter Try.func67, Try.ntmps67
  go_wp2
  go_ret
  exact ⟨rfl, rfl⟩
end Go.Proofs.Ytdjgdhpncocahaa.JrnW
