/- The tape's methods, walked. -/
import Derived.Test.YtdjgdhpncocahaaTapeNum
import Derived.Test.YtdjgdhpncocahaaTapeRd
set_option linter.unusedVariables false
set_option linter.unusedSimpArgs false
namespace Go.Proofs.Ytdjgdhpncocahaa.TapeW
open Go.RowKit Go.Proofs.Ytdjgdhpncocahaa.Base Go.Proofs.Ytdjgdhpncocahaa.TapeP

/-- A tape in block b: its bytes, and where it stands. -/
structure TapeAt (w : World) (b : Nat) (s : ByteArray) (at_ : Nat) : Prop where
  blk : w.heap[b]? = some (.cells #[.string s, .int .i64 at_] 108 (0, 0))
  le : at_ ≤ s.size
  sz : s.size ≤ 140737488351232
theorem TapeAt.c0 {w : World} {b : Nat} {s : ByteArray} {p : Nat} (h : TapeAt w b s p) : w.cell? ⟨b, 0, none⟩ = some (.string s) := by rw [cell_of_row _ _ _ _ _ _ h.blk]; rfl
theorem TapeAt.c1 {w : World} {b : Nat} {s : ByteArray} {p : Nat} (h : TapeAt w b s p) : w.cell? ⟨b, 1, none⟩ = some (.int .i64 p) := by rw [cell_of_row _ _ _ _ _ _ h.blk]; rfl
theorem TapeAt.fr {w : World} {b : Nat} {s : ByteArray} {p : Nat} (h : TapeAt w b s p) (j : Nat) : w.frozen? ⟨b, j, none⟩ = false := frozen_of_row _ _ _ _ _ h.blk
theorem TapeAt.lt {w : World} {b : Nat} {s : ByteArray} {p : Nat} (h : TapeAt w b s p) : b < w.heap.size := by
  have := h.blk
  rcases Nat.lt_or_ge b w.heap.size with h1 | h1
  · exact h1
  · rw [Array.getElem?_eq_none h1] at this; cases this
theorem TapeAt.below {w w' : World} {b : Nat} {s : ByteArray} {p : Nat} (h : TapeAt w b s p) (hb : Below w.heap.size w w') : TapeAt w' b s p := ⟨(hb.block b h.lt).trans h.blk, h.le, h.sz⟩
theorem TapeAt.drawn {w w' : World} {b : Nat} {s : ByteArray} {p : Nat} (h : TapeAt w b s p) (hd : Drawn w w') : TapeAt w' b s p := h.below hd.below
theorem TapeAt.set {w : World} {b : Nat} {s : ByteArray} {p q : Nat} (h : TapeAt w b s p) (hq : q ≤ s.size) : TapeAt (w.setCell ⟨b, 1, none⟩ (.int .i64 q)) b s q := by
  refine ⟨?_, hq, h.sz⟩
  rw [heap_setCell_same _ _ _ _ _ _ h.blk]
  rfl

theorem new_tape (s : ByteArray) (w : World) (hs : s.size ≤ 140737488351232) :
    Calls Try.prog 49 #[.string s] w fun e w' => ∃ b, e = .returned (.pointer (some ⟨b, 0, none⟩)) ∧ TapeAt w' b s 0 ∧ w.heap.size ≤ b ∧ Below w.heap.size w w' := by
  go_enter Try.func49, Try.ntmps49
  go_wp2
  go_ret
  exact ⟨_, rfl, ⟨heap_alloc_new _ _, Nat.zero_le _, hs⟩, Nat.le_refl _, (Below.refl _ _).alloc (Nat.le_refl _) _⟩
theorem left_nil (w : World) : Calls Try.prog 50 #[.pointer none] w fun e w' => e = .returned (.int .i64 0) ∧ w = w' := by
  go_enter Try.func50, Try.ntmps50
  go_wp2
  go_ret
  exact ⟨rfl, rfl⟩
theorem left_any (b : Nat) (s : ByteArray) (p : Nat) (w : World) (hT : TapeAt w b s p) :
    Calls Try.prog 50 #[.pointer (some ⟨b, 0, none⟩)] w fun e w' => e = .returned (.int .i64 ((s.size : Int) - p)) ∧ Drawn w w' := by
  have c0 := hT.c0
  have c1 := hT.c1
  have hle := hT.le
  have hsz := hT.sz
  have hv : IntKind.i64.wrap ((s.size : Int) - p) = (s.size : Int) - p := IntWalk.i64_in _ (by omega)
  clear hT
  go_enter Try.func50, Try.ntmps50
  go_wp2
  go_quiet (fail)
  go_wp2
  go_ret
  exact ⟨rfl, _, rfl⟩
set_option maxRecDepth 100000 in
set_option maxHeartbeats 400000 in
theorem peek_nil (w : World) : Calls Try.prog 79 #[.pointer none] w fun e w' => e = .returned (.tuple #[.int .i64 0, .int .i64 0, .int .i64 2]) ∧ w = w' := by
  go_enter Try.func79, Try.ntmps79
  go_wp2
  refine wp_scope_loop 0 (fun _ _ => False) (fun _ _ => 0) rfl ?_ (fun _ _ h => h.elim)
  intro _
  go_wp2
  go_step3
  go_step
  go_step
  go_wp2_with (go_at_call 50; (with_reducible refine (left_nil _).mono ?_); rintro e w2 ⟨rfl, rfl⟩)
  simp only [Exit.jump]
  go_ret3
  exact ⟨rfl, rfl⟩
theorem acc {n x i : Nat} (hi : i ≤ 7) (hn : n < 128 ^ i) (hx : x < 256) : wrap64 ((n : Int) + wrap64 ((x : Int) % 128 * 2 ^ (7 * i))) = ((n + x % 128 * 2 ^ (7 * i) : Nat) : Int) ∧ n + x % 128 * 2 ^ (7 * i) < 128 ^ (i + 1) := by
  have h : i = 0 ∨ i = 1 ∨ i = 2 ∨ i = 3 ∨ i = 4 ∨ i = 5 ∨ i = 6 ∨ i = 7 := by omega
  rcases h with rfl | rfl | rfl | rfl | rfl | rfl | rfl | rfl <;> simp only [wrap64, Nat.reduceMul, Nat.reducePow, Nat.reduceAdd, Int.reducePow] at hn ⊢ <;> omega
theorem acc_le {n i : Nat} (hi : i ≤ 7) (h : n < 128 ^ (i + 1)) : n ≤ 72057594037927936 := by
  have := Nat.pow_le_pow_right (n := 128) (by omega) (show i + 1 ≤ 8 by omega)
  omega
set_option maxRecDepth 100000 in
set_option maxHeartbeats 3000000 in
theorem peek_any (b : Nat) (s : ByteArray) (p : Nat) (w : World) (hT : TapeAt w b s p) :
    Calls Try.prog 79 #[.pointer (some ⟨b, 0, none⟩)] w fun e w' =>
      e = .returned (.tuple #[.int .i64 ((pk (s.data.toList.drop p)).1 : Nat), .int .i64 ((pk (s.data.toList.drop p)).2.1 : Nat), .int .i64 ((pk (s.data.toList.drop p)).2.2 : Nat)]) ∧ Drawn w w' := by
  have hle := hT.le
  have hsz := hT.sz
  go_enter Try.func79, Try.ntmps79
  go_wp2
  refine wp_scope_loop 0 (fun a' wr => ∃ (i n : Nat) (u1 u8 u9 u10 u11 u12 u13 u14 u15 u16 u17 u18 u19 u20 u21 u22 u23 u24 u25 u26 u27 u28 u29 u30 u31 u32 u33 u34 u35 u36 u37 u38 u39 u40 u41 u42 u43 u44 u45 u46 u47 u48 u49 u50 u51 u52 u53 u54 u55 u56 : Value), i ≤ 7 ∧ p + i ≤ s.size ∧ n < 128 ^ i ∧ rd (s.data.toList.drop (p + i)) i n = pk (s.data.toList.drop p) ∧ Drawn w wr ∧ a' = { tmps := #[.pointer (some ⟨b, 0, none⟩), u1, .int .i64 0, .int .i64 0, .int .i64 0, .int .i64 n, .int .i64 i, .int .i64 ((7 * i : Nat) : Int), u8, u9, u10, u11, u12, u13, u14, u15, u16, u17, u18, u19, u20, u21, u22, u23, u24, u25, u26, u27, u28, u29, u30, u31, u32, u33, u34, u35, u36, u37, u38, u39, u40, u41, u42, u43, u44, u45, u46, u47, u48, u49, u50, u51, u52, u53, u54, u55, u56], defers := [] }) (fun a' _ => 8 - (intOf (a'.tmps.getD 6 undef)).toNat) rfl ?_ ?_
  · intro hloop
    go_wp2
    go_step3
    go_step
    go_step
    exact hloop _ _ ⟨0, 0, _, _, _, _, _, _, _, _, _, _, _, _, _, _, _, _, _, _, _, _, _, _, _, _, _, _, _, _, _, _, _, _, _, _, _, _, _, _, _, _, _, _, _, _, _, _, _, _, _, _, by omega, by omega, by omega, rfl, Drawn.refl _, rfl⟩
  · rintro a' wr ⟨i, n, u1, u8, u9, u10, u11, u12, u13, u14, u15, u16, u17, u18, u19, u20, u21, u22, u23, u24, u25, u26, u27, u28, u29, u30, u31, u32, u33, u34, u35, u36, u37, u38, u39, u40, u41, u42, u43, u44, u45, u46, u47, u48, u49, u50, u51, u52, u53, u54, u55, u56, hi, hpi, hn, hrd, hd, rfl⟩
    have hT1 := hT.drawn hd
    by_cases hlt : p + i < s.size
    · have c0 := hT1.c0
      have c1 := hT1.c1
      have hdr : s.data.toList.drop (p + i) = s[p + i] :: s.data.toList.drop (p + i + 1) := by
        rw [List.drop_eq_getElem_cons (by rw [list_size]; exact hlt)]; rfl
      have hb2 := s[p + i].toNat_lt
      rw [hdr] at hrd
      have hw : IntKind.i64.wrap ((p : Int) + i) = (p : Int) + i := IntWalk.i64_in _ (by omega)
      have ht : ((p : Int) + (i : Int)).toNat = p + i := by omega
      have hi1 : (0 : Int) ≤ (p : Int) + (i : Int) := by omega
      have hi2 : (p : Int) + (i : Int) < (s.size : Int) := by omega
      have HD := Lib.hid hd
      have HRD := Lib.hid hrd
      have HDR := Lib.hid hdr
      have HN := Lib.hid hn
      clear hd hrd hdr hn hT
      go_upto_region 4 with (go_at_call 50; (with_reducible refine (left_any b s p _ hT1).mono ?_); rintro e w2 ⟨rfl, hd2⟩)
      replace hT1 := hT1.drawn hd2
      have c0 := hT1.c0
      have c1 := hT1.c1
      have HD2 := Lib.hid (HD.out.trans hd2)
      clear hd2 hT1 HD
      have hb3 : (0 : Int) ≤ (s[p + i].toNat : Int) ∧ (s[p + i].toNat : Int) < 256 := by omega
      go_quiet (fail)
      go_upto_region 6 with (fail)
      obtain ⟨hacc, hacc2⟩ := acc hi HN.out hb2
      rw [hacc]
      have hnn : n + s[p + i].toNat % 128 * 2 ^ (7 * i) ≤ 72057594037927936 := acc_le hi hacc2
      have HR2 := fun (hA : 128 ≤ s[p + i].toNat ∧ i + 1 < 8) => (rd_more (s.data.toList.drop (p + i + 1)) n hA.1 hA.2).symm.trans HRD.out
      have HR3 := fun (h1 : ¬ (128 ≤ s[p + i].toNat ∧ i + 1 < 8)) (h2 : 128 ≤ s[p + i].toNat ∨ (s[p + i].toNat = 0 ∧ 1 < i + 1) ∨ 9007199254740991 < n + s[p + i].toNat % 128 * 2 ^ (7 * i)) => (rd_form (s.data.toList.drop (p + i + 1)) (b := s[p + i]) (i := i) n h1 h2).symm.trans HRD.out
      have HR4 := fun (h1 : ¬ (128 ≤ s[p + i].toNat ∧ i + 1 < 8)) (h2 : ¬ (128 ≤ s[p + i].toNat ∨ (s[p + i].toNat = 0 ∧ 1 < i + 1) ∨ 9007199254740991 < n + s[p + i].toNat % 128 * 2 ^ (7 * i))) => (rd_last (s.data.toList.drop (p + i + 1)) (b := s[p + i]) (i := i) n h1 h2).symm.trans HRD.out
      generalize n + s[p + i].toNat % 128 * 2 ^ (7 * i) = n2 at hnn HR2 HR3 HR4 hacc2 ⊢
      generalize s[p + i].toNat = x at hb2 hb3 HR2 HR3 HR4 ⊢
      have H2 := Lib.hid HR2
      have H3 := Lib.hid HR3
      have H4 := Lib.hid HR4
      have HA2 := Lib.hid hacc2
      clear HR2 HR3 HR4 HRD hacc hacc2 HN HDR
      by_cases hA : 128 ≤ x ∧ i + 1 < 8
      · obtain ⟨hA1, hA2⟩ := hA
        have H5 := Lib.hid (H2.out ⟨hA1, hA2⟩)
        clear H2 H3 H4
        have h7 : ((7 * (i + 1) : Nat) : Int) = 7 * (i : Int) + 7 := by omega
        have H7 := Lib.hid h7
        clear h7
        go_wp2
        go_step3
        refine ⟨rfl, ⟨i + 1, n2, _, _, _, _, _, _, _, _, _, _, _, _, _, _, _, _, _, _, _, _, _, _, _, _, _, _, _, _, _, _, _, _, _, _, _, _, _, _, _, _, _, _, _, _, _, _, _, _, _, _, by omega, by omega, HA2.out, by rw [← Nat.add_assoc]; exact H5.out, HD2.out.trans (Drawn.step _), by rw [H7.out]; rfl⟩, ?_⟩
        simp [intOf]; omega
      · by_cases hB : 128 ≤ x ∨ (x = 0 ∧ 1 < i + 1) ∨ 9007199254740991 < n2
        · have H5 := Lib.hid (H3.out hA hB)
          clear H2 H3 H4
          go_wp2
          all_goals simp only [Exit.jump]
          all_goals go_ret3
          all_goals exact ⟨by rw [← H5.out]; rfl, HD2.out.trans (Drawn.step _)⟩
        · have H5 := Lib.hid (H4.out hA hB)
          clear H2 H3 H4
          have hx1 : x < 128 := by omega
          have hx2 : n2 ≤ 9007199254740991 := by omega
          have hx3 : x = 0 → ¬ 1 < (i : Int) + 1 := by omega
          go_wp2
          all_goals simp only [Exit.jump]
          all_goals go_ret3
          all_goals exact ⟨by rw [← H5.out]; rfl, HD2.out.trans (Drawn.step _)⟩
    · have hdr : s.data.toList.drop (p + i) = [] := List.drop_eq_nil_of_le (by rw [list_size]; omega)
      rw [hdr, rd_nil] at hrd
      have H5 := Lib.hid hrd
      have HD := Lib.hid hd
      clear hrd hdr hd hT hn
      go_wp2_with (go_at_call 50; (with_reducible refine (left_any b s p _ hT1).mono ?_); rintro e w2 ⟨rfl, hd2⟩)
      all_goals simp only [Exit.jump]
      all_goals go_ret3
      all_goals exact ⟨by rw [← H5.out]; rfl, HD.out.trans hd2⟩
end Go.Proofs.Ytdjgdhpncocahaa.TapeW
