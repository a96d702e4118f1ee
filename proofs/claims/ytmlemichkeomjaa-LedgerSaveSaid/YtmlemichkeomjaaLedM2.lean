/- The ledger's methods partErr and result walked. -/
import Derived.Test.YtmlemichkeomjaaLedM1
set_option linter.unusedVariables false
set_option linter.unusedSimpArgs false
namespace Go.Proofs.Ytmlemichkeomjaa.LedW
open Go.RowKit Go.Proofs.Ytmlemichkeomjaa.Base Go.Proofs.Ytmlemichkeomjaa.MendW Go.Proofs.Ytmlemichkeomjaa.ManP Go.Proofs.Ytmlemichkeomjaa.ManW Go.Proofs.Ytmlemichkeomjaa.LedP
theorem svs_get {l : List ByteArray} {t : Nat} (h : t < l.length) : (svs l)[t]? = some (.string l[t]) := by simp [svs, h]
set_option maxRecDepth 100000 in
set_option maxHeartbeats 4000000 in
theorem partErr_any (ob lo : Nat) (s : LS) (r : LR) (mt ma : Int) (B2 : Option Addr) (n2 d2 : Nat) (B3 : Option Addr) (n3 d3 : Nat) (B4 : Option Addr) (n4 d4 : Nat) (t : Nat) (w : World) (h : Own w lo ob s) (hlo : lo ≤ w.heap.size) (hn : r.n = (t : Nat)) (ht : t < s.has.length) (he : -9223372036854775808 ≤ r.e ∧ r.e ≤ 9223372036854775807) :
    Calls Try.prog 88 #[.pointer (some ⟨ob, 0, none⟩), .agg #[.int .i64 r.kind, .int .i64 r.n, .int .i64 r.e, .string r.text, .int .i64 mt, .int .i64 ma, .slice B2 n2 d2, .slice B3 n3 d3, .slice B4 n4 d4]] w (MethPost w lo ob (partErrP s r)) := by
  obtain ⟨F, v2, v3, v4, v5, v6, v7, v8, vs, HO⟩ := h
  obtain ⟨rk, rn, re, rt, rm⟩ := r
  dsimp only at hn he ⊢
  have HN := Lib.hid hn
  have HT := Lib.hid ht
  have HE := Lib.hid he
  obtain ⟨P, hP⟩ : ∃ P, P = partErrP s ⟨rk, rn, re, rt, rm⟩ := ⟨_, rfl⟩
  rw [← hP]
  have htt : t < s.pe.length := by rw [HO.rows.ok.lp]; exact ht
  unfold partErrP at hP
  dsimp only at hP
  rw [hn, Int.toNat_natCast] at hP
  obtain ⟨D, hD⟩ : ∃ D, s.has.getD t false = D := ⟨_, rfl⟩
  obtain ⟨T, hT⟩ : ∃ T, s.pe.getD t 0 = T := ⟨_, rfl⟩
  rw [hD, hT] at hP
  have HD := Lib.hid hD
  have HTT := Lib.hid hT
  have i0 : (0 : Int) ≤ (t : Int) := by omega
  have i1 : (t : Int) < (s.has.length : Int) := by omega
  clear hn ht he hD hT
  have HOW := Lib.hid HO
  by_cases h0 : re = 0
  · rw [if_pos h0] at hP
    have HP := Lib.hid hP
    clear hP
    subst h0
    go_enter Try.func88, Try.ntmps88
    go_upto_region 1 with fail; have HB := (Below.refl w.heap.size w).alloc (Nat.le_refl _) (.cells #[.int .i64 rk, .int .i64 rn, .int .i64 0, .string rt, .int .i64 mt, .int .i64 ma, .slice B2 n2 d2, .slice B3 n3 d3, .slice B4 n4 d4] 53); have HR := RecBox.mk' w rk rn 0 rt mt ma B2 n2 d2 B3 n3 d3 B4 n4 d4; generalize w.alloc (.cells #[.int .i64 rk, .int .i64 rn, .int .i64 0, .string rt, .int .i64 mt, .int .i64 ma, .slice B2 n2 d2, .slice B3 n3 d3, .slice B4 n4 d4] 53) = W at HR HB ⊢; replace HO := HO.below HB; replace HB := HB.mono hlo; obtain ⟨r0, r1, r2, r3, r4, r5, r6, r7, r8⟩ := HR
    go_wp2
    go_ret
    rw [HP.out]
    exact ⟨rfl, ⟨_, _, _, _, _, _, _, _, _, HO⟩, HB⟩
  · rw [if_neg h0] at hP
    by_cases hb : D = true ∨ T ≠ 0
    · rw [if_pos hb] at hP
      have HP := Lib.hid hP
      clear hP
      cases D with
      | true =>
        go_enter Try.func88, Try.ntmps88
        go_upto_region 1 with fail; have HR := RecBox.mk' w rk rn re rt mt ma B2 n2 d2 B3 n3 d3 B4 n4 d4; have HB := (Below.refl w.heap.size w).alloc (Nat.le_refl _) (.cells #[.int .i64 rk, .int .i64 rn, .int .i64 re, .string rt, .int .i64 mt, .int .i64 ma, .slice B2 n2 d2, .slice B3 n3 d3, .slice B4 n4 d4] 53); generalize w.alloc (.cells #[.int .i64 rk, .int .i64 rn, .int .i64 re, .string rt, .int .i64 mt, .int .i64 ma, .slice B2 n2 d2, .slice B3 n3 d3, .slice B4 n4 d4] 53) = W at HR HB ⊢; replace HO := HO.below HB; replace HB := HB.mono hlo; obtain ⟨r0, r1, r2, r3, r4, r5, r6, r7, r8⟩ := HR; rw [HN.out] at r1
        obtain ⟨g, c, e2, gc, _, hgo, _⟩ := HO.at_row 3 (by decide) HO.rows.h HT.out; subst e2; obtain ⟨g4, c4, e4, gc4, gf4, hgo4, hlo4, hlt4⟩ := HO.at_row 5 (by decide) HO.rows.p HT.out; subst e4; have gD := gc _ (bvs_get HT.out HD.out); have gT := gc4 _ (zv_get htt HTT.out); have p2 := HO.field (j := 5) rfl; have p4 := HO.field (j := 7) rfl; clear gc gc4
        clear hb
        go_wp2_with fail
        go_quiet (fail)
        go_wp2
        go_ret
        rw [HP.out]
        exact ⟨rfl, ⟨_, _, _, _, _, _, _, _, _, HO.below (below_drewN (Below.refl _ _) _)⟩, below_drewN HB _⟩
      | false =>
        have t5 : (T != 0) = true := int_bne (by simpa using hb)
        go_enter Try.func88, Try.ntmps88
        go_upto_region 1 with fail; have HR := RecBox.mk' w rk rn re rt mt ma B2 n2 d2 B3 n3 d3 B4 n4 d4; have HB := (Below.refl w.heap.size w).alloc (Nat.le_refl _) (.cells #[.int .i64 rk, .int .i64 rn, .int .i64 re, .string rt, .int .i64 mt, .int .i64 ma, .slice B2 n2 d2, .slice B3 n3 d3, .slice B4 n4 d4] 53); generalize w.alloc (.cells #[.int .i64 rk, .int .i64 rn, .int .i64 re, .string rt, .int .i64 mt, .int .i64 ma, .slice B2 n2 d2, .slice B3 n3 d3, .slice B4 n4 d4] 53) = W at HR HB ⊢; replace HO := HO.below HB; replace HB := HB.mono hlo; obtain ⟨r0, r1, r2, r3, r4, r5, r6, r7, r8⟩ := HR; rw [HN.out] at r1
        obtain ⟨g, c, e2, gc, _, hgo, _⟩ := HO.at_row 3 (by decide) HO.rows.h HT.out; subst e2; obtain ⟨g4, c4, e4, gc4, gf4, hgo4, hlo4, hlt4⟩ := HO.at_row 5 (by decide) HO.rows.p HT.out; subst e4; have gD := gc _ (bvs_get HT.out HD.out); have gT := gc4 _ (zv_get htt HTT.out); have p2 := HO.field (j := 5) rfl; have p4 := HO.field (j := 7) rfl; clear gc gc4
        clear hb
        go_wp2_with fail
        go_quiet (fail)
        go_wp2
        go_ret
        rw [HP.out]
        exact ⟨rfl, ⟨_, _, _, _, _, _, _, _, _, HO.below (below_drewN (Below.refl _ _) _)⟩, below_drewN HB _⟩
    · rw [if_neg hb] at hP
      have HP := Lib.hid hP
      clear hP
      obtain rfl : D = false := by cases D <;> simp_all
      obtain rfl : T = 0 := by simpa using hb
      clear hb
      go_enter Try.func88, Try.ntmps88
      go_upto_region 1 with fail; have HR := RecBox.mk' w rk rn re rt mt ma B2 n2 d2 B3 n3 d3 B4 n4 d4; have HB := (Below.refl w.heap.size w).alloc (Nat.le_refl _) (.cells #[.int .i64 rk, .int .i64 rn, .int .i64 re, .string rt, .int .i64 mt, .int .i64 ma, .slice B2 n2 d2, .slice B3 n3 d3, .slice B4 n4 d4] 53); generalize w.alloc (.cells #[.int .i64 rk, .int .i64 rn, .int .i64 re, .string rt, .int .i64 mt, .int .i64 ma, .slice B2 n2 d2, .slice B3 n3 d3, .slice B4 n4 d4] 53) = W at HR HB ⊢; replace HO := HO.below HB; replace HB := HB.mono hlo; obtain ⟨r0, r1, r2, r3, r4, r5, r6, r7, r8⟩ := HR; rw [HN.out] at r1
      obtain ⟨g, c, e2, gc, _, hgo, _⟩ := HO.at_row 3 (by decide) HO.rows.h HT.out; subst e2; obtain ⟨g4, c4, e4, gc4, gf4, hgo4, hlo4, hlt4⟩ := HO.at_row 5 (by decide) HO.rows.p HT.out; subst e4; have gD := gc _ (bvs_get HT.out HD.out); have gT := gc4 _ (zv_get htt HTT.out); have p2 := HO.field (j := 5) rfl; have p4 := HO.field (j := 7) rfl; clear gc gc4
      go_wp2_with fail
      go_quiet (fail)
      generalize hW2 : World.drewN W _ = W2
      have hd : Below W.heap.size W W2.drew := by rw [← hW2]; exact (below_drewN (Below.refl _ _) _).drew
      clear hW2 gD gT p2
      replace HO := HO.below hd
      replace HB := bt HB (Nat.le_trans hlo4 (Nat.le_of_lt hlt4)) hd
      have q4 := cell_below hd p4
      have q1 := cell_below hd r1
      have q2 := cell_below hd r2
      have z4 := HO.rows.pool.free 5 HO.rows.p rfl t
      have y4 := HO.rows.pool.cell 5 HO.rows.p rfl (zv_get htt HTT.out)
      have hg1 : w.heap.size ≠ g4 := fun e => by have := (HOW.out.rows.pool.lt 5 (g := g4) (by rw [HOW.out.rows.p]; rfl)).2; omega
      clear p4 r0 r1 r2 r3 r4 r5 r6 r7 r8
      go_upto_region 5 with fail
      go_region_held3 (fun w' => w'.cell? ⟨ob, 7, none⟩ = some (.slice (some ⟨g4, 0, none⟩) s.has.length c4) ∧ w'.cell? ⟨w.heap.size, 1, none⟩ = some (.int .i64 (t : Nat)) ∧ w'.cell? ⟨w.heap.size, 2, none⟩ = some (.int .i64 re)) (first | exact ⟨q4, q1, q2⟩ | exact ⟨(cell_set_ne (Ne.symm hgo4)).trans q4, (cell_set_ne hg1).trans q1, (cell_set_ne hg1).trans q2⟩) (fail)
      clear q4 q1 q2 z4 y4
      have HF := Lib.hid (HO.put (s' := { s with pe := s.pe.set t re }) 5 HO.rows.p rfl t (.int .i64 re) ⟨(up_ne _ _ (by decide)).trans HO.rows.d, (up_ne _ _ (by decide)).trans HO.rows.m, (up_ne _ _ (by decide)).trans HO.rows.t, (up_ne _ _ (by decide)).trans HO.rows.h, (up_ne _ _ (by decide)).trans HO.rows.r, by rw [up_self, zv_set], (up_ne _ _ (by decide)).trans HO.rows.c, (up_ne _ _ (by decide)).trans HO.box⟩ rfl HO.rows.rt (mem_set_rng HO.rows.rp HE.out) ⟨HO.rows.ok.lm, HO.rows.ok.lt, HO.rows.ok.lr, by simp [HO.rows.ok.lp], HO.rows.ok.lc, HO.rows.ok.few, HO.rows.ok.fewp, HO.rows.ok.slim⟩)
      have HBF := Lib.hid (HB.setCell (p := ⟨g4, t, none⟩) hlo4 (.int .i64 re))
      clear HO HB
      go_wp2
      go_ret
      rw [HP.out]
      exact ⟨rfl, ⟨_, _, _, _, _, _, _, _, _, HF.out⟩, HBF.out⟩
set_option maxRecDepth 100000 in
set_option maxHeartbeats 4000000 in
theorem result_any (ob lo : Nat) (s : LS) (r : LR) (mt ma : Int) (B2 : Option Addr) (n2 d2 : Nat) (B3 : Option Addr) (n3 d3 : Nat) (B4 : Option Addr) (n4 d4 : Nat) (t : Nat) (w : World) (h : Own w lo ob s) (hlo : lo ≤ w.heap.size) (hn : r.n = (t : Nat)) (ht : t < s.has.length) :
    Calls Try.prog 87 #[.pointer (some ⟨ob, 0, none⟩), .agg #[.int .i64 r.kind, .int .i64 r.n, .int .i64 r.e, .string r.text, .int .i64 mt, .int .i64 ma, .slice B2 n2 d2, .slice B3 n3 d3, .slice B4 n4 d4]] w (MethPost w lo ob (resultP s r)) := by
  obtain ⟨F, v2, v3, v4, v5, v6, v7, v8, vs, HO⟩ := h
  obtain ⟨rk, rn, re, rt, rm⟩ := r
  dsimp only at hn ⊢
  have HN := Lib.hid hn
  have HT := Lib.hid ht
  obtain ⟨P, hP⟩ : ∃ P, P = resultP s ⟨rk, rn, re, rt, rm⟩ := ⟨_, rfl⟩
  rw [← hP]
  have htt : t < s.pe.length := by rw [HO.rows.ok.lp]; exact ht
  have htr : t < s.res.length := by rw [HO.rows.ok.lr]; exact ht
  unfold resultP at hP
  dsimp only at hP
  rw [hn, Int.toNat_natCast] at hP
  obtain ⟨D, hD⟩ : ∃ D, s.has.getD t false = D := ⟨_, rfl⟩
  obtain ⟨T, hT⟩ : ∃ T, s.pe.getD t 0 = T := ⟨_, rfl⟩
  rw [hD, hT] at hP
  have HD := Lib.hid hD
  have HTT := Lib.hid hT
  have i0 : (0 : Int) ≤ (t : Int) := by omega
  have i1 : (t : Int) < (s.has.length : Int) := by omega
  clear hn ht hD hT
  have HOW := Lib.hid HO
  by_cases h0 : 1048576 < rt.size
  · rw [if_pos h0] at hP
    have HP := Lib.hid hP
    clear hP
    go_enter Try.func87, Try.ntmps87
    go_upto_region 1 with fail; have HR := RecBox.mk' w rk rn re rt mt ma B2 n2 d2 B3 n3 d3 B4 n4 d4; have HB := (Below.refl w.heap.size w).alloc (Nat.le_refl _) (.cells #[.int .i64 rk, .int .i64 rn, .int .i64 re, .string rt, .int .i64 mt, .int .i64 ma, .slice B2 n2 d2, .slice B3 n3 d3, .slice B4 n4 d4] 53); generalize w.alloc (.cells #[.int .i64 rk, .int .i64 rn, .int .i64 re, .string rt, .int .i64 mt, .int .i64 ma, .slice B2 n2 d2, .slice B3 n3 d3, .slice B4 n4 d4] 53) = W at HR HB ⊢; replace HO := HO.below HB; replace HB := HB.mono hlo; obtain ⟨r0, r1, r2, r3, r4, r5, r6, r7, r8⟩ := HR; rw [HN.out] at r1
    go_wp2
    go_ret
    rw [HP.out]
    exact ⟨rfl, ⟨_, _, _, _, _, _, _, _, _, HO⟩, HB⟩
  · rw [if_neg h0] at hP
    by_cases hb : D = true ∨ T ≠ 0
    · rw [if_pos hb] at hP
      have HP := Lib.hid hP
      clear hP
      cases D with
      | true =>
        go_enter Try.func87, Try.ntmps87
        go_upto_region 1 with fail; have HR := RecBox.mk' w rk rn re rt mt ma B2 n2 d2 B3 n3 d3 B4 n4 d4; have HB := (Below.refl w.heap.size w).alloc (Nat.le_refl _) (.cells #[.int .i64 rk, .int .i64 rn, .int .i64 re, .string rt, .int .i64 mt, .int .i64 ma, .slice B2 n2 d2, .slice B3 n3 d3, .slice B4 n4 d4] 53); generalize w.alloc (.cells #[.int .i64 rk, .int .i64 rn, .int .i64 re, .string rt, .int .i64 mt, .int .i64 ma, .slice B2 n2 d2, .slice B3 n3 d3, .slice B4 n4 d4] 53) = W at HR HB ⊢; replace HO := HO.below HB; replace HB := HB.mono hlo; obtain ⟨r0, r1, r2, r3, r4, r5, r6, r7, r8⟩ := HR; rw [HN.out] at r1
        obtain ⟨g, c, e2, gc, _, hgo, _⟩ := HO.at_row 3 (by decide) HO.rows.h HT.out; subst e2; obtain ⟨g4, c4, e4, gc4, gf4, hgo4, hlo4, hlt4⟩ := HO.at_row 5 (by decide) HO.rows.p HT.out; subst e4; have gD := gc _ (bvs_get HT.out HD.out); have gT := gc4 _ (zv_get htt HTT.out); have p2 := HO.field (j := 5) rfl; have p4 := HO.field (j := 7) rfl; clear gc gc4
        clear hb
        go_wp2_with fail
        go_quiet (fail)
        go_wp2
        go_ret
        rw [HP.out]
        exact ⟨rfl, ⟨_, _, _, _, _, _, _, _, _, HO.below (below_drewN (Below.refl _ _) _)⟩, below_drewN HB _⟩
      | false =>
        have t5 : (T != 0) = true := int_bne (by simpa using hb)
        go_enter Try.func87, Try.ntmps87
        go_upto_region 1 with fail; have HR := RecBox.mk' w rk rn re rt mt ma B2 n2 d2 B3 n3 d3 B4 n4 d4; have HB := (Below.refl w.heap.size w).alloc (Nat.le_refl _) (.cells #[.int .i64 rk, .int .i64 rn, .int .i64 re, .string rt, .int .i64 mt, .int .i64 ma, .slice B2 n2 d2, .slice B3 n3 d3, .slice B4 n4 d4] 53); generalize w.alloc (.cells #[.int .i64 rk, .int .i64 rn, .int .i64 re, .string rt, .int .i64 mt, .int .i64 ma, .slice B2 n2 d2, .slice B3 n3 d3, .slice B4 n4 d4] 53) = W at HR HB ⊢; replace HO := HO.below HB; replace HB := HB.mono hlo; obtain ⟨r0, r1, r2, r3, r4, r5, r6, r7, r8⟩ := HR; rw [HN.out] at r1
        obtain ⟨g, c, e2, gc, _, hgo, _⟩ := HO.at_row 3 (by decide) HO.rows.h HT.out; subst e2; obtain ⟨g4, c4, e4, gc4, gf4, hgo4, hlo4, hlt4⟩ := HO.at_row 5 (by decide) HO.rows.p HT.out; subst e4; have gD := gc _ (bvs_get HT.out HD.out); have gT := gc4 _ (zv_get htt HTT.out); have p2 := HO.field (j := 5) rfl; have p4 := HO.field (j := 7) rfl; clear gc gc4
        clear hb
        go_wp2_with fail
        go_quiet (fail)
        go_wp2
        go_ret
        rw [HP.out]
        exact ⟨rfl, ⟨_, _, _, _, _, _, _, _, _, HO.below (below_drewN (Below.refl _ _) _)⟩, below_drewN HB _⟩
    · rw [if_neg hb] at hP
      have HP := Lib.hid hP
      clear hP
      obtain rfl : D = false := by cases D <;> simp_all
      obtain rfl : T = 0 := by simpa using hb
      clear hb
      go_enter Try.func87, Try.ntmps87
      go_upto_region 1 with fail; have HR := RecBox.mk' w rk rn re rt mt ma B2 n2 d2 B3 n3 d3 B4 n4 d4; have HB := (Below.refl w.heap.size w).alloc (Nat.le_refl _) (.cells #[.int .i64 rk, .int .i64 rn, .int .i64 re, .string rt, .int .i64 mt, .int .i64 ma, .slice B2 n2 d2, .slice B3 n3 d3, .slice B4 n4 d4] 53); generalize w.alloc (.cells #[.int .i64 rk, .int .i64 rn, .int .i64 re, .string rt, .int .i64 mt, .int .i64 ma, .slice B2 n2 d2, .slice B3 n3 d3, .slice B4 n4 d4] 53) = W at HR HB ⊢; replace HO := HO.below HB; replace HB := HB.mono hlo; obtain ⟨r0, r1, r2, r3, r4, r5, r6, r7, r8⟩ := HR; rw [HN.out] at r1
      obtain ⟨g, c, e2, gc, _, hgo, _⟩ := HO.at_row 3 (by decide) HO.rows.h HT.out; subst e2; obtain ⟨g4, c4, e4, gc4, gf4, hgo4, hlo4, hlt4⟩ := HO.at_row 5 (by decide) HO.rows.p HT.out; subst e4; have gD := gc _ (bvs_get HT.out HD.out); have gT := gc4 _ (zv_get htt HTT.out); have p2 := HO.field (j := 5) rfl; have p4 := HO.field (j := 7) rfl; clear gc gc4
      go_wp2_with fail
      go_quiet (fail)
      generalize hW2 : World.drewN W _ = W2
      have hd : Below W.heap.size W W2.drew := by rw [← hW2]; exact (below_drewN (Below.refl _ _) _).drew
      clear hW2 gD gT
      replace HO := HO.below hd
      replace HB := bt HB (Nat.le_trans hlo4 (Nat.le_of_lt hlt4)) hd
      obtain ⟨g6, c6, e6, _, z6, hgo6, hlo6, hlt6⟩ := HO.at_row 4 (by decide) HO.rows.r HT.out
      subst e6
      have z5 := HO.rows.pool.free 3 HO.rows.h rfl t
      have y5 := HO.rows.pool.cell 3 HO.rows.h rfl (bvs_get HT.out HD.out)
      have y6 := HO.rows.pool.cell 4 HO.rows.r rfl (svs_get htr)
      have q5 := HO.field (j := 5) rfl
      have q6 := HO.field (j := 6) rfl
      have q1 := cell_below hd r1
      have q3 := cell_below hd r3
      have hg1 : w.heap.size ≠ g := fun e => by have := (HOW.out.rows.pool.lt 3 (g := g) (by rw [HOW.out.rows.h]; rfl)).2; omega
      have hg2 : w.heap.size ≠ g6 := fun e => by have := (HOW.out.rows.pool.lt 4 (g := g6) (by rw [HOW.out.rows.r]; rfl)).2; omega
      have hg3 : g6 ≠ g := fun e => absurd (HO.rows.pool.ne 4 3 g (by rw [HO.rows.r, e]; rfl) (by rw [HO.rows.h]; rfl)) (by decide)
      have hg4 : g ≠ g6 := Ne.symm hg3
      have y6' : (W2.setCell ⟨g, t, none⟩ (.bool true)).cell? ⟨g6, t, none⟩ = some (.string s.res[t]) := (cell_set_ne hg3).trans y6
      have z6' : (W2.setCell ⟨g, t, none⟩ (.bool true)).frozen? ⟨g6, t, none⟩ = false := by rw [World.frozen?_setCell]; exact z6
      clear p2 p4 r0 r1 r2 r3 r4 r5 r6 r7 r8
      go_upto_region 5 with fail
      go_region_held3 (fun w' => w'.cell? ⟨ob, 5, none⟩ = some (.slice (some ⟨g, 0, none⟩) s.has.length c) ∧ w'.cell? ⟨ob, 6, none⟩ = some (.slice (some ⟨g6, 0, none⟩) s.has.length c6) ∧ w'.cell? ⟨w.heap.size, 1, none⟩ = some (.int .i64 (t : Nat)) ∧ w'.cell? ⟨w.heap.size, 3, none⟩ = some (.string rt))
        (first | exact ⟨q5, q6, q1, q3⟩ | exact ⟨(cell_set_ne (Ne.symm hgo)).trans q5, (cell_set_ne (Ne.symm hgo)).trans q6, (cell_set_ne hg1).trans q1, (cell_set_ne hg1).trans q3⟩ | exact ⟨(cell_set_ne (Ne.symm hgo6)).trans ((cell_set_ne (Ne.symm hgo)).trans q5), (cell_set_ne (Ne.symm hgo6)).trans ((cell_set_ne (Ne.symm hgo)).trans q6), (cell_set_ne hg2).trans ((cell_set_ne hg1).trans q1), (cell_set_ne hg2).trans ((cell_set_ne hg1).trans q3)⟩) (fail)
      clear q5 q6 q1 q3 z6 z5 y5 y6
      have HF1 := HO.put (s' := { s with has := s.has.set t true }) 3 HO.rows.h rfl t (.bool true) ⟨(up_ne _ _ (by decide)).trans HO.rows.d, (up_ne _ _ (by decide)).trans HO.rows.m, (up_ne _ _ (by decide)).trans HO.rows.t, by rw [up_self, bvs_set]; simp, ((up_ne _ _ (by decide)).trans HO.rows.r).trans (by simp), ((up_ne _ _ (by decide)).trans HO.rows.p).trans (by simp), ((up_ne _ _ (by decide)).trans HO.rows.c).trans (by simp), (up_ne _ _ (by decide)).trans HO.box⟩ rfl HO.rows.rt HO.rows.rp ⟨HO.rows.ok.lm, HO.rows.ok.lt, by simp [HO.rows.ok.lr], by simp [HO.rows.ok.lp], by simp [HO.rows.ok.lc], HO.rows.ok.few, by simpa using HO.rows.ok.fewp, HO.rows.ok.slim⟩
      have HF := Lib.hid (HF1.put (s' := { s with has := s.has.set t true, res := s.res.set t rt }) 4 HF1.rows.r (g := g6) (c := c6) (by simp) t (.string rt) ⟨(up_ne _ _ (by decide)).trans HF1.rows.d, (up_ne _ _ (by decide)).trans HF1.rows.m, (up_ne _ _ (by decide)).trans HF1.rows.t, (up_ne _ _ (by decide)).trans HF1.rows.h, by rw [up_self, svs_set], (up_ne _ _ (by decide)).trans HF1.rows.p, (up_ne _ _ (by decide)).trans HF1.rows.c, (up_ne _ _ (by decide)).trans HF1.box⟩ rfl HO.rows.rt HO.rows.rp ⟨HO.rows.ok.lm, HO.rows.ok.lt, by simp [HO.rows.ok.lr], by simp [HO.rows.ok.lp], by simp [HO.rows.ok.lc], HO.rows.ok.few, by simpa using HO.rows.ok.fewp, HO.rows.ok.slim⟩)
      have HBF := Lib.hid ((HB.setCell (p := ⟨g, t, none⟩) (HOW.out.rows.pool.lt 3 (g := g) (by rw [HOW.out.rows.h]; rfl)).1 (.bool true)).setCell (p := ⟨g6, t, none⟩) hlo6 (.string rt))
      clear HO HB HF1
      go_wp2
      go_ret
      rw [HP.out]
      exact ⟨rfl, ⟨_, _, _, _, _, _, _, _, _, HF.out⟩, HBF.out⟩
end Go.Proofs.Ytmlemichkeomjaa.LedW
