/- The ledger's method end walked. -/
import Derived.Test.YtmlemichkeomjaaLedM4
set_option linter.unusedVariables false
set_option linter.unusedSimpArgs false
namespace Go.Proofs.Ytmlemichkeomjaa.LedW
open Go.RowKit Go.Proofs.Ytmlemichkeomjaa.Base Go.Proofs.Ytmlemichkeomjaa.MendW Go.Proofs.Ytmlemichkeomjaa.ManP Go.Proofs.Ytmlemichkeomjaa.ManW Go.Proofs.Ytmlemichkeomjaa.LedP
set_option maxRecDepth 100000 in
set_option maxHeartbeats 4000000 in
theorem end_any (ob lo : Nat) (s : LS) (r : LR) (mt ma : Int) (B2 : Option Addr) (n2 d2 : Nat) (B3 : Option Addr) (n3 d3 : Nat) (B4 : Option Addr) (n4 d4 : Nat) (w : World) (h : Own w lo ob s) (hlo : lo ≤ w.heap.size) :
    Calls Try.prog 90 #[.pointer (some ⟨ob, 0, none⟩), .agg #[.int .i64 r.kind, .int .i64 r.n, .int .i64 r.e, .string r.text, .int .i64 mt, .int .i64 ma, .slice B2 n2 d2, .slice B3 n3 d3, .slice B4 n4 d4]] w (MethPost w lo ob (endP s r)) := by
  obtain ⟨F, v2, v3, v4, v5, v6, v7, v8, vs, HO⟩ := h
  obtain ⟨rk, rn, re, rt, rm⟩ := r
  dsimp only
  obtain ⟨P, hP⟩ : ∃ P, P = endP s ⟨rk, rn, re, rt, rm⟩ := ⟨_, rfl⟩
  rw [← hP]
  unfold endP at hP
  dsimp only at hP
  have hfew := HO.rows.ok.fewp
  have HOW := Lib.hid HO
  obtain ⟨A2, c2, A3, c3, A4, c4, A5, c5, A6, c6, A7, c7, A8, c8, rfl, rfl, rfl, rfl, rfl, rfl, rfl, HST⟩ := HO.rows.read
  have HAL := Lib.hid (fun W (hW : Below w.heap.size w W) => all_any A8 s.has.length c8 s.com W (HST.c.below hW) HST.ok.lc (by omega))
  have HCO := Lib.hid (fun W (hW : Below w.heap.size w W) => contains_bool A8 s.has.length c8 s.com true W (HST.c.below hW) HST.ok.lc (by omega))
  by_cases h1 : 1 ≤ rn ∧ rn ≤ 3
  · obtain ⟨h1, h3⟩ := h1
    have b1 : decide (1 ≤ rn) = true := by simp [h1]
    have b3 : decide (rn ≤ 3) = true := by simp [h3]
    by_cases h4 : re = 0
    · subst h4
      by_cases h5 : rn = 1
      · subst h5
        by_cases h6 : false ∈ s.com
        · rw [if_neg (by omega), if_pos (.inl ⟨rfl, h6⟩)] at hP
          have HP := Lib.hid hP
          have t1 : decide (false ∈ s.com) = true := by simp [h6]
          rw [t1] at HAL
          clear hP h6 t1 h1 h3 b1 b3
          go_enter Try.func90, Try.ntmps90
          go_upto_region 1 with fail
          have HR := RecBox.mk' w rk 1 0 rt mt ma B2 n2 d2 B3 n3 d3 B4 n4 d4
          have hB := (Below.refl w.heap.size w).alloc (Nat.le_refl _) (.cells #[.int .i64 rk, .int .i64 1, .int .i64 0, .string rt, .int .i64 mt, .int .i64 ma, .slice B2 n2 d2, .slice B3 n3 d3, .slice B4 n4 d4] 53)
          generalize w.alloc (.cells #[.int .i64 rk, .int .i64 1, .int .i64 0, .string rt, .int .i64 mt, .int .i64 ma, .slice B2 n2 d2, .slice B3 n3 d3, .slice B4 n4 d4] 53) = W at HR hB ⊢
          replace HO := HO.below hB
          have HB := hB.mono hlo
          obtain ⟨r0, r1, r2, r3, r4, r5, r6, r7, r8⟩ := HR
          have p8 := HO.field (j := 8) rfl
          go_wp2_with (first | (go_at_call 48; (with_reducible refine (within_any _ _ _).mono ?_); rintro e w5 ⟨rfl, rfl⟩) | (go_at_call 122; (with_reducible refine (HAL.out _ hB).mono ?_); rintro e w5 ⟨rfl, rfl⟩) | (go_at_call 123; (with_reducible refine (HCO.out _ hB).mono ?_); rintro e w5 ⟨rfl, rfl⟩))
          go_ret
          rw [HP.out]
          exact ⟨rfl, ⟨_, _, _, _, _, _, _, _, _, HO⟩, HB⟩
        · rw [if_neg (by omega), if_neg (by rintro (⟨_, h⟩ | ⟨h, _⟩); exact h6 h; exact h rfl)] at hP
          have HP := Lib.hid hP
          have t1 : decide (false ∈ s.com) = false := by simp [h6]
          rw [t1] at HAL
          clear hP h6 t1 h1 h3 b1 b3
          go_enter Try.func90, Try.ntmps90
          go_upto_region 1 with fail
          have HR := RecBox.mk' w rk 1 0 rt mt ma B2 n2 d2 B3 n3 d3 B4 n4 d4
          have hB := (Below.refl w.heap.size w).alloc (Nat.le_refl _) (.cells #[.int .i64 rk, .int .i64 1, .int .i64 0, .string rt, .int .i64 mt, .int .i64 ma, .slice B2 n2 d2, .slice B3 n3 d3, .slice B4 n4 d4] 53)
          generalize w.alloc (.cells #[.int .i64 rk, .int .i64 1, .int .i64 0, .string rt, .int .i64 mt, .int .i64 ma, .slice B2 n2 d2, .slice B3 n3 d3, .slice B4 n4 d4] 53) = W at HR hB ⊢
          replace HO := HO.below hB
          have HB := hB.mono hlo
          obtain ⟨r0, r1, r2, r3, r4, r5, r6, r7, r8⟩ := HR
          have p8 := HO.field (j := 8) rfl
          go_upto_region 5 with (first | (go_at_call 48; (with_reducible refine (within_any _ _ _).mono ?_); rintro e w5 ⟨rfl, rfl⟩) | (go_at_call 122; (with_reducible refine (HAL.out _ hB).mono ?_); rintro e w5 ⟨rfl, rfl⟩) | (go_at_call 123; (with_reducible refine (HCO.out _ hB).mono ?_); rintro e w5 ⟨rfl, rfl⟩))
          replace HO := HO.below (w' := W.drew) ((Below.refl _ _).drew)
          have z9 : W.frozen? ⟨ob, 9, none⟩ = false := HO.rows.pool.free 7 HO.box rfl 9
          have z10 : W.frozen? ⟨ob, 10, none⟩ = false := HO.rows.pool.free 7 HO.box rfl 10
          have y9 : W.cell? ⟨ob, 9, none⟩ = some (.int .i64 s.fin) := HO.field (j := 9) rfl
          have y10 : W.cell? ⟨ob, 10, none⟩ = some (.int .i64 s.er) := HO.field (j := 10) rfl
          have hg1 : w.heap.size ≠ ob := fun e => by have := (HOW.out.rows.pool.lt 7 (g := ob) (by rw [HOW.out.box]; rfl)).2; omega
          have hlo7 := (HO.rows.pool.lt 7 (g := ob) (by rw [HO.box]; rfl)).1
          go_region_held3 (fun w' => w'.cell? ⟨w.heap.size, 1, none⟩ = some (.int .i64 1) ∧ w'.cell? ⟨w.heap.size, 2, none⟩ = some (.int .i64 0)) (first | exact ⟨r1, r2⟩ | exact ⟨(cell_set_ne hg1).trans r1, (cell_set_ne hg1).trans r2⟩ | exact ⟨(cell_set_ne hg1).trans ((cell_set_ne hg1).trans r1), (cell_set_ne hg1).trans ((cell_set_ne hg1).trans r2)⟩) (fail)
          have HF1 := HO.put (s' := { s with fin := 1 }) 7 HO.box (g := ob) (c := 1) rfl 9 (.int .i64 1) ⟨(up_ne _ _ (by decide)).trans HO.rows.d, (up_ne _ _ (by decide)).trans HO.rows.m, (up_ne _ _ (by decide)).trans HO.rows.t, (up_ne _ _ (by decide)).trans HO.rows.h, (up_ne _ _ (by decide)).trans HO.rows.r, (up_ne _ _ (by decide)).trans HO.rows.p, (up_ne _ _ (by decide)).trans HO.rows.c, (by rw [up_self]; rfl)⟩ rfl HO.rows.rt HO.rows.rp ⟨HO.rows.ok.lm, HO.rows.ok.lt, HO.rows.ok.lr, HO.rows.ok.lp, HO.rows.ok.lc, HO.rows.ok.few, HO.rows.ok.fewp, HO.rows.ok.slim⟩
          have HF := Lib.hid (HF1.put (s' := { s with fin := 1, er := 0 }) 7 HF1.box (g := ob) (c := 1) rfl 10 (.int .i64 0) ⟨(up_ne _ _ (by decide)).trans HF1.rows.d, (up_ne _ _ (by decide)).trans HF1.rows.m, (up_ne _ _ (by decide)).trans HF1.rows.t, (up_ne _ _ (by decide)).trans HF1.rows.h, (up_ne _ _ (by decide)).trans HF1.rows.r, (up_ne _ _ (by decide)).trans HF1.rows.p, (up_ne _ _ (by decide)).trans HF1.rows.c, (by rw [up_self]; rfl)⟩ rfl HO.rows.rt HO.rows.rp ⟨HO.rows.ok.lm, HO.rows.ok.lt, HO.rows.ok.lr, HO.rows.ok.lp, HO.rows.ok.lc, HO.rows.ok.few, HO.rows.ok.fewp, HO.rows.ok.slim⟩)
          have HBF := Lib.hid (((HB.drew).setCell (p := ⟨ob, 9, none⟩) hlo7 (.int .i64 1)).setCell (p := ⟨ob, 10, none⟩) hlo7 (.int .i64 0))
          clear HO HB HF1 r0 r1 r2 r3 r4 r5 r6 r7 r8 z9 z10 y9 y10
          go_wp2
          go_ret
          rw [HP.out]
          exact ⟨rfl, ⟨_, _, _, _, _, _, _, _, _, HF.out⟩, HBF.out⟩
      · rw [if_pos (by omega)] at hP
        have HP := Lib.hid hP
        have t5 : (rn == 1) = false := by rw [beq_eq_false_iff_ne]; exact h5
        clear hP h1 h3
        go_enter Try.func90, Try.ntmps90
        go_upto_region 1 with fail
        have HR := RecBox.mk' w rk rn 0 rt mt ma B2 n2 d2 B3 n3 d3 B4 n4 d4
        have hB := (Below.refl w.heap.size w).alloc (Nat.le_refl _) (.cells #[.int .i64 rk, .int .i64 rn, .int .i64 0, .string rt, .int .i64 mt, .int .i64 ma, .slice B2 n2 d2, .slice B3 n3 d3, .slice B4 n4 d4] 53)
        generalize w.alloc (.cells #[.int .i64 rk, .int .i64 rn, .int .i64 0, .string rt, .int .i64 mt, .int .i64 ma, .slice B2 n2 d2, .slice B3 n3 d3, .slice B4 n4 d4] 53) = W at HR hB ⊢
        replace HO := HO.below hB
        have HB := hB.mono hlo
        obtain ⟨r0, r1, r2, r3, r4, r5, r6, r7, r8⟩ := HR
        have p8 := HO.field (j := 8) rfl
        go_wp2_with (first | (go_at_call 48; (with_reducible refine (within_any _ _ _).mono ?_); rintro e w5 ⟨rfl, rfl⟩) | (go_at_call 122; (with_reducible refine (HAL.out _ hB).mono ?_); rintro e w5 ⟨rfl, rfl⟩) | (go_at_call 123; (with_reducible refine (HCO.out _ hB).mono ?_); rintro e w5 ⟨rfl, rfl⟩))
        go_ret
        rw [HP.out]
        exact ⟨rfl, ⟨_, _, _, _, _, _, _, _, _, HO⟩, HB⟩
    · have t4 : (re == 0) = false := by rw [beq_eq_false_iff_ne]; exact h4
      by_cases h5 : rn = 1
      · subst h5
        rw [if_pos (by omega)] at hP
        have HP := Lib.hid hP
        clear hP h1 h3 b1 b3
        go_enter Try.func90, Try.ntmps90
        go_upto_region 1 with fail
        have HR := RecBox.mk' w rk 1 re rt mt ma B2 n2 d2 B3 n3 d3 B4 n4 d4
        have hB := (Below.refl w.heap.size w).alloc (Nat.le_refl _) (.cells #[.int .i64 rk, .int .i64 1, .int .i64 re, .string rt, .int .i64 mt, .int .i64 ma, .slice B2 n2 d2, .slice B3 n3 d3, .slice B4 n4 d4] 53)
        generalize w.alloc (.cells #[.int .i64 rk, .int .i64 1, .int .i64 re, .string rt, .int .i64 mt, .int .i64 ma, .slice B2 n2 d2, .slice B3 n3 d3, .slice B4 n4 d4] 53) = W at HR hB ⊢
        replace HO := HO.below hB
        have HB := hB.mono hlo
        obtain ⟨r0, r1, r2, r3, r4, r5, r6, r7, r8⟩ := HR
        have p8 := HO.field (j := 8) rfl
        go_wp2_with (first | (go_at_call 48; (with_reducible refine (within_any _ _ _).mono ?_); rintro e w5 ⟨rfl, rfl⟩) | (go_at_call 122; (with_reducible refine (HAL.out _ hB).mono ?_); rintro e w5 ⟨rfl, rfl⟩) | (go_at_call 123; (with_reducible refine (HCO.out _ hB).mono ?_); rintro e w5 ⟨rfl, rfl⟩))
        go_ret
        rw [HP.out]
        exact ⟨rfl, ⟨_, _, _, _, _, _, _, _, _, HO⟩, HB⟩
      · have t5 : (rn == 1) = false := by rw [beq_eq_false_iff_ne]; exact h5
        have t6 : (rn != 1) = true := int_bne h5
        by_cases h6 : true ∈ s.com
        · rw [if_neg (by omega), if_pos (.inr ⟨h5, h6⟩)] at hP
          have HP := Lib.hid hP
          have t1 : decide (true ∈ s.com) = true := by simp [h6]
          rw [t1] at HCO
          clear hP h6 t1 h1 h3
          go_enter Try.func90, Try.ntmps90
          go_upto_region 1 with fail
          have HR := RecBox.mk' w rk rn re rt mt ma B2 n2 d2 B3 n3 d3 B4 n4 d4
          have hB := (Below.refl w.heap.size w).alloc (Nat.le_refl _) (.cells #[.int .i64 rk, .int .i64 rn, .int .i64 re, .string rt, .int .i64 mt, .int .i64 ma, .slice B2 n2 d2, .slice B3 n3 d3, .slice B4 n4 d4] 53)
          generalize w.alloc (.cells #[.int .i64 rk, .int .i64 rn, .int .i64 re, .string rt, .int .i64 mt, .int .i64 ma, .slice B2 n2 d2, .slice B3 n3 d3, .slice B4 n4 d4] 53) = W at HR hB ⊢
          replace HO := HO.below hB
          have HB := hB.mono hlo
          obtain ⟨r0, r1, r2, r3, r4, r5, r6, r7, r8⟩ := HR
          have p8 := HO.field (j := 8) rfl
          go_wp2_with (first | (go_at_call 48; (with_reducible refine (within_any _ _ _).mono ?_); rintro e w5 ⟨rfl, rfl⟩) | (go_at_call 122; (with_reducible refine (HAL.out _ hB).mono ?_); rintro e w5 ⟨rfl, rfl⟩) | (go_at_call 123; (with_reducible refine (HCO.out _ hB).mono ?_); rintro e w5 ⟨rfl, rfl⟩))
          go_ret
          rw [HP.out]
          exact ⟨rfl, ⟨_, _, _, _, _, _, _, _, _, HO⟩, HB⟩
        · rw [if_neg (by omega), if_neg (by rintro (⟨h, _⟩ | ⟨_, h⟩); exact h5 h; exact h6 h)] at hP
          have HP := Lib.hid hP
          have t1 : decide (true ∈ s.com) = false := by simp [h6]
          rw [t1] at HCO
          clear hP h6 t1 h1 h3
          go_enter Try.func90, Try.ntmps90
          go_upto_region 1 with fail
          have HR := RecBox.mk' w rk rn re rt mt ma B2 n2 d2 B3 n3 d3 B4 n4 d4
          have hB := (Below.refl w.heap.size w).alloc (Nat.le_refl _) (.cells #[.int .i64 rk, .int .i64 rn, .int .i64 re, .string rt, .int .i64 mt, .int .i64 ma, .slice B2 n2 d2, .slice B3 n3 d3, .slice B4 n4 d4] 53)
          generalize w.alloc (.cells #[.int .i64 rk, .int .i64 rn, .int .i64 re, .string rt, .int .i64 mt, .int .i64 ma, .slice B2 n2 d2, .slice B3 n3 d3, .slice B4 n4 d4] 53) = W at HR hB ⊢
          replace HO := HO.below hB
          have HB := hB.mono hlo
          obtain ⟨r0, r1, r2, r3, r4, r5, r6, r7, r8⟩ := HR
          have p8 := HO.field (j := 8) rfl
          go_upto_region 5 with (first | (go_at_call 48; (with_reducible refine (within_any _ _ _).mono ?_); rintro e w5 ⟨rfl, rfl⟩) | (go_at_call 122; (with_reducible refine (HAL.out _ hB).mono ?_); rintro e w5 ⟨rfl, rfl⟩) | (go_at_call 123; (with_reducible refine (HCO.out _ hB).mono ?_); rintro e w5 ⟨rfl, rfl⟩))
          replace HO := HO.below (w' := W.drew) ((Below.refl _ _).drew)
          have z9 : W.frozen? ⟨ob, 9, none⟩ = false := HO.rows.pool.free 7 HO.box rfl 9
          have z10 : W.frozen? ⟨ob, 10, none⟩ = false := HO.rows.pool.free 7 HO.box rfl 10
          have y9 : W.cell? ⟨ob, 9, none⟩ = some (.int .i64 s.fin) := HO.field (j := 9) rfl
          have y10 : W.cell? ⟨ob, 10, none⟩ = some (.int .i64 s.er) := HO.field (j := 10) rfl
          have hg1 : w.heap.size ≠ ob := fun e => by have := (HOW.out.rows.pool.lt 7 (g := ob) (by rw [HOW.out.box]; rfl)).2; omega
          have hlo7 := (HO.rows.pool.lt 7 (g := ob) (by rw [HO.box]; rfl)).1
          go_region_held3 (fun w' => w'.cell? ⟨w.heap.size, 1, none⟩ = some (.int .i64 rn) ∧ w'.cell? ⟨w.heap.size, 2, none⟩ = some (.int .i64 re)) (first | exact ⟨r1, r2⟩ | exact ⟨(cell_set_ne hg1).trans r1, (cell_set_ne hg1).trans r2⟩ | exact ⟨(cell_set_ne hg1).trans ((cell_set_ne hg1).trans r1), (cell_set_ne hg1).trans ((cell_set_ne hg1).trans r2)⟩) (fail)
          have HF1 := HO.put (s' := { s with fin := rn }) 7 HO.box (g := ob) (c := 1) rfl 9 (.int .i64 rn) ⟨(up_ne _ _ (by decide)).trans HO.rows.d, (up_ne _ _ (by decide)).trans HO.rows.m, (up_ne _ _ (by decide)).trans HO.rows.t, (up_ne _ _ (by decide)).trans HO.rows.h, (up_ne _ _ (by decide)).trans HO.rows.r, (up_ne _ _ (by decide)).trans HO.rows.p, (up_ne _ _ (by decide)).trans HO.rows.c, (by rw [up_self]; rfl)⟩ rfl HO.rows.rt HO.rows.rp ⟨HO.rows.ok.lm, HO.rows.ok.lt, HO.rows.ok.lr, HO.rows.ok.lp, HO.rows.ok.lc, HO.rows.ok.few, HO.rows.ok.fewp, HO.rows.ok.slim⟩
          have HF := Lib.hid (HF1.put (s' := { s with fin := rn, er := re }) 7 HF1.box (g := ob) (c := 1) rfl 10 (.int .i64 re) ⟨(up_ne _ _ (by decide)).trans HF1.rows.d, (up_ne _ _ (by decide)).trans HF1.rows.m, (up_ne _ _ (by decide)).trans HF1.rows.t, (up_ne _ _ (by decide)).trans HF1.rows.h, (up_ne _ _ (by decide)).trans HF1.rows.r, (up_ne _ _ (by decide)).trans HF1.rows.p, (up_ne _ _ (by decide)).trans HF1.rows.c, (by rw [up_self]; rfl)⟩ rfl HO.rows.rt HO.rows.rp ⟨HO.rows.ok.lm, HO.rows.ok.lt, HO.rows.ok.lr, HO.rows.ok.lp, HO.rows.ok.lc, HO.rows.ok.few, HO.rows.ok.fewp, HO.rows.ok.slim⟩)
          have HBF := Lib.hid (((HB.drew).setCell (p := ⟨ob, 9, none⟩) hlo7 (.int .i64 rn)).setCell (p := ⟨ob, 10, none⟩) hlo7 (.int .i64 re))
          clear HO HB HF1 r0 r1 r2 r3 r4 r5 r6 r7 r8 z9 z10 y9 y10
          go_wp2
          go_ret
          rw [HP.out]
          exact ⟨rfl, ⟨_, _, _, _, _, _, _, _, _, HF.out⟩, HBF.out⟩
  · rw [if_pos (by omega)] at hP
    have HP := Lib.hid hP
    have b0 : (decide (1 ≤ rn) && decide (rn ≤ 3)) = false := by
      rw [← Bool.decide_and]; simp only [decide_eq_false_iff_not]; exact h1
    clear hP h1
    go_enter Try.func90, Try.ntmps90
    go_upto_region 1 with fail
    have HR := RecBox.mk' w rk rn re rt mt ma B2 n2 d2 B3 n3 d3 B4 n4 d4
    have hB := (Below.refl w.heap.size w).alloc (Nat.le_refl _) (.cells #[.int .i64 rk, .int .i64 rn, .int .i64 re, .string rt, .int .i64 mt, .int .i64 ma, .slice B2 n2 d2, .slice B3 n3 d3, .slice B4 n4 d4] 53)
    generalize w.alloc (.cells #[.int .i64 rk, .int .i64 rn, .int .i64 re, .string rt, .int .i64 mt, .int .i64 ma, .slice B2 n2 d2, .slice B3 n3 d3, .slice B4 n4 d4] 53) = W at HR hB ⊢
    replace HO := HO.below hB
    have HB := hB.mono hlo
    obtain ⟨r0, r1, r2, r3, r4, r5, r6, r7, r8⟩ := HR
    have p8 := HO.field (j := 8) rfl
    go_wp2_with (first | (go_at_call 48; (with_reducible refine (within_any _ _ _).mono ?_); rintro e w5 ⟨rfl, rfl⟩) | (go_at_call 122; (with_reducible refine (HAL.out _ hB).mono ?_); rintro e w5 ⟨rfl, rfl⟩) | (go_at_call 123; (with_reducible refine (HCO.out _ hB).mono ?_); rintro e w5 ⟨rfl, rfl⟩))
    go_ret
    rw [HP.out]
    exact ⟨rfl, ⟨_, _, _, _, _, _, _, _, _, HO⟩, HB⟩
end Go.Proofs.Ytmlemichkeomjaa.LedW
