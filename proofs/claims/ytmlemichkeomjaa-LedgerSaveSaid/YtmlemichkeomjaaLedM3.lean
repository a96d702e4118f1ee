/- The ledger's methods lost, commit and end walked. -/
import Derived.Test.YtmlemichkeomjaaLedM2
set_option linter.unusedVariables false
set_option linter.unusedSimpArgs false
namespace Go.Proofs.Ytmlemichkeomjaa.LedW
open Go.RowKit Go.Proofs.Ytmlemichkeomjaa.Base Go.Proofs.Ytmlemichkeomjaa.MendW Go.Proofs.Ytmlemichkeomjaa.ManP Go.Proofs.Ytmlemichkeomjaa.ManW Go.Proofs.Ytmlemichkeomjaa.LedP

set_option maxRecDepth 100000 in
set_option maxHeartbeats 4000000 in
theorem commit_any (ob lo : Nat) (s : LS) (r : LR) (mt ma : Int) (B2 : Option Addr) (n2 d2 : Nat) (B3 : Option Addr) (n3 d3 : Nat) (B4 : Option Addr) (n4 d4 : Nat) (t : Nat) (w : World) (h : Own w lo ob s) (hlo : lo ≤ w.heap.size) (hn : r.n = (t : Nat)) (ht : t < s.has.length) :
    Calls Try.prog 89 #[.pointer (some ⟨ob, 0, none⟩), .agg #[.int .i64 r.kind, .int .i64 r.n, .int .i64 r.e, .string r.text, .int .i64 mt, .int .i64 ma, .slice B2 n2 d2, .slice B3 n3 d3, .slice B4 n4 d4]] w (MethPost w lo ob (commitP s r)) := by
  obtain ⟨F, v2, v3, v4, v5, v6, v7, v8, vs, HO⟩ := h
  obtain ⟨rk, rn, re, rt, rm⟩ := r
  dsimp only at hn ⊢
  have HN := Lib.hid hn
  have HT := Lib.hid ht
  obtain ⟨P, hP⟩ : ∃ P, P = commitP s ⟨rk, rn, re, rt, rm⟩ := ⟨_, rfl⟩
  rw [← hP]
  have htt : t < s.com.length := by rw [HO.rows.ok.lc]; exact ht
  unfold commitP at hP
  dsimp only at hP
  rw [hn, Int.toNat_natCast] at hP
  obtain ⟨D, hD⟩ : ∃ D, s.com.getD t false = D := ⟨_, rfl⟩
  rw [hD] at hP
  have HD := Lib.hid hD
  have i0 : (0 : Int) ≤ (t : Int) := by omega
  have i1 : (t : Int) < (s.has.length : Int) := by omega
  have hfew := HO.rows.ok.fewp
  clear hn ht hD
  have HOW := Lib.hid HO
  obtain ⟨A2, c2, A3, c3, A4, c4, A5, c5, A6, c6, A7, c7, A8, c8, rfl, rfl, rfl, rfl, rfl, rfl, rfl, HST⟩ := HO.rows.read
  have HAL := Lib.hid (fun W (hW : Below w.heap.size w W) => all_any A5 s.has.length c5 s.has W (HST.h.below hW) rfl (by omega))
  by_cases h0 : false ∈ s.has
  · rw [if_pos h0] at hP
    have HP := Lib.hid hP
    have t1 : decide (false ∈ s.has) = true := by simp [h0]
    rw [t1] at HAL
    clear hP h0 t1
    go_enter Try.func89, Try.ntmps89
    go_upto_region 1 with fail
    have HR := RecBox.mk' w rk rn re rt mt ma B2 n2 d2 B3 n3 d3 B4 n4 d4
    have hB := (Below.refl w.heap.size w).alloc (Nat.le_refl _) (.cells #[.int .i64 rk, .int .i64 rn, .int .i64 re, .string rt, .int .i64 mt, .int .i64 ma, .slice B2 n2 d2, .slice B3 n3 d3, .slice B4 n4 d4] 53)
    generalize w.alloc (.cells #[.int .i64 rk, .int .i64 rn, .int .i64 re, .string rt, .int .i64 mt, .int .i64 ma, .slice B2 n2 d2, .slice B3 n3 d3, .slice B4 n4 d4] 53) = W at HR hB ⊢
    replace HO := HO.below hB
    have HB := hB.mono hlo
    have p5 := HO.field (j := 5) rfl
    go_wp2_with (go_at_call 122; (with_reducible refine (HAL.out _ hB).mono ?_); rintro e w5 ⟨rfl, rfl⟩)
    go_ret
    rw [HP.out]
    exact ⟨rfl, ⟨_, _, _, _, _, _, _, _, _, HO⟩, HB⟩
  · rw [if_neg h0] at hP
    have t1 : decide (false ∈ s.has) = false := by simp [h0]
    rw [t1] at HAL
    clear h0 t1
    cases D with
    | true =>
      rw [if_pos rfl] at hP
      have HP := Lib.hid hP
      clear hP
      go_enter Try.func89, Try.ntmps89
      go_upto_region 1 with fail
      have HR := RecBox.mk' w rk rn re rt mt ma B2 n2 d2 B3 n3 d3 B4 n4 d4
      have hB := (Below.refl w.heap.size w).alloc (Nat.le_refl _) (.cells #[.int .i64 rk, .int .i64 rn, .int .i64 re, .string rt, .int .i64 mt, .int .i64 ma, .slice B2 n2 d2, .slice B3 n3 d3, .slice B4 n4 d4] 53)
      generalize w.alloc (.cells #[.int .i64 rk, .int .i64 rn, .int .i64 re, .string rt, .int .i64 mt, .int .i64 ma, .slice B2 n2 d2, .slice B3 n3 d3, .slice B4 n4 d4] 53) = W at HR hB ⊢
      replace HO := HO.below hB
      have HB := hB.mono hlo
      obtain ⟨r0, r1, r2, r3, r4, r5, r6, r7, r8⟩ := HR
      rw [HN.out] at r1
      have p5 := HO.field (j := 5) rfl
      have p8 := HO.field (j := 8) rfl
      obtain ⟨g, c, e2, gc, _, hgo, _⟩ := HO.at_row 6 (by decide) HO.rows.c HT.out
      simp only [Value.slice.injEq, true_and] at e2
      obtain ⟨rfl, rfl⟩ := e2
      have gD := gc _ (bvs_get htt HD.out)
      clear gc
      go_wp2_with (go_at_call 122; (with_reducible refine (HAL.out _ hB).mono ?_); rintro e w5 ⟨rfl, rfl⟩)
      go_quiet (fail)
      go_wp2
      go_ret
      rw [HP.out]
      exact ⟨rfl, ⟨_, _, _, _, _, _, _, _, _, HO.below (below_drewN (Below.refl _ _) _)⟩, below_drewN HB _⟩
    | false =>
      rw [if_neg (by decide)] at hP
      have HP := Lib.hid hP
      clear hP
      go_enter Try.func89, Try.ntmps89
      go_upto_region 1 with fail
      have HR := RecBox.mk' w rk rn re rt mt ma B2 n2 d2 B3 n3 d3 B4 n4 d4
      have hB := (Below.refl w.heap.size w).alloc (Nat.le_refl _) (.cells #[.int .i64 rk, .int .i64 rn, .int .i64 re, .string rt, .int .i64 mt, .int .i64 ma, .slice B2 n2 d2, .slice B3 n3 d3, .slice B4 n4 d4] 53)
      generalize w.alloc (.cells #[.int .i64 rk, .int .i64 rn, .int .i64 re, .string rt, .int .i64 mt, .int .i64 ma, .slice B2 n2 d2, .slice B3 n3 d3, .slice B4 n4 d4] 53) = W at HR hB ⊢
      replace HO := HO.below hB
      have HB := hB.mono hlo
      obtain ⟨r0, r1, r2, r3, r4, r5, r6, r7, r8⟩ := HR
      rw [HN.out] at r1
      have p5 := HO.field (j := 5) rfl
      have p8 := HO.field (j := 8) rfl
      obtain ⟨g, c, e2, gc, _, hgo, hlo4, hlt4⟩ := HO.at_row 6 (by decide) HO.rows.c HT.out
      simp only [Value.slice.injEq, true_and] at e2
      obtain ⟨rfl, rfl⟩ := e2
      have gD := gc _ (bvs_get htt HD.out)
      clear gc
      go_wp2_with (go_at_call 122; (with_reducible refine (HAL.out _ hB).mono ?_); rintro e w5 ⟨rfl, rfl⟩)
      go_quiet (fail)
      generalize hW2 : World.drewN W _ = W2
      have hd : Below W.heap.size W W2.drew := by rw [← hW2]; exact (below_drewN (Below.refl _ _) _).drew
      clear hW2 gD p5 p8
      replace HO := HO.below hd
      replace HB := bt HB (Nat.le_trans hlo4 (Nat.le_of_lt hlt4)) hd
      have q8 := HO.field (j := 8) rfl
      have q1 := cell_below hd r1
      have z4 := HO.rows.pool.free 6 HO.rows.c rfl t
      have y4 := HO.rows.pool.cell 6 HO.rows.c rfl (bvs_get htt HD.out)
      have hg1 : w.heap.size ≠ g := fun e => by have := (HOW.out.rows.pool.lt 6 (g := g) (by rw [HOW.out.rows.c]; rfl)).2; omega
      clear r0 r1 r2 r3 r4 r5 r6 r7 r8
      go_upto_region 5 with fail
      go_region_held3 (fun w' => w'.cell? ⟨ob, 8, none⟩ = some (.slice (some ⟨g, 0, none⟩) s.has.length c8) ∧ w'.cell? ⟨w.heap.size, 1, none⟩ = some (.int .i64 (t : Nat))) (first | exact ⟨q8, q1⟩ | exact ⟨(cell_set_ne (Ne.symm hgo)).trans q8, (cell_set_ne hg1).trans q1⟩) (fail)
      clear q8 q1 z4 y4
      have HF := Lib.hid (HO.put (s' := { s with com := s.com.set t true }) 6 HO.rows.c rfl t (.bool true) ⟨(up_ne _ _ (by decide)).trans HO.rows.d, (up_ne _ _ (by decide)).trans HO.rows.m, (up_ne _ _ (by decide)).trans HO.rows.t, (up_ne _ _ (by decide)).trans HO.rows.h, (up_ne _ _ (by decide)).trans HO.rows.r, (up_ne _ _ (by decide)).trans HO.rows.p, by rw [up_self, bvs_set], (up_ne _ _ (by decide)).trans HO.box⟩ rfl HO.rows.rt HO.rows.rp ⟨HO.rows.ok.lm, HO.rows.ok.lt, HO.rows.ok.lr, HO.rows.ok.lp, by simp [HO.rows.ok.lc], HO.rows.ok.few, HO.rows.ok.fewp, HO.rows.ok.slim⟩)
      have HBF := Lib.hid (HB.setCell (p := ⟨g, t, none⟩) hlo4 (.bool true))
      clear HO HB
      go_wp2
      go_ret
      rw [HP.out]
      exact ⟨rfl, ⟨_, _, _, _, _, _, _, _, _, HF.out⟩, HBF.out⟩
end Go.Proofs.Ytmlemichkeomjaa.LedW
