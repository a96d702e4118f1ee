/- The ledger's methods lost and end walked. -/
import Derived.Test.YtmlemichkeomjaaLedM3
set_option linter.unusedVariables false
set_option linter.unusedSimpArgs false
namespace Go.Proofs.Ytmlemichkeomjaa.LedW
open Go.RowKit Go.Proofs.Ytmlemichkeomjaa.Base Go.Proofs.Ytmlemichkeomjaa.MendW Go.Proofs.Ytmlemichkeomjaa.ManP Go.Proofs.Ytmlemichkeomjaa.ManW Go.Proofs.Ytmlemichkeomjaa.LedP
theorem cell_drew (w : World) (a : Addr) : w.drew.cell? a = w.cell? a := rfl
theorem no_safe (B : Nat → Prop) (w : World) : ManB B w noMV noMan := fun w' _ => ManV.no w'
set_option maxRecDepth 100000 in
set_option maxHeartbeats 4000000 in
theorem lost_any (ob lo : Nat) (s : LS) (r : LR) (mt ma : Int) (B2 : Option Addr) (n2 d2 : Nat) (B3 : Option Addr) (n3 d3 : Nat) (B4 : Option Addr) (n4 d4 : Nat) (t : Nat) (w : World) (h : Own w lo ob s) (hlo : lo ≤ w.heap.size) (hn : r.n = (t : Nat)) (ht : t < s.done.length) :
    Calls Try.prog 86 #[.pointer (some ⟨ob, 0, none⟩), .agg #[.int .i64 r.kind, .int .i64 r.n, .int .i64 r.e, .string r.text, .int .i64 mt, .int .i64 ma, .slice B2 n2 d2, .slice B3 n3 d3, .slice B4 n4 d4]] w (MethPost w lo ob (lostP s r)) := by
  obtain ⟨F, v2, v3, v4, v5, v6, v7, v8, vs, HO⟩ := h
  obtain ⟨rk, rn, re, rt, rm⟩ := r
  dsimp only at hn ⊢
  have HN := Lib.hid hn
  have HT := Lib.hid ht
  obtain ⟨P, hP⟩ : ∃ P, P = lostP s ⟨rk, rn, re, rt, rm⟩ := ⟨_, rfl⟩
  rw [← hP]
  have htm : t < s.ms.length := by rw [HO.rows.ok.lm]; exact ht
  unfold lostP at hP
  dsimp only at hP
  rw [hn, Int.toNat_natCast] at hP
  obtain ⟨D, hD⟩ : ∃ D, s.done.getD t false = D := ⟨_, rfl⟩
  rw [hD] at hP
  have HD := Lib.hid hD
  have i0 : (0 : Int) ≤ (t : Int) := by omega
  have i1 : (t : Int) < (s.done.length : Int) := by omega
  clear hn ht hD
  have HOW := Lib.hid HO
  cases D with
  | false =>
    rw [if_pos rfl] at hP
    have HP := Lib.hid hP
    clear hP
    go_enter Try.func86, Try.ntmps86
    go_upto_region 1 with fail
    have HR := RecBox.mk' w rk rn re rt mt ma B2 n2 d2 B3 n3 d3 B4 n4 d4
    have hB := (Below.refl w.heap.size w).alloc (Nat.le_refl _) (.cells #[.int .i64 rk, .int .i64 rn, .int .i64 re, .string rt, .int .i64 mt, .int .i64 ma, .slice B2 n2 d2, .slice B3 n3 d3, .slice B4 n4 d4] 53)
    generalize w.alloc (.cells #[.int .i64 rk, .int .i64 rn, .int .i64 re, .string rt, .int .i64 mt, .int .i64 ma, .slice B2 n2 d2, .slice B3 n3 d3, .slice B4 n4 d4] 53) = W at HR hB ⊢
    replace HO := HO.below hB
    have HB := hB.mono hlo
    obtain ⟨r0, r1, r2, r3, r4, r5, r6, r7, r8⟩ := HR
    rw [HN.out] at r1
    obtain ⟨g, c, e2, gc, _, hgo, _⟩ := HO.at_row 0 (by decide) HO.rows.d HT.out
    subst e2
    have gD := gc _ (bvs_get HT.out HD.out)
    have p2 := HO.field (j := 2) rfl
    clear gc
    go_quiet (fail)
    go_wp2
    go_ret
    rw [HP.out]
    exact ⟨rfl, ⟨_, _, _, _, _, _, _, _, _, HO.below (below_drewN (Below.refl _ _) _)⟩, below_drewN HB _⟩
  | true =>
    rw [if_neg (by decide)] at hP
    have HP := Lib.hid hP
    clear hP
    go_enter Try.func86, Try.ntmps86
    go_upto_region 1 with fail
    have HR := RecBox.mk' w rk rn re rt mt ma B2 n2 d2 B3 n3 d3 B4 n4 d4
    have hB := (Below.refl w.heap.size w).alloc (Nat.le_refl _) (.cells #[.int .i64 rk, .int .i64 rn, .int .i64 re, .string rt, .int .i64 mt, .int .i64 ma, .slice B2 n2 d2, .slice B3 n3 d3, .slice B4 n4 d4] 53)
    generalize w.alloc (.cells #[.int .i64 rk, .int .i64 rn, .int .i64 re, .string rt, .int .i64 mt, .int .i64 ma, .slice B2 n2 d2, .slice B3 n3 d3, .slice B4 n4 d4] 53) = W at HR hB ⊢
    replace HO := HO.below hB
    have HB := hB.mono hlo
    obtain ⟨r0, r1, r2, r3, r4, r5, r6, r7, r8⟩ := HR
    rw [HN.out] at r1
    obtain ⟨g, c, e2, gc, _, hgo, hlo4, hlt4⟩ := HO.at_row 0 (by decide) HO.rows.d HT.out
    subst e2
    have gD := gc _ (bvs_get HT.out HD.out)
    have p2 := HO.field (j := 2) rfl
    clear gc
    go_quiet (fail)
    generalize hW2 : World.drewN W _ = W2
    have hd : Below W.heap.size W W2 := by rw [← hW2]; exact below_drewN (Below.refl _ _) _
    clear hW2 gD p2
    replace HO := HO.below hd
    replace HB := bt HB (Nat.le_trans hlo4 (Nat.le_of_lt hlt4)) hd
    obtain ⟨g6, c6, e6⟩ := HO.rows.pool.some 1 HO.rows.m (by have := HT.out; omega)
    subst e6
    have hlo6 := (HO.rows.pool.lt 1 (g := g6) (by rw [HO.rows.m]; rfl)).1
    have hgo6 : g6 ≠ ob := fun e => absurd (HO.rows.pool.ne 1 7 g6 (by rw [HO.rows.m]; rfl) (by rw [HO.box, e]; rfl)) (by decide)
    have q2 : W2.cell? ⟨ob, 2, none⟩ = some (.slice (some ⟨g, 0, none⟩) s.done.length c) := HO.field (j := 2) rfl
    have q3 : W2.cell? ⟨ob, 3, none⟩ = some (.slice (some ⟨g6, 0, none⟩) s.done.length c6) := HO.field (j := 3) rfl
    have q1 : W2.cell? ⟨w.heap.size, 1, none⟩ = some (.int .i64 (t : Nat)) := cell_below hd r1
    have z5 := HO.rows.pool.free 0 HO.rows.d rfl t
    have y5 := HO.rows.pool.cell 0 HO.rows.d rfl (bvs_get HT.out HD.out)
    have hg1 : w.heap.size ≠ g := fun e => by have := (HOW.out.rows.pool.lt 0 (g := g) (by rw [HOW.out.rows.d]; rfl)).2; omega
    have hg2 : w.heap.size ≠ g6 := fun e => by have := (HOW.out.rows.pool.lt 1 (g := g6) (by rw [HOW.out.rows.m]; rfl)).2; omega
    have hg3 : g6 ≠ g := fun e => absurd (HO.rows.pool.ne 1 0 g (by rw [HO.rows.m, e]; rfl) (by rw [HO.rows.d]; rfl)) (by decide)
    have HF1 := HO.put (s' := { s with done := s.done.set t false }) 0 HO.rows.d rfl t (.bool false) ⟨by rw [up_self, bvs_set]; simp, ((up_ne _ _ (by decide)).trans HO.rows.m).trans (by simp), ((up_ne _ _ (by decide)).trans HO.rows.t).trans (by simp), (up_ne _ _ (by decide)).trans HO.rows.h, (up_ne _ _ (by decide)).trans HO.rows.r, (up_ne _ _ (by decide)).trans HO.rows.p, (up_ne _ _ (by decide)).trans HO.rows.c, (up_ne _ _ (by decide)).trans HO.box⟩ rfl HO.rows.rt HO.rows.rp ⟨by simp [HO.rows.ok.lm], by simp [HO.rows.ok.lt], HO.rows.ok.lr, HO.rows.ok.lp, HO.rows.ok.lc, by simpa using HO.rows.ok.few, HO.rows.ok.fewp, HO.rows.ok.slim⟩
    have hvv : (Value.slice (some ⟨g6, 0, none⟩) s.done.length c6) = .slice (some ⟨g6, 0, none⟩) ({ s with done := s.done.set t false } : LS).done.length c6 := by simp
    have hfin : OwnS ((((((W2.setCell ⟨g, t, none⟩ (.bool false)).setCell ⟨g6, t * 5, none⟩ (.int .i64 0)).setCell ⟨g6, t * 5 + 1, none⟩ (.int .i64 0)).setCell ⟨g6, t * 5 + 2, none⟩ (.slice none 0 0)).setCell ⟨g6, t * 5 + 3, none⟩ (.slice none 0 0)).setCell ⟨g6, t * 5 + 4, none⟩ (.slice none 0 0)) lo ob _ _ _ _ _ _ _ _ _ _ := HF1.put_man (m := noMan) (v := noMV) hvv (k := t) htm (no_safe _ _) slim_no
    have HF := Lib.hid (hfin.below ((Below.refl _ _).drew))
    clear hfin
    have HF1H := Lib.hid HF1
    have hcell : ∀ q (hq : q < 5), ∃ u, (W2.setCell ⟨g, t, none⟩ (.bool false)).cell? ⟨g6, t * 5 + q, none⟩ = some u := fun q hq => by
      obtain ⟨u, hu⟩ : ∃ u, (mcells s.ms[t] (vs t))[q]? = some u := ⟨_, List.getElem?_eq_getElem (show q < 5 from hq)⟩
      exact ⟨u, HF1H.out.rows.pool_cell hvv (k := t) htm hq hu⟩
    obtain ⟨u0, y0⟩ := hcell 0 (by omega)
    obtain ⟨u1, y1⟩ := hcell 1 (by omega)
    obtain ⟨u2, y2⟩ := hcell 2 (by omega)
    obtain ⟨u3, y3⟩ := hcell 3 (by omega)
    obtain ⟨u4, y4⟩ := hcell 4 (by omega)
    rw [Nat.add_zero] at y0
    have z0 : (W2.setCell ⟨g, t, none⟩ (.bool false)).frozen? ⟨g6, t * 5, none⟩ = false := HF1H.out.rows.pool.free 1 HF1H.out.rows.m hvv (t * 5)
    have z1 : (W2.setCell ⟨g, t, none⟩ (.bool false)).frozen? ⟨g6, t * 5 + 1, none⟩ = false := HF1H.out.rows.pool.free 1 HF1H.out.rows.m hvv (t * 5 + 1)
    have z2 : (W2.setCell ⟨g, t, none⟩ (.bool false)).frozen? ⟨g6, t * 5 + 2, none⟩ = false := HF1H.out.rows.pool.free 1 HF1H.out.rows.m hvv (t * 5 + 2)
    have z3 : (W2.setCell ⟨g, t, none⟩ (.bool false)).frozen? ⟨g6, t * 5 + 3, none⟩ = false := HF1H.out.rows.pool.free 1 HF1H.out.rows.m hvv (t * 5 + 3)
    have z4 : (W2.setCell ⟨g, t, none⟩ (.bool false)).frozen? ⟨g6, t * 5 + 4, none⟩ = false := HF1H.out.rows.pool.free 1 HF1H.out.rows.m hvv (t * 5 + 4)
    have HBF := Lib.hid ((((((HB.setCell (p := ⟨g, t, none⟩) hlo4 (.bool false)).setCell (p := ⟨g6, t * 5, none⟩) hlo6 (.int .i64 0)).setCell (p := ⟨g6, t * 5 + 1, none⟩) hlo6 (.int .i64 0)).setCell (p := ⟨g6, t * 5 + 2, none⟩) hlo6 (.slice none 0 0)).setCell (p := ⟨g6, t * 5 + 3, none⟩) hlo6 (.slice none 0 0)).setCell (p := ⟨g6, t * 5 + 4, none⟩) hlo6 (.slice none 0 0)).drew
    have hk0 : ∀ {a : Addr} {u : Value}, W2.cell? a = some u → W2.drew.cell? a = some u := fun h => h
    have hk1 : ∀ {j : Nat} {u : Value}, W2.cell? ⟨ob, j, none⟩ = some u → (W2.setCell ⟨g, t, none⟩ (.bool false)).drew.cell? ⟨ob, j, none⟩ = some u := fun h => (cell_set_ne (Ne.symm hgo)).trans h
    have hk3 : ∀ {j : Nat} {u : Value}, W2.cell? ⟨w.heap.size, j, none⟩ = some u → (W2.setCell ⟨g, t, none⟩ (.bool false)).drew.cell? ⟨w.heap.size, j, none⟩ = some u := fun h => (cell_set_ne hg1).trans h
    have hk2 : ∀ {j : Nat} {u : Value}, W2.cell? ⟨ob, j, none⟩ = some u → ((((((W2.setCell ⟨g, t, none⟩ (.bool false)).setCell ⟨g6, t * 5, none⟩ (.int .i64 0)).setCell ⟨g6, t * 5 + 1, none⟩ (.int .i64 0)).setCell ⟨g6, t * 5 + 2, none⟩ (.slice none 0 0)).setCell ⟨g6, t * 5 + 3, none⟩ (.slice none 0 0)).setCell ⟨g6, t * 5 + 4, none⟩ (.slice none 0 0)).drew.cell? ⟨ob, j, none⟩ = some u := fun h => by
      rw [cell_drew, cell_set_ne (Ne.symm hgo6), cell_set_ne (Ne.symm hgo6), cell_set_ne (Ne.symm hgo6), cell_set_ne (Ne.symm hgo6), cell_set_ne (Ne.symm hgo6), cell_set_ne (Ne.symm hgo)]; exact h
    have hk4 : ∀ {j : Nat} {u : Value}, W2.cell? ⟨w.heap.size, j, none⟩ = some u → ((((((W2.setCell ⟨g, t, none⟩ (.bool false)).setCell ⟨g6, t * 5, none⟩ (.int .i64 0)).setCell ⟨g6, t * 5 + 1, none⟩ (.int .i64 0)).setCell ⟨g6, t * 5 + 2, none⟩ (.slice none 0 0)).setCell ⟨g6, t * 5 + 3, none⟩ (.slice none 0 0)).setCell ⟨g6, t * 5 + 4, none⟩ (.slice none 0 0)).drew.cell? ⟨w.heap.size, j, none⟩ = some u := fun h => by
      rw [cell_drew, cell_set_ne hg2, cell_set_ne hg2, cell_set_ne hg2, cell_set_ne hg2, cell_set_ne hg2, cell_set_ne hg1]; exact h
    clear r0 r1 r2 r3 r4 r5 r6 r7 r8 HF1 HO HB hcell hvv
    go_upto_region 3 with fail
    go_region_held3 (fun w' => w'.cell? ⟨ob, 2, none⟩ = some (.slice (some ⟨g, 0, none⟩) s.done.length c) ∧ w'.cell? ⟨ob, 3, none⟩ = some (.slice (some ⟨g6, 0, none⟩) s.done.length c6) ∧ w'.cell? ⟨w.heap.size, 1, none⟩ = some (.int .i64 (t : Nat)))
      (first | with_reducible exact ⟨q2, q3, q1⟩ | with_reducible exact ⟨hk0 q2, hk0 q3, hk0 q1⟩ | with_reducible exact ⟨hk1 q2, hk1 q3, hk3 q1⟩ | with_reducible exact ⟨hk2 q2, hk2 q3, hk4 q1⟩) (fail)
    clear q2 q3 q1 z5 y5 y0 y1 y2 y3 y4 z0 z1 z2 z3 z4
    go_wp2
    go_ret
    rw [HP.out]
    exact ⟨rfl, ⟨_, _, _, _, _, _, _, _, _, HF.out⟩, HBF.out⟩
end Go.Proofs.Ytmlemichkeomjaa.LedW
