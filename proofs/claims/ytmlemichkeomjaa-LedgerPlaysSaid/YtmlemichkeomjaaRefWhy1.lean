/- stookref20.Why walked: a manifest; and whole. -/
import Derived.Test.YtmlemichkeomjaaRefWhy
set_option linter.unusedVariables false
set_option linter.unusedSimpArgs false
namespace Go.Proofs.Ytmlemichkeomjaa.LedW
open Go.RowKit Go.Proofs.Ytmlemichkeomjaa.Base Go.Proofs.Ytmlemichkeomjaa.MendW Go.Proofs.Ytmlemichkeomjaa.ManP Go.Proofs.Ytmlemichkeomjaa.ManW Go.Proofs.Ytmlemichkeomjaa.LedP
section
variable (y : RV) (s : LS) (rk rn re : Int) (rt : ByteArray) (m : Man) (v : MV) (w : World)
set_option maxRecDepth 100000 in
set_option maxHeartbeats 8000000 in
theorem why1 (h : RefW w y s) (hv : ManV w v m) (hs : Slim m) (nb : ¬ badR ⟨rk, rn, re, rt, m⟩) (hf : s.fin = 0) (hT : TaskOk s) (hk : rk = 1) : Calls Try.prog 23 #[.agg #[.int .i64 s.n, .int .i64 s.ep, .int .i64 s.fin, .int .i64 s.er, .slice y.B s.done.length y.cb, .slice y.C s.has.length y.cc], .agg #[.int .i64 rk, .int .i64 rn, .int .i64 re, .string rt, .int .i64 m.task, .int .i64 m.att, .slice v.A2 m.sz.length v.c2, .slice v.A3 m.sm.length v.c3, .slice v.A4 m.hm.length v.c4]] w (fun e w' => e = .returned (.int .i64 ((applyP s ⟨rk, rn, re, rt, m⟩).2 : Nat)) ∧ Below w.heap.size w w') := by
  subst hk
  have HH := Lib.hid h
  have HM := Lib.hid hv
  have HS := Lib.hid hs
  have fd := h.ok.few
  have fp := h.ok.fewp
  obtain ⟨N, hN⟩ : ∃ N, N = (applyP s ⟨1, rn, re, rt, m⟩).2 := ⟨_, rfl⟩
  rw [← hN]
  clear h hv hs
  have HT := Lib.hid hT
  have kk := nb
  unfold badR at kk
  dsimp only at kk
  have t2 : decide (re < 0) = false := by simp; omega
  have t3 : decide (255 < re) = false := by simp; omega
  have t4 : decide (rn < 0) = false := by simp; omega
  have t5 : decide (2147483647 < rn) = false := by simp; omega
  rw [why_pre nb (show (1 : Int) ≠ 0 from by decide) hf] at hN
  have tf : (s.fin != 0) = false := by simp [hf]
  rw [if_neg (fun hc => absurd hc.1 (show ¬ ((0 : Int) ≤ -1) from by decide)), show methP s ⟨1, rn, re, rt, m⟩ = doneP s ⟨1, rn, re, rt, m⟩ from rfl] at hN
  unfold doneP at hN
  dsimp only at hN
  clear nb hf kk hT
  go_enter Try.func23, Try.ntmps23
  go_upto_region 1 with fail
  have hA := heap_alloc_new w (.cells #[.int .i64 s.n, .int .i64 s.ep, .int .i64 s.fin, .int .i64 s.er, .slice y.B s.done.length y.cb, .slice y.C s.has.length y.cc] 48)
  have HB := (Below.refl w.heap.size w).alloc (Nat.le_refl _) (.cells #[.int .i64 s.n, .int .i64 s.ep, .int .i64 s.fin, .int .i64 s.er, .slice y.B s.done.length y.cb, .slice y.C s.has.length y.cc] 48)
  have hz := World.size_alloc w (.cells #[.int .i64 s.n, .int .i64 s.ep, .int .i64 s.fin, .int .i64 s.er, .slice y.B s.done.length y.cb, .slice y.C s.has.length y.cc] 48)
  generalize w.alloc (.cells #[.int .i64 s.n, .int .i64 s.ep, .int .i64 s.fin, .int .i64 s.er, .slice y.B s.done.length y.cb, .slice y.C s.has.length y.cc] 48) = W0 at hA HB hz ⊢
  have hA2 := heap_alloc_new W0 (.cells #[.int .i64 1, .int .i64 rn, .int .i64 re, .string rt, .int .i64 m.task, .int .i64 m.att, .slice v.A2 m.sz.length v.c2, .slice v.A3 m.sm.length v.c3, .slice v.A4 m.hm.length v.c4] 56)
  have d1 := (Below.refl W0.heap.size W0).alloc (Nat.le_refl _) (.cells #[.int .i64 1, .int .i64 rn, .int .i64 re, .string rt, .int .i64 m.task, .int .i64 m.att, .slice v.A2 m.sz.length v.c2, .slice v.A3 m.sm.length v.c3, .slice v.A4 m.hm.length v.c4] 56)
  generalize W0.alloc (.cells #[.int .i64 1, .int .i64 rn, .int .i64 re, .string rt, .int .i64 m.task, .int .i64 m.att, .slice v.A2 m.sz.length v.c2, .slice v.A3 m.sm.length v.c3, .slice v.A4 m.hm.length v.c4] 56) = W at hA2 d1 ⊢
  replace hA := (d1.block _ (by omega)).trans hA
  replace HB := bt HB HB.size d1
  rw [hz] at hA2
  have S0 : W.cell? ⟨w.heap.size, 0, none⟩ = some (.int .i64 s.n) := by rw [cell_of_row _ _ _ _ _ _ hA]; rfl
  have S1 : W.cell? ⟨w.heap.size, 1, none⟩ = some (.int .i64 s.ep) := by rw [cell_of_row _ _ _ _ _ _ hA]; rfl
  have S2 : W.cell? ⟨w.heap.size, 2, none⟩ = some (.int .i64 s.fin) := by rw [cell_of_row _ _ _ _ _ _ hA]; rfl
  have S3 : W.cell? ⟨w.heap.size, 3, none⟩ = some (.int .i64 s.er) := by rw [cell_of_row _ _ _ _ _ _ hA]; rfl
  have S4 : W.cell? ⟨w.heap.size, 4, none⟩ = some (.slice y.B s.done.length y.cb) := by rw [cell_of_row _ _ _ _ _ _ hA]; rfl
  have S5 : W.cell? ⟨w.heap.size, 5, none⟩ = some (.slice y.C s.has.length y.cc) := by rw [cell_of_row _ _ _ _ _ _ hA]; rfl
  have R0 : W.cell? ⟨w.heap.size + 1, 0, none⟩ = some (.int .i64 1) := by rw [cell_of_row _ _ _ _ _ _ hA2]; rfl
  have R1 : W.cell? ⟨w.heap.size + 1, 1, none⟩ = some (.int .i64 rn) := by rw [cell_of_row _ _ _ _ _ _ hA2]; rfl
  have R2 : W.cell? ⟨w.heap.size + 1, 2, none⟩ = some (.int .i64 re) := by rw [cell_of_row _ _ _ _ _ _ hA2]; rfl
  have R3 : W.cell? ⟨w.heap.size + 1, 3, none⟩ = some (.string rt) := by rw [cell_of_row _ _ _ _ _ _ hA2]; rfl
  have R4 : W.cell? ⟨w.heap.size + 1, 4, none⟩ = some (.int .i64 m.task) := by rw [cell_of_row _ _ _ _ _ _ hA2]; rfl
  have R5 : W.cell? ⟨w.heap.size + 1, 5, none⟩ = some (.int .i64 m.att) := by rw [cell_of_row _ _ _ _ _ _ hA2]; rfl
  have R6 : W.cell? ⟨w.heap.size + 1, 6, none⟩ = some (.slice v.A2 m.sz.length v.c2) := by rw [cell_of_row _ _ _ _ _ _ hA2]; rfl
  have R7 : W.cell? ⟨w.heap.size + 1, 7, none⟩ = some (.slice v.A3 m.sm.length v.c3) := by rw [cell_of_row _ _ _ _ _ _ hA2]; rfl
  have R8 : W.cell? ⟨w.heap.size + 1, 8, none⟩ = some (.slice v.A4 m.hm.length v.c4) := by rw [cell_of_row _ _ _ _ _ _ hA2]; rfl
  clear hA hA2 d1 hz
  have HW0 := Lib.hid (HH.out.below HB)
  have HV0 := Lib.hid (HM.out.below HB)
  go_upto_region 12 with (go_at_call 52; (with_reducible refine (count_any y s _ HW0.out).mono ?_); rintro e w3 ⟨rfl, hd⟩; replace S0 := cell_below hd S0; replace S1 := cell_below hd S1; replace S2 := cell_below hd S2; replace S3 := cell_below hd S3; replace S4 := cell_below hd S4; replace S5 := cell_below hd S5; replace R0 := cell_below hd R0; replace R1 := cell_below hd R1; replace R2 := cell_below hd R2; replace R3 := cell_below hd R3; replace R4 := cell_below hd R4; replace R5 := cell_below hd R5; replace R6 := cell_below hd R6; replace R7 := cell_below hd R7; replace R8 := cell_below hd R8; replace HB := HB.trans (hd.mono HB.size); have HW := Lib.hid (HW0.out.below hd); have HV := Lib.hid (HV0.out.below hd); clear hd)
  clear HW0 HV0
  have KR := Lib.hid (fun W h => right16_any m v s.has.length s.n W h HS.out)
  obtain ⟨Q, hQ⟩ : ∃ Q, Q = right m s.has.length s.n := ⟨_, rfl⟩
  have hri := right_iff (m := m) (parts := s.has.length) (n := s.n)
  rw [← hQ] at KR hN hri
  clear hQ
  cases Q with
  | false =>
    rw [if_pos (.inl rfl)] at hN
    have HN := Lib.hid (show N = 1 from hN)
    clear hN hri
    go_wp2_with (go_at_call 53; (with_reducible refine (KR.out _ HV.out).mono ?_); rintro e w4 ⟨rfl, hd⟩; replace S0 := cell_below hd S0; replace S1 := cell_below hd S1; replace S2 := cell_below hd S2; replace S3 := cell_below hd S3; replace S4 := cell_below hd S4; replace S5 := cell_below hd S5; replace R0 := cell_below hd R0; replace R1 := cell_below hd R1; replace R2 := cell_below hd R2; replace R3 := cell_below hd R3; replace R4 := cell_below hd R4; replace R5 := cell_below hd R5; replace R6 := cell_below hd R6; replace R7 := cell_below hd R7; replace R8 := cell_below hd R8; replace HB := HB.trans (hd.mono HB.size); have HX := Lib.hid (HW.out.below hd); have HY := Lib.hid (HV.out.below hd); clear hd)
    go_ret
    exact ⟨by rw [HN.out]; rfl, HB⟩
  | true =>
    obtain ⟨⟨ht0, _⟩, _⟩ := hri.1 rfl
    clear hri
    obtain ⟨mt, ma, msz, msm, mhm⟩ := m
    dsimp only at *
    obtain ⟨t, rfl⟩ := Int.eq_ofNat_of_zero_le ht0
    rw [Int.toNat_natCast] at hN
    by_cases hl : (s.done.length : Int) ≤ (t : Int)
    · rw [if_pos (.inr hl)] at hN
      have HN := Lib.hid (show N = 1 from hN)
      clear hN
      go_wp2_with (go_at_call 53; (with_reducible refine (KR.out _ HV.out).mono ?_); rintro e w4 ⟨rfl, hd⟩; replace S0 := cell_below hd S0; replace S1 := cell_below hd S1; replace S2 := cell_below hd S2; replace S3 := cell_below hd S3; replace S4 := cell_below hd S4; replace S5 := cell_below hd S5; replace R0 := cell_below hd R0; replace R1 := cell_below hd R1; replace R2 := cell_below hd R2; replace R3 := cell_below hd R3; replace R4 := cell_below hd R4; replace R5 := cell_below hd R5; replace R6 := cell_below hd R6; replace R7 := cell_below hd R7; replace R8 := cell_below hd R8; replace HB := HB.trans (hd.mono HB.size); have HX := Lib.hid (HW.out.below hd); have HY := Lib.hid (HV.out.below hd); clear hd)
      go_ret
      exact ⟨by rw [HN.out]; rfl, HB⟩
    rw [if_neg (fun h => h.elim (fun h => by cases h) hl)] at hN
    have htl : t < s.done.length := by omega
    have i0 : (0 : Int) ≤ (t : Int) := by omega
    have i1 : (t : Int) < (s.done.length : Int) := by omega
    go_upto_region 16 with (go_at_call 53; (with_reducible refine (KR.out _ HV.out).mono ?_); rintro e w4 ⟨rfl, hd⟩; replace S0 := cell_below hd S0; replace S1 := cell_below hd S1; replace S2 := cell_below hd S2; replace S3 := cell_below hd S3; replace S4 := cell_below hd S4; replace S5 := cell_below hd S5; replace R0 := cell_below hd R0; replace R1 := cell_below hd R1; replace R2 := cell_below hd R2; replace R3 := cell_below hd R3; replace R4 := cell_below hd R4; replace R5 := cell_below hd R5; replace R6 := cell_below hd R6; replace R7 := cell_below hd R7; replace R8 := cell_below hd R8; replace HB := HB.trans (hd.mono HB.size); have HX := Lib.hid (HW.out.below hd); have HY := Lib.hid (HV.out.below hd); clear hd)
    obtain ⟨b, off, eB, g0, g1, g2, g3, g4, g5, g6⟩ := HX.out.task (t := t) htl
    rw [eB] at S4
    clear eB
    have hmt := Lib.hid (HX.out.man t htl)
    have hst := Lib.hid (Ok.get HH.out.ok t)
    have htk := Lib.hid (HT.out t htl)
    generalize s.done.getD t false = D at g0 hN htk
    generalize s.te.getD t 0 = E at g6 hN
    generalize s.ms.getD t noMan = o at g1 g2 g3 g4 g5 hN hmt hst htk
    generalize y.vs t = u at g3 g4 g5 hmt
    go_upto_region 17 with fail
    have hA := heap_alloc_new w4 (.cells #[.bool D, .int .i64 o.task, .int .i64 o.att, .slice u.A2 o.sz.length u.c2, .slice u.A3 o.sm.length u.c3, .slice u.A4 o.hm.length u.c4, .int .i64 E] 106)
    have hd := (Below.refl w4.heap.size w4).alloc (Nat.le_refl _) (.cells #[.bool D, .int .i64 o.task, .int .i64 o.att, .slice u.A2 o.sz.length u.c2, .slice u.A3 o.sm.length u.c3, .slice u.A4 o.hm.length u.c4, .int .i64 E] 106)
    have hz := World.size_alloc w4 (.cells #[.bool D, .int .i64 o.task, .int .i64 o.att, .slice u.A2 o.sz.length u.c2, .slice u.A3 o.sm.length u.c3, .slice u.A4 o.hm.length u.c4, .int .i64 E] 106)
    obtain ⟨tb, htb⟩ : ∃ n, n = w4.heap.size := ⟨_, rfl⟩
    rw [← htb] at hA hz ⊢
    have hmv := Lib.hid (HY.out.below hd)
    replace hmt := Lib.hid (hmt.out.below hd)
    replace R4 := cell_below hd R4
    replace R5 := cell_below hd R5
    replace R6 := cell_below hd R6
    replace R7 := cell_below hd R7
    replace R8 := cell_below hd R8
    replace HB := HB.trans (hd.mono HB.size)
    clear S0 S1 S2 S3 S4 S5 R0 R1 R2 R3 g0 g1 g2 g3 g4 g5 g6 hd htb HX HY KR HW HV HH HM
    generalize w4.alloc (.cells #[.bool D, .int .i64 o.task, .int .i64 o.att, .slice u.A2 o.sz.length u.c2, .slice u.A3 o.sm.length u.c3, .slice u.A4 o.hm.length u.c4, .int .i64 E] 106) = w5 at hA hz hmv hmt R4 R5 R6 R7 R8 HB ⊢
    have q0 : w5.cell? ⟨tb, 0, none⟩ = some (.bool D) := by rw [cell_of_row _ _ _ _ _ _ hA]; rfl
    have q1 : w5.cell? ⟨tb, 1, none⟩ = some (.int .i64 o.task) := by rw [cell_of_row _ _ _ _ _ _ hA]; rfl
    have q2 : w5.cell? ⟨tb, 2, none⟩ = some (.int .i64 o.att) := by rw [cell_of_row _ _ _ _ _ _ hA]; rfl
    have q3 : w5.cell? ⟨tb, 3, none⟩ = some (.slice u.A2 o.sz.length u.c2) := by rw [cell_of_row _ _ _ _ _ _ hA]; rfl
    have q4 : w5.cell? ⟨tb, 4, none⟩ = some (.slice u.A3 o.sm.length u.c3) := by rw [cell_of_row _ _ _ _ _ _ hA]; rfl
    have q5 : w5.cell? ⟨tb, 5, none⟩ = some (.slice u.A4 o.hm.length u.c4) := by rw [cell_of_row _ _ _ _ _ _ hA]; rfl
    have q6 : w5.cell? ⟨tb, 6, none⟩ = some (.int .i64 E) := by rw [cell_of_row _ _ _ _ _ _ hA]; rfl
    clear hA
    by_cases hE : E = 0
    rotate_left
    · rw [if_pos (.inl hE)] at hN
      have tE : (E != 0) = true := by simpa using hE
      clear hE
      have HN := Lib.hid (show N = 18 from hN)
      clear hN
      go_wp2
      go_ret
      exact ⟨by rw [HN.out]; rfl, HB⟩
    have tE : (E != 0) = false := by simp [hE]
    subst hE
    cases D with
    | false =>
      rw [if_neg (by rintro (h | h) <;> first | exact h rfl | exact absurd h.1 (by decide))] at hN
      have HN := Lib.hid (show N = 0 from hN)
      clear hN
      go_wp2
      go_ret
      exact ⟨by rw [HN.out]; rfl, HB⟩
    | true =>
      have htk2 := Lib.hid (htk.out rfl)
      go_upto_region 21 with fail
      have hA := heap_alloc_new w5 (.cells #[.int .i64 (t : Nat), .int .i64 ma, .slice v.A2 msz.length v.c2, .slice v.A3 msm.length v.c3, .slice v.A4 mhm.length v.c4] 26)
      have hd := (Below.refl w5.heap.size w5).alloc (Nat.le_refl _) (.cells #[.int .i64 (t : Nat), .int .i64 ma, .slice v.A2 msz.length v.c2, .slice v.A3 msm.length v.c3, .slice v.A4 mhm.length v.c4] 26)
      have hd7 := hd.setCell (p := ⟨tb + 1, 4, none⟩) (by show w5.heap.size ≤ tb + 1; omega) (.slice u.A4 o.hm.length u.c4)
      have z1 := cell_below hd q1
      have z2 := cell_below hd q2
      have z3 := cell_below hd q3
      have z4 := cell_below hd q4
      have z5 := cell_below hd q5
      rw [hz] at hA
      have zf : (w5.alloc (.cells #[.int .i64 (t : Nat), .int .i64 ma, .slice v.A2 msz.length v.c2, .slice v.A3 msm.length v.c3, .slice v.A4 mhm.length v.c4] 26)).frozen? ⟨tb + 1, 4, none⟩ = false := Lib.frozen_of_heap hA 4
      clear R4 R5 R6 R7 R8
      generalize w5.alloc (.cells #[.int .i64 (t : Nat), .int .i64 ma, .slice v.A2 msz.length v.c2, .slice v.A3 msm.length v.c3, .slice v.A4 mhm.length v.c4] 26) = w6 at hA hd7 z1 z2 z3 z4 z5 zf ⊢
      have zc : w6.cell? ⟨tb + 1, 4, none⟩ = some (.slice v.A4 mhm.length v.c4) := by rw [cell_of_row _ _ _ _ _ _ hA]; rfl
      go_upto_region 22 with fail
      have hA7 : (w6.setCell ⟨tb + 1, 4, none⟩ (.slice u.A4 o.hm.length u.c4)).heap[tb + 1]? = some (.cells #[.int .i64 (t : Nat), .int .i64 ma, .slice v.A2 msz.length v.c2, .slice v.A3 msm.length v.c3, .slice u.A4 o.hm.length u.c4] 26 (0, 0)) := by
        unfold World.setCell
        simp only [Array.getElem?_modify, if_true, hA, Option.map_some]
        rfl
      clear z1 z2 z3 z4 z5 zf zc hA hd
      generalize w6.setCell ⟨tb + 1, 4, none⟩ (.slice u.A4 o.hm.length u.c4) = w7 at hA7 hd7 ⊢
      replace q1 := cell_below hd7 q1
      replace q2 := cell_below hd7 q2
      replace q3 := cell_below hd7 q3
      replace q4 := cell_below hd7 q4
      replace q5 := cell_below hd7 q5
      replace HB := HB.trans (hd7.mono HB.size)
      have z0 : w7.cell? ⟨tb + 1, 0, none⟩ = some (.int .i64 (t : Nat)) := by rw [cell_of_row _ _ _ _ _ _ hA7]; rfl
      have z1 : w7.cell? ⟨tb + 1, 1, none⟩ = some (.int .i64 ma) := by rw [cell_of_row _ _ _ _ _ _ hA7]; rfl
      have z2 : w7.cell? ⟨tb + 1, 2, none⟩ = some (.slice v.A2 msz.length v.c2) := by rw [cell_of_row _ _ _ _ _ _ hA7]; rfl
      have z3 : w7.cell? ⟨tb + 1, 3, none⟩ = some (.slice v.A3 msm.length v.c3) := by rw [cell_of_row _ _ _ _ _ _ hA7]; rfl
      have z4 : w7.cell? ⟨tb + 1, 4, none⟩ = some (.slice u.A4 o.hm.length u.c4) := by rw [cell_of_row _ _ _ _ _ _ hA7]; rfl
      have hm7 := hmv.out.below hd7
      have ho7 := hmt.out.below hd7
      have KS := Lib.hid (same16_any ⟨(t : Nat), ma, msz, msm, o.hm⟩ o ⟨v.A2, v.c2, v.A3, v.c3, u.A4, u.c4⟩ u w7 ⟨⟨hm7.man.i2, hm7.man.l2, hm7.man.i3, hm7.man.l3, ho7.man.i4, ho7.man.l4⟩, hm7.rt, hm7.ra⟩ ho7 ⟨HS.out.sz, HS.out.sm, hst.out.hm, hst.out.row⟩ hst.out)
      dsimp only at KS
      clear hA7 hd7 hm7 ho7 hmv hmt q0 q6
      by_cases hEq : (⟨(t : Nat), ma, msz, msm, o.hm⟩ : Man) = o
      · rw [sameD_yes hEq] at KS
        have e1 : o.att = ma := by rw [← hEq]
        have e2 : o.sz = msz := by rw [← hEq]
        have e3 : o.sm = msm := by rw [← hEq]
        rw [if_neg (by rintro (h | ⟨_, h | h | h⟩); exact h rfl; exact h e1; exact h e2; exact h e3)] at hN
        have HN := Lib.hid (show N = 0 from hN)
        clear hN hEq e1 e2 e3
        go_wp2_with (go_at_call 49; (with_reducible refine (KS.out).mono ?_); rintro e w8 ⟨rfl, hd⟩; replace HB := HB.trans (hd.mono HB.size); clear hd)
        go_ret
        exact ⟨by rw [HN.out]; rfl, HB⟩
      · rw [sameD_no hEq] at KS
        rw [if_pos (.inr ⟨rfl, by
          apply Classical.byContradiction
          intro hc
          have f1 : o.att = ma := Classical.byContradiction fun h => hc (.inl h)
          have f2 : o.sz = msz := Classical.byContradiction fun h => hc (.inr (.inl h))
          have f3 : o.sm = msm := Classical.byContradiction fun h => hc (.inr (.inr h))
          exact hEq (man_ext htk2.out.symm f1.symm f2.symm f3.symm rfl)⟩)] at hN
        have HN := Lib.hid (show N = 18 from hN)
        clear hN hEq
        go_wp2_with (go_at_call 49; (with_reducible refine (KS.out).mono ?_); rintro e w8 ⟨rfl, hd⟩; replace HB := HB.trans (hd.mono HB.size); clear hd)
        go_ret
        exact ⟨by rw [HN.out]; rfl, HB⟩
theorem why_any (h : RefW w y s) (hv : ManV w v m) (hs : Slim m) (hT : TaskOk s) : Calls Try.prog 23 #[.agg #[.int .i64 s.n, .int .i64 s.ep, .int .i64 s.fin, .int .i64 s.er, .slice y.B s.done.length y.cb, .slice y.C s.has.length y.cc], .agg #[.int .i64 rk, .int .i64 rn, .int .i64 re, .string rt, .int .i64 m.task, .int .i64 m.att, .slice v.A2 m.sz.length v.c2, .slice v.A3 m.sm.length v.c3, .slice v.A4 m.hm.length v.c4]] w (fun e w' => e = .returned (.int .i64 ((applyP s ⟨rk, rn, re, rt, m⟩).2 : Nat)) ∧ Below w.heap.size w w') := by
  by_cases nb : badR ⟨rk, rn, re, rt, m⟩
  · exact why_first y s rk rn re rt m v w h hv hs (.inl nb)
  by_cases kz : rk = 0
  · exact why_first y s rk rn re rt m v w h hv hs (.inr (.inl kz))
  by_cases hf : s.fin = 0
  · have kk := nb
    unfold badR at kk
    dsimp only at kk
    have hc : rk = 1 ∨ rk = 2 ∨ rk = 3 ∨ rk = 4 ∨ rk = 5 ∨ rk = 6 ∨ rk = 7 := by omega
    rcases hc with hk | hk | hk | hk | hk | hk | hk
    · exact why1 y s rk rn re rt m v w h hv hs nb hf hT hk
    · exact why2 y s rk rn re rt m v w h hv hs nb hf hk
    · exact why3 y s rk rn re rt m v w h hv hs nb hf hk
    · exact why4 y s rk rn re rt m v w h hv hs nb hf hk
    · exact why5 y s rk rn re rt m v w h hv hs nb hf hk
    · exact why6 y s rk rn re rt m v w h hv hs nb hf hk
    · exact why7 y s rk rn re rt m v w h hv hs nb hf hk
  · exact why_first y s rk rn re rt m v w h hv hs (.inr (.inr hf))
end
end Go.Proofs.Ytmlemichkeomjaa.LedW
