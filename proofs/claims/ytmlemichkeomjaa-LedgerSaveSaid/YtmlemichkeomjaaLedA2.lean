/- ledger.Apply walked. -/
import Derived.Test.YtmlemichkeomjaaLedA1
import Derived.Deep.DeepCutAuto
set_option linter.unusedVariables false
set_option linter.unusedSimpArgs false
namespace Go.Proofs.Ytmlemichkeomjaa.LedW
open Go.RowKit Go.Proofs.Ytmlemichkeomjaa.Base Go.Proofs.Ytmlemichkeomjaa.MendW Go.Proofs.Ytmlemichkeomjaa.ManP Go.Proofs.Ytmlemichkeomjaa.ManW Go.Proofs.Ytmlemichkeomjaa.LedP
set_option maxRecDepth 100000 in
set_option maxHeartbeats 4000000 in
theorem apply_any (A2 A3 A4 A5 A6 A7 A8 : Option Addr) (c2 c3 c4 c5 c6 c7 c8 : Nat) (vs : Nat → MV) (s : LS) (r : LR) (v : MV) (w : World) (h : StateW w A2 A3 A4 A5 A6 A7 A8 vs s) (hv : ManV w v r.m) (hs : Slim r.m) :
    Calls Try.prog 21 #[.agg #[.int .i64 s.n, .int .i64 s.ep, .slice A2 s.done.length c2, .slice A3 s.done.length c3, .slice A4 s.done.length c4, .slice A5 s.has.length c5, .slice A6 s.has.length c6, .slice A7 s.has.length c7, .slice A8 s.has.length c8, .int .i64 s.fin, .int .i64 s.er], .agg #[.int .i64 r.kind, .int .i64 r.n, .int .i64 r.e, .string r.text, .int .i64 r.m.task, .int .i64 r.m.att, .slice v.A2 r.m.sz.length v.c2, .slice v.A3 r.m.sm.length v.c3, .slice v.A4 r.m.hm.length v.c4]] w (ApplyPost w (applyP s r).1 (applyP s r).2) := by
  have HC := Lib.hid (fun W (hW : Below w.heap.size w W) => copied_any A2 A3 A4 A5 A6 A7 A8 c2 c3 c4 c5 c6 c7 c8 vs s W (h.below hW))
  have HH := Lib.hid h
  have HV := Lib.hid hv
  have HSL := Lib.hid hs
  clear h hv hs
  obtain ⟨P, hP⟩ : ∃ P, P = applyP s r := ⟨_, rfl⟩
  rw [← hP]
  go_enter Try.func21, Try.ntmps21
  go_upto_region 1 with fail
  obtain ⟨sz2, hsz2⟩ : ∃ W, W = ((w.alloc (.cells #[.int .i64 s.n, .int .i64 s.ep, .slice A2 s.done.length c2, .slice A3 s.done.length c3, .slice A4 s.done.length c4, .slice A5 s.has.length c5, .slice A6 s.has.length c6, .slice A7 s.has.length c7, .slice A8 s.has.length c8, .int .i64 s.fin, .int .i64 s.er] 42)).alloc (.cells #[.int .i64 r.kind, .int .i64 r.n, .int .i64 r.e, .string r.text, .int .i64 r.m.task, .int .i64 r.m.att, .slice v.A2 r.m.sz.length v.c2, .slice v.A3 r.m.sm.length v.c3, .slice v.A4 r.m.hm.length v.c4] 53)).alloc (.cells #[.int .i64 0, .int .i64 0, .slice none 0 0, .slice none 0 0, .slice none 0 0, .slice none 0 0, .slice none 0 0, .slice none 0 0, .slice none 0 0, .int .i64 0, .int .i64 0] 42) := ⟨_, rfl⟩
  obtain ⟨hA0, hA1, hA2, hsz, hB⟩ := three_boxes w _ _ _ _ _ _ hsz2
  rw [← hsz2]
  clear hsz2
  have q0 : sz2.cell? ⟨w.heap.size, 0, none⟩ = some (.int .i64 s.n) := by rw [cell_of_row _ _ _ _ _ _ hA0]; rfl
  have q1 : sz2.cell? ⟨w.heap.size, 1, none⟩ = some (.int .i64 s.ep) := by rw [cell_of_row _ _ _ _ _ _ hA0]; rfl
  have q2 : sz2.cell? ⟨w.heap.size, 2, none⟩ = some (.slice A2 s.done.length c2) := by rw [cell_of_row _ _ _ _ _ _ hA0]; rfl
  have q3 : sz2.cell? ⟨w.heap.size, 3, none⟩ = some (.slice A3 s.done.length c3) := by rw [cell_of_row _ _ _ _ _ _ hA0]; rfl
  have q4 : sz2.cell? ⟨w.heap.size, 4, none⟩ = some (.slice A4 s.done.length c4) := by rw [cell_of_row _ _ _ _ _ _ hA0]; rfl
  have q5 : sz2.cell? ⟨w.heap.size, 5, none⟩ = some (.slice A5 s.has.length c5) := by rw [cell_of_row _ _ _ _ _ _ hA0]; rfl
  have q6 : sz2.cell? ⟨w.heap.size, 6, none⟩ = some (.slice A6 s.has.length c6) := by rw [cell_of_row _ _ _ _ _ _ hA0]; rfl
  have q7 : sz2.cell? ⟨w.heap.size, 7, none⟩ = some (.slice A7 s.has.length c7) := by rw [cell_of_row _ _ _ _ _ _ hA0]; rfl
  have q8 : sz2.cell? ⟨w.heap.size, 8, none⟩ = some (.slice A8 s.has.length c8) := by rw [cell_of_row _ _ _ _ _ _ hA0]; rfl
  have q9 : sz2.cell? ⟨w.heap.size, 9, none⟩ = some (.int .i64 s.fin) := by rw [cell_of_row _ _ _ _ _ _ hA0]; rfl
  have q10 : sz2.cell? ⟨w.heap.size, 10, none⟩ = some (.int .i64 s.er) := by rw [cell_of_row _ _ _ _ _ _ hA0]; rfl
  go_upto_region 2 with (go_at_call 50; (with_reducible refine (HC.out _ hB).mono ?_); rintro e w3 ⟨F, v2, v3, v4, v5, v6, v7, v8, vs2, rfl, HR, hd⟩; obtain ⟨B2, e2, B3, e3, B4, e4, B5, e5, B6, e6, B7, e7, B8, e8, rfl, rfl, rfl, rfl, rfl, rfl, rfl, HS3⟩ := HR.read; have HRH := Lib.hid HR; have HSH := Lib.hid HS3; clear HR HS3)
  have HO := OwnR'.box_new HRH.out hd.size
  have hBo := (Below.refl w3.heap.size w3).alloc (Nat.le_refl _) (.cells #[.int .i64 s.n, .int .i64 s.ep, .slice B2 s.done.length e2, .slice B3 s.done.length e3, .slice B4 s.done.length e4, .slice B5 s.has.length e5, .slice B6 s.has.length e6, .slice B7 s.has.length e7, .slice B8 s.has.length e8, .int .i64 s.fin, .int .i64 s.er] 42)
  obtain ⟨ob, hob⟩ : ∃ n, n = w3.heap.size := ⟨_, rfl⟩
  rw [← hob] at HO ⊢
  generalize w3.alloc (.cells #[.int .i64 s.n, .int .i64 s.ep, .slice B2 s.done.length e2, .slice B3 s.done.length e3, .slice B4 s.done.length e4, .slice B5 s.has.length e5, .slice B6 s.has.length e6, .slice B7 s.has.length e7, .slice B8 s.has.length e8, .int .i64 s.fin, .int .i64 s.er] 42) = W4 at HO hBo ⊢
  have hB4 := bt (bt hB hB.size hd) (by have := hd.size; have := hB.size; omega) hBo
  have hA0' := (hBo.block _ (by have := hd.size; omega)).trans ((hd.block _ (by omega)).trans hA0)
  have hA1' := (hBo.block _ (by have := hd.size; omega)).trans ((hd.block _ (by omega)).trans hA1)
  have hA2' := (hBo.block _ (by have := hd.size; omega)).trans ((hd.block _ (by omega)).trans hA2)
  clear q0 q1 q2 q3 q4 q5 q6 q7 q8 q9 q10 hA0 hA1 hA2 hd hBo hob
  have r0 : W4.cell? ⟨w.heap.size + 1, 0, none⟩ = some (.int .i64 r.kind) := by rw [cell_of_row _ _ _ _ _ _ hA1']; rfl
  have r1 : W4.cell? ⟨w.heap.size + 1, 1, none⟩ = some (.int .i64 r.n) := by rw [cell_of_row _ _ _ _ _ _ hA1']; rfl
  have r2 : W4.cell? ⟨w.heap.size + 1, 2, none⟩ = some (.int .i64 r.e) := by rw [cell_of_row _ _ _ _ _ _ hA1']; rfl
  have o0 := HO.field (j := 0) rfl
  have o1 := HO.field (j := 1) rfl
  have o2 := HO.field (j := 2) rfl
  have o3 := HO.field (j := 3) rfl
  have o4 := HO.field (j := 4) rfl
  have o5 := HO.field (j := 5) rfl
  have o6 := HO.field (j := 6) rfl
  have o7 := HO.field (j := 7) rfl
  have o8 := HO.field (j := 8) rfl
  have o9 := HO.field (j := 9) rfl
  have o10 := HO.field (j := 10) rfl
  have hone : (#[.int .i64 s.n, .int .i64 s.ep, .slice B2 s.done.length e2, .slice B3 s.done.length e3, .slice B4 s.done.length e4, .slice B5 s.has.length e5, .slice B6 s.has.length e6, .slice B7 s.has.length e7, .slice B8 s.has.length e8, .int .i64 s.fin, .int .i64 s.er] : Array Value).all (·.oneCell') = true := by simp [Value.oneCell']
  have hlr : w.heap.size + 2 < sz2.heap.size := by omega
  obtain ⟨rk, rn, re, rt, m⟩ := r
  dsimp only at r0 r1 r2 hP ⊢
  by_cases k0 : rk < 0
  · have HP := Lib.hid (show P = (s, 1) from by rw [hP]; unfold applyP; rw [if_pos (.inl k0)])
    have HB4 := Lib.hid hB4
    have HOO := Lib.hid HO
    clear hP HO hB4
    go_wp2_with (refine wpList_store_row rfl 42 (.tmp 4) (.tmp 40) rfl (w.heap.size + 2) #[.int .i64 s.n, .int .i64 s.ep, .slice B2 s.done.length e2, .slice B3 s.done.length e3, .slice B4 s.done.length e4, .slice B5 s.has.length e5, .slice B6 s.has.length e6, .slice B7 s.has.length e7, .slice B8 s.has.length e8, .int .i64 s.fin, .int .i64 s.er] rfl rfl 42 #[.int .i64 0, .int .i64 0, .slice none 0 0, .slice none 0 0, .slice none 0 0, .slice none 0 0, .slice none 0 0, .slice none 0 0, .slice none 0 0, .int .i64 0, .int .i64 0] hA2' info_state rfl hone ?_)
    rw [HP.out]
    (refine apply_fin (n := 1) HOO.out.rows HB4.out hlr hA2' _ ?_ ?_ <;> rfl)
  by_cases k1 : 7 < rk
  · have HP := Lib.hid (show P = (s, 1) from by rw [hP]; unfold applyP; rw [if_pos (.inr (.inl k1))])
    have HB4 := Lib.hid hB4
    have HOO := Lib.hid HO
    clear hP HO hB4
    go_wp2_with (refine wpList_store_row rfl 42 (.tmp 4) (.tmp 40) rfl (w.heap.size + 2) #[.int .i64 s.n, .int .i64 s.ep, .slice B2 s.done.length e2, .slice B3 s.done.length e3, .slice B4 s.done.length e4, .slice B5 s.has.length e5, .slice B6 s.has.length e6, .slice B7 s.has.length e7, .slice B8 s.has.length e8, .int .i64 s.fin, .int .i64 s.er] rfl rfl 42 #[.int .i64 0, .int .i64 0, .slice none 0 0, .slice none 0 0, .slice none 0 0, .slice none 0 0, .slice none 0 0, .slice none 0 0, .slice none 0 0, .int .i64 0, .int .i64 0] hA2' info_state rfl hone ?_)
    rw [HP.out]
    (refine apply_fin (n := 1) HOO.out.rows HB4.out hlr hA2' _ ?_ ?_ <;> rfl)
  by_cases k2 : re < 0
  · have HP := Lib.hid (show P = (s, 1) from by rw [hP]; unfold applyP; rw [if_pos (.inr (.inr (.inl k2)))])
    have HB4 := Lib.hid hB4
    have HOO := Lib.hid HO
    clear hP HO hB4
    go_wp2_with (refine wpList_store_row rfl 42 (.tmp 4) (.tmp 40) rfl (w.heap.size + 2) #[.int .i64 s.n, .int .i64 s.ep, .slice B2 s.done.length e2, .slice B3 s.done.length e3, .slice B4 s.done.length e4, .slice B5 s.has.length e5, .slice B6 s.has.length e6, .slice B7 s.has.length e7, .slice B8 s.has.length e8, .int .i64 s.fin, .int .i64 s.er] rfl rfl 42 #[.int .i64 0, .int .i64 0, .slice none 0 0, .slice none 0 0, .slice none 0 0, .slice none 0 0, .slice none 0 0, .slice none 0 0, .slice none 0 0, .int .i64 0, .int .i64 0] hA2' info_state rfl hone ?_)
    rw [HP.out]
    (refine apply_fin (n := 1) HOO.out.rows HB4.out hlr hA2' _ ?_ ?_ <;> rfl)
  by_cases k3 : 255 < re
  · have HP := Lib.hid (show P = (s, 1) from by rw [hP]; unfold applyP; rw [if_pos (.inr (.inr (.inr (.inl k3))))])
    have HB4 := Lib.hid hB4
    have HOO := Lib.hid HO
    clear hP HO hB4
    go_wp2_with (refine wpList_store_row rfl 42 (.tmp 4) (.tmp 40) rfl (w.heap.size + 2) #[.int .i64 s.n, .int .i64 s.ep, .slice B2 s.done.length e2, .slice B3 s.done.length e3, .slice B4 s.done.length e4, .slice B5 s.has.length e5, .slice B6 s.has.length e6, .slice B7 s.has.length e7, .slice B8 s.has.length e8, .int .i64 s.fin, .int .i64 s.er] rfl rfl 42 #[.int .i64 0, .int .i64 0, .slice none 0 0, .slice none 0 0, .slice none 0 0, .slice none 0 0, .slice none 0 0, .slice none 0 0, .slice none 0 0, .int .i64 0, .int .i64 0] hA2' info_state rfl hone ?_)
    rw [HP.out]
    (refine apply_fin (n := 1) HOO.out.rows HB4.out hlr hA2' _ ?_ ?_ <;> rfl)
  by_cases k4 : rn < 0
  · have HP := Lib.hid (show P = (s, 1) from by rw [hP]; unfold applyP; rw [if_pos (.inr (.inr (.inr (.inr (.inl k4)))))])
    have HB4 := Lib.hid hB4
    have HOO := Lib.hid HO
    clear hP HO hB4
    go_wp2_with (refine wpList_store_row rfl 42 (.tmp 4) (.tmp 40) rfl (w.heap.size + 2) #[.int .i64 s.n, .int .i64 s.ep, .slice B2 s.done.length e2, .slice B3 s.done.length e3, .slice B4 s.done.length e4, .slice B5 s.has.length e5, .slice B6 s.has.length e6, .slice B7 s.has.length e7, .slice B8 s.has.length e8, .int .i64 s.fin, .int .i64 s.er] rfl rfl 42 #[.int .i64 0, .int .i64 0, .slice none 0 0, .slice none 0 0, .slice none 0 0, .slice none 0 0, .slice none 0 0, .slice none 0 0, .slice none 0 0, .int .i64 0, .int .i64 0] hA2' info_state rfl hone ?_)
    rw [HP.out]
    (refine apply_fin (n := 1) HOO.out.rows HB4.out hlr hA2' _ ?_ ?_ <;> rfl)
  by_cases k5 : 2147483647 < rn
  · have HP := Lib.hid (show P = (s, 1) from by rw [hP]; unfold applyP; rw [if_pos (.inr (.inr (.inr (.inr (.inr k5)))))])
    have HB4 := Lib.hid hB4
    have HOO := Lib.hid HO
    clear hP HO hB4
    go_wp2_with (refine wpList_store_row rfl 42 (.tmp 4) (.tmp 40) rfl (w.heap.size + 2) #[.int .i64 s.n, .int .i64 s.ep, .slice B2 s.done.length e2, .slice B3 s.done.length e3, .slice B4 s.done.length e4, .slice B5 s.has.length e5, .slice B6 s.has.length e6, .slice B7 s.has.length e7, .slice B8 s.has.length e8, .int .i64 s.fin, .int .i64 s.er] rfl rfl 42 #[.int .i64 0, .int .i64 0, .slice none 0 0, .slice none 0 0, .slice none 0 0, .slice none 0 0, .slice none 0 0, .slice none 0 0, .slice none 0 0, .int .i64 0, .int .i64 0] hA2' info_state rfl hone ?_)
    rw [HP.out]
    (refine apply_fin (n := 1) HOO.out.rows HB4.out hlr hA2' _ ?_ ?_ <;> rfl)
  have nb : ¬ badR ⟨rk, rn, re, rt, m⟩ := by rintro (h | h | h | h | h | h); exact k0 h; exact k1 h; exact k2 h; exact k3 h; exact k4 h; exact k5 h
  unfold applyP at hP
  rw [if_neg nb] at hP
  clear nb
  dsimp only at hP
  have p1 : W4.cell? ⟨w.heap.size, 1, none⟩ = some (.int .i64 s.ep) := by rw [cell_of_row _ _ _ _ _ _ hA0']; rfl
  have p9 : W4.cell? ⟨w.heap.size, 9, none⟩ = some (.int .i64 s.fin) := by rw [cell_of_row _ _ _ _ _ _ hA0']; rfl
  by_cases kz : rk = 0
  · rw [if_pos kz] at hP
    subst kz
    by_cases ke : rn ≤ s.ep
    · rw [if_pos ke] at hP
      have HP := Lib.hid hP
      have HB4 := Lib.hid hB4
      have HOO := Lib.hid HO
      clear hP HO hB4
      go_wp2_with (refine wpList_store_row rfl 42 (.tmp 4) (.tmp 49) rfl (w.heap.size + 2) #[.int .i64 s.n, .int .i64 s.ep, .slice B2 s.done.length e2, .slice B3 s.done.length e3, .slice B4 s.done.length e4, .slice B5 s.has.length e5, .slice B6 s.has.length e6, .slice B7 s.has.length e7, .slice B8 s.has.length e8, .int .i64 s.fin, .int .i64 s.er] rfl rfl 42 #[.int .i64 0, .int .i64 0, .slice none 0 0, .slice none 0 0, .slice none 0 0, .slice none 0 0, .slice none 0 0, .slice none 0 0, .slice none 0 0, .int .i64 0, .int .i64 0] hA2' info_state rfl hone ?_)
      rw [HP.out]
      (refine apply_fin (n := 17) HOO.out.rows HB4.out hlr hA2' _ ?_ ?_ <;> rfl)
    · rw [if_neg ke] at hP
      have HP := Lib.hid hP
      have z1 : W4.frozen? ⟨ob, 1, none⟩ = false := HO.rows.pool.free 7 HO.box rfl 1
      have hlo7 := (HO.rows.pool.lt 7 (g := ob) (by rw [HO.box]; rfl)).1
      have HB4 := Lib.hid ((hB4).setCell (p := ⟨ob, 1, none⟩) (by show w.heap.size ≤ ob; omega) (.int .i64 rn))
      have HOO := Lib.hid (HO.put (s' := { s with ep := rn }) 7 HO.box (g := ob) (c := 1) rfl 1 (.int .i64 rn) ⟨(up_ne _ _ (by decide)).trans HO.rows.d, (up_ne _ _ (by decide)).trans HO.rows.m, (up_ne _ _ (by decide)).trans HO.rows.t, (up_ne _ _ (by decide)).trans HO.rows.h, (up_ne _ _ (by decide)).trans HO.rows.r, (up_ne _ _ (by decide)).trans HO.rows.p, (up_ne _ _ (by decide)).trans HO.rows.c, (by rw [up_self]; rfl)⟩ rfl HO.rows.rt HO.rows.rp ⟨HO.rows.ok.lm, HO.rows.ok.lt, HO.rows.ok.lr, HO.rows.ok.lp, HO.rows.ok.lc, HO.rows.ok.few, HO.rows.ok.fewp, HO.rows.ok.slim⟩)
      have hA3 := (heap_setCell_other W4 ⟨ob, 1, none⟩ (w.heap.size + 2) (.int .i64 rn) (by show w.heap.size + 2 ≠ ob; omega)).trans hA2'
      have hone2 : (#[.int .i64 s.n, .int .i64 rn, .slice B2 s.done.length e2, .slice B3 s.done.length e3, .slice B4 s.done.length e4, .slice B5 s.has.length e5, .slice B6 s.has.length e6, .slice B7 s.has.length e7, .slice B8 s.has.length e8, .int .i64 s.fin, .int .i64 s.er] : Array Value).all (·.oneCell') = true := by simp [Value.oneCell']
      clear hP HO hB4 hone hlo7
      go_wp2_with (refine wpList_store_row rfl 42 (.tmp 4) (.tmp 53) rfl (w.heap.size + 2) #[.int .i64 s.n, .int .i64 rn, .slice B2 s.done.length e2, .slice B3 s.done.length e3, .slice B4 s.done.length e4, .slice B5 s.has.length e5, .slice B6 s.has.length e6, .slice B7 s.has.length e7, .slice B8 s.has.length e8, .int .i64 s.fin, .int .i64 s.er] rfl rfl 42 #[.int .i64 0, .int .i64 0, .slice none 0 0, .slice none 0 0, .slice none 0 0, .slice none 0 0, .slice none 0 0, .slice none 0 0, .slice none 0 0, .int .i64 0, .int .i64 0] hA3 info_state rfl hone2 ?_)
      rw [HP.out]
      (refine apply_fin (n := 0) HOO.out.rows HB4.out hlr hA3 _ ?_ ?_ <;> rfl)
  · have kb : 1 ≤ rk ∧ rk ≤ 7 := by omega
    rw [if_neg kz] at hP
    have HPP := Lib.hid hP
    clear hP
    go_upto_region 10 with (go_at_call 51; (with_reducible refine (does_any ob rk B2 s.done.length e2 B5 s.has.length e5 _ kb o2 o5).mono ?_); rintro e w5 ⟨rfl, hd⟩)
    have hs4 : w.heap.size + 2 < W4.heap.size := by have h7 := HO.rows.pool.lt 7 (g := ob) (by rw [HO.box]; rfl); omega
    replace hA1' := (hd.block _ (by omega)).trans hA1'
    replace hA2' := (hd.block _ hs4).trans hA2'
    replace HO := HO.below hd
    replace hB4 := bt hB4 hB4.size hd
    replace p9 := cell_below hd p9
    replace r1 := cell_below hd r1
    clear p1 r0 r2 o0 o1 o2 o3 o4 o5 o6 o7 o8 o9 o10 hs4
    have o0 := HO.field (j := 0) rfl
    have o1 := HO.field (j := 1) rfl
    have o2 := HO.field (j := 2) rfl
    have o3 := HO.field (j := 3) rfl
    have o4 := HO.field (j := 4) rfl
    have o5 := HO.field (j := 5) rfl
    have o6 := HO.field (j := 6) rfl
    have o7 := HO.field (j := 7) rfl
    have o8 := HO.field (j := 8) rfl
    have o9 := HO.field (j := 9) rfl
    have o10 := HO.field (j := 10) rfl
    clear hd
    have hP := HPP.out
    clear HPP
    by_cases kf : s.fin = 0
    · rw [if_neg (by omega)] at hP
      have tf : (s.fin != 0) = false := by simpa using kf
      clear kf
      have kme : kindMost rk s.done.length s.has.length = mostP s ⟨rk, rn, re, rt, m⟩ := kindMost_eq s ⟨rk, rn, re, rt, m⟩
      obtain ⟨K, hK⟩ : ∃ K, K = kindMost rk s.done.length s.has.length := ⟨_, rfl⟩
      rw [← hK] at kme
      rw [← hK]
      rw [← kme] at hP
      by_cases kg : 0 ≤ K ∧ K ≤ rn
      · rw [if_pos kg] at hP
        have HP := Lib.hid hP
        have HB4 := Lib.hid hB4
        have HOO := Lib.hid HO
        have g0 := kg.1
        have g1 := kg.2
        clear hP HO hB4 kg kme hK
        go_wp2_with (refine wpList_store_row rfl 42 (.tmp 4) (.tmp 74) rfl (w.heap.size + 2) #[.int .i64 s.n, .int .i64 s.ep, .slice B2 s.done.length e2, .slice B3 s.done.length e3, .slice B4 s.done.length e4, .slice B5 s.has.length e5, .slice B6 s.has.length e6, .slice B7 s.has.length e7, .slice B8 s.has.length e8, .int .i64 s.fin, .int .i64 s.er] rfl rfl 42 #[.int .i64 0, .int .i64 0, .slice none 0 0, .slice none 0 0, .slice none 0 0, .slice none 0 0, .slice none 0 0, .slice none 0 0, .slice none 0 0, .int .i64 0, .int .i64 0] hA2' info_state rfl hone ?_)
        rw [HP.out]
        (refine apply_fin (n := 1) HOO.out.rows HB4.out hlr hA2' _ ?_ ?_ <;> rfl)
      · rw [if_neg kg] at hP
        have HP := Lib.hid hP
        have HB4 := Lib.hid hB4
        have HOO := Lib.hid HO
        have HM := Lib.hid (show ¬ (0 ≤ mostP s ⟨rk, rn, re, rt, m⟩ ∧ mostP s ⟨rk, rn, re, rt, m⟩ ≤ rn) from kme ▸ kg)
        have y0 : w5.cell? ⟨w.heap.size + 1, 0, none⟩ = some (.int .i64 rk) := by rw [cell_of_row _ _ _ _ _ _ hA1']; rfl
        have y2 : w5.cell? ⟨w.heap.size + 1, 2, none⟩ = some (.int .i64 re) := by rw [cell_of_row _ _ _ _ _ _ hA1']; rfl
        have y3 : w5.cell? ⟨w.heap.size + 1, 3, none⟩ = some (.string rt) := by rw [cell_of_row _ _ _ _ _ _ hA1']; rfl
        have y4 : w5.cell? ⟨w.heap.size + 1, 4, none⟩ = some (.int .i64 m.task) := by rw [cell_of_row _ _ _ _ _ _ hA1']; rfl
        have y5 : w5.cell? ⟨w.heap.size + 1, 5, none⟩ = some (.int .i64 m.att) := by rw [cell_of_row _ _ _ _ _ _ hA1']; rfl
        have y6 : w5.cell? ⟨w.heap.size + 1, 6, none⟩ = some (.slice v.A2 m.sz.length v.c2) := by rw [cell_of_row _ _ _ _ _ _ hA1']; rfl
        have y7 : w5.cell? ⟨w.heap.size + 1, 7, none⟩ = some (.slice v.A3 m.sm.length v.c3) := by rw [cell_of_row _ _ _ _ _ _ hA1']; rfl
        have y8 : w5.cell? ⟨w.heap.size + 1, 8, none⟩ = some (.slice v.A4 m.hm.length v.c4) := by rw [cell_of_row _ _ _ _ _ _ hA1']; rfl
        clear hP HO hB4 kme hK
        have HCC := Lib.hid (fun W (hO : Own W sz2.heap.size ob s) (hlo : sz2.heap.size ≤ W.heap.size) (hm : ManV W v m) => meth_any ob sz2.heap.size s ⟨rk, rn, re, rt, m⟩ v W hO hlo hm HSL.out kb (by show (0 : Int) ≤ rn; omega) (by show (0 : Int) ≤ re ∧ re ≤ 255; omega) HM.out)
        dsimp only at HCC
        obtain ⟨f, hf⟩ : ∃ f, f = fnOf rk := ⟨_, rfl⟩
        rw [← hf, ← HP.out] at HCC
        have hcf : ∀ (args : Array Value) (W : World), (callFunc f args).run Try.prog W = .ok (.enter f args) W := fun args W => by rw [hf]; exact callFunc_meth rk args W
        rw [show meth ob (fnOf rk) = .func (.func f) #[.pointer (some ⟨ob, 0, none⟩)] #[] from by rw [hf]; rfl]
        clear hf
        have HLO := Lib.hid (show sz2.heap.size ≤ w5.heap.size from by have h7 := HOO.out.rows.pool.lt 7 (g := ob) (by rw [HOO.out.box]; rfl); omega)
        rcases Int.lt_or_le K 0 with g0 | g0
        · have g1 : ¬ 0 ≤ K := by omega
          clear kg g0
          go_upto_region 15 with fail
          (refine (HCC.out _ ⟨_, _, _, _, _, _, _, _, _, HOO.out⟩ HLO.out (HV.out.below HB4.out)).mono ?_; rintro e w6 ⟨rfl, ⟨F6, u2, u3, u4, u5, u6, u7, u8, vs6, HO6⟩, hd6⟩)
          go_upto_region 15 with fail
          clear y0 r1 y2 y3 y4 y5 y6 y7 y8 p9 o0 o1 o2 o3 o4 o5 o6 o7 o8 o9 o10 HCC HM hone
          obtain ⟨D2, g2, D3, g3, D4, g4, D5, g5, D6, g6, D7, g7, D8, g8, rfl, rfl, rfl, rfl, rfl, rfl, rfl, _⟩ := HO6.rows.read
          have o0 := HO6.field (j := 0) rfl
          have o1 := HO6.field (j := 1) rfl
          have o2 := HO6.field (j := 2) rfl
          have o3 := HO6.field (j := 3) rfl
          have o4 := HO6.field (j := 4) rfl
          have o5 := HO6.field (j := 5) rfl
          have o6 := HO6.field (j := 6) rfl
          have o7 := HO6.field (j := 7) rfl
          have o8 := HO6.field (j := 8) rfl
          have o9 := HO6.field (j := 9) rfl
          have o10 := HO6.field (j := 10) rfl
          have hA3 := (hd6.block _ hlr).trans hA2'
          have HB6 := Lib.hid (HB4.out.trans (hd6.mono (by omega)))
          have HO7 := Lib.hid HO6
          clear HO6 hd6
          have hone : (#[.int .i64 P.1.n, .int .i64 P.1.ep, .slice D2 P.1.done.length g2, .slice D3 P.1.done.length g3, .slice D4 P.1.done.length g4, .slice D5 P.1.has.length g5, .slice D6 P.1.has.length g6, .slice D7 P.1.has.length g7, .slice D8 P.1.has.length g8, .int .i64 P.1.fin, .int .i64 P.1.er] : Array Value).all (·.oneCell') = true := by simp [Value.oneCell']
          go_wp2_with (refine wpList_store_row rfl 42 (.tmp 4) (.tmp 78) rfl (w.heap.size + 2) #[.int .i64 P.1.n, .int .i64 P.1.ep, .slice D2 P.1.done.length g2, .slice D3 P.1.done.length g3, .slice D4 P.1.done.length g4, .slice D5 P.1.has.length g5, .slice D6 P.1.has.length g6, .slice D7 P.1.has.length g7, .slice D8 P.1.has.length g8, .int .i64 P.1.fin, .int .i64 P.1.er] rfl rfl 42 #[.int .i64 0, .int .i64 0, .slice none 0 0, .slice none 0 0, .slice none 0 0, .slice none 0 0, .slice none 0 0, .slice none 0 0, .slice none 0 0, .int .i64 0, .int .i64 0] hA3 info_state rfl hone ?_)
          (refine apply_fin (n := P.2) HO7.out.rows HB6.out hlr hA3 _ ?_ ?_ <;> rfl)
        · have g1 : ¬ K ≤ rn := fun h => kg ⟨g0, h⟩
          clear kg
          go_upto_region 15 with fail
          (refine (HCC.out _ ⟨_, _, _, _, _, _, _, _, _, HOO.out⟩ HLO.out (HV.out.below HB4.out)).mono ?_; rintro e w6 ⟨rfl, ⟨F6, u2, u3, u4, u5, u6, u7, u8, vs6, HO6⟩, hd6⟩)
          go_upto_region 15 with fail
          clear y0 r1 y2 y3 y4 y5 y6 y7 y8 p9 o0 o1 o2 o3 o4 o5 o6 o7 o8 o9 o10 HCC HM hone
          obtain ⟨D2, g2, D3, g3, D4, g4, D5, g5, D6, g6, D7, g7, D8, g8, rfl, rfl, rfl, rfl, rfl, rfl, rfl, _⟩ := HO6.rows.read
          have o0 := HO6.field (j := 0) rfl
          have o1 := HO6.field (j := 1) rfl
          have o2 := HO6.field (j := 2) rfl
          have o3 := HO6.field (j := 3) rfl
          have o4 := HO6.field (j := 4) rfl
          have o5 := HO6.field (j := 5) rfl
          have o6 := HO6.field (j := 6) rfl
          have o7 := HO6.field (j := 7) rfl
          have o8 := HO6.field (j := 8) rfl
          have o9 := HO6.field (j := 9) rfl
          have o10 := HO6.field (j := 10) rfl
          have hA3 := (hd6.block _ hlr).trans hA2'
          have HB6 := Lib.hid (HB4.out.trans (hd6.mono (by omega)))
          have HO7 := Lib.hid HO6
          clear HO6 hd6
          have hone : (#[.int .i64 P.1.n, .int .i64 P.1.ep, .slice D2 P.1.done.length g2, .slice D3 P.1.done.length g3, .slice D4 P.1.done.length g4, .slice D5 P.1.has.length g5, .slice D6 P.1.has.length g6, .slice D7 P.1.has.length g7, .slice D8 P.1.has.length g8, .int .i64 P.1.fin, .int .i64 P.1.er] : Array Value).all (·.oneCell') = true := by simp [Value.oneCell']
          go_wp2_with (refine wpList_store_row rfl 42 (.tmp 4) (.tmp 78) rfl (w.heap.size + 2) #[.int .i64 P.1.n, .int .i64 P.1.ep, .slice D2 P.1.done.length g2, .slice D3 P.1.done.length g3, .slice D4 P.1.done.length g4, .slice D5 P.1.has.length g5, .slice D6 P.1.has.length g6, .slice D7 P.1.has.length g7, .slice D8 P.1.has.length g8, .int .i64 P.1.fin, .int .i64 P.1.er] rfl rfl 42 #[.int .i64 0, .int .i64 0, .slice none 0 0, .slice none 0 0, .slice none 0 0, .slice none 0 0, .slice none 0 0, .slice none 0 0, .slice none 0 0, .int .i64 0, .int .i64 0] hA3 info_state rfl hone ?_)
          (refine apply_fin (n := P.2) HO7.out.rows HB6.out hlr hA3 _ ?_ ?_ <;> rfl)
    · rw [if_pos kf] at hP
      have HP := Lib.hid hP
      have tf : (s.fin != 0) = true := int_bne kf
      have HB4 := Lib.hid hB4
      have HOO := Lib.hid HO
      clear hP HO hB4
      go_wp2_with (refine wpList_store_row rfl 42 (.tmp 4) (.tmp 64) rfl (w.heap.size + 2) #[.int .i64 s.n, .int .i64 s.ep, .slice B2 s.done.length e2, .slice B3 s.done.length e3, .slice B4 s.done.length e4, .slice B5 s.has.length e5, .slice B6 s.has.length e6, .slice B7 s.has.length e7, .slice B8 s.has.length e8, .int .i64 s.fin, .int .i64 s.er] rfl rfl 42 #[.int .i64 0, .int .i64 0, .slice none 0 0, .slice none 0 0, .slice none 0 0, .slice none 0 0, .slice none 0 0, .slice none 0 0, .slice none 0 0, .int .i64 0, .int .i64 0] hA2' info_state rfl hone ?_)
      rw [HP.out]
      (refine apply_fin (n := 19) HOO.out.rows HB4.out hlr hA2' _ ?_ ?_ <;> rfl)
end Go.Proofs.Ytmlemichkeomjaa.LedW
