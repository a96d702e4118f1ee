/- ledger.Same of states that are alike. -/
import Derived.Test.YtmlemichkeomjaaLedEqM
import Derived.Test.YtmlemichkeomjaaLedA
set_option linter.unusedVariables false
set_option linter.unusedSimpArgs false
namespace Go.Proofs.Ytmlemichkeomjaa.LedW
open Go.RowKit Go.Proofs.Ytmlemichkeomjaa.Base Go.Proofs.Ytmlemichkeomjaa.MendW Go.Proofs.Ytmlemichkeomjaa.ManP Go.Proofs.Ytmlemichkeomjaa.ManW Go.Proofs.Ytmlemichkeomjaa.LedP
set_option maxRecDepth 100000 in
set_option maxHeartbeats 4000000 in
theorem same_state (A2 A3 A4 A5 A6 A7 A8 B2 B3 B4 B5 B6 B7 B8 : Option Addr) (c2 c3 c4 c5 c6 c7 c8 d2 d3 d4 d5 d6 d7 d8 : Nat) (vs vs' : Nat → MV) (s : LS) (w : World) (h : StateW w A2 A3 A4 A5 A6 A7 A8 vs s) (h' : StateW w B2 B3 B4 B5 B6 B7 B8 vs' s) :
    Calls Try.prog 25 #[.agg #[.int .i64 s.n, .int .i64 s.ep, .slice A2 s.done.length c2, .slice A3 s.done.length c3, .slice A4 s.done.length c4, .slice A5 s.has.length c5, .slice A6 s.has.length c6, .slice A7 s.has.length c7, .slice A8 s.has.length c8, .int .i64 s.fin, .int .i64 s.er], .agg #[.int .i64 s.n, .int .i64 s.ep, .slice B2 s.done.length d2, .slice B3 s.done.length d3, .slice B4 s.done.length d4, .slice B5 s.has.length d5, .slice B6 s.has.length d6, .slice B7 s.has.length d7, .slice B8 s.has.length d8, .int .i64 s.fin, .int .i64 s.er]] w fun e w' => e = .returned (.bool true) ∧ Below w.heap.size w w' := by
  have H := Lib.hid h
  have H' := Lib.hid h'
  have HSL := Lib.hid h.ok.slim
  have hn1 : s.done.length ≤ 1000000 := by have := h.ok.few; omega
  have hn2 : s.has.length ≤ 1000000 := by have := h.ok.fewp; omega
  have hlm := h.ok.lm
  have hlt := h.ok.lt
  have hlr := h.ok.lr
  have hlp := h.ok.lp
  have hlc := h.ok.lc
  have y0 : (s.n == s.n) = true := by simp
  have y1 : (s.ep == s.ep) = true := by simp
  have y2 : (s.fin == s.fin) = true := by simp
  have y3 : (s.er == s.er) = true := by simp
  clear h h'
  go_enter Try.func25, Try.ntmps25
  go_upto_region 1 with fail
  have hA := heap_alloc_new w (.cells #[.int .i64 s.n, .int .i64 s.ep, .slice A2 s.done.length c2, .slice A3 s.done.length c3, .slice A4 s.done.length c4, .slice A5 s.has.length c5, .slice A6 s.has.length c6, .slice A7 s.has.length c7, .slice A8 s.has.length c8, .int .i64 s.fin, .int .i64 s.er] 42)
  have HB := (Below.refl w.heap.size w).alloc (Nat.le_refl _) (.cells #[.int .i64 s.n, .int .i64 s.ep, .slice A2 s.done.length c2, .slice A3 s.done.length c3, .slice A4 s.done.length c4, .slice A5 s.has.length c5, .slice A6 s.has.length c6, .slice A7 s.has.length c7, .slice A8 s.has.length c8, .int .i64 s.fin, .int .i64 s.er] 42)
  have hz := World.size_alloc w (.cells #[.int .i64 s.n, .int .i64 s.ep, .slice A2 s.done.length c2, .slice A3 s.done.length c3, .slice A4 s.done.length c4, .slice A5 s.has.length c5, .slice A6 s.has.length c6, .slice A7 s.has.length c7, .slice A8 s.has.length c8, .int .i64 s.fin, .int .i64 s.er] 42)
  generalize w.alloc (.cells #[.int .i64 s.n, .int .i64 s.ep, .slice A2 s.done.length c2, .slice A3 s.done.length c3, .slice A4 s.done.length c4, .slice A5 s.has.length c5, .slice A6 s.has.length c6, .slice A7 s.has.length c7, .slice A8 s.has.length c8, .int .i64 s.fin, .int .i64 s.er] 42) = W0 at hA HB hz ⊢
  have hA2 := heap_alloc_new W0 (.cells #[.int .i64 s.n, .int .i64 s.ep, .slice B2 s.done.length d2, .slice B3 s.done.length d3, .slice B4 s.done.length d4, .slice B5 s.has.length d5, .slice B6 s.has.length d6, .slice B7 s.has.length d7, .slice B8 s.has.length d8, .int .i64 s.fin, .int .i64 s.er] 42)
  have d1 := (Below.refl W0.heap.size W0).alloc (Nat.le_refl _) (.cells #[.int .i64 s.n, .int .i64 s.ep, .slice B2 s.done.length d2, .slice B3 s.done.length d3, .slice B4 s.done.length d4, .slice B5 s.has.length d5, .slice B6 s.has.length d6, .slice B7 s.has.length d7, .slice B8 s.has.length d8, .int .i64 s.fin, .int .i64 s.er] 42)
  generalize W0.alloc (.cells #[.int .i64 s.n, .int .i64 s.ep, .slice B2 s.done.length d2, .slice B3 s.done.length d3, .slice B4 s.done.length d4, .slice B5 s.has.length d5, .slice B6 s.has.length d6, .slice B7 s.has.length d7, .slice B8 s.has.length d8, .int .i64 s.fin, .int .i64 s.er] 42) = W at hA2 d1 ⊢
  replace hA := (d1.block _ (by omega)).trans hA
  replace HB := bt HB HB.size d1
  rw [hz] at hA2
  have p0 : W.cell? ⟨w.heap.size, 0, none⟩ = some (.int .i64 s.n) := by rw [cell_of_row _ _ _ _ _ _ hA]; rfl
  have q0 : W.cell? ⟨w.heap.size + 1, 0, none⟩ = some (.int .i64 s.n) := by rw [cell_of_row _ _ _ _ _ _ hA2]; rfl
  have p1 : W.cell? ⟨w.heap.size, 1, none⟩ = some (.int .i64 s.ep) := by rw [cell_of_row _ _ _ _ _ _ hA]; rfl
  have q1 : W.cell? ⟨w.heap.size + 1, 1, none⟩ = some (.int .i64 s.ep) := by rw [cell_of_row _ _ _ _ _ _ hA2]; rfl
  have p2 : W.cell? ⟨w.heap.size, 2, none⟩ = some (.slice A2 s.done.length c2) := by rw [cell_of_row _ _ _ _ _ _ hA]; rfl
  have q2 : W.cell? ⟨w.heap.size + 1, 2, none⟩ = some (.slice B2 s.done.length d2) := by rw [cell_of_row _ _ _ _ _ _ hA2]; rfl
  have p3 : W.cell? ⟨w.heap.size, 3, none⟩ = some (.slice A3 s.done.length c3) := by rw [cell_of_row _ _ _ _ _ _ hA]; rfl
  have q3 : W.cell? ⟨w.heap.size + 1, 3, none⟩ = some (.slice B3 s.done.length d3) := by rw [cell_of_row _ _ _ _ _ _ hA2]; rfl
  have p4 : W.cell? ⟨w.heap.size, 4, none⟩ = some (.slice A4 s.done.length c4) := by rw [cell_of_row _ _ _ _ _ _ hA]; rfl
  have q4 : W.cell? ⟨w.heap.size + 1, 4, none⟩ = some (.slice B4 s.done.length d4) := by rw [cell_of_row _ _ _ _ _ _ hA2]; rfl
  have p5 : W.cell? ⟨w.heap.size, 5, none⟩ = some (.slice A5 s.has.length c5) := by rw [cell_of_row _ _ _ _ _ _ hA]; rfl
  have q5 : W.cell? ⟨w.heap.size + 1, 5, none⟩ = some (.slice B5 s.has.length d5) := by rw [cell_of_row _ _ _ _ _ _ hA2]; rfl
  have p6 : W.cell? ⟨w.heap.size, 6, none⟩ = some (.slice A6 s.has.length c6) := by rw [cell_of_row _ _ _ _ _ _ hA]; rfl
  have q6 : W.cell? ⟨w.heap.size + 1, 6, none⟩ = some (.slice B6 s.has.length d6) := by rw [cell_of_row _ _ _ _ _ _ hA2]; rfl
  have p7 : W.cell? ⟨w.heap.size, 7, none⟩ = some (.slice A7 s.has.length c7) := by rw [cell_of_row _ _ _ _ _ _ hA]; rfl
  have q7 : W.cell? ⟨w.heap.size + 1, 7, none⟩ = some (.slice B7 s.has.length d7) := by rw [cell_of_row _ _ _ _ _ _ hA2]; rfl
  have p8 : W.cell? ⟨w.heap.size, 8, none⟩ = some (.slice A8 s.has.length c8) := by rw [cell_of_row _ _ _ _ _ _ hA]; rfl
  have q8 : W.cell? ⟨w.heap.size + 1, 8, none⟩ = some (.slice B8 s.has.length d8) := by rw [cell_of_row _ _ _ _ _ _ hA2]; rfl
  have p9 : W.cell? ⟨w.heap.size, 9, none⟩ = some (.int .i64 s.fin) := by rw [cell_of_row _ _ _ _ _ _ hA]; rfl
  have q9 : W.cell? ⟨w.heap.size + 1, 9, none⟩ = some (.int .i64 s.fin) := by rw [cell_of_row _ _ _ _ _ _ hA2]; rfl
  have p10 : W.cell? ⟨w.heap.size, 10, none⟩ = some (.int .i64 s.er) := by rw [cell_of_row _ _ _ _ _ _ hA]; rfl
  have q10 : W.cell? ⟨w.heap.size + 1, 10, none⟩ = some (.int .i64 s.er) := by rw [cell_of_row _ _ _ _ _ _ hA2]; rfl
  clear hA hA2 d1 hz
  go_wp2_with (first
    | (go_at_call 54; (with_reducible refine (eq_bools A2 B2 s.done.length c2 d2 s.done _ (H.out.d.below HB) (H'.out.d.below HB) rfl hn1).mono ?_); rintro e w3 ⟨rfl, hd⟩; replace p3 := cell_below hd p3; replace q3 := cell_below hd q3; replace p4 := cell_below hd p4; replace q4 := cell_below hd q4; replace p5 := cell_below hd p5; replace q5 := cell_below hd q5; replace p6 := cell_below hd p6; replace q6 := cell_below hd q6; replace p7 := cell_below hd p7; replace q7 := cell_below hd q7; replace p8 := cell_below hd p8; replace q8 := cell_below hd q8; replace HB := bt HB HB.size hd; clear hd)
    | (go_at_call 55; (with_reducible refine (eq_mans A3 B3 s.done.length c3 d3 s.ms vs vs' _ (H.out.m.below HB) (H'.out.m.below HB) hlm hn1 HSL.out).mono ?_); rintro e w3 ⟨rfl, hd⟩; replace p3 := cell_below hd p3; replace q3 := cell_below hd q3; replace p4 := cell_below hd p4; replace q4 := cell_below hd q4; replace p5 := cell_below hd p5; replace q5 := cell_below hd q5; replace p6 := cell_below hd p6; replace q6 := cell_below hd q6; replace p7 := cell_below hd p7; replace q7 := cell_below hd q7; replace p8 := cell_below hd p8; replace q8 := cell_below hd q8; replace HB := bt HB HB.size hd; clear hd)
    | (go_at_call 56; (with_reducible refine (eq_errs A4 B4 s.done.length c4 d4 s.te _ (H.out.t.below HB) (H'.out.t.below HB) hlt hn1).mono ?_); rintro e w3 ⟨rfl, hd⟩; replace p3 := cell_below hd p3; replace q3 := cell_below hd q3; replace p4 := cell_below hd p4; replace q4 := cell_below hd q4; replace p5 := cell_below hd p5; replace q5 := cell_below hd q5; replace p6 := cell_below hd p6; replace q6 := cell_below hd q6; replace p7 := cell_below hd p7; replace q7 := cell_below hd q7; replace p8 := cell_below hd p8; replace q8 := cell_below hd q8; replace HB := bt HB HB.size hd; clear hd)
    | (go_at_call 54; (with_reducible refine (eq_bools A5 B5 s.has.length c5 d5 s.has _ (H.out.h.below HB) (H'.out.h.below HB) rfl hn2).mono ?_); rintro e w3 ⟨rfl, hd⟩; replace p3 := cell_below hd p3; replace q3 := cell_below hd q3; replace p4 := cell_below hd p4; replace q4 := cell_below hd q4; replace p5 := cell_below hd p5; replace q5 := cell_below hd q5; replace p6 := cell_below hd p6; replace q6 := cell_below hd q6; replace p7 := cell_below hd p7; replace q7 := cell_below hd q7; replace p8 := cell_below hd p8; replace q8 := cell_below hd q8; replace HB := bt HB HB.size hd; clear hd)
    | (go_at_call 57; (with_reducible refine (eq_texts A6 B6 s.has.length c6 d6 s.res _ (H.out.r.below HB) (H'.out.r.below HB) hlr hn2).mono ?_); rintro e w3 ⟨rfl, hd⟩; replace p3 := cell_below hd p3; replace q3 := cell_below hd q3; replace p4 := cell_below hd p4; replace q4 := cell_below hd q4; replace p5 := cell_below hd p5; replace q5 := cell_below hd q5; replace p6 := cell_below hd p6; replace q6 := cell_below hd q6; replace p7 := cell_below hd p7; replace q7 := cell_below hd q7; replace p8 := cell_below hd p8; replace q8 := cell_below hd q8; replace HB := bt HB HB.size hd; clear hd)
    | (go_at_call 56; (with_reducible refine (eq_errs A7 B7 s.has.length c7 d7 s.pe _ (H.out.p.below HB) (H'.out.p.below HB) hlp hn2).mono ?_); rintro e w3 ⟨rfl, hd⟩; replace p3 := cell_below hd p3; replace q3 := cell_below hd q3; replace p4 := cell_below hd p4; replace q4 := cell_below hd q4; replace p5 := cell_below hd p5; replace q5 := cell_below hd q5; replace p6 := cell_below hd p6; replace q6 := cell_below hd q6; replace p7 := cell_below hd p7; replace q7 := cell_below hd q7; replace p8 := cell_below hd p8; replace q8 := cell_below hd q8; replace HB := bt HB HB.size hd; clear hd)
    | (go_at_call 54; (with_reducible refine (eq_bools A8 B8 s.has.length c8 d8 s.com _ (H.out.c.below HB) (H'.out.c.below HB) hlc hn2).mono ?_); rintro e w3 ⟨rfl, hd⟩; replace p3 := cell_below hd p3; replace q3 := cell_below hd q3; replace p4 := cell_below hd p4; replace q4 := cell_below hd q4; replace p5 := cell_below hd p5; replace q5 := cell_below hd q5; replace p6 := cell_below hd p6; replace q6 := cell_below hd q6; replace p7 := cell_below hd p7; replace q7 := cell_below hd q7; replace p8 := cell_below hd p8; replace q8 := cell_below hd q8; replace HB := bt HB HB.size hd; clear hd)
    )
  go_ret
  exact ⟨rfl, HB⟩
end Go.Proofs.Ytmlemichkeomjaa.LedW
