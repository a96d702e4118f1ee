/- stookref20.Why walked. -/
import Derived.Test.YtmlemichkeomjaaRefS
import Derived.Test.YtmlemichkeomjaaRef16
import Derived.Test.YtmlemichkeomjaaRef16S
set_option linter.unusedVariables false
set_option linter.unusedSimpArgs false
namespace Go.Proofs.Ytmlemichkeomjaa.LedW
open Go.RowKit Go.Proofs.Ytmlemichkeomjaa.Base Go.Proofs.Ytmlemichkeomjaa.MendW Go.Proofs.Ytmlemichkeomjaa.ManP Go.Proofs.Ytmlemichkeomjaa.ManW Go.Proofs.Ytmlemichkeomjaa.LedP
/-- A task that is done has a manifest of its own. -/
def TaskOk (s : LS) : Prop := ∀ t : Nat, t < s.done.length → s.done.getD t false = true → (s.ms.getD t noMan).task = (t : Nat)
theorem Ok.get {s : LS} (h : Ok s) (t : Nat) : Slim (s.ms.getD t noMan) := by
  rcases Nat.lt_or_ge t s.ms.length with h1 | h1
  · rw [List.getD_eq_getElem?_getD, List.getElem?_eq_getElem h1, Option.getD_some]
    exact h.slim _ (List.getElem_mem h1)
  · rw [List.getD_eq_getElem?_getD, List.getElem?_eq_none h1, Option.getD_none]
    exact slim_no
section
variable (y : RV) (s : LS) (rk rn re : Int) (rt : ByteArray) (m : Man) (v : MV) (w : World)
set_option maxRecDepth 100000 in
set_option maxHeartbeats 8000000 in
theorem why_first (h : RefW w y s) (hv : ManV w v m) (hs : Slim m) (hc : badR ⟨rk, rn, re, rt, m⟩ ∨ rk = 0 ∨ s.fin ≠ 0) : Calls Try.prog 23 #[.agg #[.int .i64 s.n, .int .i64 s.ep, .int .i64 s.fin, .int .i64 s.er, .slice y.B s.done.length y.cb, .slice y.C s.has.length y.cc], .agg #[.int .i64 rk, .int .i64 rn, .int .i64 re, .string rt, .int .i64 m.task, .int .i64 m.att, .slice v.A2 m.sz.length v.c2, .slice v.A3 m.sm.length v.c3, .slice v.A4 m.hm.length v.c4]] w (fun e w' => e = .returned (.int .i64 ((applyP s ⟨rk, rn, re, rt, m⟩).2 : Nat)) ∧ Below w.heap.size w w') := by
  have HH := Lib.hid h
  have HM := Lib.hid hv
  have HS := Lib.hid hs
  have fd := h.ok.few
  have fp := h.ok.fewp
  obtain ⟨N, hN⟩ : ∃ N, N = (applyP s ⟨rk, rn, re, rt, m⟩).2 := ⟨_, rfl⟩
  rw [← hN]
  clear h hv hs
  by_cases k0 : rk < 0
  · have t0 : decide (rk < 0) = true := by simpa using k0
    have hN1 : N = 1 := by rw [hN]; unfold applyP; rw [if_pos (.inl k0)]
    clear hN hc
    go_enter Try.func23, Try.ntmps23
    go_upto_region 1 with fail
    have hA := heap_alloc_new w (.cells #[.int .i64 s.n, .int .i64 s.ep, .int .i64 s.fin, .int .i64 s.er, .slice y.B s.done.length y.cb, .slice y.C s.has.length y.cc] 48)
    have HB := (Below.refl w.heap.size w).alloc (Nat.le_refl _) (.cells #[.int .i64 s.n, .int .i64 s.ep, .int .i64 s.fin, .int .i64 s.er, .slice y.B s.done.length y.cb, .slice y.C s.has.length y.cc] 48)
    have hz := World.size_alloc w (.cells #[.int .i64 s.n, .int .i64 s.ep, .int .i64 s.fin, .int .i64 s.er, .slice y.B s.done.length y.cb, .slice y.C s.has.length y.cc] 48)
    generalize w.alloc (.cells #[.int .i64 s.n, .int .i64 s.ep, .int .i64 s.fin, .int .i64 s.er, .slice y.B s.done.length y.cb, .slice y.C s.has.length y.cc] 48) = W0 at hA HB hz ⊢
    have hA2 := heap_alloc_new W0 (.cells #[.int .i64 rk, .int .i64 rn, .int .i64 re, .string rt, .int .i64 m.task, .int .i64 m.att, .slice v.A2 m.sz.length v.c2, .slice v.A3 m.sm.length v.c3, .slice v.A4 m.hm.length v.c4] 56)
    have d1 := (Below.refl W0.heap.size W0).alloc (Nat.le_refl _) (.cells #[.int .i64 rk, .int .i64 rn, .int .i64 re, .string rt, .int .i64 m.task, .int .i64 m.att, .slice v.A2 m.sz.length v.c2, .slice v.A3 m.sm.length v.c3, .slice v.A4 m.hm.length v.c4] 56)
    generalize W0.alloc (.cells #[.int .i64 rk, .int .i64 rn, .int .i64 re, .string rt, .int .i64 m.task, .int .i64 m.att, .slice v.A2 m.sz.length v.c2, .slice v.A3 m.sm.length v.c3, .slice v.A4 m.hm.length v.c4] 56) = W at hA2 d1 ⊢
    replace hA := (d1.block _ (by omega)).trans hA
    replace HB := bt HB HB.size d1
    rw [hz] at hA2
    have S0 : W.cell? ⟨w.heap.size, 0, none⟩ = some (.int .i64 s.n) := by rw [cell_of_row _ _ _ _ _ _ hA]; rfl
    have S1 : W.cell? ⟨w.heap.size, 1, none⟩ = some (.int .i64 s.ep) := by rw [cell_of_row _ _ _ _ _ _ hA]; rfl
    have S2 : W.cell? ⟨w.heap.size, 2, none⟩ = some (.int .i64 s.fin) := by rw [cell_of_row _ _ _ _ _ _ hA]; rfl
    have S3 : W.cell? ⟨w.heap.size, 3, none⟩ = some (.int .i64 s.er) := by rw [cell_of_row _ _ _ _ _ _ hA]; rfl
    have S4 : W.cell? ⟨w.heap.size, 4, none⟩ = some (.slice y.B s.done.length y.cb) := by rw [cell_of_row _ _ _ _ _ _ hA]; rfl
    have S5 : W.cell? ⟨w.heap.size, 5, none⟩ = some (.slice y.C s.has.length y.cc) := by rw [cell_of_row _ _ _ _ _ _ hA]; rfl
    have R0 : W.cell? ⟨w.heap.size + 1, 0, none⟩ = some (.int .i64 rk) := by rw [cell_of_row _ _ _ _ _ _ hA2]; rfl
    have R1 : W.cell? ⟨w.heap.size + 1, 1, none⟩ = some (.int .i64 rn) := by rw [cell_of_row _ _ _ _ _ _ hA2]; rfl
    have R2 : W.cell? ⟨w.heap.size + 1, 2, none⟩ = some (.int .i64 re) := by rw [cell_of_row _ _ _ _ _ _ hA2]; rfl
    have R3 : W.cell? ⟨w.heap.size + 1, 3, none⟩ = some (.string rt) := by rw [cell_of_row _ _ _ _ _ _ hA2]; rfl
    have R4 : W.cell? ⟨w.heap.size + 1, 4, none⟩ = some (.int .i64 m.task) := by rw [cell_of_row _ _ _ _ _ _ hA2]; rfl
    have R5 : W.cell? ⟨w.heap.size + 1, 5, none⟩ = some (.int .i64 m.att) := by rw [cell_of_row _ _ _ _ _ _ hA2]; rfl
    have R6 : W.cell? ⟨w.heap.size + 1, 6, none⟩ = some (.slice v.A2 m.sz.length v.c2) := by rw [cell_of_row _ _ _ _ _ _ hA2]; rfl
    have R7 : W.cell? ⟨w.heap.size + 1, 7, none⟩ = some (.slice v.A3 m.sm.length v.c3) := by rw [cell_of_row _ _ _ _ _ _ hA2]; rfl
    have R8 : W.cell? ⟨w.heap.size + 1, 8, none⟩ = some (.slice v.A4 m.hm.length v.c4) := by rw [cell_of_row _ _ _ _ _ _ hA2]; rfl
    clear hA hA2 d1 hz
    have HN := Lib.hid hN1
    clear hN1
    go_wp2
    go_ret
    exact ⟨by rw [HN.out]; rfl, HB⟩
  have t0 : decide (rk < 0) = false := by simpa using k0
  by_cases k1 : 7 < rk
  · have t1 : decide (7 < rk) = true := by simpa using k1
    have hN1 : N = 1 := by rw [hN]; unfold applyP; rw [if_pos (.inr (.inl k1))]
    clear hN hc
    go_enter Try.func23, Try.ntmps23
    go_upto_region 1 with fail
    have hA := heap_alloc_new w (.cells #[.int .i64 s.n, .int .i64 s.ep, .int .i64 s.fin, .int .i64 s.er, .slice y.B s.done.length y.cb, .slice y.C s.has.length y.cc] 48)
    have HB := (Below.refl w.heap.size w).alloc (Nat.le_refl _) (.cells #[.int .i64 s.n, .int .i64 s.ep, .int .i64 s.fin, .int .i64 s.er, .slice y.B s.done.length y.cb, .slice y.C s.has.length y.cc] 48)
    have hz := World.size_alloc w (.cells #[.int .i64 s.n, .int .i64 s.ep, .int .i64 s.fin, .int .i64 s.er, .slice y.B s.done.length y.cb, .slice y.C s.has.length y.cc] 48)
    generalize w.alloc (.cells #[.int .i64 s.n, .int .i64 s.ep, .int .i64 s.fin, .int .i64 s.er, .slice y.B s.done.length y.cb, .slice y.C s.has.length y.cc] 48) = W0 at hA HB hz ⊢
    have hA2 := heap_alloc_new W0 (.cells #[.int .i64 rk, .int .i64 rn, .int .i64 re, .string rt, .int .i64 m.task, .int .i64 m.att, .slice v.A2 m.sz.length v.c2, .slice v.A3 m.sm.length v.c3, .slice v.A4 m.hm.length v.c4] 56)
    have d1 := (Below.refl W0.heap.size W0).alloc (Nat.le_refl _) (.cells #[.int .i64 rk, .int .i64 rn, .int .i64 re, .string rt, .int .i64 m.task, .int .i64 m.att, .slice v.A2 m.sz.length v.c2, .slice v.A3 m.sm.length v.c3, .slice v.A4 m.hm.length v.c4] 56)
    generalize W0.alloc (.cells #[.int .i64 rk, .int .i64 rn, .int .i64 re, .string rt, .int .i64 m.task, .int .i64 m.att, .slice v.A2 m.sz.length v.c2, .slice v.A3 m.sm.length v.c3, .slice v.A4 m.hm.length v.c4] 56) = W at hA2 d1 ⊢
    replace hA := (d1.block _ (by omega)).trans hA
    replace HB := bt HB HB.size d1
    rw [hz] at hA2
    have S0 : W.cell? ⟨w.heap.size, 0, none⟩ = some (.int .i64 s.n) := by rw [cell_of_row _ _ _ _ _ _ hA]; rfl
    have S1 : W.cell? ⟨w.heap.size, 1, none⟩ = some (.int .i64 s.ep) := by rw [cell_of_row _ _ _ _ _ _ hA]; rfl
    have S2 : W.cell? ⟨w.heap.size, 2, none⟩ = some (.int .i64 s.fin) := by rw [cell_of_row _ _ _ _ _ _ hA]; rfl
    have S3 : W.cell? ⟨w.heap.size, 3, none⟩ = some (.int .i64 s.er) := by rw [cell_of_row _ _ _ _ _ _ hA]; rfl
    have S4 : W.cell? ⟨w.heap.size, 4, none⟩ = some (.slice y.B s.done.length y.cb) := by rw [cell_of_row _ _ _ _ _ _ hA]; rfl
    have S5 : W.cell? ⟨w.heap.size, 5, none⟩ = some (.slice y.C s.has.length y.cc) := by rw [cell_of_row _ _ _ _ _ _ hA]; rfl
    have R0 : W.cell? ⟨w.heap.size + 1, 0, none⟩ = some (.int .i64 rk) := by rw [cell_of_row _ _ _ _ _ _ hA2]; rfl
    have R1 : W.cell? ⟨w.heap.size + 1, 1, none⟩ = some (.int .i64 rn) := by rw [cell_of_row _ _ _ _ _ _ hA2]; rfl
    have R2 : W.cell? ⟨w.heap.size + 1, 2, none⟩ = some (.int .i64 re) := by rw [cell_of_row _ _ _ _ _ _ hA2]; rfl
    have R3 : W.cell? ⟨w.heap.size + 1, 3, none⟩ = some (.string rt) := by rw [cell_of_row _ _ _ _ _ _ hA2]; rfl
    have R4 : W.cell? ⟨w.heap.size + 1, 4, none⟩ = some (.int .i64 m.task) := by rw [cell_of_row _ _ _ _ _ _ hA2]; rfl
    have R5 : W.cell? ⟨w.heap.size + 1, 5, none⟩ = some (.int .i64 m.att) := by rw [cell_of_row _ _ _ _ _ _ hA2]; rfl
    have R6 : W.cell? ⟨w.heap.size + 1, 6, none⟩ = some (.slice v.A2 m.sz.length v.c2) := by rw [cell_of_row _ _ _ _ _ _ hA2]; rfl
    have R7 : W.cell? ⟨w.heap.size + 1, 7, none⟩ = some (.slice v.A3 m.sm.length v.c3) := by rw [cell_of_row _ _ _ _ _ _ hA2]; rfl
    have R8 : W.cell? ⟨w.heap.size + 1, 8, none⟩ = some (.slice v.A4 m.hm.length v.c4) := by rw [cell_of_row _ _ _ _ _ _ hA2]; rfl
    clear hA hA2 d1 hz
    have HN := Lib.hid hN1
    clear hN1
    go_wp2
    go_ret
    exact ⟨by rw [HN.out]; rfl, HB⟩
  have t1 : decide (7 < rk) = false := by simpa using k1
  by_cases k2 : re < 0
  · have t2 : decide (re < 0) = true := by simpa using k2
    have hN1 : N = 1 := by rw [hN]; unfold applyP; rw [if_pos (.inr (.inr (.inl k2)))]
    clear hN hc
    go_enter Try.func23, Try.ntmps23
    go_upto_region 1 with fail
    have hA := heap_alloc_new w (.cells #[.int .i64 s.n, .int .i64 s.ep, .int .i64 s.fin, .int .i64 s.er, .slice y.B s.done.length y.cb, .slice y.C s.has.length y.cc] 48)
    have HB := (Below.refl w.heap.size w).alloc (Nat.le_refl _) (.cells #[.int .i64 s.n, .int .i64 s.ep, .int .i64 s.fin, .int .i64 s.er, .slice y.B s.done.length y.cb, .slice y.C s.has.length y.cc] 48)
    have hz := World.size_alloc w (.cells #[.int .i64 s.n, .int .i64 s.ep, .int .i64 s.fin, .int .i64 s.er, .slice y.B s.done.length y.cb, .slice y.C s.has.length y.cc] 48)
    generalize w.alloc (.cells #[.int .i64 s.n, .int .i64 s.ep, .int .i64 s.fin, .int .i64 s.er, .slice y.B s.done.length y.cb, .slice y.C s.has.length y.cc] 48) = W0 at hA HB hz ⊢
    have hA2 := heap_alloc_new W0 (.cells #[.int .i64 rk, .int .i64 rn, .int .i64 re, .string rt, .int .i64 m.task, .int .i64 m.att, .slice v.A2 m.sz.length v.c2, .slice v.A3 m.sm.length v.c3, .slice v.A4 m.hm.length v.c4] 56)
    have d1 := (Below.refl W0.heap.size W0).alloc (Nat.le_refl _) (.cells #[.int .i64 rk, .int .i64 rn, .int .i64 re, .string rt, .int .i64 m.task, .int .i64 m.att, .slice v.A2 m.sz.length v.c2, .slice v.A3 m.sm.length v.c3, .slice v.A4 m.hm.length v.c4] 56)
    generalize W0.alloc (.cells #[.int .i64 rk, .int .i64 rn, .int .i64 re, .string rt, .int .i64 m.task, .int .i64 m.att, .slice v.A2 m.sz.length v.c2, .slice v.A3 m.sm.length v.c3, .slice v.A4 m.hm.length v.c4] 56) = W at hA2 d1 ⊢
    replace hA := (d1.block _ (by omega)).trans hA
    replace HB := bt HB HB.size d1
    rw [hz] at hA2
    have S0 : W.cell? ⟨w.heap.size, 0, none⟩ = some (.int .i64 s.n) := by rw [cell_of_row _ _ _ _ _ _ hA]; rfl
    have S1 : W.cell? ⟨w.heap.size, 1, none⟩ = some (.int .i64 s.ep) := by rw [cell_of_row _ _ _ _ _ _ hA]; rfl
    have S2 : W.cell? ⟨w.heap.size, 2, none⟩ = some (.int .i64 s.fin) := by rw [cell_of_row _ _ _ _ _ _ hA]; rfl
    have S3 : W.cell? ⟨w.heap.size, 3, none⟩ = some (.int .i64 s.er) := by rw [cell_of_row _ _ _ _ _ _ hA]; rfl
    have S4 : W.cell? ⟨w.heap.size, 4, none⟩ = some (.slice y.B s.done.length y.cb) := by rw [cell_of_row _ _ _ _ _ _ hA]; rfl
    have S5 : W.cell? ⟨w.heap.size, 5, none⟩ = some (.slice y.C s.has.length y.cc) := by rw [cell_of_row _ _ _ _ _ _ hA]; rfl
    have R0 : W.cell? ⟨w.heap.size + 1, 0, none⟩ = some (.int .i64 rk) := by rw [cell_of_row _ _ _ _ _ _ hA2]; rfl
    have R1 : W.cell? ⟨w.heap.size + 1, 1, none⟩ = some (.int .i64 rn) := by rw [cell_of_row _ _ _ _ _ _ hA2]; rfl
    have R2 : W.cell? ⟨w.heap.size + 1, 2, none⟩ = some (.int .i64 re) := by rw [cell_of_row _ _ _ _ _ _ hA2]; rfl
    have R3 : W.cell? ⟨w.heap.size + 1, 3, none⟩ = some (.string rt) := by rw [cell_of_row _ _ _ _ _ _ hA2]; rfl
    have R4 : W.cell? ⟨w.heap.size + 1, 4, none⟩ = some (.int .i64 m.task) := by rw [cell_of_row _ _ _ _ _ _ hA2]; rfl
    have R5 : W.cell? ⟨w.heap.size + 1, 5, none⟩ = some (.int .i64 m.att) := by rw [cell_of_row _ _ _ _ _ _ hA2]; rfl
    have R6 : W.cell? ⟨w.heap.size + 1, 6, none⟩ = some (.slice v.A2 m.sz.length v.c2) := by rw [cell_of_row _ _ _ _ _ _ hA2]; rfl
    have R7 : W.cell? ⟨w.heap.size + 1, 7, none⟩ = some (.slice v.A3 m.sm.length v.c3) := by rw [cell_of_row _ _ _ _ _ _ hA2]; rfl
    have R8 : W.cell? ⟨w.heap.size + 1, 8, none⟩ = some (.slice v.A4 m.hm.length v.c4) := by rw [cell_of_row _ _ _ _ _ _ hA2]; rfl
    clear hA hA2 d1 hz
    have HN := Lib.hid hN1
    clear hN1
    go_wp2
    go_ret
    exact ⟨by rw [HN.out]; rfl, HB⟩
  have t2 : decide (re < 0) = false := by simpa using k2
  by_cases k3 : 255 < re
  · have t3 : decide (255 < re) = true := by simpa using k3
    have hN1 : N = 1 := by rw [hN]; unfold applyP; rw [if_pos (.inr (.inr (.inr (.inl k3))))]
    clear hN hc
    go_enter Try.func23, Try.ntmps23
    go_upto_region 1 with fail
    have hA := heap_alloc_new w (.cells #[.int .i64 s.n, .int .i64 s.ep, .int .i64 s.fin, .int .i64 s.er, .slice y.B s.done.length y.cb, .slice y.C s.has.length y.cc] 48)
    have HB := (Below.refl w.heap.size w).alloc (Nat.le_refl _) (.cells #[.int .i64 s.n, .int .i64 s.ep, .int .i64 s.fin, .int .i64 s.er, .slice y.B s.done.length y.cb, .slice y.C s.has.length y.cc] 48)
    have hz := World.size_alloc w (.cells #[.int .i64 s.n, .int .i64 s.ep, .int .i64 s.fin, .int .i64 s.er, .slice y.B s.done.length y.cb, .slice y.C s.has.length y.cc] 48)
    generalize w.alloc (.cells #[.int .i64 s.n, .int .i64 s.ep, .int .i64 s.fin, .int .i64 s.er, .slice y.B s.done.length y.cb, .slice y.C s.has.length y.cc] 48) = W0 at hA HB hz ⊢
    have hA2 := heap_alloc_new W0 (.cells #[.int .i64 rk, .int .i64 rn, .int .i64 re, .string rt, .int .i64 m.task, .int .i64 m.att, .slice v.A2 m.sz.length v.c2, .slice v.A3 m.sm.length v.c3, .slice v.A4 m.hm.length v.c4] 56)
    have d1 := (Below.refl W0.heap.size W0).alloc (Nat.le_refl _) (.cells #[.int .i64 rk, .int .i64 rn, .int .i64 re, .string rt, .int .i64 m.task, .int .i64 m.att, .slice v.A2 m.sz.length v.c2, .slice v.A3 m.sm.length v.c3, .slice v.A4 m.hm.length v.c4] 56)
    generalize W0.alloc (.cells #[.int .i64 rk, .int .i64 rn, .int .i64 re, .string rt, .int .i64 m.task, .int .i64 m.att, .slice v.A2 m.sz.length v.c2, .slice v.A3 m.sm.length v.c3, .slice v.A4 m.hm.length v.c4] 56) = W at hA2 d1 ⊢
    replace hA := (d1.block _ (by omega)).trans hA
    replace HB := bt HB HB.size d1
    rw [hz] at hA2
    have S0 : W.cell? ⟨w.heap.size, 0, none⟩ = some (.int .i64 s.n) := by rw [cell_of_row _ _ _ _ _ _ hA]; rfl
    have S1 : W.cell? ⟨w.heap.size, 1, none⟩ = some (.int .i64 s.ep) := by rw [cell_of_row _ _ _ _ _ _ hA]; rfl
    have S2 : W.cell? ⟨w.heap.size, 2, none⟩ = some (.int .i64 s.fin) := by rw [cell_of_row _ _ _ _ _ _ hA]; rfl
    have S3 : W.cell? ⟨w.heap.size, 3, none⟩ = some (.int .i64 s.er) := by rw [cell_of_row _ _ _ _ _ _ hA]; rfl
    have S4 : W.cell? ⟨w.heap.size, 4, none⟩ = some (.slice y.B s.done.length y.cb) := by rw [cell_of_row _ _ _ _ _ _ hA]; rfl
    have S5 : W.cell? ⟨w.heap.size, 5, none⟩ = some (.slice y.C s.has.length y.cc) := by rw [cell_of_row _ _ _ _ _ _ hA]; rfl
    have R0 : W.cell? ⟨w.heap.size + 1, 0, none⟩ = some (.int .i64 rk) := by rw [cell_of_row _ _ _ _ _ _ hA2]; rfl
    have R1 : W.cell? ⟨w.heap.size + 1, 1, none⟩ = some (.int .i64 rn) := by rw [cell_of_row _ _ _ _ _ _ hA2]; rfl
    have R2 : W.cell? ⟨w.heap.size + 1, 2, none⟩ = some (.int .i64 re) := by rw [cell_of_row _ _ _ _ _ _ hA2]; rfl
    have R3 : W.cell? ⟨w.heap.size + 1, 3, none⟩ = some (.string rt) := by rw [cell_of_row _ _ _ _ _ _ hA2]; rfl
    have R4 : W.cell? ⟨w.heap.size + 1, 4, none⟩ = some (.int .i64 m.task) := by rw [cell_of_row _ _ _ _ _ _ hA2]; rfl
    have R5 : W.cell? ⟨w.heap.size + 1, 5, none⟩ = some (.int .i64 m.att) := by rw [cell_of_row _ _ _ _ _ _ hA2]; rfl
    have R6 : W.cell? ⟨w.heap.size + 1, 6, none⟩ = some (.slice v.A2 m.sz.length v.c2) := by rw [cell_of_row _ _ _ _ _ _ hA2]; rfl
    have R7 : W.cell? ⟨w.heap.size + 1, 7, none⟩ = some (.slice v.A3 m.sm.length v.c3) := by rw [cell_of_row _ _ _ _ _ _ hA2]; rfl
    have R8 : W.cell? ⟨w.heap.size + 1, 8, none⟩ = some (.slice v.A4 m.hm.length v.c4) := by rw [cell_of_row _ _ _ _ _ _ hA2]; rfl
    clear hA hA2 d1 hz
    have HN := Lib.hid hN1
    clear hN1
    go_wp2
    go_ret
    exact ⟨by rw [HN.out]; rfl, HB⟩
  have t3 : decide (255 < re) = false := by simpa using k3
  by_cases k4 : rn < 0
  · have t4 : decide (rn < 0) = true := by simpa using k4
    have hN1 : N = 1 := by rw [hN]; unfold applyP; rw [if_pos (.inr (.inr (.inr (.inr (.inl k4)))))]
    clear hN hc
    go_enter Try.func23, Try.ntmps23
    go_upto_region 1 with fail
    have hA := heap_alloc_new w (.cells #[.int .i64 s.n, .int .i64 s.ep, .int .i64 s.fin, .int .i64 s.er, .slice y.B s.done.length y.cb, .slice y.C s.has.length y.cc] 48)
    have HB := (Below.refl w.heap.size w).alloc (Nat.le_refl _) (.cells #[.int .i64 s.n, .int .i64 s.ep, .int .i64 s.fin, .int .i64 s.er, .slice y.B s.done.length y.cb, .slice y.C s.has.length y.cc] 48)
    have hz := World.size_alloc w (.cells #[.int .i64 s.n, .int .i64 s.ep, .int .i64 s.fin, .int .i64 s.er, .slice y.B s.done.length y.cb, .slice y.C s.has.length y.cc] 48)
    generalize w.alloc (.cells #[.int .i64 s.n, .int .i64 s.ep, .int .i64 s.fin, .int .i64 s.er, .slice y.B s.done.length y.cb, .slice y.C s.has.length y.cc] 48) = W0 at hA HB hz ⊢
    have hA2 := heap_alloc_new W0 (.cells #[.int .i64 rk, .int .i64 rn, .int .i64 re, .string rt, .int .i64 m.task, .int .i64 m.att, .slice v.A2 m.sz.length v.c2, .slice v.A3 m.sm.length v.c3, .slice v.A4 m.hm.length v.c4] 56)
    have d1 := (Below.refl W0.heap.size W0).alloc (Nat.le_refl _) (.cells #[.int .i64 rk, .int .i64 rn, .int .i64 re, .string rt, .int .i64 m.task, .int .i64 m.att, .slice v.A2 m.sz.length v.c2, .slice v.A3 m.sm.length v.c3, .slice v.A4 m.hm.length v.c4] 56)
    generalize W0.alloc (.cells #[.int .i64 rk, .int .i64 rn, .int .i64 re, .string rt, .int .i64 m.task, .int .i64 m.att, .slice v.A2 m.sz.length v.c2, .slice v.A3 m.sm.length v.c3, .slice v.A4 m.hm.length v.c4] 56) = W at hA2 d1 ⊢
    replace hA := (d1.block _ (by omega)).trans hA
    replace HB := bt HB HB.size d1
    rw [hz] at hA2
    have S0 : W.cell? ⟨w.heap.size, 0, none⟩ = some (.int .i64 s.n) := by rw [cell_of_row _ _ _ _ _ _ hA]; rfl
    have S1 : W.cell? ⟨w.heap.size, 1, none⟩ = some (.int .i64 s.ep) := by rw [cell_of_row _ _ _ _ _ _ hA]; rfl
    have S2 : W.cell? ⟨w.heap.size, 2, none⟩ = some (.int .i64 s.fin) := by rw [cell_of_row _ _ _ _ _ _ hA]; rfl
    have S3 : W.cell? ⟨w.heap.size, 3, none⟩ = some (.int .i64 s.er) := by rw [cell_of_row _ _ _ _ _ _ hA]; rfl
    have S4 : W.cell? ⟨w.heap.size, 4, none⟩ = some (.slice y.B s.done.length y.cb) := by rw [cell_of_row _ _ _ _ _ _ hA]; rfl
    have S5 : W.cell? ⟨w.heap.size, 5, none⟩ = some (.slice y.C s.has.length y.cc) := by rw [cell_of_row _ _ _ _ _ _ hA]; rfl
    have R0 : W.cell? ⟨w.heap.size + 1, 0, none⟩ = some (.int .i64 rk) := by rw [cell_of_row _ _ _ _ _ _ hA2]; rfl
    have R1 : W.cell? ⟨w.heap.size + 1, 1, none⟩ = some (.int .i64 rn) := by rw [cell_of_row _ _ _ _ _ _ hA2]; rfl
    have R2 : W.cell? ⟨w.heap.size + 1, 2, none⟩ = some (.int .i64 re) := by rw [cell_of_row _ _ _ _ _ _ hA2]; rfl
    have R3 : W.cell? ⟨w.heap.size + 1, 3, none⟩ = some (.string rt) := by rw [cell_of_row _ _ _ _ _ _ hA2]; rfl
    have R4 : W.cell? ⟨w.heap.size + 1, 4, none⟩ = some (.int .i64 m.task) := by rw [cell_of_row _ _ _ _ _ _ hA2]; rfl
    have R5 : W.cell? ⟨w.heap.size + 1, 5, none⟩ = some (.int .i64 m.att) := by rw [cell_of_row _ _ _ _ _ _ hA2]; rfl
    have R6 : W.cell? ⟨w.heap.size + 1, 6, none⟩ = some (.slice v.A2 m.sz.length v.c2) := by rw [cell_of_row _ _ _ _ _ _ hA2]; rfl
    have R7 : W.cell? ⟨w.heap.size + 1, 7, none⟩ = some (.slice v.A3 m.sm.length v.c3) := by rw [cell_of_row _ _ _ _ _ _ hA2]; rfl
    have R8 : W.cell? ⟨w.heap.size + 1, 8, none⟩ = some (.slice v.A4 m.hm.length v.c4) := by rw [cell_of_row _ _ _ _ _ _ hA2]; rfl
    clear hA hA2 d1 hz
    have HN := Lib.hid hN1
    clear hN1
    go_wp2
    go_ret
    exact ⟨by rw [HN.out]; rfl, HB⟩
  have t4 : decide (rn < 0) = false := by simpa using k4
  by_cases k5 : 2147483647 < rn
  · have t5 : decide (2147483647 < rn) = true := by simpa using k5
    have hN1 : N = 1 := by rw [hN]; unfold applyP; rw [if_pos (.inr (.inr (.inr (.inr (.inr k5)))))]
    clear hN hc
    go_enter Try.func23, Try.ntmps23
    go_upto_region 1 with fail
    have hA := heap_alloc_new w (.cells #[.int .i64 s.n, .int .i64 s.ep, .int .i64 s.fin, .int .i64 s.er, .slice y.B s.done.length y.cb, .slice y.C s.has.length y.cc] 48)
    have HB := (Below.refl w.heap.size w).alloc (Nat.le_refl _) (.cells #[.int .i64 s.n, .int .i64 s.ep, .int .i64 s.fin, .int .i64 s.er, .slice y.B s.done.length y.cb, .slice y.C s.has.length y.cc] 48)
    have hz := World.size_alloc w (.cells #[.int .i64 s.n, .int .i64 s.ep, .int .i64 s.fin, .int .i64 s.er, .slice y.B s.done.length y.cb, .slice y.C s.has.length y.cc] 48)
    generalize w.alloc (.cells #[.int .i64 s.n, .int .i64 s.ep, .int .i64 s.fin, .int .i64 s.er, .slice y.B s.done.length y.cb, .slice y.C s.has.length y.cc] 48) = W0 at hA HB hz ⊢
    have hA2 := heap_alloc_new W0 (.cells #[.int .i64 rk, .int .i64 rn, .int .i64 re, .string rt, .int .i64 m.task, .int .i64 m.att, .slice v.A2 m.sz.length v.c2, .slice v.A3 m.sm.length v.c3, .slice v.A4 m.hm.length v.c4] 56)
    have d1 := (Below.refl W0.heap.size W0).alloc (Nat.le_refl _) (.cells #[.int .i64 rk, .int .i64 rn, .int .i64 re, .string rt, .int .i64 m.task, .int .i64 m.att, .slice v.A2 m.sz.length v.c2, .slice v.A3 m.sm.length v.c3, .slice v.A4 m.hm.length v.c4] 56)
    generalize W0.alloc (.cells #[.int .i64 rk, .int .i64 rn, .int .i64 re, .string rt, .int .i64 m.task, .int .i64 m.att, .slice v.A2 m.sz.length v.c2, .slice v.A3 m.sm.length v.c3, .slice v.A4 m.hm.length v.c4] 56) = W at hA2 d1 ⊢
    replace hA := (d1.block _ (by omega)).trans hA
    replace HB := bt HB HB.size d1
    rw [hz] at hA2
    have S0 : W.cell? ⟨w.heap.size, 0, none⟩ = some (.int .i64 s.n) := by rw [cell_of_row _ _ _ _ _ _ hA]; rfl
    have S1 : W.cell? ⟨w.heap.size, 1, none⟩ = some (.int .i64 s.ep) := by rw [cell_of_row _ _ _ _ _ _ hA]; rfl
    have S2 : W.cell? ⟨w.heap.size, 2, none⟩ = some (.int .i64 s.fin) := by rw [cell_of_row _ _ _ _ _ _ hA]; rfl
    have S3 : W.cell? ⟨w.heap.size, 3, none⟩ = some (.int .i64 s.er) := by rw [cell_of_row _ _ _ _ _ _ hA]; rfl
    have S4 : W.cell? ⟨w.heap.size, 4, none⟩ = some (.slice y.B s.done.length y.cb) := by rw [cell_of_row _ _ _ _ _ _ hA]; rfl
    have S5 : W.cell? ⟨w.heap.size, 5, none⟩ = some (.slice y.C s.has.length y.cc) := by rw [cell_of_row _ _ _ _ _ _ hA]; rfl
    have R0 : W.cell? ⟨w.heap.size + 1, 0, none⟩ = some (.int .i64 rk) := by rw [cell_of_row _ _ _ _ _ _ hA2]; rfl
    have R1 : W.cell? ⟨w.heap.size + 1, 1, none⟩ = some (.int .i64 rn) := by rw [cell_of_row _ _ _ _ _ _ hA2]; rfl
    have R2 : W.cell? ⟨w.heap.size + 1, 2, none⟩ = some (.int .i64 re) := by rw [cell_of_row _ _ _ _ _ _ hA2]; rfl
    have R3 : W.cell? ⟨w.heap.size + 1, 3, none⟩ = some (.string rt) := by rw [cell_of_row _ _ _ _ _ _ hA2]; rfl
    have R4 : W.cell? ⟨w.heap.size + 1, 4, none⟩ = some (.int .i64 m.task) := by rw [cell_of_row _ _ _ _ _ _ hA2]; rfl
    have R5 : W.cell? ⟨w.heap.size + 1, 5, none⟩ = some (.int .i64 m.att) := by rw [cell_of_row _ _ _ _ _ _ hA2]; rfl
    have R6 : W.cell? ⟨w.heap.size + 1, 6, none⟩ = some (.slice v.A2 m.sz.length v.c2) := by rw [cell_of_row _ _ _ _ _ _ hA2]; rfl
    have R7 : W.cell? ⟨w.heap.size + 1, 7, none⟩ = some (.slice v.A3 m.sm.length v.c3) := by rw [cell_of_row _ _ _ _ _ _ hA2]; rfl
    have R8 : W.cell? ⟨w.heap.size + 1, 8, none⟩ = some (.slice v.A4 m.hm.length v.c4) := by rw [cell_of_row _ _ _ _ _ _ hA2]; rfl
    clear hA hA2 d1 hz
    have HN := Lib.hid hN1
    clear hN1
    go_wp2
    go_ret
    exact ⟨by rw [HN.out]; rfl, HB⟩
  have t5 : decide (2147483647 < rn) = false := by simpa using k5
  have nb : ¬ badR ⟨rk, rn, re, rt, m⟩ := by rintro (h | h | h | h | h | h); exact k0 h; exact k1 h; exact k2 h; exact k3 h; exact k4 h; exact k5 h
  have hc2 := hc.resolve_left nb
  unfold applyP at hN
  rw [if_neg nb] at hN
  dsimp only at hN
  clear nb hc
  by_cases kz : rk = 0
  · rw [if_pos kz] at hN
    subst kz
    by_cases ke : rn ≤ s.ep
    · rw [if_pos ke] at hN
      go_enter Try.func23, Try.ntmps23
      go_upto_region 1 with fail
      have hA := heap_alloc_new w (.cells #[.int .i64 s.n, .int .i64 s.ep, .int .i64 s.fin, .int .i64 s.er, .slice y.B s.done.length y.cb, .slice y.C s.has.length y.cc] 48)
      have HB := (Below.refl w.heap.size w).alloc (Nat.le_refl _) (.cells #[.int .i64 s.n, .int .i64 s.ep, .int .i64 s.fin, .int .i64 s.er, .slice y.B s.done.length y.cb, .slice y.C s.has.length y.cc] 48)
      have hz := World.size_alloc w (.cells #[.int .i64 s.n, .int .i64 s.ep, .int .i64 s.fin, .int .i64 s.er, .slice y.B s.done.length y.cb, .slice y.C s.has.length y.cc] 48)
      generalize w.alloc (.cells #[.int .i64 s.n, .int .i64 s.ep, .int .i64 s.fin, .int .i64 s.er, .slice y.B s.done.length y.cb, .slice y.C s.has.length y.cc] 48) = W0 at hA HB hz ⊢
      have hA2 := heap_alloc_new W0 (.cells #[.int .i64 0, .int .i64 rn, .int .i64 re, .string rt, .int .i64 m.task, .int .i64 m.att, .slice v.A2 m.sz.length v.c2, .slice v.A3 m.sm.length v.c3, .slice v.A4 m.hm.length v.c4] 56)
      have d1 := (Below.refl W0.heap.size W0).alloc (Nat.le_refl _) (.cells #[.int .i64 0, .int .i64 rn, .int .i64 re, .string rt, .int .i64 m.task, .int .i64 m.att, .slice v.A2 m.sz.length v.c2, .slice v.A3 m.sm.length v.c3, .slice v.A4 m.hm.length v.c4] 56)
      generalize W0.alloc (.cells #[.int .i64 0, .int .i64 rn, .int .i64 re, .string rt, .int .i64 m.task, .int .i64 m.att, .slice v.A2 m.sz.length v.c2, .slice v.A3 m.sm.length v.c3, .slice v.A4 m.hm.length v.c4] 56) = W at hA2 d1 ⊢
      replace hA := (d1.block _ (by omega)).trans hA
      replace HB := bt HB HB.size d1
      rw [hz] at hA2
      have S0 : W.cell? ⟨w.heap.size, 0, none⟩ = some (.int .i64 s.n) := by rw [cell_of_row _ _ _ _ _ _ hA]; rfl
      have S1 : W.cell? ⟨w.heap.size, 1, none⟩ = some (.int .i64 s.ep) := by rw [cell_of_row _ _ _ _ _ _ hA]; rfl
      have S2 : W.cell? ⟨w.heap.size, 2, none⟩ = some (.int .i64 s.fin) := by rw [cell_of_row _ _ _ _ _ _ hA]; rfl
      have S3 : W.cell? ⟨w.heap.size, 3, none⟩ = some (.int .i64 s.er) := by rw [cell_of_row _ _ _ _ _ _ hA]; rfl
      have S4 : W.cell? ⟨w.heap.size, 4, none⟩ = some (.slice y.B s.done.length y.cb) := by rw [cell_of_row _ _ _ _ _ _ hA]; rfl
      have S5 : W.cell? ⟨w.heap.size, 5, none⟩ = some (.slice y.C s.has.length y.cc) := by rw [cell_of_row _ _ _ _ _ _ hA]; rfl
      have R0 : W.cell? ⟨w.heap.size + 1, 0, none⟩ = some (.int .i64 0) := by rw [cell_of_row _ _ _ _ _ _ hA2]; rfl
      have R1 : W.cell? ⟨w.heap.size + 1, 1, none⟩ = some (.int .i64 rn) := by rw [cell_of_row _ _ _ _ _ _ hA2]; rfl
      have R2 : W.cell? ⟨w.heap.size + 1, 2, none⟩ = some (.int .i64 re) := by rw [cell_of_row _ _ _ _ _ _ hA2]; rfl
      have R3 : W.cell? ⟨w.heap.size + 1, 3, none⟩ = some (.string rt) := by rw [cell_of_row _ _ _ _ _ _ hA2]; rfl
      have R4 : W.cell? ⟨w.heap.size + 1, 4, none⟩ = some (.int .i64 m.task) := by rw [cell_of_row _ _ _ _ _ _ hA2]; rfl
      have R5 : W.cell? ⟨w.heap.size + 1, 5, none⟩ = some (.int .i64 m.att) := by rw [cell_of_row _ _ _ _ _ _ hA2]; rfl
      have R6 : W.cell? ⟨w.heap.size + 1, 6, none⟩ = some (.slice v.A2 m.sz.length v.c2) := by rw [cell_of_row _ _ _ _ _ _ hA2]; rfl
      have R7 : W.cell? ⟨w.heap.size + 1, 7, none⟩ = some (.slice v.A3 m.sm.length v.c3) := by rw [cell_of_row _ _ _ _ _ _ hA2]; rfl
      have R8 : W.cell? ⟨w.heap.size + 1, 8, none⟩ = some (.slice v.A4 m.hm.length v.c4) := by rw [cell_of_row _ _ _ _ _ _ hA2]; rfl
      clear hA hA2 d1 hz
      have HN := Lib.hid (show N = 17 from hN)
      clear hN
      go_wp2
      go_ret
      exact ⟨by rw [HN.out]; rfl, HB⟩
    · rw [if_neg ke] at hN
      go_enter Try.func23, Try.ntmps23
      go_upto_region 1 with fail
      have hA := heap_alloc_new w (.cells #[.int .i64 s.n, .int .i64 s.ep, .int .i64 s.fin, .int .i64 s.er, .slice y.B s.done.length y.cb, .slice y.C s.has.length y.cc] 48)
      have HB := (Below.refl w.heap.size w).alloc (Nat.le_refl _) (.cells #[.int .i64 s.n, .int .i64 s.ep, .int .i64 s.fin, .int .i64 s.er, .slice y.B s.done.length y.cb, .slice y.C s.has.length y.cc] 48)
      have hz := World.size_alloc w (.cells #[.int .i64 s.n, .int .i64 s.ep, .int .i64 s.fin, .int .i64 s.er, .slice y.B s.done.length y.cb, .slice y.C s.has.length y.cc] 48)
      generalize w.alloc (.cells #[.int .i64 s.n, .int .i64 s.ep, .int .i64 s.fin, .int .i64 s.er, .slice y.B s.done.length y.cb, .slice y.C s.has.length y.cc] 48) = W0 at hA HB hz ⊢
      have hA2 := heap_alloc_new W0 (.cells #[.int .i64 0, .int .i64 rn, .int .i64 re, .string rt, .int .i64 m.task, .int .i64 m.att, .slice v.A2 m.sz.length v.c2, .slice v.A3 m.sm.length v.c3, .slice v.A4 m.hm.length v.c4] 56)
      have d1 := (Below.refl W0.heap.size W0).alloc (Nat.le_refl _) (.cells #[.int .i64 0, .int .i64 rn, .int .i64 re, .string rt, .int .i64 m.task, .int .i64 m.att, .slice v.A2 m.sz.length v.c2, .slice v.A3 m.sm.length v.c3, .slice v.A4 m.hm.length v.c4] 56)
      generalize W0.alloc (.cells #[.int .i64 0, .int .i64 rn, .int .i64 re, .string rt, .int .i64 m.task, .int .i64 m.att, .slice v.A2 m.sz.length v.c2, .slice v.A3 m.sm.length v.c3, .slice v.A4 m.hm.length v.c4] 56) = W at hA2 d1 ⊢
      replace hA := (d1.block _ (by omega)).trans hA
      replace HB := bt HB HB.size d1
      rw [hz] at hA2
      have S0 : W.cell? ⟨w.heap.size, 0, none⟩ = some (.int .i64 s.n) := by rw [cell_of_row _ _ _ _ _ _ hA]; rfl
      have S1 : W.cell? ⟨w.heap.size, 1, none⟩ = some (.int .i64 s.ep) := by rw [cell_of_row _ _ _ _ _ _ hA]; rfl
      have S2 : W.cell? ⟨w.heap.size, 2, none⟩ = some (.int .i64 s.fin) := by rw [cell_of_row _ _ _ _ _ _ hA]; rfl
      have S3 : W.cell? ⟨w.heap.size, 3, none⟩ = some (.int .i64 s.er) := by rw [cell_of_row _ _ _ _ _ _ hA]; rfl
      have S4 : W.cell? ⟨w.heap.size, 4, none⟩ = some (.slice y.B s.done.length y.cb) := by rw [cell_of_row _ _ _ _ _ _ hA]; rfl
      have S5 : W.cell? ⟨w.heap.size, 5, none⟩ = some (.slice y.C s.has.length y.cc) := by rw [cell_of_row _ _ _ _ _ _ hA]; rfl
      have R0 : W.cell? ⟨w.heap.size + 1, 0, none⟩ = some (.int .i64 0) := by rw [cell_of_row _ _ _ _ _ _ hA2]; rfl
      have R1 : W.cell? ⟨w.heap.size + 1, 1, none⟩ = some (.int .i64 rn) := by rw [cell_of_row _ _ _ _ _ _ hA2]; rfl
      have R2 : W.cell? ⟨w.heap.size + 1, 2, none⟩ = some (.int .i64 re) := by rw [cell_of_row _ _ _ _ _ _ hA2]; rfl
      have R3 : W.cell? ⟨w.heap.size + 1, 3, none⟩ = some (.string rt) := by rw [cell_of_row _ _ _ _ _ _ hA2]; rfl
      have R4 : W.cell? ⟨w.heap.size + 1, 4, none⟩ = some (.int .i64 m.task) := by rw [cell_of_row _ _ _ _ _ _ hA2]; rfl
      have R5 : W.cell? ⟨w.heap.size + 1, 5, none⟩ = some (.int .i64 m.att) := by rw [cell_of_row _ _ _ _ _ _ hA2]; rfl
      have R6 : W.cell? ⟨w.heap.size + 1, 6, none⟩ = some (.slice v.A2 m.sz.length v.c2) := by rw [cell_of_row _ _ _ _ _ _ hA2]; rfl
      have R7 : W.cell? ⟨w.heap.size + 1, 7, none⟩ = some (.slice v.A3 m.sm.length v.c3) := by rw [cell_of_row _ _ _ _ _ _ hA2]; rfl
      have R8 : W.cell? ⟨w.heap.size + 1, 8, none⟩ = some (.slice v.A4 m.hm.length v.c4) := by rw [cell_of_row _ _ _ _ _ _ hA2]; rfl
      clear hA hA2 d1 hz
      have HN := Lib.hid (show N = 0 from hN)
      clear hN
      go_wp2
      go_ret
      exact ⟨by rw [HN.out]; rfl, HB⟩
  · have hf := hc2.resolve_left kz
    rw [if_neg kz, if_pos hf] at hN
    have tz : (rk == 0) = false := by simpa using kz
    have tf : (s.fin != 0) = true := by simpa using hf
    go_enter Try.func23, Try.ntmps23
    go_upto_region 1 with fail
    have hA := heap_alloc_new w (.cells #[.int .i64 s.n, .int .i64 s.ep, .int .i64 s.fin, .int .i64 s.er, .slice y.B s.done.length y.cb, .slice y.C s.has.length y.cc] 48)
    have HB := (Below.refl w.heap.size w).alloc (Nat.le_refl _) (.cells #[.int .i64 s.n, .int .i64 s.ep, .int .i64 s.fin, .int .i64 s.er, .slice y.B s.done.length y.cb, .slice y.C s.has.length y.cc] 48)
    have hz := World.size_alloc w (.cells #[.int .i64 s.n, .int .i64 s.ep, .int .i64 s.fin, .int .i64 s.er, .slice y.B s.done.length y.cb, .slice y.C s.has.length y.cc] 48)
    generalize w.alloc (.cells #[.int .i64 s.n, .int .i64 s.ep, .int .i64 s.fin, .int .i64 s.er, .slice y.B s.done.length y.cb, .slice y.C s.has.length y.cc] 48) = W0 at hA HB hz ⊢
    have hA2 := heap_alloc_new W0 (.cells #[.int .i64 rk, .int .i64 rn, .int .i64 re, .string rt, .int .i64 m.task, .int .i64 m.att, .slice v.A2 m.sz.length v.c2, .slice v.A3 m.sm.length v.c3, .slice v.A4 m.hm.length v.c4] 56)
    have d1 := (Below.refl W0.heap.size W0).alloc (Nat.le_refl _) (.cells #[.int .i64 rk, .int .i64 rn, .int .i64 re, .string rt, .int .i64 m.task, .int .i64 m.att, .slice v.A2 m.sz.length v.c2, .slice v.A3 m.sm.length v.c3, .slice v.A4 m.hm.length v.c4] 56)
    generalize W0.alloc (.cells #[.int .i64 rk, .int .i64 rn, .int .i64 re, .string rt, .int .i64 m.task, .int .i64 m.att, .slice v.A2 m.sz.length v.c2, .slice v.A3 m.sm.length v.c3, .slice v.A4 m.hm.length v.c4] 56) = W at hA2 d1 ⊢
    replace hA := (d1.block _ (by omega)).trans hA
    replace HB := bt HB HB.size d1
    rw [hz] at hA2
    have S0 : W.cell? ⟨w.heap.size, 0, none⟩ = some (.int .i64 s.n) := by rw [cell_of_row _ _ _ _ _ _ hA]; rfl
    have S1 : W.cell? ⟨w.heap.size, 1, none⟩ = some (.int .i64 s.ep) := by rw [cell_of_row _ _ _ _ _ _ hA]; rfl
    have S2 : W.cell? ⟨w.heap.size, 2, none⟩ = some (.int .i64 s.fin) := by rw [cell_of_row _ _ _ _ _ _ hA]; rfl
    have S3 : W.cell? ⟨w.heap.size, 3, none⟩ = some (.int .i64 s.er) := by rw [cell_of_row _ _ _ _ _ _ hA]; rfl
    have S4 : W.cell? ⟨w.heap.size, 4, none⟩ = some (.slice y.B s.done.length y.cb) := by rw [cell_of_row _ _ _ _ _ _ hA]; rfl
    have S5 : W.cell? ⟨w.heap.size, 5, none⟩ = some (.slice y.C s.has.length y.cc) := by rw [cell_of_row _ _ _ _ _ _ hA]; rfl
    have R0 : W.cell? ⟨w.heap.size + 1, 0, none⟩ = some (.int .i64 rk) := by rw [cell_of_row _ _ _ _ _ _ hA2]; rfl
    have R1 : W.cell? ⟨w.heap.size + 1, 1, none⟩ = some (.int .i64 rn) := by rw [cell_of_row _ _ _ _ _ _ hA2]; rfl
    have R2 : W.cell? ⟨w.heap.size + 1, 2, none⟩ = some (.int .i64 re) := by rw [cell_of_row _ _ _ _ _ _ hA2]; rfl
    have R3 : W.cell? ⟨w.heap.size + 1, 3, none⟩ = some (.string rt) := by rw [cell_of_row _ _ _ _ _ _ hA2]; rfl
    have R4 : W.cell? ⟨w.heap.size + 1, 4, none⟩ = some (.int .i64 m.task) := by rw [cell_of_row _ _ _ _ _ _ hA2]; rfl
    have R5 : W.cell? ⟨w.heap.size + 1, 5, none⟩ = some (.int .i64 m.att) := by rw [cell_of_row _ _ _ _ _ _ hA2]; rfl
    have R6 : W.cell? ⟨w.heap.size + 1, 6, none⟩ = some (.slice v.A2 m.sz.length v.c2) := by rw [cell_of_row _ _ _ _ _ _ hA2]; rfl
    have R7 : W.cell? ⟨w.heap.size + 1, 7, none⟩ = some (.slice v.A3 m.sm.length v.c3) := by rw [cell_of_row _ _ _ _ _ _ hA2]; rfl
    have R8 : W.cell? ⟨w.heap.size + 1, 8, none⟩ = some (.slice v.A4 m.hm.length v.c4) := by rw [cell_of_row _ _ _ _ _ _ hA2]; rfl
    clear hA hA2 d1 hz
    have HN := Lib.hid (show N = 19 from hN)
    clear hN
    go_wp2
    go_ret
    exact ⟨by rw [HN.out]; rfl, HB⟩
theorem why_pre {s : LS} {r : LR} (nb : ¬ badR r) (kz : r.kind ≠ 0) (hf : s.fin = 0) : applyP s r = if 0 ≤ mostP s r ∧ mostP s r ≤ r.n then (s, 1) else methP s r := by
  unfold applyP
  rw [if_neg nb, if_neg kz, if_neg (by omega)]
set_option maxRecDepth 100000 in
set_option maxHeartbeats 8000000 in
theorem why2 (h : RefW w y s) (hv : ManV w v m) (hs : Slim m) (nb : ¬ badR ⟨rk, rn, re, rt, m⟩) (hf : s.fin = 0) (hk : rk = 2) : Calls Try.prog 23 #[.agg #[.int .i64 s.n, .int .i64 s.ep, .int .i64 s.fin, .int .i64 s.er, .slice y.B s.done.length y.cb, .slice y.C s.has.length y.cc], .agg #[.int .i64 rk, .int .i64 rn, .int .i64 re, .string rt, .int .i64 m.task, .int .i64 m.att, .slice v.A2 m.sz.length v.c2, .slice v.A3 m.sm.length v.c3, .slice v.A4 m.hm.length v.c4]] w (fun e w' => e = .returned (.int .i64 ((applyP s ⟨rk, rn, re, rt, m⟩).2 : Nat)) ∧ Below w.heap.size w w') := by
  subst hk
  have HH := Lib.hid h
  have HM := Lib.hid hv
  have HS := Lib.hid hs
  have fd := h.ok.few
  have fp := h.ok.fewp
  obtain ⟨N, hN⟩ : ∃ N, N = (applyP s ⟨2, rn, re, rt, m⟩).2 := ⟨_, rfl⟩
  rw [← hN]
  clear h hv hs
  have kk := nb
  unfold badR at kk
  dsimp only at kk
  have t2 : decide (re < 0) = false := by simp; omega
  have t3 : decide (255 < re) = false := by simp; omega
  have t4 : decide (rn < 0) = false := by simp; omega
  have t5 : decide (2147483647 < rn) = false := by simp; omega
  rw [why_pre nb (show (2 : Int) ≠ 0 from by decide) hf] at hN
  have hn0 : 0 ≤ rn := by omega
  have tf : (s.fin != 0) = false := by simp [hf]
  obtain ⟨t, rfl⟩ := Int.eq_ofNat_of_zero_le hn0
  clear nb hf hn0 kk
  have hmo : mostP s ⟨2, (t : Nat), re, rt, m⟩ = (s.done.length : Nat) := rfl
  rw [hmo] at hN
  dsimp only at hN
  by_cases hl : (s.done.length : Int) ≤ (t : Int)
  · rw [if_pos ⟨by omega, hl⟩] at hN
    go_enter Try.func23, Try.ntmps23
    go_upto_region 1 with fail
    have hA := heap_alloc_new w (.cells #[.int .i64 s.n, .int .i64 s.ep, .int .i64 s.fin, .int .i64 s.er, .slice y.B s.done.length y.cb, .slice y.C s.has.length y.cc] 48)
    have HB := (Below.refl w.heap.size w).alloc (Nat.le_refl _) (.cells #[.int .i64 s.n, .int .i64 s.ep, .int .i64 s.fin, .int .i64 s.er, .slice y.B s.done.length y.cb, .slice y.C s.has.length y.cc] 48)
    have hz := World.size_alloc w (.cells #[.int .i64 s.n, .int .i64 s.ep, .int .i64 s.fin, .int .i64 s.er, .slice y.B s.done.length y.cb, .slice y.C s.has.length y.cc] 48)
    generalize w.alloc (.cells #[.int .i64 s.n, .int .i64 s.ep, .int .i64 s.fin, .int .i64 s.er, .slice y.B s.done.length y.cb, .slice y.C s.has.length y.cc] 48) = W0 at hA HB hz ⊢
    have hA2 := heap_alloc_new W0 (.cells #[.int .i64 2, .int .i64 (t : Nat), .int .i64 re, .string rt, .int .i64 m.task, .int .i64 m.att, .slice v.A2 m.sz.length v.c2, .slice v.A3 m.sm.length v.c3, .slice v.A4 m.hm.length v.c4] 56)
    have d1 := (Below.refl W0.heap.size W0).alloc (Nat.le_refl _) (.cells #[.int .i64 2, .int .i64 (t : Nat), .int .i64 re, .string rt, .int .i64 m.task, .int .i64 m.att, .slice v.A2 m.sz.length v.c2, .slice v.A3 m.sm.length v.c3, .slice v.A4 m.hm.length v.c4] 56)
    generalize W0.alloc (.cells #[.int .i64 2, .int .i64 (t : Nat), .int .i64 re, .string rt, .int .i64 m.task, .int .i64 m.att, .slice v.A2 m.sz.length v.c2, .slice v.A3 m.sm.length v.c3, .slice v.A4 m.hm.length v.c4] 56) = W at hA2 d1 ⊢
    replace hA := (d1.block _ (by omega)).trans hA
    replace HB := bt HB HB.size d1
    rw [hz] at hA2
    have S0 : W.cell? ⟨w.heap.size, 0, none⟩ = some (.int .i64 s.n) := by rw [cell_of_row _ _ _ _ _ _ hA]; rfl
    have S1 : W.cell? ⟨w.heap.size, 1, none⟩ = some (.int .i64 s.ep) := by rw [cell_of_row _ _ _ _ _ _ hA]; rfl
    have S2 : W.cell? ⟨w.heap.size, 2, none⟩ = some (.int .i64 s.fin) := by rw [cell_of_row _ _ _ _ _ _ hA]; rfl
    have S3 : W.cell? ⟨w.heap.size, 3, none⟩ = some (.int .i64 s.er) := by rw [cell_of_row _ _ _ _ _ _ hA]; rfl
    have S4 : W.cell? ⟨w.heap.size, 4, none⟩ = some (.slice y.B s.done.length y.cb) := by rw [cell_of_row _ _ _ _ _ _ hA]; rfl
    have S5 : W.cell? ⟨w.heap.size, 5, none⟩ = some (.slice y.C s.has.length y.cc) := by rw [cell_of_row _ _ _ _ _ _ hA]; rfl
    have R0 : W.cell? ⟨w.heap.size + 1, 0, none⟩ = some (.int .i64 2) := by rw [cell_of_row _ _ _ _ _ _ hA2]; rfl
    have R1 : W.cell? ⟨w.heap.size + 1, 1, none⟩ = some (.int .i64 (t : Nat)) := by rw [cell_of_row _ _ _ _ _ _ hA2]; rfl
    have R2 : W.cell? ⟨w.heap.size + 1, 2, none⟩ = some (.int .i64 re) := by rw [cell_of_row _ _ _ _ _ _ hA2]; rfl
    have R3 : W.cell? ⟨w.heap.size + 1, 3, none⟩ = some (.string rt) := by rw [cell_of_row _ _ _ _ _ _ hA2]; rfl
    have R4 : W.cell? ⟨w.heap.size + 1, 4, none⟩ = some (.int .i64 m.task) := by rw [cell_of_row _ _ _ _ _ _ hA2]; rfl
    have R5 : W.cell? ⟨w.heap.size + 1, 5, none⟩ = some (.int .i64 m.att) := by rw [cell_of_row _ _ _ _ _ _ hA2]; rfl
    have R6 : W.cell? ⟨w.heap.size + 1, 6, none⟩ = some (.slice v.A2 m.sz.length v.c2) := by rw [cell_of_row _ _ _ _ _ _ hA2]; rfl
    have R7 : W.cell? ⟨w.heap.size + 1, 7, none⟩ = some (.slice v.A3 m.sm.length v.c3) := by rw [cell_of_row _ _ _ _ _ _ hA2]; rfl
    have R8 : W.cell? ⟨w.heap.size + 1, 8, none⟩ = some (.slice v.A4 m.hm.length v.c4) := by rw [cell_of_row _ _ _ _ _ _ hA2]; rfl
    clear hA hA2 d1 hz
    have HN := Lib.hid (show N = 1 from hN)
    clear hN
    go_wp2
    go_ret
    exact ⟨by rw [HN.out]; rfl, HB⟩
  · rw [if_neg (fun h => hl h.2), show methP s ⟨2, (t : Nat), re, rt, m⟩ = taskErrP s ⟨2, (t : Nat), re, rt, m⟩ from rfl] at hN
    have htl : t < s.done.length := by omega
    have i0 : (0 : Int) ≤ (t : Int) := by omega
    have i1 : (t : Int) < (s.done.length : Int) := by omega
    unfold taskErrP at hN
    dsimp only at hN
    rw [Int.toNat_natCast] at hN
    go_enter Try.func23, Try.ntmps23
    go_upto_region 1 with fail
    have hA := heap_alloc_new w (.cells #[.int .i64 s.n, .int .i64 s.ep, .int .i64 s.fin, .int .i64 s.er, .slice y.B s.done.length y.cb, .slice y.C s.has.length y.cc] 48)
    have HB := (Below.refl w.heap.size w).alloc (Nat.le_refl _) (.cells #[.int .i64 s.n, .int .i64 s.ep, .int .i64 s.fin, .int .i64 s.er, .slice y.B s.done.length y.cb, .slice y.C s.has.length y.cc] 48)
    have hz := World.size_alloc w (.cells #[.int .i64 s.n, .int .i64 s.ep, .int .i64 s.fin, .int .i64 s.er, .slice y.B s.done.length y.cb, .slice y.C s.has.length y.cc] 48)
    generalize w.alloc (.cells #[.int .i64 s.n, .int .i64 s.ep, .int .i64 s.fin, .int .i64 s.er, .slice y.B s.done.length y.cb, .slice y.C s.has.length y.cc] 48) = W0 at hA HB hz ⊢
    have hA2 := heap_alloc_new W0 (.cells #[.int .i64 2, .int .i64 (t : Nat), .int .i64 re, .string rt, .int .i64 m.task, .int .i64 m.att, .slice v.A2 m.sz.length v.c2, .slice v.A3 m.sm.length v.c3, .slice v.A4 m.hm.length v.c4] 56)
    have d1 := (Below.refl W0.heap.size W0).alloc (Nat.le_refl _) (.cells #[.int .i64 2, .int .i64 (t : Nat), .int .i64 re, .string rt, .int .i64 m.task, .int .i64 m.att, .slice v.A2 m.sz.length v.c2, .slice v.A3 m.sm.length v.c3, .slice v.A4 m.hm.length v.c4] 56)
    generalize W0.alloc (.cells #[.int .i64 2, .int .i64 (t : Nat), .int .i64 re, .string rt, .int .i64 m.task, .int .i64 m.att, .slice v.A2 m.sz.length v.c2, .slice v.A3 m.sm.length v.c3, .slice v.A4 m.hm.length v.c4] 56) = W at hA2 d1 ⊢
    replace hA := (d1.block _ (by omega)).trans hA
    replace HB := bt HB HB.size d1
    rw [hz] at hA2
    have S0 : W.cell? ⟨w.heap.size, 0, none⟩ = some (.int .i64 s.n) := by rw [cell_of_row _ _ _ _ _ _ hA]; rfl
    have S1 : W.cell? ⟨w.heap.size, 1, none⟩ = some (.int .i64 s.ep) := by rw [cell_of_row _ _ _ _ _ _ hA]; rfl
    have S2 : W.cell? ⟨w.heap.size, 2, none⟩ = some (.int .i64 s.fin) := by rw [cell_of_row _ _ _ _ _ _ hA]; rfl
    have S3 : W.cell? ⟨w.heap.size, 3, none⟩ = some (.int .i64 s.er) := by rw [cell_of_row _ _ _ _ _ _ hA]; rfl
    have S4 : W.cell? ⟨w.heap.size, 4, none⟩ = some (.slice y.B s.done.length y.cb) := by rw [cell_of_row _ _ _ _ _ _ hA]; rfl
    have S5 : W.cell? ⟨w.heap.size, 5, none⟩ = some (.slice y.C s.has.length y.cc) := by rw [cell_of_row _ _ _ _ _ _ hA]; rfl
    have R0 : W.cell? ⟨w.heap.size + 1, 0, none⟩ = some (.int .i64 2) := by rw [cell_of_row _ _ _ _ _ _ hA2]; rfl
    have R1 : W.cell? ⟨w.heap.size + 1, 1, none⟩ = some (.int .i64 (t : Nat)) := by rw [cell_of_row _ _ _ _ _ _ hA2]; rfl
    have R2 : W.cell? ⟨w.heap.size + 1, 2, none⟩ = some (.int .i64 re) := by rw [cell_of_row _ _ _ _ _ _ hA2]; rfl
    have R3 : W.cell? ⟨w.heap.size + 1, 3, none⟩ = some (.string rt) := by rw [cell_of_row _ _ _ _ _ _ hA2]; rfl
    have R4 : W.cell? ⟨w.heap.size + 1, 4, none⟩ = some (.int .i64 m.task) := by rw [cell_of_row _ _ _ _ _ _ hA2]; rfl
    have R5 : W.cell? ⟨w.heap.size + 1, 5, none⟩ = some (.int .i64 m.att) := by rw [cell_of_row _ _ _ _ _ _ hA2]; rfl
    have R6 : W.cell? ⟨w.heap.size + 1, 6, none⟩ = some (.slice v.A2 m.sz.length v.c2) := by rw [cell_of_row _ _ _ _ _ _ hA2]; rfl
    have R7 : W.cell? ⟨w.heap.size + 1, 7, none⟩ = some (.slice v.A3 m.sm.length v.c3) := by rw [cell_of_row _ _ _ _ _ _ hA2]; rfl
    have R8 : W.cell? ⟨w.heap.size + 1, 8, none⟩ = some (.slice v.A4 m.hm.length v.c4) := by rw [cell_of_row _ _ _ _ _ _ hA2]; rfl
    clear hA hA2 d1 hz
    have HW0 := Lib.hid (HH.out.below HB)
    have HV0 := Lib.hid (HM.out.below HB)
    go_upto_region 12 with (go_at_call 52; (with_reducible refine (count_any y s _ HW0.out).mono ?_); rintro e w3 ⟨rfl, hd⟩; replace S0 := cell_below hd S0; replace S1 := cell_below hd S1; replace S2 := cell_below hd S2; replace S3 := cell_below hd S3; replace S4 := cell_below hd S4; replace S5 := cell_below hd S5; replace R0 := cell_below hd R0; replace R1 := cell_below hd R1; replace R2 := cell_below hd R2; replace R3 := cell_below hd R3; replace R4 := cell_below hd R4; replace R5 := cell_below hd R5; replace R6 := cell_below hd R6; replace R7 := cell_below hd R7; replace R8 := cell_below hd R8; replace HB := HB.trans (hd.mono HB.size); have HW := Lib.hid (HW0.out.below hd); have HV := Lib.hid (HV0.out.below hd); clear hd)
    clear HW0 HV0
    obtain ⟨b, off, eB, g0, g1, g2, g3, g4, g5, g6⟩ := HW.out.task (t := t) (by omega)
    rw [eB] at S4
    clear eB
    by_cases he : re = 0
    · rw [if_pos he] at hN
      have te : (re == 0) = true := by simp [he]
      clear he
      have HN := Lib.hid (show N = 1 from hN)
      clear hN
      go_wp2
      go_ret
      exact ⟨by rw [HN.out]; rfl, HB⟩
    rw [if_neg he] at hN
    have te : (re == 0) = false := by simpa using he
    generalize s.done.getD t false = D at g0 hN
    generalize s.te.getD t 0 = E at g6 hN
    cases D with
    | true =>
      rw [if_pos (.inl rfl)] at hN
      have HN := Lib.hid (show N = 18 from hN)
      clear hN
      go_wp2
      go_ret
      exact ⟨by rw [HN.out]; rfl, HB⟩
    | false =>
      by_cases hE : E = 0
      · rw [if_neg (by simp [hE])] at hN
        have tE : (E != 0) = false := by simp [hE]
        clear hE
        have HN := Lib.hid (show N = 0 from hN)
        clear hN
        go_wp2
        go_ret
        exact ⟨by rw [HN.out]; rfl, HB⟩
      · rw [if_pos (.inr hE)] at hN
        have tE : (E != 0) = true := by simpa using hE
        clear hE
        have HN := Lib.hid (show N = 18 from hN)
        clear hN
        go_wp2
        go_ret
        exact ⟨by rw [HN.out]; rfl, HB⟩
set_option maxRecDepth 100000 in
set_option maxHeartbeats 8000000 in
theorem why3 (h : RefW w y s) (hv : ManV w v m) (hs : Slim m) (nb : ¬ badR ⟨rk, rn, re, rt, m⟩) (hf : s.fin = 0) (hk : rk = 3) : Calls Try.prog 23 #[.agg #[.int .i64 s.n, .int .i64 s.ep, .int .i64 s.fin, .int .i64 s.er, .slice y.B s.done.length y.cb, .slice y.C s.has.length y.cc], .agg #[.int .i64 rk, .int .i64 rn, .int .i64 re, .string rt, .int .i64 m.task, .int .i64 m.att, .slice v.A2 m.sz.length v.c2, .slice v.A3 m.sm.length v.c3, .slice v.A4 m.hm.length v.c4]] w (fun e w' => e = .returned (.int .i64 ((applyP s ⟨rk, rn, re, rt, m⟩).2 : Nat)) ∧ Below w.heap.size w w') := by
  subst hk
  have HH := Lib.hid h
  have HM := Lib.hid hv
  have HS := Lib.hid hs
  have fd := h.ok.few
  have fp := h.ok.fewp
  obtain ⟨N, hN⟩ : ∃ N, N = (applyP s ⟨3, rn, re, rt, m⟩).2 := ⟨_, rfl⟩
  rw [← hN]
  clear h hv hs
  have kk := nb
  unfold badR at kk
  dsimp only at kk
  have t2 : decide (re < 0) = false := by simp; omega
  have t3 : decide (255 < re) = false := by simp; omega
  have t4 : decide (rn < 0) = false := by simp; omega
  have t5 : decide (2147483647 < rn) = false := by simp; omega
  rw [why_pre nb (show (3 : Int) ≠ 0 from by decide) hf] at hN
  have hn0 : 0 ≤ rn := by omega
  have tf : (s.fin != 0) = false := by simp [hf]
  obtain ⟨t, rfl⟩ := Int.eq_ofNat_of_zero_le hn0
  clear nb hf hn0 kk
  have hmo : mostP s ⟨3, (t : Nat), re, rt, m⟩ = (s.done.length : Nat) := rfl
  rw [hmo] at hN
  dsimp only at hN
  by_cases hl : (s.done.length : Int) ≤ (t : Int)
  · rw [if_pos ⟨by omega, hl⟩] at hN
    go_enter Try.func23, Try.ntmps23
    go_upto_region 1 with fail
    have hA := heap_alloc_new w (.cells #[.int .i64 s.n, .int .i64 s.ep, .int .i64 s.fin, .int .i64 s.er, .slice y.B s.done.length y.cb, .slice y.C s.has.length y.cc] 48)
    have HB := (Below.refl w.heap.size w).alloc (Nat.le_refl _) (.cells #[.int .i64 s.n, .int .i64 s.ep, .int .i64 s.fin, .int .i64 s.er, .slice y.B s.done.length y.cb, .slice y.C s.has.length y.cc] 48)
    have hz := World.size_alloc w (.cells #[.int .i64 s.n, .int .i64 s.ep, .int .i64 s.fin, .int .i64 s.er, .slice y.B s.done.length y.cb, .slice y.C s.has.length y.cc] 48)
    generalize w.alloc (.cells #[.int .i64 s.n, .int .i64 s.ep, .int .i64 s.fin, .int .i64 s.er, .slice y.B s.done.length y.cb, .slice y.C s.has.length y.cc] 48) = W0 at hA HB hz ⊢
    have hA2 := heap_alloc_new W0 (.cells #[.int .i64 3, .int .i64 (t : Nat), .int .i64 re, .string rt, .int .i64 m.task, .int .i64 m.att, .slice v.A2 m.sz.length v.c2, .slice v.A3 m.sm.length v.c3, .slice v.A4 m.hm.length v.c4] 56)
    have d1 := (Below.refl W0.heap.size W0).alloc (Nat.le_refl _) (.cells #[.int .i64 3, .int .i64 (t : Nat), .int .i64 re, .string rt, .int .i64 m.task, .int .i64 m.att, .slice v.A2 m.sz.length v.c2, .slice v.A3 m.sm.length v.c3, .slice v.A4 m.hm.length v.c4] 56)
    generalize W0.alloc (.cells #[.int .i64 3, .int .i64 (t : Nat), .int .i64 re, .string rt, .int .i64 m.task, .int .i64 m.att, .slice v.A2 m.sz.length v.c2, .slice v.A3 m.sm.length v.c3, .slice v.A4 m.hm.length v.c4] 56) = W at hA2 d1 ⊢
    replace hA := (d1.block _ (by omega)).trans hA
    replace HB := bt HB HB.size d1
    rw [hz] at hA2
    have S0 : W.cell? ⟨w.heap.size, 0, none⟩ = some (.int .i64 s.n) := by rw [cell_of_row _ _ _ _ _ _ hA]; rfl
    have S1 : W.cell? ⟨w.heap.size, 1, none⟩ = some (.int .i64 s.ep) := by rw [cell_of_row _ _ _ _ _ _ hA]; rfl
    have S2 : W.cell? ⟨w.heap.size, 2, none⟩ = some (.int .i64 s.fin) := by rw [cell_of_row _ _ _ _ _ _ hA]; rfl
    have S3 : W.cell? ⟨w.heap.size, 3, none⟩ = some (.int .i64 s.er) := by rw [cell_of_row _ _ _ _ _ _ hA]; rfl
    have S4 : W.cell? ⟨w.heap.size, 4, none⟩ = some (.slice y.B s.done.length y.cb) := by rw [cell_of_row _ _ _ _ _ _ hA]; rfl
    have S5 : W.cell? ⟨w.heap.size, 5, none⟩ = some (.slice y.C s.has.length y.cc) := by rw [cell_of_row _ _ _ _ _ _ hA]; rfl
    have R0 : W.cell? ⟨w.heap.size + 1, 0, none⟩ = some (.int .i64 3) := by rw [cell_of_row _ _ _ _ _ _ hA2]; rfl
    have R1 : W.cell? ⟨w.heap.size + 1, 1, none⟩ = some (.int .i64 (t : Nat)) := by rw [cell_of_row _ _ _ _ _ _ hA2]; rfl
    have R2 : W.cell? ⟨w.heap.size + 1, 2, none⟩ = some (.int .i64 re) := by rw [cell_of_row _ _ _ _ _ _ hA2]; rfl
    have R3 : W.cell? ⟨w.heap.size + 1, 3, none⟩ = some (.string rt) := by rw [cell_of_row _ _ _ _ _ _ hA2]; rfl
    have R4 : W.cell? ⟨w.heap.size + 1, 4, none⟩ = some (.int .i64 m.task) := by rw [cell_of_row _ _ _ _ _ _ hA2]; rfl
    have R5 : W.cell? ⟨w.heap.size + 1, 5, none⟩ = some (.int .i64 m.att) := by rw [cell_of_row _ _ _ _ _ _ hA2]; rfl
    have R6 : W.cell? ⟨w.heap.size + 1, 6, none⟩ = some (.slice v.A2 m.sz.length v.c2) := by rw [cell_of_row _ _ _ _ _ _ hA2]; rfl
    have R7 : W.cell? ⟨w.heap.size + 1, 7, none⟩ = some (.slice v.A3 m.sm.length v.c3) := by rw [cell_of_row _ _ _ _ _ _ hA2]; rfl
    have R8 : W.cell? ⟨w.heap.size + 1, 8, none⟩ = some (.slice v.A4 m.hm.length v.c4) := by rw [cell_of_row _ _ _ _ _ _ hA2]; rfl
    clear hA hA2 d1 hz
    have HN := Lib.hid (show N = 1 from hN)
    clear hN
    go_wp2
    go_ret
    exact ⟨by rw [HN.out]; rfl, HB⟩
  · rw [if_neg (fun h => hl h.2), show methP s ⟨3, (t : Nat), re, rt, m⟩ = lostP s ⟨3, (t : Nat), re, rt, m⟩ from rfl] at hN
    have htl : t < s.done.length := by omega
    have i0 : (0 : Int) ≤ (t : Int) := by omega
    have i1 : (t : Int) < (s.done.length : Int) := by omega
    unfold lostP at hN
    dsimp only at hN
    rw [Int.toNat_natCast] at hN
    go_enter Try.func23, Try.ntmps23
    go_upto_region 1 with fail
    have hA := heap_alloc_new w (.cells #[.int .i64 s.n, .int .i64 s.ep, .int .i64 s.fin, .int .i64 s.er, .slice y.B s.done.length y.cb, .slice y.C s.has.length y.cc] 48)
    have HB := (Below.refl w.heap.size w).alloc (Nat.le_refl _) (.cells #[.int .i64 s.n, .int .i64 s.ep, .int .i64 s.fin, .int .i64 s.er, .slice y.B s.done.length y.cb, .slice y.C s.has.length y.cc] 48)
    have hz := World.size_alloc w (.cells #[.int .i64 s.n, .int .i64 s.ep, .int .i64 s.fin, .int .i64 s.er, .slice y.B s.done.length y.cb, .slice y.C s.has.length y.cc] 48)
    generalize w.alloc (.cells #[.int .i64 s.n, .int .i64 s.ep, .int .i64 s.fin, .int .i64 s.er, .slice y.B s.done.length y.cb, .slice y.C s.has.length y.cc] 48) = W0 at hA HB hz ⊢
    have hA2 := heap_alloc_new W0 (.cells #[.int .i64 3, .int .i64 (t : Nat), .int .i64 re, .string rt, .int .i64 m.task, .int .i64 m.att, .slice v.A2 m.sz.length v.c2, .slice v.A3 m.sm.length v.c3, .slice v.A4 m.hm.length v.c4] 56)
    have d1 := (Below.refl W0.heap.size W0).alloc (Nat.le_refl _) (.cells #[.int .i64 3, .int .i64 (t : Nat), .int .i64 re, .string rt, .int .i64 m.task, .int .i64 m.att, .slice v.A2 m.sz.length v.c2, .slice v.A3 m.sm.length v.c3, .slice v.A4 m.hm.length v.c4] 56)
    generalize W0.alloc (.cells #[.int .i64 3, .int .i64 (t : Nat), .int .i64 re, .string rt, .int .i64 m.task, .int .i64 m.att, .slice v.A2 m.sz.length v.c2, .slice v.A3 m.sm.length v.c3, .slice v.A4 m.hm.length v.c4] 56) = W at hA2 d1 ⊢
    replace hA := (d1.block _ (by omega)).trans hA
    replace HB := bt HB HB.size d1
    rw [hz] at hA2
    have S0 : W.cell? ⟨w.heap.size, 0, none⟩ = some (.int .i64 s.n) := by rw [cell_of_row _ _ _ _ _ _ hA]; rfl
    have S1 : W.cell? ⟨w.heap.size, 1, none⟩ = some (.int .i64 s.ep) := by rw [cell_of_row _ _ _ _ _ _ hA]; rfl
    have S2 : W.cell? ⟨w.heap.size, 2, none⟩ = some (.int .i64 s.fin) := by rw [cell_of_row _ _ _ _ _ _ hA]; rfl
    have S3 : W.cell? ⟨w.heap.size, 3, none⟩ = some (.int .i64 s.er) := by rw [cell_of_row _ _ _ _ _ _ hA]; rfl
    have S4 : W.cell? ⟨w.heap.size, 4, none⟩ = some (.slice y.B s.done.length y.cb) := by rw [cell_of_row _ _ _ _ _ _ hA]; rfl
    have S5 : W.cell? ⟨w.heap.size, 5, none⟩ = some (.slice y.C s.has.length y.cc) := by rw [cell_of_row _ _ _ _ _ _ hA]; rfl
    have R0 : W.cell? ⟨w.heap.size + 1, 0, none⟩ = some (.int .i64 3) := by rw [cell_of_row _ _ _ _ _ _ hA2]; rfl
    have R1 : W.cell? ⟨w.heap.size + 1, 1, none⟩ = some (.int .i64 (t : Nat)) := by rw [cell_of_row _ _ _ _ _ _ hA2]; rfl
    have R2 : W.cell? ⟨w.heap.size + 1, 2, none⟩ = some (.int .i64 re) := by rw [cell_of_row _ _ _ _ _ _ hA2]; rfl
    have R3 : W.cell? ⟨w.heap.size + 1, 3, none⟩ = some (.string rt) := by rw [cell_of_row _ _ _ _ _ _ hA2]; rfl
    have R4 : W.cell? ⟨w.heap.size + 1, 4, none⟩ = some (.int .i64 m.task) := by rw [cell_of_row _ _ _ _ _ _ hA2]; rfl
    have R5 : W.cell? ⟨w.heap.size + 1, 5, none⟩ = some (.int .i64 m.att) := by rw [cell_of_row _ _ _ _ _ _ hA2]; rfl
    have R6 : W.cell? ⟨w.heap.size + 1, 6, none⟩ = some (.slice v.A2 m.sz.length v.c2) := by rw [cell_of_row _ _ _ _ _ _ hA2]; rfl
    have R7 : W.cell? ⟨w.heap.size + 1, 7, none⟩ = some (.slice v.A3 m.sm.length v.c3) := by rw [cell_of_row _ _ _ _ _ _ hA2]; rfl
    have R8 : W.cell? ⟨w.heap.size + 1, 8, none⟩ = some (.slice v.A4 m.hm.length v.c4) := by rw [cell_of_row _ _ _ _ _ _ hA2]; rfl
    clear hA hA2 d1 hz
    have HW0 := Lib.hid (HH.out.below HB)
    have HV0 := Lib.hid (HM.out.below HB)
    go_upto_region 12 with (go_at_call 52; (with_reducible refine (count_any y s _ HW0.out).mono ?_); rintro e w3 ⟨rfl, hd⟩; replace S0 := cell_below hd S0; replace S1 := cell_below hd S1; replace S2 := cell_below hd S2; replace S3 := cell_below hd S3; replace S4 := cell_below hd S4; replace S5 := cell_below hd S5; replace R0 := cell_below hd R0; replace R1 := cell_below hd R1; replace R2 := cell_below hd R2; replace R3 := cell_below hd R3; replace R4 := cell_below hd R4; replace R5 := cell_below hd R5; replace R6 := cell_below hd R6; replace R7 := cell_below hd R7; replace R8 := cell_below hd R8; replace HB := HB.trans (hd.mono HB.size); have HW := Lib.hid (HW0.out.below hd); have HV := Lib.hid (HV0.out.below hd); clear hd)
    clear HW0 HV0
    obtain ⟨b, off, eB, g0, g1, g2, g3, g4, g5, g6⟩ := HW.out.task (t := t) (by omega)
    rw [eB] at S4
    clear eB
    generalize s.done.getD t false = D at g0 hN
    cases D with
    | true =>
      rw [if_neg (by decide)] at hN
      have HN := Lib.hid (show N = 0 from hN)
      clear hN
      go_wp2
      go_ret
      exact ⟨by rw [HN.out]; rfl, HB⟩
    | false =>
      rw [if_pos rfl] at hN
      have HN := Lib.hid (show N = 19 from hN)
      clear hN
      go_wp2
      go_ret
      exact ⟨by rw [HN.out]; rfl, HB⟩
set_option maxRecDepth 100000 in
set_option maxHeartbeats 8000000 in
theorem why4 (h : RefW w y s) (hv : ManV w v m) (hs : Slim m) (nb : ¬ badR ⟨rk, rn, re, rt, m⟩) (hf : s.fin = 0) (hk : rk = 4) : Calls Try.prog 23 #[.agg #[.int .i64 s.n, .int .i64 s.ep, .int .i64 s.fin, .int .i64 s.er, .slice y.B s.done.length y.cb, .slice y.C s.has.length y.cc], .agg #[.int .i64 rk, .int .i64 rn, .int .i64 re, .string rt, .int .i64 m.task, .int .i64 m.att, .slice v.A2 m.sz.length v.c2, .slice v.A3 m.sm.length v.c3, .slice v.A4 m.hm.length v.c4]] w (fun e w' => e = .returned (.int .i64 ((applyP s ⟨rk, rn, re, rt, m⟩).2 : Nat)) ∧ Below w.heap.size w w') := by
  subst hk
  have HH := Lib.hid h
  have HM := Lib.hid hv
  have HS := Lib.hid hs
  have fd := h.ok.few
  have fp := h.ok.fewp
  obtain ⟨N, hN⟩ : ∃ N, N = (applyP s ⟨4, rn, re, rt, m⟩).2 := ⟨_, rfl⟩
  rw [← hN]
  clear h hv hs
  have kk := nb
  unfold badR at kk
  dsimp only at kk
  have t2 : decide (re < 0) = false := by simp; omega
  have t3 : decide (255 < re) = false := by simp; omega
  have t4 : decide (rn < 0) = false := by simp; omega
  have t5 : decide (2147483647 < rn) = false := by simp; omega
  rw [why_pre nb (show (4 : Int) ≠ 0 from by decide) hf] at hN
  have hn0 : 0 ≤ rn := by omega
  have tf : (s.fin != 0) = false := by simp [hf]
  obtain ⟨t, rfl⟩ := Int.eq_ofNat_of_zero_le hn0
  clear nb hf hn0 kk
  have hmo : mostP s ⟨4, (t : Nat), re, rt, m⟩ = (s.has.length : Nat) := rfl
  rw [hmo] at hN
  dsimp only at hN
  by_cases hl : (s.has.length : Int) ≤ (t : Int)
  · rw [if_pos ⟨by omega, hl⟩] at hN
    go_enter Try.func23, Try.ntmps23
    go_upto_region 1 with fail
    have hA := heap_alloc_new w (.cells #[.int .i64 s.n, .int .i64 s.ep, .int .i64 s.fin, .int .i64 s.er, .slice y.B s.done.length y.cb, .slice y.C s.has.length y.cc] 48)
    have HB := (Below.refl w.heap.size w).alloc (Nat.le_refl _) (.cells #[.int .i64 s.n, .int .i64 s.ep, .int .i64 s.fin, .int .i64 s.er, .slice y.B s.done.length y.cb, .slice y.C s.has.length y.cc] 48)
    have hz := World.size_alloc w (.cells #[.int .i64 s.n, .int .i64 s.ep, .int .i64 s.fin, .int .i64 s.er, .slice y.B s.done.length y.cb, .slice y.C s.has.length y.cc] 48)
    generalize w.alloc (.cells #[.int .i64 s.n, .int .i64 s.ep, .int .i64 s.fin, .int .i64 s.er, .slice y.B s.done.length y.cb, .slice y.C s.has.length y.cc] 48) = W0 at hA HB hz ⊢
    have hA2 := heap_alloc_new W0 (.cells #[.int .i64 4, .int .i64 (t : Nat), .int .i64 re, .string rt, .int .i64 m.task, .int .i64 m.att, .slice v.A2 m.sz.length v.c2, .slice v.A3 m.sm.length v.c3, .slice v.A4 m.hm.length v.c4] 56)
    have d1 := (Below.refl W0.heap.size W0).alloc (Nat.le_refl _) (.cells #[.int .i64 4, .int .i64 (t : Nat), .int .i64 re, .string rt, .int .i64 m.task, .int .i64 m.att, .slice v.A2 m.sz.length v.c2, .slice v.A3 m.sm.length v.c3, .slice v.A4 m.hm.length v.c4] 56)
    generalize W0.alloc (.cells #[.int .i64 4, .int .i64 (t : Nat), .int .i64 re, .string rt, .int .i64 m.task, .int .i64 m.att, .slice v.A2 m.sz.length v.c2, .slice v.A3 m.sm.length v.c3, .slice v.A4 m.hm.length v.c4] 56) = W at hA2 d1 ⊢
    replace hA := (d1.block _ (by omega)).trans hA
    replace HB := bt HB HB.size d1
    rw [hz] at hA2
    have S0 : W.cell? ⟨w.heap.size, 0, none⟩ = some (.int .i64 s.n) := by rw [cell_of_row _ _ _ _ _ _ hA]; rfl
    have S1 : W.cell? ⟨w.heap.size, 1, none⟩ = some (.int .i64 s.ep) := by rw [cell_of_row _ _ _ _ _ _ hA]; rfl
    have S2 : W.cell? ⟨w.heap.size, 2, none⟩ = some (.int .i64 s.fin) := by rw [cell_of_row _ _ _ _ _ _ hA]; rfl
    have S3 : W.cell? ⟨w.heap.size, 3, none⟩ = some (.int .i64 s.er) := by rw [cell_of_row _ _ _ _ _ _ hA]; rfl
    have S4 : W.cell? ⟨w.heap.size, 4, none⟩ = some (.slice y.B s.done.length y.cb) := by rw [cell_of_row _ _ _ _ _ _ hA]; rfl
    have S5 : W.cell? ⟨w.heap.size, 5, none⟩ = some (.slice y.C s.has.length y.cc) := by rw [cell_of_row _ _ _ _ _ _ hA]; rfl
    have R0 : W.cell? ⟨w.heap.size + 1, 0, none⟩ = some (.int .i64 4) := by rw [cell_of_row _ _ _ _ _ _ hA2]; rfl
    have R1 : W.cell? ⟨w.heap.size + 1, 1, none⟩ = some (.int .i64 (t : Nat)) := by rw [cell_of_row _ _ _ _ _ _ hA2]; rfl
    have R2 : W.cell? ⟨w.heap.size + 1, 2, none⟩ = some (.int .i64 re) := by rw [cell_of_row _ _ _ _ _ _ hA2]; rfl
    have R3 : W.cell? ⟨w.heap.size + 1, 3, none⟩ = some (.string rt) := by rw [cell_of_row _ _ _ _ _ _ hA2]; rfl
    have R4 : W.cell? ⟨w.heap.size + 1, 4, none⟩ = some (.int .i64 m.task) := by rw [cell_of_row _ _ _ _ _ _ hA2]; rfl
    have R5 : W.cell? ⟨w.heap.size + 1, 5, none⟩ = some (.int .i64 m.att) := by rw [cell_of_row _ _ _ _ _ _ hA2]; rfl
    have R6 : W.cell? ⟨w.heap.size + 1, 6, none⟩ = some (.slice v.A2 m.sz.length v.c2) := by rw [cell_of_row _ _ _ _ _ _ hA2]; rfl
    have R7 : W.cell? ⟨w.heap.size + 1, 7, none⟩ = some (.slice v.A3 m.sm.length v.c3) := by rw [cell_of_row _ _ _ _ _ _ hA2]; rfl
    have R8 : W.cell? ⟨w.heap.size + 1, 8, none⟩ = some (.slice v.A4 m.hm.length v.c4) := by rw [cell_of_row _ _ _ _ _ _ hA2]; rfl
    clear hA hA2 d1 hz
    have HN := Lib.hid (show N = 1 from hN)
    clear hN
    go_wp2
    go_ret
    exact ⟨by rw [HN.out]; rfl, HB⟩
  · rw [if_neg (fun h => hl h.2), show methP s ⟨4, (t : Nat), re, rt, m⟩ = resultP s ⟨4, (t : Nat), re, rt, m⟩ from rfl] at hN
    have htl : t < s.has.length := by omega
    have i0 : (0 : Int) ≤ (t : Int) := by omega
    have i1 : (t : Int) < (s.has.length : Int) := by omega
    unfold resultP at hN
    dsimp only at hN
    rw [Int.toNat_natCast] at hN
    go_enter Try.func23, Try.ntmps23
    go_upto_region 1 with fail
    have hA := heap_alloc_new w (.cells #[.int .i64 s.n, .int .i64 s.ep, .int .i64 s.fin, .int .i64 s.er, .slice y.B s.done.length y.cb, .slice y.C s.has.length y.cc] 48)
    have HB := (Below.refl w.heap.size w).alloc (Nat.le_refl _) (.cells #[.int .i64 s.n, .int .i64 s.ep, .int .i64 s.fin, .int .i64 s.er, .slice y.B s.done.length y.cb, .slice y.C s.has.length y.cc] 48)
    have hz := World.size_alloc w (.cells #[.int .i64 s.n, .int .i64 s.ep, .int .i64 s.fin, .int .i64 s.er, .slice y.B s.done.length y.cb, .slice y.C s.has.length y.cc] 48)
    generalize w.alloc (.cells #[.int .i64 s.n, .int .i64 s.ep, .int .i64 s.fin, .int .i64 s.er, .slice y.B s.done.length y.cb, .slice y.C s.has.length y.cc] 48) = W0 at hA HB hz ⊢
    have hA2 := heap_alloc_new W0 (.cells #[.int .i64 4, .int .i64 (t : Nat), .int .i64 re, .string rt, .int .i64 m.task, .int .i64 m.att, .slice v.A2 m.sz.length v.c2, .slice v.A3 m.sm.length v.c3, .slice v.A4 m.hm.length v.c4] 56)
    have d1 := (Below.refl W0.heap.size W0).alloc (Nat.le_refl _) (.cells #[.int .i64 4, .int .i64 (t : Nat), .int .i64 re, .string rt, .int .i64 m.task, .int .i64 m.att, .slice v.A2 m.sz.length v.c2, .slice v.A3 m.sm.length v.c3, .slice v.A4 m.hm.length v.c4] 56)
    generalize W0.alloc (.cells #[.int .i64 4, .int .i64 (t : Nat), .int .i64 re, .string rt, .int .i64 m.task, .int .i64 m.att, .slice v.A2 m.sz.length v.c2, .slice v.A3 m.sm.length v.c3, .slice v.A4 m.hm.length v.c4] 56) = W at hA2 d1 ⊢
    replace hA := (d1.block _ (by omega)).trans hA
    replace HB := bt HB HB.size d1
    rw [hz] at hA2
    have S0 : W.cell? ⟨w.heap.size, 0, none⟩ = some (.int .i64 s.n) := by rw [cell_of_row _ _ _ _ _ _ hA]; rfl
    have S1 : W.cell? ⟨w.heap.size, 1, none⟩ = some (.int .i64 s.ep) := by rw [cell_of_row _ _ _ _ _ _ hA]; rfl
    have S2 : W.cell? ⟨w.heap.size, 2, none⟩ = some (.int .i64 s.fin) := by rw [cell_of_row _ _ _ _ _ _ hA]; rfl
    have S3 : W.cell? ⟨w.heap.size, 3, none⟩ = some (.int .i64 s.er) := by rw [cell_of_row _ _ _ _ _ _ hA]; rfl
    have S4 : W.cell? ⟨w.heap.size, 4, none⟩ = some (.slice y.B s.done.length y.cb) := by rw [cell_of_row _ _ _ _ _ _ hA]; rfl
    have S5 : W.cell? ⟨w.heap.size, 5, none⟩ = some (.slice y.C s.has.length y.cc) := by rw [cell_of_row _ _ _ _ _ _ hA]; rfl
    have R0 : W.cell? ⟨w.heap.size + 1, 0, none⟩ = some (.int .i64 4) := by rw [cell_of_row _ _ _ _ _ _ hA2]; rfl
    have R1 : W.cell? ⟨w.heap.size + 1, 1, none⟩ = some (.int .i64 (t : Nat)) := by rw [cell_of_row _ _ _ _ _ _ hA2]; rfl
    have R2 : W.cell? ⟨w.heap.size + 1, 2, none⟩ = some (.int .i64 re) := by rw [cell_of_row _ _ _ _ _ _ hA2]; rfl
    have R3 : W.cell? ⟨w.heap.size + 1, 3, none⟩ = some (.string rt) := by rw [cell_of_row _ _ _ _ _ _ hA2]; rfl
    have R4 : W.cell? ⟨w.heap.size + 1, 4, none⟩ = some (.int .i64 m.task) := by rw [cell_of_row _ _ _ _ _ _ hA2]; rfl
    have R5 : W.cell? ⟨w.heap.size + 1, 5, none⟩ = some (.int .i64 m.att) := by rw [cell_of_row _ _ _ _ _ _ hA2]; rfl
    have R6 : W.cell? ⟨w.heap.size + 1, 6, none⟩ = some (.slice v.A2 m.sz.length v.c2) := by rw [cell_of_row _ _ _ _ _ _ hA2]; rfl
    have R7 : W.cell? ⟨w.heap.size + 1, 7, none⟩ = some (.slice v.A3 m.sm.length v.c3) := by rw [cell_of_row _ _ _ _ _ _ hA2]; rfl
    have R8 : W.cell? ⟨w.heap.size + 1, 8, none⟩ = some (.slice v.A4 m.hm.length v.c4) := by rw [cell_of_row _ _ _ _ _ _ hA2]; rfl
    clear hA hA2 d1 hz
    have HW0 := Lib.hid (HH.out.below HB)
    have HV0 := Lib.hid (HM.out.below HB)
    go_upto_region 12 with (go_at_call 52; (with_reducible refine (count_any y s _ HW0.out).mono ?_); rintro e w3 ⟨rfl, hd⟩; replace S0 := cell_below hd S0; replace S1 := cell_below hd S1; replace S2 := cell_below hd S2; replace S3 := cell_below hd S3; replace S4 := cell_below hd S4; replace S5 := cell_below hd S5; replace R0 := cell_below hd R0; replace R1 := cell_below hd R1; replace R2 := cell_below hd R2; replace R3 := cell_below hd R3; replace R4 := cell_below hd R4; replace R5 := cell_below hd R5; replace R6 := cell_below hd R6; replace R7 := cell_below hd R7; replace R8 := cell_below hd R8; replace HB := HB.trans (hd.mono HB.size); have HW := Lib.hid (HW0.out.below hd); have HV := Lib.hid (HV0.out.below hd); clear hd)
    clear HW0 HV0
    obtain ⟨b, off, eB, g0, g1, g2, g3⟩ := HW.out.part (p := t) (by omega)
    rw [eB] at S5
    clear eB
    by_cases he : 1048576 < rt.size
    · rw [if_pos he] at hN
      have te : decide ((1048576 : Int) < ((rt.size : Nat) : Int)) = true := by simp; omega
      have HN := Lib.hid (show N = 3 from hN)
      clear hN
      go_wp2
      go_ret
      exact ⟨by rw [HN.out]; rfl, HB⟩
    rw [if_neg he] at hN
    have te : decide ((1048576 : Int) < ((rt.size : Nat) : Int)) = false := by simp; omega
    generalize s.has.getD t false = D at g0 hN
    generalize s.pe.getD t 0 = E at g2 hN
    cases D with
    | true =>
      rw [if_pos (.inl rfl)] at hN
      have HN := Lib.hid (show N = 18 from hN)
      clear hN
      go_wp2
      go_ret
      exact ⟨by rw [HN.out]; rfl, HB⟩
    | false =>
      by_cases hE : E = 0
      · rw [if_neg (by simp [hE])] at hN
        have tE : (E != 0) = false := by simp [hE]
        clear hE
        have HN := Lib.hid (show N = 0 from hN)
        clear hN
        go_wp2
        go_ret
        exact ⟨by rw [HN.out]; rfl, HB⟩
      · rw [if_pos (.inr hE)] at hN
        have tE : (E != 0) = true := by simpa using hE
        clear hE
        have HN := Lib.hid (show N = 18 from hN)
        clear hN
        go_wp2
        go_ret
        exact ⟨by rw [HN.out]; rfl, HB⟩
set_option maxRecDepth 100000 in
set_option maxHeartbeats 8000000 in
theorem why5 (h : RefW w y s) (hv : ManV w v m) (hs : Slim m) (nb : ¬ badR ⟨rk, rn, re, rt, m⟩) (hf : s.fin = 0) (hk : rk = 5) : Calls Try.prog 23 #[.agg #[.int .i64 s.n, .int .i64 s.ep, .int .i64 s.fin, .int .i64 s.er, .slice y.B s.done.length y.cb, .slice y.C s.has.length y.cc], .agg #[.int .i64 rk, .int .i64 rn, .int .i64 re, .string rt, .int .i64 m.task, .int .i64 m.att, .slice v.A2 m.sz.length v.c2, .slice v.A3 m.sm.length v.c3, .slice v.A4 m.hm.length v.c4]] w (fun e w' => e = .returned (.int .i64 ((applyP s ⟨rk, rn, re, rt, m⟩).2 : Nat)) ∧ Below w.heap.size w w') := by
  subst hk
  have HH := Lib.hid h
  have HM := Lib.hid hv
  have HS := Lib.hid hs
  have fd := h.ok.few
  have fp := h.ok.fewp
  obtain ⟨N, hN⟩ : ∃ N, N = (applyP s ⟨5, rn, re, rt, m⟩).2 := ⟨_, rfl⟩
  rw [← hN]
  clear h hv hs
  have kk := nb
  unfold badR at kk
  dsimp only at kk
  have t2 : decide (re < 0) = false := by simp; omega
  have t3 : decide (255 < re) = false := by simp; omega
  have t4 : decide (rn < 0) = false := by simp; omega
  have t5 : decide (2147483647 < rn) = false := by simp; omega
  rw [why_pre nb (show (5 : Int) ≠ 0 from by decide) hf] at hN
  have hn0 : 0 ≤ rn := by omega
  have tf : (s.fin != 0) = false := by simp [hf]
  obtain ⟨t, rfl⟩ := Int.eq_ofNat_of_zero_le hn0
  clear nb hf hn0 kk
  have hmo : mostP s ⟨5, (t : Nat), re, rt, m⟩ = (s.has.length : Nat) := rfl
  rw [hmo] at hN
  dsimp only at hN
  by_cases hl : (s.has.length : Int) ≤ (t : Int)
  · rw [if_pos ⟨by omega, hl⟩] at hN
    go_enter Try.func23, Try.ntmps23
    go_upto_region 1 with fail
    have hA := heap_alloc_new w (.cells #[.int .i64 s.n, .int .i64 s.ep, .int .i64 s.fin, .int .i64 s.er, .slice y.B s.done.length y.cb, .slice y.C s.has.length y.cc] 48)
    have HB := (Below.refl w.heap.size w).alloc (Nat.le_refl _) (.cells #[.int .i64 s.n, .int .i64 s.ep, .int .i64 s.fin, .int .i64 s.er, .slice y.B s.done.length y.cb, .slice y.C s.has.length y.cc] 48)
    have hz := World.size_alloc w (.cells #[.int .i64 s.n, .int .i64 s.ep, .int .i64 s.fin, .int .i64 s.er, .slice y.B s.done.length y.cb, .slice y.C s.has.length y.cc] 48)
    generalize w.alloc (.cells #[.int .i64 s.n, .int .i64 s.ep, .int .i64 s.fin, .int .i64 s.er, .slice y.B s.done.length y.cb, .slice y.C s.has.length y.cc] 48) = W0 at hA HB hz ⊢
    have hA2 := heap_alloc_new W0 (.cells #[.int .i64 5, .int .i64 (t : Nat), .int .i64 re, .string rt, .int .i64 m.task, .int .i64 m.att, .slice v.A2 m.sz.length v.c2, .slice v.A3 m.sm.length v.c3, .slice v.A4 m.hm.length v.c4] 56)
    have d1 := (Below.refl W0.heap.size W0).alloc (Nat.le_refl _) (.cells #[.int .i64 5, .int .i64 (t : Nat), .int .i64 re, .string rt, .int .i64 m.task, .int .i64 m.att, .slice v.A2 m.sz.length v.c2, .slice v.A3 m.sm.length v.c3, .slice v.A4 m.hm.length v.c4] 56)
    generalize W0.alloc (.cells #[.int .i64 5, .int .i64 (t : Nat), .int .i64 re, .string rt, .int .i64 m.task, .int .i64 m.att, .slice v.A2 m.sz.length v.c2, .slice v.A3 m.sm.length v.c3, .slice v.A4 m.hm.length v.c4] 56) = W at hA2 d1 ⊢
    replace hA := (d1.block _ (by omega)).trans hA
    replace HB := bt HB HB.size d1
    rw [hz] at hA2
    have S0 : W.cell? ⟨w.heap.size, 0, none⟩ = some (.int .i64 s.n) := by rw [cell_of_row _ _ _ _ _ _ hA]; rfl
    have S1 : W.cell? ⟨w.heap.size, 1, none⟩ = some (.int .i64 s.ep) := by rw [cell_of_row _ _ _ _ _ _ hA]; rfl
    have S2 : W.cell? ⟨w.heap.size, 2, none⟩ = some (.int .i64 s.fin) := by rw [cell_of_row _ _ _ _ _ _ hA]; rfl
    have S3 : W.cell? ⟨w.heap.size, 3, none⟩ = some (.int .i64 s.er) := by rw [cell_of_row _ _ _ _ _ _ hA]; rfl
    have S4 : W.cell? ⟨w.heap.size, 4, none⟩ = some (.slice y.B s.done.length y.cb) := by rw [cell_of_row _ _ _ _ _ _ hA]; rfl
    have S5 : W.cell? ⟨w.heap.size, 5, none⟩ = some (.slice y.C s.has.length y.cc) := by rw [cell_of_row _ _ _ _ _ _ hA]; rfl
    have R0 : W.cell? ⟨w.heap.size + 1, 0, none⟩ = some (.int .i64 5) := by rw [cell_of_row _ _ _ _ _ _ hA2]; rfl
    have R1 : W.cell? ⟨w.heap.size + 1, 1, none⟩ = some (.int .i64 (t : Nat)) := by rw [cell_of_row _ _ _ _ _ _ hA2]; rfl
    have R2 : W.cell? ⟨w.heap.size + 1, 2, none⟩ = some (.int .i64 re) := by rw [cell_of_row _ _ _ _ _ _ hA2]; rfl
    have R3 : W.cell? ⟨w.heap.size + 1, 3, none⟩ = some (.string rt) := by rw [cell_of_row _ _ _ _ _ _ hA2]; rfl
    have R4 : W.cell? ⟨w.heap.size + 1, 4, none⟩ = some (.int .i64 m.task) := by rw [cell_of_row _ _ _ _ _ _ hA2]; rfl
    have R5 : W.cell? ⟨w.heap.size + 1, 5, none⟩ = some (.int .i64 m.att) := by rw [cell_of_row _ _ _ _ _ _ hA2]; rfl
    have R6 : W.cell? ⟨w.heap.size + 1, 6, none⟩ = some (.slice v.A2 m.sz.length v.c2) := by rw [cell_of_row _ _ _ _ _ _ hA2]; rfl
    have R7 : W.cell? ⟨w.heap.size + 1, 7, none⟩ = some (.slice v.A3 m.sm.length v.c3) := by rw [cell_of_row _ _ _ _ _ _ hA2]; rfl
    have R8 : W.cell? ⟨w.heap.size + 1, 8, none⟩ = some (.slice v.A4 m.hm.length v.c4) := by rw [cell_of_row _ _ _ _ _ _ hA2]; rfl
    clear hA hA2 d1 hz
    have HN := Lib.hid (show N = 1 from hN)
    clear hN
    go_wp2
    go_ret
    exact ⟨by rw [HN.out]; rfl, HB⟩
  · rw [if_neg (fun h => hl h.2), show methP s ⟨5, (t : Nat), re, rt, m⟩ = partErrP s ⟨5, (t : Nat), re, rt, m⟩ from rfl] at hN
    have htl : t < s.has.length := by omega
    have i0 : (0 : Int) ≤ (t : Int) := by omega
    have i1 : (t : Int) < (s.has.length : Int) := by omega
    unfold partErrP at hN
    dsimp only at hN
    rw [Int.toNat_natCast] at hN
    go_enter Try.func23, Try.ntmps23
    go_upto_region 1 with fail
    have hA := heap_alloc_new w (.cells #[.int .i64 s.n, .int .i64 s.ep, .int .i64 s.fin, .int .i64 s.er, .slice y.B s.done.length y.cb, .slice y.C s.has.length y.cc] 48)
    have HB := (Below.refl w.heap.size w).alloc (Nat.le_refl _) (.cells #[.int .i64 s.n, .int .i64 s.ep, .int .i64 s.fin, .int .i64 s.er, .slice y.B s.done.length y.cb, .slice y.C s.has.length y.cc] 48)
    have hz := World.size_alloc w (.cells #[.int .i64 s.n, .int .i64 s.ep, .int .i64 s.fin, .int .i64 s.er, .slice y.B s.done.length y.cb, .slice y.C s.has.length y.cc] 48)
    generalize w.alloc (.cells #[.int .i64 s.n, .int .i64 s.ep, .int .i64 s.fin, .int .i64 s.er, .slice y.B s.done.length y.cb, .slice y.C s.has.length y.cc] 48) = W0 at hA HB hz ⊢
    have hA2 := heap_alloc_new W0 (.cells #[.int .i64 5, .int .i64 (t : Nat), .int .i64 re, .string rt, .int .i64 m.task, .int .i64 m.att, .slice v.A2 m.sz.length v.c2, .slice v.A3 m.sm.length v.c3, .slice v.A4 m.hm.length v.c4] 56)
    have d1 := (Below.refl W0.heap.size W0).alloc (Nat.le_refl _) (.cells #[.int .i64 5, .int .i64 (t : Nat), .int .i64 re, .string rt, .int .i64 m.task, .int .i64 m.att, .slice v.A2 m.sz.length v.c2, .slice v.A3 m.sm.length v.c3, .slice v.A4 m.hm.length v.c4] 56)
    generalize W0.alloc (.cells #[.int .i64 5, .int .i64 (t : Nat), .int .i64 re, .string rt, .int .i64 m.task, .int .i64 m.att, .slice v.A2 m.sz.length v.c2, .slice v.A3 m.sm.length v.c3, .slice v.A4 m.hm.length v.c4] 56) = W at hA2 d1 ⊢
    replace hA := (d1.block _ (by omega)).trans hA
    replace HB := bt HB HB.size d1
    rw [hz] at hA2
    have S0 : W.cell? ⟨w.heap.size, 0, none⟩ = some (.int .i64 s.n) := by rw [cell_of_row _ _ _ _ _ _ hA]; rfl
    have S1 : W.cell? ⟨w.heap.size, 1, none⟩ = some (.int .i64 s.ep) := by rw [cell_of_row _ _ _ _ _ _ hA]; rfl
    have S2 : W.cell? ⟨w.heap.size, 2, none⟩ = some (.int .i64 s.fin) := by rw [cell_of_row _ _ _ _ _ _ hA]; rfl
    have S3 : W.cell? ⟨w.heap.size, 3, none⟩ = some (.int .i64 s.er) := by rw [cell_of_row _ _ _ _ _ _ hA]; rfl
    have S4 : W.cell? ⟨w.heap.size, 4, none⟩ = some (.slice y.B s.done.length y.cb) := by rw [cell_of_row _ _ _ _ _ _ hA]; rfl
    have S5 : W.cell? ⟨w.heap.size, 5, none⟩ = some (.slice y.C s.has.length y.cc) := by rw [cell_of_row _ _ _ _ _ _ hA]; rfl
    have R0 : W.cell? ⟨w.heap.size + 1, 0, none⟩ = some (.int .i64 5) := by rw [cell_of_row _ _ _ _ _ _ hA2]; rfl
    have R1 : W.cell? ⟨w.heap.size + 1, 1, none⟩ = some (.int .i64 (t : Nat)) := by rw [cell_of_row _ _ _ _ _ _ hA2]; rfl
    have R2 : W.cell? ⟨w.heap.size + 1, 2, none⟩ = some (.int .i64 re) := by rw [cell_of_row _ _ _ _ _ _ hA2]; rfl
    have R3 : W.cell? ⟨w.heap.size + 1, 3, none⟩ = some (.string rt) := by rw [cell_of_row _ _ _ _ _ _ hA2]; rfl
    have R4 : W.cell? ⟨w.heap.size + 1, 4, none⟩ = some (.int .i64 m.task) := by rw [cell_of_row _ _ _ _ _ _ hA2]; rfl
    have R5 : W.cell? ⟨w.heap.size + 1, 5, none⟩ = some (.int .i64 m.att) := by rw [cell_of_row _ _ _ _ _ _ hA2]; rfl
    have R6 : W.cell? ⟨w.heap.size + 1, 6, none⟩ = some (.slice v.A2 m.sz.length v.c2) := by rw [cell_of_row _ _ _ _ _ _ hA2]; rfl
    have R7 : W.cell? ⟨w.heap.size + 1, 7, none⟩ = some (.slice v.A3 m.sm.length v.c3) := by rw [cell_of_row _ _ _ _ _ _ hA2]; rfl
    have R8 : W.cell? ⟨w.heap.size + 1, 8, none⟩ = some (.slice v.A4 m.hm.length v.c4) := by rw [cell_of_row _ _ _ _ _ _ hA2]; rfl
    clear hA hA2 d1 hz
    have HW0 := Lib.hid (HH.out.below HB)
    have HV0 := Lib.hid (HM.out.below HB)
    go_upto_region 12 with (go_at_call 52; (with_reducible refine (count_any y s _ HW0.out).mono ?_); rintro e w3 ⟨rfl, hd⟩; replace S0 := cell_below hd S0; replace S1 := cell_below hd S1; replace S2 := cell_below hd S2; replace S3 := cell_below hd S3; replace S4 := cell_below hd S4; replace S5 := cell_below hd S5; replace R0 := cell_below hd R0; replace R1 := cell_below hd R1; replace R2 := cell_below hd R2; replace R3 := cell_below hd R3; replace R4 := cell_below hd R4; replace R5 := cell_below hd R5; replace R6 := cell_below hd R6; replace R7 := cell_below hd R7; replace R8 := cell_below hd R8; replace HB := HB.trans (hd.mono HB.size); have HW := Lib.hid (HW0.out.below hd); have HV := Lib.hid (HV0.out.below hd); clear hd)
    clear HW0 HV0
    obtain ⟨b, off, eB, g0, g1, g2, g3⟩ := HW.out.part (p := t) (by omega)
    rw [eB] at S5
    clear eB
    by_cases he : re = 0
    · rw [if_pos he] at hN
      have te : (re == 0) = true := by simp [he]
      clear he
      have HN := Lib.hid (show N = 1 from hN)
      clear hN
      go_wp2
      go_ret
      exact ⟨by rw [HN.out]; rfl, HB⟩
    rw [if_neg he] at hN
    have te : (re == 0) = false := by simpa using he
    generalize s.has.getD t false = D at g0 hN
    generalize s.pe.getD t 0 = E at g2 hN
    cases D with
    | true =>
      rw [if_pos (.inl rfl)] at hN
      have HN := Lib.hid (show N = 18 from hN)
      clear hN
      go_wp2
      go_ret
      exact ⟨by rw [HN.out]; rfl, HB⟩
    | false =>
      by_cases hE : E = 0
      · rw [if_neg (by simp [hE])] at hN
        have tE : (E != 0) = false := by simp [hE]
        clear hE
        have HN := Lib.hid (show N = 0 from hN)
        clear hN
        go_wp2
        go_ret
        exact ⟨by rw [HN.out]; rfl, HB⟩
      · rw [if_pos (.inr hE)] at hN
        have tE : (E != 0) = true := by simpa using hE
        clear hE
        have HN := Lib.hid (show N = 18 from hN)
        clear hN
        go_wp2
        go_ret
        exact ⟨by rw [HN.out]; rfl, HB⟩
set_option maxRecDepth 100000 in
set_option maxHeartbeats 8000000 in
theorem why6 (h : RefW w y s) (hv : ManV w v m) (hs : Slim m) (nb : ¬ badR ⟨rk, rn, re, rt, m⟩) (hf : s.fin = 0) (hk : rk = 6) : Calls Try.prog 23 #[.agg #[.int .i64 s.n, .int .i64 s.ep, .int .i64 s.fin, .int .i64 s.er, .slice y.B s.done.length y.cb, .slice y.C s.has.length y.cc], .agg #[.int .i64 rk, .int .i64 rn, .int .i64 re, .string rt, .int .i64 m.task, .int .i64 m.att, .slice v.A2 m.sz.length v.c2, .slice v.A3 m.sm.length v.c3, .slice v.A4 m.hm.length v.c4]] w (fun e w' => e = .returned (.int .i64 ((applyP s ⟨rk, rn, re, rt, m⟩).2 : Nat)) ∧ Below w.heap.size w w') := by
  subst hk
  have HH := Lib.hid h
  have HM := Lib.hid hv
  have HS := Lib.hid hs
  have fd := h.ok.few
  have fp := h.ok.fewp
  obtain ⟨N, hN⟩ : ∃ N, N = (applyP s ⟨6, rn, re, rt, m⟩).2 := ⟨_, rfl⟩
  rw [← hN]
  clear h hv hs
  have kk := nb
  unfold badR at kk
  dsimp only at kk
  have t2 : decide (re < 0) = false := by simp; omega
  have t3 : decide (255 < re) = false := by simp; omega
  have t4 : decide (rn < 0) = false := by simp; omega
  have t5 : decide (2147483647 < rn) = false := by simp; omega
  rw [why_pre nb (show (6 : Int) ≠ 0 from by decide) hf] at hN
  have hn0 : 0 ≤ rn := by omega
  have tf : (s.fin != 0) = false := by simp [hf]
  obtain ⟨t, rfl⟩ := Int.eq_ofNat_of_zero_le hn0
  clear nb hf hn0 kk
  have hmo : mostP s ⟨6, (t : Nat), re, rt, m⟩ = (s.has.length : Nat) := rfl
  rw [hmo] at hN
  dsimp only at hN
  by_cases hl : (s.has.length : Int) ≤ (t : Int)
  · rw [if_pos ⟨by omega, hl⟩] at hN
    go_enter Try.func23, Try.ntmps23
    go_upto_region 1 with fail
    have hA := heap_alloc_new w (.cells #[.int .i64 s.n, .int .i64 s.ep, .int .i64 s.fin, .int .i64 s.er, .slice y.B s.done.length y.cb, .slice y.C s.has.length y.cc] 48)
    have HB := (Below.refl w.heap.size w).alloc (Nat.le_refl _) (.cells #[.int .i64 s.n, .int .i64 s.ep, .int .i64 s.fin, .int .i64 s.er, .slice y.B s.done.length y.cb, .slice y.C s.has.length y.cc] 48)
    have hz := World.size_alloc w (.cells #[.int .i64 s.n, .int .i64 s.ep, .int .i64 s.fin, .int .i64 s.er, .slice y.B s.done.length y.cb, .slice y.C s.has.length y.cc] 48)
    generalize w.alloc (.cells #[.int .i64 s.n, .int .i64 s.ep, .int .i64 s.fin, .int .i64 s.er, .slice y.B s.done.length y.cb, .slice y.C s.has.length y.cc] 48) = W0 at hA HB hz ⊢
    have hA2 := heap_alloc_new W0 (.cells #[.int .i64 6, .int .i64 (t : Nat), .int .i64 re, .string rt, .int .i64 m.task, .int .i64 m.att, .slice v.A2 m.sz.length v.c2, .slice v.A3 m.sm.length v.c3, .slice v.A4 m.hm.length v.c4] 56)
    have d1 := (Below.refl W0.heap.size W0).alloc (Nat.le_refl _) (.cells #[.int .i64 6, .int .i64 (t : Nat), .int .i64 re, .string rt, .int .i64 m.task, .int .i64 m.att, .slice v.A2 m.sz.length v.c2, .slice v.A3 m.sm.length v.c3, .slice v.A4 m.hm.length v.c4] 56)
    generalize W0.alloc (.cells #[.int .i64 6, .int .i64 (t : Nat), .int .i64 re, .string rt, .int .i64 m.task, .int .i64 m.att, .slice v.A2 m.sz.length v.c2, .slice v.A3 m.sm.length v.c3, .slice v.A4 m.hm.length v.c4] 56) = W at hA2 d1 ⊢
    replace hA := (d1.block _ (by omega)).trans hA
    replace HB := bt HB HB.size d1
    rw [hz] at hA2
    have S0 : W.cell? ⟨w.heap.size, 0, none⟩ = some (.int .i64 s.n) := by rw [cell_of_row _ _ _ _ _ _ hA]; rfl
    have S1 : W.cell? ⟨w.heap.size, 1, none⟩ = some (.int .i64 s.ep) := by rw [cell_of_row _ _ _ _ _ _ hA]; rfl
    have S2 : W.cell? ⟨w.heap.size, 2, none⟩ = some (.int .i64 s.fin) := by rw [cell_of_row _ _ _ _ _ _ hA]; rfl
    have S3 : W.cell? ⟨w.heap.size, 3, none⟩ = some (.int .i64 s.er) := by rw [cell_of_row _ _ _ _ _ _ hA]; rfl
    have S4 : W.cell? ⟨w.heap.size, 4, none⟩ = some (.slice y.B s.done.length y.cb) := by rw [cell_of_row _ _ _ _ _ _ hA]; rfl
    have S5 : W.cell? ⟨w.heap.size, 5, none⟩ = some (.slice y.C s.has.length y.cc) := by rw [cell_of_row _ _ _ _ _ _ hA]; rfl
    have R0 : W.cell? ⟨w.heap.size + 1, 0, none⟩ = some (.int .i64 6) := by rw [cell_of_row _ _ _ _ _ _ hA2]; rfl
    have R1 : W.cell? ⟨w.heap.size + 1, 1, none⟩ = some (.int .i64 (t : Nat)) := by rw [cell_of_row _ _ _ _ _ _ hA2]; rfl
    have R2 : W.cell? ⟨w.heap.size + 1, 2, none⟩ = some (.int .i64 re) := by rw [cell_of_row _ _ _ _ _ _ hA2]; rfl
    have R3 : W.cell? ⟨w.heap.size + 1, 3, none⟩ = some (.string rt) := by rw [cell_of_row _ _ _ _ _ _ hA2]; rfl
    have R4 : W.cell? ⟨w.heap.size + 1, 4, none⟩ = some (.int .i64 m.task) := by rw [cell_of_row _ _ _ _ _ _ hA2]; rfl
    have R5 : W.cell? ⟨w.heap.size + 1, 5, none⟩ = some (.int .i64 m.att) := by rw [cell_of_row _ _ _ _ _ _ hA2]; rfl
    have R6 : W.cell? ⟨w.heap.size + 1, 6, none⟩ = some (.slice v.A2 m.sz.length v.c2) := by rw [cell_of_row _ _ _ _ _ _ hA2]; rfl
    have R7 : W.cell? ⟨w.heap.size + 1, 7, none⟩ = some (.slice v.A3 m.sm.length v.c3) := by rw [cell_of_row _ _ _ _ _ _ hA2]; rfl
    have R8 : W.cell? ⟨w.heap.size + 1, 8, none⟩ = some (.slice v.A4 m.hm.length v.c4) := by rw [cell_of_row _ _ _ _ _ _ hA2]; rfl
    clear hA hA2 d1 hz
    have HN := Lib.hid (show N = 1 from hN)
    clear hN
    go_wp2
    go_ret
    exact ⟨by rw [HN.out]; rfl, HB⟩
  · rw [if_neg (fun h => hl h.2), show methP s ⟨6, (t : Nat), re, rt, m⟩ = commitP s ⟨6, (t : Nat), re, rt, m⟩ from rfl] at hN
    have htl : t < s.has.length := by omega
    have i0 : (0 : Int) ≤ (t : Int) := by omega
    have i1 : (t : Int) < (s.has.length : Int) := by omega
    unfold commitP at hN
    dsimp only at hN
    rw [Int.toNat_natCast] at hN
    go_enter Try.func23, Try.ntmps23
    go_upto_region 1 with fail
    have hA := heap_alloc_new w (.cells #[.int .i64 s.n, .int .i64 s.ep, .int .i64 s.fin, .int .i64 s.er, .slice y.B s.done.length y.cb, .slice y.C s.has.length y.cc] 48)
    have HB := (Below.refl w.heap.size w).alloc (Nat.le_refl _) (.cells #[.int .i64 s.n, .int .i64 s.ep, .int .i64 s.fin, .int .i64 s.er, .slice y.B s.done.length y.cb, .slice y.C s.has.length y.cc] 48)
    have hz := World.size_alloc w (.cells #[.int .i64 s.n, .int .i64 s.ep, .int .i64 s.fin, .int .i64 s.er, .slice y.B s.done.length y.cb, .slice y.C s.has.length y.cc] 48)
    generalize w.alloc (.cells #[.int .i64 s.n, .int .i64 s.ep, .int .i64 s.fin, .int .i64 s.er, .slice y.B s.done.length y.cb, .slice y.C s.has.length y.cc] 48) = W0 at hA HB hz ⊢
    have hA2 := heap_alloc_new W0 (.cells #[.int .i64 6, .int .i64 (t : Nat), .int .i64 re, .string rt, .int .i64 m.task, .int .i64 m.att, .slice v.A2 m.sz.length v.c2, .slice v.A3 m.sm.length v.c3, .slice v.A4 m.hm.length v.c4] 56)
    have d1 := (Below.refl W0.heap.size W0).alloc (Nat.le_refl _) (.cells #[.int .i64 6, .int .i64 (t : Nat), .int .i64 re, .string rt, .int .i64 m.task, .int .i64 m.att, .slice v.A2 m.sz.length v.c2, .slice v.A3 m.sm.length v.c3, .slice v.A4 m.hm.length v.c4] 56)
    generalize W0.alloc (.cells #[.int .i64 6, .int .i64 (t : Nat), .int .i64 re, .string rt, .int .i64 m.task, .int .i64 m.att, .slice v.A2 m.sz.length v.c2, .slice v.A3 m.sm.length v.c3, .slice v.A4 m.hm.length v.c4] 56) = W at hA2 d1 ⊢
    replace hA := (d1.block _ (by omega)).trans hA
    replace HB := bt HB HB.size d1
    rw [hz] at hA2
    have S0 : W.cell? ⟨w.heap.size, 0, none⟩ = some (.int .i64 s.n) := by rw [cell_of_row _ _ _ _ _ _ hA]; rfl
    have S1 : W.cell? ⟨w.heap.size, 1, none⟩ = some (.int .i64 s.ep) := by rw [cell_of_row _ _ _ _ _ _ hA]; rfl
    have S2 : W.cell? ⟨w.heap.size, 2, none⟩ = some (.int .i64 s.fin) := by rw [cell_of_row _ _ _ _ _ _ hA]; rfl
    have S3 : W.cell? ⟨w.heap.size, 3, none⟩ = some (.int .i64 s.er) := by rw [cell_of_row _ _ _ _ _ _ hA]; rfl
    have S4 : W.cell? ⟨w.heap.size, 4, none⟩ = some (.slice y.B s.done.length y.cb) := by rw [cell_of_row _ _ _ _ _ _ hA]; rfl
    have S5 : W.cell? ⟨w.heap.size, 5, none⟩ = some (.slice y.C s.has.length y.cc) := by rw [cell_of_row _ _ _ _ _ _ hA]; rfl
    have R0 : W.cell? ⟨w.heap.size + 1, 0, none⟩ = some (.int .i64 6) := by rw [cell_of_row _ _ _ _ _ _ hA2]; rfl
    have R1 : W.cell? ⟨w.heap.size + 1, 1, none⟩ = some (.int .i64 (t : Nat)) := by rw [cell_of_row _ _ _ _ _ _ hA2]; rfl
    have R2 : W.cell? ⟨w.heap.size + 1, 2, none⟩ = some (.int .i64 re) := by rw [cell_of_row _ _ _ _ _ _ hA2]; rfl
    have R3 : W.cell? ⟨w.heap.size + 1, 3, none⟩ = some (.string rt) := by rw [cell_of_row _ _ _ _ _ _ hA2]; rfl
    have R4 : W.cell? ⟨w.heap.size + 1, 4, none⟩ = some (.int .i64 m.task) := by rw [cell_of_row _ _ _ _ _ _ hA2]; rfl
    have R5 : W.cell? ⟨w.heap.size + 1, 5, none⟩ = some (.int .i64 m.att) := by rw [cell_of_row _ _ _ _ _ _ hA2]; rfl
    have R6 : W.cell? ⟨w.heap.size + 1, 6, none⟩ = some (.slice v.A2 m.sz.length v.c2) := by rw [cell_of_row _ _ _ _ _ _ hA2]; rfl
    have R7 : W.cell? ⟨w.heap.size + 1, 7, none⟩ = some (.slice v.A3 m.sm.length v.c3) := by rw [cell_of_row _ _ _ _ _ _ hA2]; rfl
    have R8 : W.cell? ⟨w.heap.size + 1, 8, none⟩ = some (.slice v.A4 m.hm.length v.c4) := by rw [cell_of_row _ _ _ _ _ _ hA2]; rfl
    clear hA hA2 d1 hz
    have HW0 := Lib.hid (HH.out.below HB)
    have HV0 := Lib.hid (HM.out.below HB)
    go_upto_region 12 with (go_at_call 52; (with_reducible refine (count_any y s _ HW0.out).mono ?_); rintro e w3 ⟨rfl, hd⟩; replace S0 := cell_below hd S0; replace S1 := cell_below hd S1; replace S2 := cell_below hd S2; replace S3 := cell_below hd S3; replace S4 := cell_below hd S4; replace S5 := cell_below hd S5; replace R0 := cell_below hd R0; replace R1 := cell_below hd R1; replace R2 := cell_below hd R2; replace R3 := cell_below hd R3; replace R4 := cell_below hd R4; replace R5 := cell_below hd R5; replace R6 := cell_below hd R6; replace R7 := cell_below hd R7; replace R8 := cell_below hd R8; replace HB := HB.trans (hd.mono HB.size); have HW := Lib.hid (HW0.out.below hd); have HV := Lib.hid (HV0.out.below hd); clear hd)
    clear HW0 HV0
    obtain ⟨b, off, eB, g0, g1, g2, g3⟩ := HW.out.part (p := t) (by omega)
    rw [eB] at S5
    clear eB
    generalize s.com.getD t false = D at g3 hN
    have hcf := count_full (l := s.has)
    by_cases hfh : false ∈ s.has
    · rw [if_pos hfh] at hN
      have i9 := hcf.2 hfh
      have i8 : ((s.has.count true : Nat) : Int) < ((s.has.length : Nat) : Int) := by omega
      clear hcf hfh i9
      have HN := Lib.hid (show N = 19 from hN)
      clear hN
      go_wp2
      go_ret
      exact ⟨by rw [HN.out]; rfl, HB⟩
    rw [if_neg hfh] at hN
    have i9 : ¬ s.has.count true < s.has.length := fun h => hfh (hcf.1 h)
    have i8 : ¬ ((s.has.count true : Nat) : Int) < ((s.has.length : Nat) : Int) := by omega
    clear hcf hfh i9
    cases D with
    | true =>
      rw [if_pos rfl] at hN
      have HN := Lib.hid (show N = 18 from hN)
      clear hN
      go_wp2
      go_ret
      exact ⟨by rw [HN.out]; rfl, HB⟩
    | false =>
      rw [if_neg (by decide)] at hN
      have HN := Lib.hid (show N = 0 from hN)
      clear hN
      go_wp2
      go_ret
      exact ⟨by rw [HN.out]; rfl, HB⟩
set_option maxRecDepth 100000 in
set_option maxHeartbeats 8000000 in
theorem why7 (h : RefW w y s) (hv : ManV w v m) (hs : Slim m) (nb : ¬ badR ⟨rk, rn, re, rt, m⟩) (hf : s.fin = 0) (hk : rk = 7) : Calls Try.prog 23 #[.agg #[.int .i64 s.n, .int .i64 s.ep, .int .i64 s.fin, .int .i64 s.er, .slice y.B s.done.length y.cb, .slice y.C s.has.length y.cc], .agg #[.int .i64 rk, .int .i64 rn, .int .i64 re, .string rt, .int .i64 m.task, .int .i64 m.att, .slice v.A2 m.sz.length v.c2, .slice v.A3 m.sm.length v.c3, .slice v.A4 m.hm.length v.c4]] w (fun e w' => e = .returned (.int .i64 ((applyP s ⟨rk, rn, re, rt, m⟩).2 : Nat)) ∧ Below w.heap.size w w') := by
  subst hk
  have HH := Lib.hid h
  have HM := Lib.hid hv
  have HS := Lib.hid hs
  have fd := h.ok.few
  have fp := h.ok.fewp
  obtain ⟨N, hN⟩ : ∃ N, N = (applyP s ⟨7, rn, re, rt, m⟩).2 := ⟨_, rfl⟩
  rw [← hN]
  clear h hv hs
  have kk := nb
  unfold badR at kk
  dsimp only at kk
  have t2 : decide (re < 0) = false := by simp; omega
  have t3 : decide (255 < re) = false := by simp; omega
  have t4 : decide (rn < 0) = false := by simp; omega
  have t5 : decide (2147483647 < rn) = false := by simp; omega
  rw [why_pre nb (show (7 : Int) ≠ 0 from by decide) hf] at hN
  have hn0 : 0 ≤ rn := by omega
  have tf : (s.fin != 0) = false := by simp [hf]
  skip
  clear nb hf hn0 kk
  rw [if_neg (fun hc => absurd hc.1 (show ¬ ((0 : Int) ≤ -1) from by decide)), show methP s ⟨7, rn, re, rt, m⟩ = endP s ⟨7, rn, re, rt, m⟩ from rfl] at hN
  unfold endP at hN
  dsimp only at hN
  go_enter Try.func23, Try.ntmps23
  go_upto_region 1 with fail
  have hA := heap_alloc_new w (.cells #[.int .i64 s.n, .int .i64 s.ep, .int .i64 s.fin, .int .i64 s.er, .slice y.B s.done.length y.cb, .slice y.C s.has.length y.cc] 48)
  have HB := (Below.refl w.heap.size w).alloc (Nat.le_refl _) (.cells #[.int .i64 s.n, .int .i64 s.ep, .int .i64 s.fin, .int .i64 s.er, .slice y.B s.done.length y.cb, .slice y.C s.has.length y.cc] 48)
  have hz := World.size_alloc w (.cells #[.int .i64 s.n, .int .i64 s.ep, .int .i64 s.fin, .int .i64 s.er, .slice y.B s.done.length y.cb, .slice y.C s.has.length y.cc] 48)
  generalize w.alloc (.cells #[.int .i64 s.n, .int .i64 s.ep, .int .i64 s.fin, .int .i64 s.er, .slice y.B s.done.length y.cb, .slice y.C s.has.length y.cc] 48) = W0 at hA HB hz ⊢
  have hA2 := heap_alloc_new W0 (.cells #[.int .i64 7, .int .i64 rn, .int .i64 re, .string rt, .int .i64 m.task, .int .i64 m.att, .slice v.A2 m.sz.length v.c2, .slice v.A3 m.sm.length v.c3, .slice v.A4 m.hm.length v.c4] 56)
  have d1 := (Below.refl W0.heap.size W0).alloc (Nat.le_refl _) (.cells #[.int .i64 7, .int .i64 rn, .int .i64 re, .string rt, .int .i64 m.task, .int .i64 m.att, .slice v.A2 m.sz.length v.c2, .slice v.A3 m.sm.length v.c3, .slice v.A4 m.hm.length v.c4] 56)
  generalize W0.alloc (.cells #[.int .i64 7, .int .i64 rn, .int .i64 re, .string rt, .int .i64 m.task, .int .i64 m.att, .slice v.A2 m.sz.length v.c2, .slice v.A3 m.sm.length v.c3, .slice v.A4 m.hm.length v.c4] 56) = W at hA2 d1 ⊢
  replace hA := (d1.block _ (by omega)).trans hA
  replace HB := bt HB HB.size d1
  rw [hz] at hA2
  have S0 : W.cell? ⟨w.heap.size, 0, none⟩ = some (.int .i64 s.n) := by rw [cell_of_row _ _ _ _ _ _ hA]; rfl
  have S1 : W.cell? ⟨w.heap.size, 1, none⟩ = some (.int .i64 s.ep) := by rw [cell_of_row _ _ _ _ _ _ hA]; rfl
  have S2 : W.cell? ⟨w.heap.size, 2, none⟩ = some (.int .i64 s.fin) := by rw [cell_of_row _ _ _ _ _ _ hA]; rfl
  have S3 : W.cell? ⟨w.heap.size, 3, none⟩ = some (.int .i64 s.er) := by rw [cell_of_row _ _ _ _ _ _ hA]; rfl
  have S4 : W.cell? ⟨w.heap.size, 4, none⟩ = some (.slice y.B s.done.length y.cb) := by rw [cell_of_row _ _ _ _ _ _ hA]; rfl
  have S5 : W.cell? ⟨w.heap.size, 5, none⟩ = some (.slice y.C s.has.length y.cc) := by rw [cell_of_row _ _ _ _ _ _ hA]; rfl
  have R0 : W.cell? ⟨w.heap.size + 1, 0, none⟩ = some (.int .i64 7) := by rw [cell_of_row _ _ _ _ _ _ hA2]; rfl
  have R1 : W.cell? ⟨w.heap.size + 1, 1, none⟩ = some (.int .i64 rn) := by rw [cell_of_row _ _ _ _ _ _ hA2]; rfl
  have R2 : W.cell? ⟨w.heap.size + 1, 2, none⟩ = some (.int .i64 re) := by rw [cell_of_row _ _ _ _ _ _ hA2]; rfl
  have R3 : W.cell? ⟨w.heap.size + 1, 3, none⟩ = some (.string rt) := by rw [cell_of_row _ _ _ _ _ _ hA2]; rfl
  have R4 : W.cell? ⟨w.heap.size + 1, 4, none⟩ = some (.int .i64 m.task) := by rw [cell_of_row _ _ _ _ _ _ hA2]; rfl
  have R5 : W.cell? ⟨w.heap.size + 1, 5, none⟩ = some (.int .i64 m.att) := by rw [cell_of_row _ _ _ _ _ _ hA2]; rfl
  have R6 : W.cell? ⟨w.heap.size + 1, 6, none⟩ = some (.slice v.A2 m.sz.length v.c2) := by rw [cell_of_row _ _ _ _ _ _ hA2]; rfl
  have R7 : W.cell? ⟨w.heap.size + 1, 7, none⟩ = some (.slice v.A3 m.sm.length v.c3) := by rw [cell_of_row _ _ _ _ _ _ hA2]; rfl
  have R8 : W.cell? ⟨w.heap.size + 1, 8, none⟩ = some (.slice v.A4 m.hm.length v.c4) := by rw [cell_of_row _ _ _ _ _ _ hA2]; rfl
  clear hA hA2 d1 hz
  have HW0 := Lib.hid (HH.out.below HB)
  have HV0 := Lib.hid (HM.out.below HB)
  go_upto_region 12 with (go_at_call 52; (with_reducible refine (count_any y s _ HW0.out).mono ?_); rintro e w3 ⟨rfl, hd⟩; replace S0 := cell_below hd S0; replace S1 := cell_below hd S1; replace S2 := cell_below hd S2; replace S3 := cell_below hd S3; replace S4 := cell_below hd S4; replace S5 := cell_below hd S5; replace R0 := cell_below hd R0; replace R1 := cell_below hd R1; replace R2 := cell_below hd R2; replace R3 := cell_below hd R3; replace R4 := cell_below hd R4; replace R5 := cell_below hd R5; replace R6 := cell_below hd R6; replace R7 := cell_below hd R7; replace R8 := cell_below hd R8; replace HB := HB.trans (hd.mono HB.size); have HW := Lib.hid (HW0.out.below hd); have HV := Lib.hid (HV0.out.below hd); clear hd)
  clear HW0 HV0
  by_cases h1 : rn < 1
  · rw [if_pos (.inl h1)] at hN
    have u1 : decide (rn < 1) = true := by simpa using h1
    have HN := Lib.hid (show N = 1 from hN)
    clear hN
    go_wp2
    go_ret
    exact ⟨by rw [HN.out]; rfl, HB⟩
  have u1 : decide (rn < 1) = false := by simpa using h1
  by_cases h3 : 3 < rn
  · rw [if_pos (.inr (.inl h3))] at hN
    have u3 : decide (3 < rn) = true := by simpa using h3
    have HN := Lib.hid (show N = 1 from hN)
    clear hN
    go_wp2
    go_ret
    exact ⟨by rw [HN.out]; rfl, HB⟩
  have u3 : decide (3 < rn) = false := by simpa using h3
  have hcf := count_full (l := s.com)
  have hcs := count_some (l := s.com)
  rw [HH.out.ok.lc] at hcf
  obtain ⟨nc, hnc⟩ : ∃ n, n = s.com.count true := ⟨_, rfl⟩
  rw [← hnc] at hcf hcs ⊢
  clear hnc
  by_cases he : re = 0
  · have te : (re == 0) = true := by simp [he]
    by_cases hn1 : rn = 1
    · have tn : (rn == 1) = true := by simp [hn1]
      have tn2 : (rn != 1) = false := by simp [hn1]
      rw [if_neg (by rintro (h | h | h) <;> first | omega | exact h ⟨fun _ => hn1, fun _ => he⟩)] at hN
      by_cases hfc : false ∈ s.com
      · rw [if_pos (.inl ⟨hn1, hfc⟩)] at hN
        have i9 := hcf.2 hfc
        have i8 : ((nc : Nat) : Int) < ((s.has.length : Nat) : Int) := by omega
        clear hcf hcs hfc i9 he hn1 h1 h3
        have HN := Lib.hid (show N = 19 from hN)
        clear hN
        go_wp2
        go_ret
        exact ⟨by rw [HN.out]; rfl, HB⟩
      · rw [if_neg (by rintro (h | h) <;> first | exact hfc h.2 | exact h.1 hn1)] at hN
        have i9 : ¬ nc < s.has.length := fun h => hfc (hcf.1 h)
        have i8 : ¬ ((nc : Nat) : Int) < ((s.has.length : Nat) : Int) := by omega
        clear hcf hcs hfc i9 he hn1 h1 h3
        have HN := Lib.hid (show N = 0 from hN)
        clear hN
        go_wp2
        go_ret
        exact ⟨by rw [HN.out]; rfl, HB⟩
    · have tn : (rn == 1) = false := by simpa using hn1
      rw [if_pos (.inr (.inr fun h => hn1 (h.1 he)))] at hN
      clear hcf hcs he hn1 h1 h3
      have HN := Lib.hid (show N = 1 from hN)
      clear hN
      go_wp2
      go_ret
      exact ⟨by rw [HN.out]; rfl, HB⟩
  · have te : (re == 0) = false := by simpa using he
    by_cases hn1 : rn = 1
    · have tn : (rn == 1) = true := by simp [hn1]
      rw [if_pos (.inr (.inr fun h => he (h.2 hn1)))] at hN
      clear hcf hcs he hn1 h1 h3
      have HN := Lib.hid (show N = 1 from hN)
      clear hN
      go_wp2
      go_ret
      exact ⟨by rw [HN.out]; rfl, HB⟩
    · have tn : (rn == 1) = false := by simpa using hn1
      have tn2 : (rn != 1) = true := by simpa using hn1
      rw [if_neg (by rintro (h | h | h) <;> first | omega | exact h ⟨fun h9 => absurd h9 he, fun h9 => absurd h9 hn1⟩)] at hN
      by_cases htc : true ∈ s.com
      · rw [if_pos (.inr ⟨hn1, htc⟩)] at hN
        have i9 := hcs.2 htc
        have i8 : (0 : Int) < ((nc : Nat) : Int) := by omega
        have i7 : decide ((0 : Int) < ((nc : Nat) : Int)) = true := by simpa using i8
        clear hcf hcs htc i9 he hn1 h1 h3
        have HN := Lib.hid (show N = 19 from hN)
        clear hN
        go_wp2
        go_ret
        exact ⟨by rw [HN.out]; rfl, HB⟩
      · rw [if_neg (by rintro (h | h) <;> first | exact hn1 h.1 | exact htc h.2)] at hN
        have i9 : ¬ 0 < nc := fun h => htc (hcs.1 h)
        have i8 : ¬ (0 : Int) < ((nc : Nat) : Int) := by omega
        have i7 : decide ((0 : Int) < ((nc : Nat) : Int)) = false := by simpa using i8
        clear hcf hcs htc i9 he hn1 h1 h3
        have HN := Lib.hid (show N = 0 from hN)
        clear hN
        go_wp2
        go_ret
        exact ⟨by rw [HN.out]; rfl, HB⟩
end
end Go.Proofs.Ytmlemichkeomjaa.LedW
