/- stripe.Same walked. -/
import Derived.Test.YtpologlcfohjeaaMendE
set_option linter.unusedVariables false
set_option linter.unusedSimpArgs false
namespace Go.Proofs.Ytpologlcfohjeaa.MendW
open Go.RowKit Go.Proofs.Ytpologlcfohjeaa.Base
section
variable (t a t' a' : Int) (A2 : Option Addr) (n2 c2 : Nat) (A3 : Option Addr) (n3 c3 : Nat) (A4 : Option Addr) (n4 c4 : Nat) (B2 : Option Addr) (m2 d2 : Nat) (B3 : Option Addr) (m3 d3 : Nat) (B4 : Option Addr) (m4 d4 : Nat) (sz1 sz2 sm1 sm2 : List Int) (hm1 hm2 : List (List Int)) (w : World)
set_option maxRecDepth 100000 in
set_option maxHeartbeats 2000000 in
/-- Manifests that are alike. -/
theorem same_yes (hS1 : Ints w A2 sz1) (hs1 : sz1.length = n2) (hS2 : Ints w B2 sz2) (hs2 : sz2.length = m2) (hn2 : n2 ≤ 1000000) (hU1 : U32s w A3 sm1) (hu1 : sm1.length = n3) (hU2 : U32s w B3 sm2) (hu2 : sm2.length = m3) (hn3 : n3 ≤ 1000000)
    (hH1 : IRows w A4 hm1) (hl1 : hm1.length = n4) (hH2 : IRows w B4 hm2) (hl2 : hm2.length = m4) (hn4 : n4 ≤ 1000000) (hr : ∀ i (h : i < hm1.length), hm1[i].length ≤ 1000000) (et : t = t') (ea : a = a') (es : sz1 = sz2) (eu : sm1 = sm2) (eh : hm1 = hm2) :
    Calls Try.prog 13 #[.agg #[.int .i64 t, .int .i64 a, .slice A2 n2 c2, .slice A3 n3 c3, .slice A4 n4 c4], .agg #[.int .i64 t', .int .i64 a', .slice B2 m2 d2, .slice B3 m3 d3, .slice B4 m4 d4]] w fun e w' => e = .returned (.bool true) ∧ Below w.heap.size w w' := by
  have z1 := decide_eq_true es
  have z2 := decide_eq_true eu
  have z3 := decide_eq_true eh
  have y1 : (t == t') = true := by simp [et]
  have y2 : (a == a') = true := by simp [ea]
  clear et ea es eu eh
  go_enter Try.func13, Try.ntmps13
  go_upto_region 1 with fail
  have HM := ManBox.mk' w t a A2 n2 c2 A3 n3 c3 A4 n4 c4
  have HB : Below w.heap.size w (w.alloc (.cells #[.int .i64 t, .int .i64 a, .slice A2 n2 c2, .slice A3 n3 c3, .slice A4 n4 c4] 26)) := (Below.refl _ _).alloc (Nat.le_refl _) _
  have hs0 : (w.alloc (.cells #[.int .i64 t, .int .i64 a, .slice A2 n2 c2, .slice A3 n3 c3, .slice A4 n4 c4] 26)).heap.size = w.heap.size + 1 := by simp
  generalize w.alloc (.cells #[.int .i64 t, .int .i64 a, .slice A2 n2 c2, .slice A3 n3 c3, .slice A4 n4 c4] 26) = W0 at HM HB hs0 ⊢
  have HN := ManBox.mk' W0 t' a' B2 m2 d2 B3 m3 d3 B4 m4 d4
  rw [hs0] at HN
  replace HM := HM.below ((Below.refl _ _).alloc (Nat.le_refl _) (.cells #[.int .i64 t', .int .i64 a', .slice B2 m2 d2, .slice B3 m3 d3, .slice B4 m4 d4] 26))
  replace HB := HB.alloc HB.size (.cells #[.int .i64 t', .int .i64 a', .slice B2 m2 d2, .slice B3 m3 d3, .slice B4 m4 d4] 26)
  generalize W0.alloc (.cells #[.int .i64 t', .int .i64 a', .slice B2 m2 d2, .slice B3 m3 d3, .slice B4 m4 d4] 26) = W at HM HN HB ⊢
  obtain ⟨p0, p1, p2, p3, p4⟩ := HM
  obtain ⟨q0, q1, q2, q3, q4⟩ := HN
  go_wp2_with (first | (go_at_call 22; (with_reducible refine (sleq_int A2 B2 n2 m2 c2 d2 sz1 sz2 _ (hS1.below HB) hs1 (hS2.below HB) hs2 hn2).mono ?_); rintro e w3 ⟨rfl, hd⟩; replace p3 := cell_below hd p3; replace p4 := cell_below hd p4; replace q3 := cell_below hd q3; replace q4 := cell_below hd q4; replace HB := bt HB HB.size hd; clear hd) | (go_at_call 23; (with_reducible refine (sleq_u32 A3 B3 n3 m3 c3 d3 sm1 sm2 _ (hU1.below HB) hu1 (hU2.below HB) hu2 hn3).mono ?_); rintro e w3 ⟨rfl, hd⟩; replace p3 := cell_below hd p3; replace p4 := cell_below hd p4; replace q3 := cell_below hd q3; replace q4 := cell_below hd q4; replace HB := bt HB HB.size hd; clear hd) | (go_at_call 24; (with_reducible refine (eqf_any A4 B4 n4 m4 c4 d4 hm1 hm2 _ (hH1.below HB) hl1 (hH2.below HB) hl2 hn4 hr).mono ?_); rintro e w3 ⟨rfl, hd⟩; replace p3 := cell_below hd p3; replace p4 := cell_below hd p4; replace q3 := cell_below hd q3; replace q4 := cell_below hd q4; replace HB := bt HB HB.size hd; clear hd))
  go_ret
  exact ⟨by first | rfl | (rw [z3]; rfl), HB⟩
end
end Go.Proofs.Ytpologlcfohjeaa.MendW
