/- The law MendEnough walked. -/
import Derived.Test.YtpologlcfohjeaaMendT
set_option linter.unusedVariables false
set_option linter.unusedSimpArgs false
namespace Go.Proofs.Ytpologlcfohjeaa.MendW
open Go.RowKit Go.Proofs.Ytpologlcfohjeaa.Base
section
variable (t a : Int) (A2 : Option Addr) (n2 c2 : Nat) (A3 : Option Addr) (n3 c3 : Nat) (A4 : Option Addr) (n4 c4 : Nat) (Ah : Option Addr) (nh ch : Nat) (Al : Option Addr) (nl cl : Nat) (Ao : Option Addr) (no co : Nat) (sz sm : List Int) (hm : List (List Int)) (hv : List (List Bool)) (live : List Bool) (loads : List Int) (w : World)
set_option maxRecDepth 100000 in
set_option maxHeartbeats 8000000 in
/-- What is not looked at. -/
theorem enough_few (k n : Int) (hS : Ints w A2 sz) (hsl : sz.length = n2) (hU : U32s w A3 sm) (hul : sm.length = n3) (hH : IRows w A4 hm) (hl : hm.length = n4) (hb : n2 ≤ 9223372036854775807 ∧ n3 ≤ 9223372036854775807 ∧ n4 ≤ 9223372036854775807) (hr : ∀ i (h : i < hm.length), hm[i].length ≤ 9223372036854775807) (hV : BRows w Ah hv) (hvl : hv.length = nh) (hvr : ∀ i (h : i < hv.length), hv[i].length ≤ 9223372036854775807) (hB : Bools w Al live) (hlv : live.length = nl) (hO : Ints w Ao loads) (hol : loads.length = no) (hbb : nh ≤ 9223372036854775807 ∧ nl ≤ 9223372036854775807 ∧ no ≤ 9223372036854775807) (hbad : ¬ (rightB t a n2 n3 n4 sz hm n4 n = true ∧ k ≤ n)) :
    Calls Try.prog 5 #[.agg #[.int .i64 t, .int .i64 a, .slice A2 n2 c2, .slice A3 n3 c3, .slice A4 n4 c4], .int .i64 k, .int .i64 n, .slice Ah nh ch, .slice Al nl cl, .slice Ao no co] w fun e w' => e = .returned (.bool true) ∧ Below w.heap.size w w' := by
  have HSM := Lib.hid (fun W (h : Below w.heap.size w W) => small18_any t a A2 n2 c2 A3 n3 c3 A4 n4 c4 hm Ah nh ch hv Al nl cl Ao no co loads W (hH.below h) hl hb hr (hV.below h) hvl hvr (hO.below h) hol hbb)
  have HRT := Lib.hid (fun W (h : Below w.heap.size w W) (h9 : Small18 n2 n3 hm hv nl no loads) => right_any t a A2 n2 c2 A3 n3 c3 A4 n4 c4 sz hm n4 n W (hS.below h) hsl (by have := h9.man.size; omega) (hH.below h) hl (by have := h9.man.homes; omega) (fun i hi => by have := h9.man.row i hi; omega))
  clear hS hsl hU hul hH hl hb hr hV hvl hvr hB hlv hO hol hbb
  by_cases h1 : rightB t a n2 n3 n4 sz hm n4 n = true
  · have hkn : ¬ k ≤ n := fun h => hbad ⟨h1, h⟩
    have t1 : decide (n < k) = true := by simp; omega
    rw [h1] at HRT
    clear hbad h1 hkn
    go_enter Try.func5, Try.ntmps5
    go_upto_region 1 with fail
    have HM := ManBox.mk' w t a A2 n2 c2 A3 n3 c3 A4 n4 c4
    have HB : Below w.heap.size w (w.alloc (.cells #[.int .i64 t, .int .i64 a, .slice A2 n2 c2, .slice A3 n3 c3, .slice A4 n4 c4] 26)) := (Below.refl _ _).alloc (Nat.le_refl _) _
    generalize w.alloc (.cells #[.int .i64 t, .int .i64 a, .slice A2 n2 c2, .slice A3 n3 c3, .slice A4 n4 c4] 26) = W at HM HB ⊢
    obtain ⟨m0, m1, m2, m3, m4⟩ := HM
    go_wp2_with (first | (go_at_call 6; (with_reducible refine (awake_any _).mono ?_); rintro e w2 ⟨rfl, hd⟩; replace m0 := cell_below hd m0; replace m1 := cell_below hd m1; replace m2 := cell_below hd m2; replace m3 := cell_below hd m3; replace m4 := cell_below hd m4; replace HB := bt HB HB.size hd; clear hd) | (go_at_call 7; (with_reducible refine (HSM.out _ HB).mono ?_); rintro e w3 ⟨f, rfl, hf, hd⟩; replace m0 := cell_below hd m0; replace m1 := cell_below hd m1; replace m2 := cell_below hd m2; replace m3 := cell_below hd m3; replace m4 := cell_below hd m4; replace HB := bt HB HB.size hd; clear hd; (rcases f with _ | _) <;> (first | (have H18 := Lib.hid (hf rfl); clear hf) | clear hf)) | (go_at_call 14; (with_reducible refine (HRT.out _ HB H18.out).mono ?_); rintro e w3 ⟨rfl, hd⟩; replace m0 := cell_below hd m0; replace m1 := cell_below hd m1; replace m2 := cell_below hd m2; replace m3 := cell_below hd m3; replace m4 := cell_below hd m4; replace HB := bt HB HB.size hd; clear hd))
    all_goals (go_ret; exact ⟨rfl, HB⟩)
  · have h1f : rightB t a n2 n3 n4 sz hm n4 n = false := by simpa using h1
    rw [h1f] at HRT
    clear hbad h1 h1f
    go_enter Try.func5, Try.ntmps5
    go_upto_region 1 with fail
    have HM := ManBox.mk' w t a A2 n2 c2 A3 n3 c3 A4 n4 c4
    have HB : Below w.heap.size w (w.alloc (.cells #[.int .i64 t, .int .i64 a, .slice A2 n2 c2, .slice A3 n3 c3, .slice A4 n4 c4] 26)) := (Below.refl _ _).alloc (Nat.le_refl _) _
    generalize w.alloc (.cells #[.int .i64 t, .int .i64 a, .slice A2 n2 c2, .slice A3 n3 c3, .slice A4 n4 c4] 26) = W at HM HB ⊢
    obtain ⟨m0, m1, m2, m3, m4⟩ := HM
    go_wp2_with (first | (go_at_call 6; (with_reducible refine (awake_any _).mono ?_); rintro e w2 ⟨rfl, hd⟩; replace m0 := cell_below hd m0; replace m1 := cell_below hd m1; replace m2 := cell_below hd m2; replace m3 := cell_below hd m3; replace m4 := cell_below hd m4; replace HB := bt HB HB.size hd; clear hd) | (go_at_call 7; (with_reducible refine (HSM.out _ HB).mono ?_); rintro e w3 ⟨f, rfl, hf, hd⟩; replace m0 := cell_below hd m0; replace m1 := cell_below hd m1; replace m2 := cell_below hd m2; replace m3 := cell_below hd m3; replace m4 := cell_below hd m4; replace HB := bt HB HB.size hd; clear hd; (rcases f with _ | _) <;> (first | (have H18 := Lib.hid (hf rfl); clear hf) | clear hf)) | (go_at_call 14; (with_reducible refine (HRT.out _ HB H18.out).mono ?_); rintro e w3 ⟨rfl, hd⟩; replace m0 := cell_below hd m0; replace m1 := cell_below hd m1; replace m2 := cell_below hd m2; replace m3 := cell_below hd m3; replace m4 := cell_below hd m4; replace HB := bt HB HB.size hd; clear hd))
    all_goals (go_ret; exact ⟨rfl, HB⟩)
set_option maxRecDepth 100000 in
set_option maxHeartbeats 8000000 in
theorem enough_bad (k n : Int) (hS : Ints w A2 sz) (hsl : sz.length = n2) (hU : U32s w A3 sm) (hul : sm.length = n3) (hH : IRows w A4 hm) (hl : hm.length = n4) (hb : n2 ≤ 9223372036854775807 ∧ n3 ≤ 9223372036854775807 ∧ n4 ≤ 9223372036854775807) (hr : ∀ i (h : i < hm.length), hm[i].length ≤ 9223372036854775807) (hV : BRows w Ah hv) (hvl : hv.length = nh) (hvr : ∀ i (h : i < hv.length), hv[i].length ≤ 9223372036854775807) (hB : Bools w Al live) (hlv : live.length = nl) (hO : Ints w Ao loads) (hol : loads.length = no) (hbb : nh ≤ 9223372036854775807 ∧ nl ≤ 9223372036854775807 ∧ no ≤ 9223372036854775807) (h1 : rightB t a n2 n3 n4 sz hm n4 n = true) (hkn : k ≤ n) (hbad : ¬ (1 ≤ k ∧ 0 < nl ∧ nl ≤ 16 ∧ no = nl)) :
    Calls Try.prog 5 #[.agg #[.int .i64 t, .int .i64 a, .slice A2 n2 c2, .slice A3 n3 c3, .slice A4 n4 c4], .int .i64 k, .int .i64 n, .slice Ah nh ch, .slice Al nl cl, .slice Ao no co] w fun e w' => e = .returned (.bool true) ∧ Below w.heap.size w w' := by
  have HSM := Lib.hid (fun W (h : Below w.heap.size w W) => small18_any t a A2 n2 c2 A3 n3 c3 A4 n4 c4 hm Ah nh ch hv Al nl cl Ao no co loads W (hH.below h) hl hb hr (hV.below h) hvl hvr (hO.below h) hol hbb)
  have HRT := Lib.hid (fun W (h : Below w.heap.size w W) (h9 : Small18 n2 n3 hm hv nl no loads) => right_any t a A2 n2 c2 A3 n3 c3 A4 n4 c4 sz hm n4 n W (hS.below h) hsl (by have := h9.man.size; omega) (hH.below h) hl (by have := h9.man.homes; omega) (fun i hi => by have := h9.man.row i hi; omega))
  have KM1 := Lib.hid (fun W => make_bad t a A2 n2 c2 A3 n3 c3 A4 n4 c4 k Ah nh ch Al nl cl Ao no co W hbad)
  rw [h1] at HRT
  have t1 : decide (n < k) = false := by simp; omega
  clear hS hsl hU hul hH hl hb hr hV hvl hvr hB hlv hO hol hbb hbad h1 hkn
  go_enter Try.func5, Try.ntmps5
  go_upto_region 1 with fail
  have HM := ManBox.mk' w t a A2 n2 c2 A3 n3 c3 A4 n4 c4
  have HB : Below w.heap.size w (w.alloc (.cells #[.int .i64 t, .int .i64 a, .slice A2 n2 c2, .slice A3 n3 c3, .slice A4 n4 c4] 26)) := (Below.refl _ _).alloc (Nat.le_refl _) _
  generalize w.alloc (.cells #[.int .i64 t, .int .i64 a, .slice A2 n2 c2, .slice A3 n3 c3, .slice A4 n4 c4] 26) = W at HM HB ⊢
  obtain ⟨m0, m1, m2, m3, m4⟩ := HM
  go_wp2_with (first | (go_at_call 6; (with_reducible refine (awake_any _).mono ?_); rintro e w2 ⟨rfl, hd⟩; replace m0 := cell_below hd m0; replace m1 := cell_below hd m1; replace m2 := cell_below hd m2; replace m3 := cell_below hd m3; replace m4 := cell_below hd m4; replace HB := bt HB HB.size hd; clear hd) | (go_at_call 7; (with_reducible refine (HSM.out _ HB).mono ?_); rintro e w3 ⟨f, rfl, hf, hd⟩; replace m0 := cell_below hd m0; replace m1 := cell_below hd m1; replace m2 := cell_below hd m2; replace m3 := cell_below hd m3; replace m4 := cell_below hd m4; replace HB := bt HB HB.size hd; clear hd; (rcases f with _ | _) <;> (first | (have H18 := Lib.hid (hf rfl); clear hf) | clear hf)) | (go_at_call 14; (with_reducible refine (HRT.out _ HB H18.out).mono ?_); rintro e w3 ⟨rfl, hd⟩; replace m0 := cell_below hd m0; replace m1 := cell_below hd m1; replace m2 := cell_below hd m2; replace m3 := cell_below hd m3; replace m4 := cell_below hd m4; replace HB := bt HB HB.size hd; clear hd) | (go_at_call 8; (with_reducible refine (KM1.out _).mono ?_); rintro e w4 ⟨rfl, hd⟩; replace m0 := cell_below hd m0; replace m1 := cell_below hd m1; replace m2 := cell_below hd m2; replace m3 := cell_below hd m3; replace m4 := cell_below hd m4; replace HB := bt HB HB.size hd; clear hd))
  · go_ret
    exact ⟨rfl, HB⟩
  · go_ret
    exact ⟨rfl, HB.alloc HB.size _⟩
end
end Go.Proofs.Ytpologlcfohjeaa.MendW
