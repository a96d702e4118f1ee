/- The law MendEnough walked: the good way. -/
import Derived.Test.YtpologlcfohjeaaMendU
set_option linter.unusedVariables false
set_option linter.unusedSimpArgs false
namespace Go.Proofs.Ytpologlcfohjeaa.MendW
open Go.RowKit Go.Proofs.Ytpologlcfohjeaa.Base
section
variable (t a : Int) (A2 : Option Addr) (n2 c2 : Nat) (A3 : Option Addr) (n3 c3 : Nat) (A4 : Option Addr) (n4 c4 : Nat) (Ah : Option Addr) (nh ch : Nat) (Al : Option Addr) (nl cl : Nat) (Ao : Option Addr) (no co : Nat) (sz sm : List Int) (hm : List (List Int)) (hv : List (List Bool)) (live : List Bool) (loads : List Int) (w : World)
set_option maxRecDepth 100000 in
set_option maxHeartbeats 8000000 in
theorem enough_low (k : Nat) (n : Int) (hS : Ints w A2 sz) (hsl : sz.length = n2) (hU : U32s w A3 sm) (hul : sm.length = n3) (hH : IRows w A4 hm) (hl : hm.length = n4) (hb : n2 ≤ 9223372036854775807 ∧ n3 ≤ 9223372036854775807 ∧ n4 ≤ 9223372036854775807) (hr : ∀ i (h : i < hm.length), hm[i].length ≤ 9223372036854775807) (hV : BRows w Ah hv) (hvl : hv.length = nh) (hvr : ∀ i (h : i < hv.length), hv[i].length ≤ 9223372036854775807) (hB : Bools w Al live) (hlv : live.length = nl) (hO : Ints w Ao loads) (hol : loads.length = no) (hbb : nh ≤ 9223372036854775807 ∧ nl ≤ 9223372036854775807 ∧ no ≤ 9223372036854775807) (h1 : rightB t a n2 n3 n4 sz hm n4 n = true) (hkn : (k : Int) ≤ n) (hg : 1 ≤ k ∧ 0 < nl ∧ nl ≤ 16) (hno : nl = no) (hln : ¬ n ≤ (liveN live : Int)) :
    Calls Try.prog 5 #[.agg #[.int .i64 t, .int .i64 a, .slice A2 n2 c2, .slice A3 n3 c3, .slice A4 n4 c4], .int .i64 (k : Nat), .int .i64 n, .slice Ah nh ch, .slice Al nl cl, .slice Ao no co] w fun e w' => e = .returned (.bool true) ∧ Below w.heap.size w w' := by
  obtain ⟨hk, hnl, hnl2⟩ := hg
  subst hno
  have HSM := Lib.hid (fun W (h : Below w.heap.size w W) => small18_any t a A2 n2 c2 A3 n3 c3 A4 n4 c4 hm Ah nh ch hv Al nl cl Ao nl co loads W (hH.below h) hl hb hr (hV.below h) hvl hvr (hO.below h) hol hbb)
  have HRT := Lib.hid (fun W (h : Below w.heap.size w W) (h9 : Small18 n2 n3 hm hv nl nl loads) => right_any t a A2 n2 c2 A3 n3 c3 A4 n4 c4 sz hm n4 n W (hS.below h) hsl (by have := h9.man.size; omega) (hH.below h) hl (by have := h9.man.homes; omega) (fun i hi => by have := h9.man.row i hi; omega))
  have KM1 := Lib.hid (fun W (h : Below w.heap.size w W) (h9 : Small18 n2 n3 hm hv nl nl loads) => make_post t a A2 n2 c2 A3 n3 c3 A4 n4 c4 k Ah nh ch Al nl cl Ao co sz sm hm hv live loads W hk hnl hnl2 (hS.below h) hsl (by have := h9.man.size; omega) (hU.below h) hul (by have := h9.man.sum; omega) (hH.below h) hl (by have := h9.man.homes; omega) (fun i hi => by have := h9.man.row i hi; omega) (hV.below h) hvl (hB.below h) hlv (hO.below h) hol)
  have HLI := Lib.hid (fun W (h : Below w.heap.size w W) => live_any Al nl cl live W (hB.below h) hlv (by omega))
  rw [h1] at HRT
  have t1 : decide (n < ((k : Nat) : Int)) = false := by simp; omega
  have t3 : decide (((liveN live : Nat) : Int) < n) = true := by simp; omega
  clear hS hsl hU hul hH hl hb hr hV hvl hvr hB hlv hO hol hbb h1 hkn hln
  generalize liveN live = lv9 at *
  go_enter Try.func5, Try.ntmps5
  go_upto_region 1 with fail
  have HM := ManBox.mk' w t a A2 n2 c2 A3 n3 c3 A4 n4 c4
  have HB : Below w.heap.size w (w.alloc (.cells #[.int .i64 t, .int .i64 a, .slice A2 n2 c2, .slice A3 n3 c3, .slice A4 n4 c4] 26)) := (Below.refl _ _).alloc (Nat.le_refl _) _
  generalize w.alloc (.cells #[.int .i64 t, .int .i64 a, .slice A2 n2 c2, .slice A3 n3 c3, .slice A4 n4 c4] 26) = W at HM HB ⊢
  obtain ⟨m0, m1, m2, m3, m4⟩ := HM
  go_wp2_with (first | (go_at_call 6; (with_reducible refine (awake_any _).mono ?_); rintro e w2 ⟨rfl, hd⟩; replace m0 := cell_below hd m0; replace m1 := cell_below hd m1; replace m2 := cell_below hd m2; replace m3 := cell_below hd m3; replace m4 := cell_below hd m4; replace HB := bt HB HB.size hd; clear hd) | (go_at_call 7; (with_reducible refine (HSM.out _ HB).mono ?_); rintro e w3 ⟨f, rfl, hf, hd⟩; replace m0 := cell_below hd m0; replace m1 := cell_below hd m1; replace m2 := cell_below hd m2; replace m3 := cell_below hd m3; replace m4 := cell_below hd m4; replace HB := bt HB HB.size hd; clear hd; (rcases f with _ | _) <;> (first | (have H18 := Lib.hid (hf rfl); clear hf) | clear hf)) | (go_at_call 14; (with_reducible refine (HRT.out _ HB H18.out).mono ?_); rintro e w3 ⟨rfl, hd⟩; replace m0 := cell_below hd m0; replace m1 := cell_below hd m1; replace m2 := cell_below hd m2; replace m3 := cell_below hd m3; replace m4 := cell_below hd m4; replace HB := bt HB HB.size hd; clear hd) | (go_at_call 8; (with_reducible refine (KM1.out _ HB H18.out).mono ?_); rintro e w4 ⟨Am, cm, Ax, cx, P2, d2, P3, d3, P4, d4, ms, ls, X, rfl, hM4, hX4, hS4, hU4, hR4, hPR, hd⟩; replace m0 := cell_below hd m0; replace m1 := cell_below hd m1; replace m2 := cell_below hd m2; replace m3 := cell_below hd m3; replace m4 := cell_below hd m4; replace HB := bt HB HB.size hd; clear hd; have HP1 := Lib.hid hPR; clear hPR hM4 hX4; (rcases hls9 : decide (0 < ls.length) with _ | _) <;> (have t9 := (show decide ((0 : Int) < ((ls.length : Nat) : Int)) = decide (0 < ls.length) from (by simp)).trans hls9)) | (go_at_call 15; (with_reducible refine (HLI.out _ (HB.alloc HB.size _)).mono ?_); rintro e w5 ⟨rfl, rfl⟩))
  all_goals (go_ret; first | exact ⟨rfl, HB⟩ | exact ⟨rfl, HB.alloc HB.size _⟩)
set_option maxRecDepth 100000 in
set_option maxHeartbeats 8000000 in
theorem enough_good (k : Nat) (n : Int) (hS : Ints w A2 sz) (hsl : sz.length = n2) (hU : U32s w A3 sm) (hul : sm.length = n3) (hH : IRows w A4 hm) (hl : hm.length = n4) (hb : n2 ≤ 9223372036854775807 ∧ n3 ≤ 9223372036854775807 ∧ n4 ≤ 9223372036854775807) (hr : ∀ i (h : i < hm.length), hm[i].length ≤ 9223372036854775807) (hV : BRows w Ah hv) (hvl : hv.length = nh) (hvr : ∀ i (h : i < hv.length), hv[i].length ≤ 9223372036854775807) (hB : Bools w Al live) (hlv : live.length = nl) (hO : Ints w Ao loads) (hol : loads.length = no) (hbb : nh ≤ 9223372036854775807 ∧ nl ≤ 9223372036854775807 ∧ no ≤ 9223372036854775807) (h1 : rightB t a n2 n3 n4 sz hm n4 n = true) (hkn : (k : Int) ≤ n) (hg : 1 ≤ k ∧ 0 < nl ∧ nl ≤ 16) (hno : nl = no) (hln : n ≤ (liveN live : Int)) :
    Calls Try.prog 5 #[.agg #[.int .i64 t, .int .i64 a, .slice A2 n2 c2, .slice A3 n3 c3, .slice A4 n4 c4], .int .i64 (k : Nat), .int .i64 n, .slice Ah nh ch, .slice Al nl cl, .slice Ao no co] w fun e w' => e = .returned (.bool true) ∧ Below w.heap.size w w' := by
  obtain ⟨hk, hnl, hnl2⟩ := hg
  subst hno
  have HSM := Lib.hid (fun W (h : Below w.heap.size w W) => small18_any t a A2 n2 c2 A3 n3 c3 A4 n4 c4 hm Ah nh ch hv Al nl cl Ao nl co loads W (hH.below h) hl hb hr (hV.below h) hvl hvr (hO.below h) hol hbb)
  have HRT := Lib.hid (fun W (h : Below w.heap.size w W) (h9 : Small18 n2 n3 hm hv nl nl loads) => right_any t a A2 n2 c2 A3 n3 c3 A4 n4 c4 sz hm n4 n W (hS.below h) hsl (by have := h9.man.size; omega) (hH.below h) hl (by have := h9.man.homes; omega) (fun i hi => by have := h9.man.row i hi; omega))
  have KM1 := Lib.hid (fun W (h : Below w.heap.size w W) (h9 : Small18 n2 n3 hm hv nl nl loads) => make_post t a A2 n2 c2 A3 n3 c3 A4 n4 c4 k Ah nh ch Al nl cl Ao co sz sm hm hv live loads W hk hnl hnl2 (hS.below h) hsl (by have := h9.man.size; omega) (hU.below h) hul (by have := h9.man.sum; omega) (hH.below h) hl (by have := h9.man.homes; omega) (fun i hi => by have := h9.man.row i hi; omega) (hV.below h) hvl (hB.below h) hlv (hO.below h) hol)
  have HLI := Lib.hid (fun W (h : Below w.heap.size w W) => live_any Al nl cl live W (hB.below h) hlv (by omega))
  rw [h1] at HRT
  have t1 : decide (n < ((k : Nat) : Int)) = false := by simp; omega
  have t3 : decide (((liveN live : Nat) : Int) < n) = false := by simp; omega
  have HLN := Lib.hid hln
  have HRB := Lib.hid (rightB_yes h1)
  have HKN := Lib.hid hkn
  have HBL := Lib.hid hB
  have HO := Lib.hid hO
  have HOL := Lib.hid hol
  have HL := Lib.hid hl
  have HLV := Lib.hid hlv
  have HSL := Lib.hid hsl
  have HUL := Lib.hid hul
  clear hS hsl hU hul hH hl hb hr hV hvl hvr hB hlv hO hol hbb h1 hkn hln
  obtain ⟨lv9, hlv9⟩ : ∃ x, x = liveN live := ⟨_, rfl⟩
  rw [← hlv9] at HLI t3
  clear hlv9
  go_enter Try.func5, Try.ntmps5
  go_upto_region 1 with fail
  have HM := ManBox.mk' w t a A2 n2 c2 A3 n3 c3 A4 n4 c4
  have HB : Below w.heap.size w (w.alloc (.cells #[.int .i64 t, .int .i64 a, .slice A2 n2 c2, .slice A3 n3 c3, .slice A4 n4 c4] 26)) := (Below.refl _ _).alloc (Nat.le_refl _) _
  generalize w.alloc (.cells #[.int .i64 t, .int .i64 a, .slice A2 n2 c2, .slice A3 n3 c3, .slice A4 n4 c4] 26) = W at HM HB ⊢
  obtain ⟨m0, m1, m2, m3, m4⟩ := HM
  go_wp2_with (first | (go_at_call 6; (with_reducible refine (awake_any _).mono ?_); rintro e w2 ⟨rfl, hd⟩; replace m0 := cell_below hd m0; replace m1 := cell_below hd m1; replace m2 := cell_below hd m2; replace m3 := cell_below hd m3; replace m4 := cell_below hd m4; replace HB := bt HB HB.size hd; clear hd) | (go_at_call 7; (with_reducible refine (HSM.out _ HB).mono ?_); rintro e w3 ⟨f, rfl, hf, hd⟩; replace m0 := cell_below hd m0; replace m1 := cell_below hd m1; replace m2 := cell_below hd m2; replace m3 := cell_below hd m3; replace m4 := cell_below hd m4; replace HB := bt HB HB.size hd; clear hd; (rcases f with _ | _) <;> (first | (have H18 := Lib.hid (hf rfl); clear hf) | clear hf)) | (go_at_call 14; (with_reducible refine (HRT.out _ HB H18.out).mono ?_); rintro e w3 ⟨rfl, hd⟩; replace m0 := cell_below hd m0; replace m1 := cell_below hd m1; replace m2 := cell_below hd m2; replace m3 := cell_below hd m3; replace m4 := cell_below hd m4; replace HB := bt HB HB.size hd; clear hd) | (go_at_call 8; (with_reducible refine (KM1.out _ HB H18.out).mono ?_); rintro e w4 ⟨Am, cm, Ax, cx, P2, d2, P3, d3, P4, d4, ms, ls, X, rfl, hM4, hX4, hS4, hU4, hR4, hPR, hd⟩; replace m0 := cell_below hd m0; replace m1 := cell_below hd m1; replace m2 := cell_below hd m2; replace m3 := cell_below hd m3; replace m4 := cell_below hd m4; replace HB := bt HB HB.size hd; clear hd; have HP1 := Lib.hid hPR; clear hPR hM4 hX4; (rcases hls9 : decide (0 < ls.length) with _ | _) <;> (have t9 := (show decide ((0 : Int) < ((ls.length : Nat) : Int)) = decide (0 < ls.length) from (by simp)).trans hls9)) | (go_at_call 15; (with_reducible refine (HLI.out _ (HB.alloc HB.size _)).mono ?_); rintro e w5 ⟨rfl, rfl⟩))
  · go_ret
    exact ⟨rfl, HB⟩
  · have hls0 : ls = [] := List.eq_nil_of_length_eq_zero (by have := of_decide_eq_false hls9; omega)
    have HEN := Lib.hid (HP1.out.enough hls0 HRB.out.2.2.2.2.2.2 HLN.out (by rw [HLV.out]; exact hnl2))
    have hb4 := bel1 w4 (.cells #[.slice Am ms.length cm, .slice Ax ls.length cx, .int .i64 t, .int .i64 a, .slice P2 sz.length d2, .slice P3 sm.length d3, .slice P4 X.length d4] 33)
    have HPB := Lib.hid (PBox.mk' w4 t a Am ms.length cm Ax ls.length cx P2 sz.length d2 P3 sm.length d3 P4 X.length d4)
    have HMB : ManBox w4 w.heap.size t a A2 n2 c2 A3 n3 c3 A4 n4 c4 := ⟨m0, m1, m2, m3, m4⟩
    replace HMB := Lib.hid (HMB.below hb4)
    replace hS4 := Lib.hid (hS4.below hb4)
    replace hU4 := Lib.hid (hU4.below hb4)
    replace hR4 := Lib.hid (hR4.below hb4)
    replace HB := bt HB HB.size hb4
    generalize w4.alloc (.cells #[.slice Am ms.length cm, .slice Ax ls.length cx, .int .i64 t, .int .i64 a, .slice P2 sz.length d2, .slice P3 sm.length d3, .slice P4 X.length d4] 33) = w5 at HPB HMB hS4 hU4 hR4 HB ⊢
    generalize w4.heap.size = pb at HPB ⊢
    clear m0 m1 m2 m3 m4 hb4 HSM KM1 HRT HLI t9 hls9 hls0
    have hn30 : n4 ≤ 30 := by have := H18.out.man.homes; have := HL.out; omega
    have HNN := Lib.hid (fun (h0 : 0 < n4) => show ∃ nn : Nat, n = (nn : Int) ∧ nn ≤ 30 by
      have h1 := HRB.out.2.2.2.2.2.2 _ (getD_mem (hm := hm) (j := 0) (by have := HL.out; omega))
      have h2 := h1.len
      have h3 := H18.out.man.row 0 (by have := HL.out; omega)
      have h4 : hm.getD 0 [] = hm[0]'(by have := HL.out; omega) := by rw [List.getD_eq_getElem?_getD, List.getElem?_eq_getElem (by have := HL.out; omega)]; rfl
      rw [h4] at h2
      exact ⟨_, h2.symm, h3⟩)
    have HP0 := Lib.hid (Pool.nil w5 w5.heap.size (κ := Nat))
    have HQ0 := Lib.hid ((HP0.out.new 0 (Below.refl _ _) (Nat.le_refl _) (E := ⟨28, 1, .slice none 0 0, 0, []⟩) (World.ownsRow_nil _ _ _ _)).new 1 (Below.refl _ _) (Nat.le_refl _) (E := ⟨4, 1, .slice none 0 0, 0, []⟩) (World.ownsRow_nil _ _ _ _))
    have HK0 := Lib.hid (fun m => show AllK (up (up (fun _ : Nat => noEnt) 0 ⟨28, 1, .slice none 0 0, 0, []⟩) 1 ⟨4, 1, .slice none 0 0, 0, []⟩) (.slice none 0 0) (.slice none 0 0) 0 m 0 (fun _ => .slice none 0 0) from ⟨rfl, fun r hr => by omega, rfl⟩)
    generalize up (up (fun _ : Nat => noEnt) 0 ⟨28, 1, .slice none 0 0, 0, []⟩) 1 ⟨4, 1, .slice none 0 0, 0, []⟩ = F0 at HQ0 HK0
    clear HP0
    go_loopw [15, 16, 17, 18] (fun av ii _ _ wr => ∃ i : Nat, i ≤ n4 ∧ ii = .int .i64 i ∧ Below w5.heap.size w5 wr ∧ ∃ F rv, Pool wr w5.heap.size F ∧ AllK F av (.slice none 0 0) i n.toNat 0 rv) (fun _ ii _ _ _ => n4 - (intOf ii).toNat)
    case atStart => exact ⟨0, by omega, rfl, Below.refl _ _, F0, _, HQ0.out, HK0.out _⟩
    case round =>
      clear HQ0 HK0 F0
      obtain ⟨i, hi, rfl, HBr, F, rv, HPo, HK⟩ := hrel
      have b4 := (HMB.out.below HBr).f4
      by_cases hlt : i < n4
      · obtain ⟨nn, hnn, hnn30⟩ := HNN.out (by omega)
        rw [hnn, Int.toNat_natCast] at HK
        subst hnn
        obtain ⟨Aa, ca, hav⟩ := HPo.slice 0 HK.top
        subst hav
        have HPP := Lib.hid HPo
        have HKK := Lib.hid HK
        have HBR := Lib.hid HBr
        clear HPo HK HBr
        go_wp2
        go_loopw [17, 18] (fun lv jj wr => ∃ j : Nat, j ≤ nn ∧ jj = .int .i64 j ∧ Below w5.heap.size w5 wr ∧ ∃ F, Pool wr w5.heap.size F ∧ AllK F (.slice Aa i ca) lv i nn j rv) (fun _ jj _ => nn - (intOf jj).toNat)
        case atStart => exact ⟨0, by omega, rfl, HBR.out, F, HPP.out, HKK.out⟩
        case round =>
          clear HPP HKK HBR F
          obtain ⟨j, hj, rfl, HBr, F, HPo, HK⟩ := hrel
          obtain ⟨Al9, cl9, hlv⟩ := HPo.slice (i + 1) HK.next
          subst hlv
          have HPP := Lib.hid HPo
          have HKK := Lib.hid HK
          clear HPo HK
          by_cases hjn : j < nn
          · go_wp2_with (at_builtin; refine pool_app rfl (.tmp 81) (.tmp 82) 28 4 1 (.bool false) 1 rfl Try.underlying28 info_bool rfl (by omega) (by omega) (i + 1) HKK.out.next [.bool true] rfl (by simp [Value.oneCell']) rfl rfl HPP.out HBr HBr.size (by omega) ?_; intro A6 c6 w6 HP6 HB6)
            go_roundw
            case rel => exact ⟨j + 1, by omega, by go_num, HB6, _, HP6, HKK.out.more _⟩
            case measure => simp [intOf]; omega
          · obtain rfl : j = nn := by omega
            clear hjn
            go_wp2_with (at_builtin; refine pool_app rfl (.tmp 84) (.tmp 86) 27 28 1 (.slice none 0 0) 24 rfl Try.underlying27 info_bools rfl (by omega) (by omega) 0 HKK.out.top [.slice Al9 j cl9] rfl (by simp [Value.oneCell']) rfl rfl HPP.out HBr HBr.size (by omega) ?_; intro A6 c6 w6 HP6 HB6)
            go_roundw
            case rel => exact ⟨i + 1, by omega, by go_num, HB6, _, _, HP6.new (i + 1 + 1) (Below.refl _ _) HB6.size (E := ⟨4, 1, .slice none 0 0, 0, []⟩) (World.ownsRow_nil _ _ _ _), by rw [Int.toNat_natCast]; exact HKK.out.turn _⟩
            case measure => simp [intOf]; omega
      · obtain rfl : i = n4 := by omega
        clear hlt
        have HBw := bt HB HB.size HBr
        obtain ⟨Aa, ca, hav, hBR⟩ := HK.rows HPo
        subst hav
        have hxl : X.length = i := by rw [HP1.out.len]; exact HL.out
        have hxr : ∀ j, j < X.length → ((X.getD j []).length : Int) = n := fun j hj => (HEN.out j (by have := HL.out; omega)).1.len
        have hx30 : ∀ j (h : j < X.length), X[j].length ≤ 30 := fun j hj => by
          obtain ⟨nn, hnn, h30⟩ := HNN.out (by omega)
          have h1 := hxr j hj
          have h2 : X.getD j [] = X[j] := by rw [List.getD_eq_getElem?_getD, List.getElem?_eq_getElem hj]; rfl
          rw [h2] at h1
          omega
        have HAG := Lib.hid (fun (ms2 : List Mv) (ls2 : List Int) (X2 : List (List Int)) (h : PlanRel live (allT i n.toNat) X k X.length ms2 ls2 X2) => PlanRel.again (n := n.toNat) (by rw [hxl]; rw [hxl] at h; exact h) (fun j hj => ⟨by have := hxr j hj; omega, (HEN.out j (by have := HL.out; omega)).2⟩) (fun h0 => by obtain ⟨nn, hnn, h30⟩ := HNN.out (by omega); have := HKN.out; omega))
        have hsz30 : sz.length ≤ 30 := by have := H18.out.man.size; have := HSL.out; omega
        have hsm30 : sm.length ≤ 30 := by have := H18.out.man.sum; have := HUL.out; omega
        have hS5 := hS4.out.below HBr
        have hU5 := hU4.out.below HBr
        have hR5 := hR4.out.below HBr
        have KM2 := Lib.hid (make_post t a P2 sz.length d2 P3 sm.length d3 P4 X.length d4 k Aa i ca Al nl cl Ao co sz sm X (allT i n.toNat) live loads wr hk hnl hnl2 hS5 rfl (by omega) hU5 rfl (by omega) hR5 rfl (by omega) (fun j hj => by have := hx30 j hj; omega) hBR (by simp [allT]) (HBL.out.below HBw) HLV.out (HO.out.below HBw) HOL.out)
        have HR2 := Lib.hid (fun W (h : Below wr.heap.size wr W) => right_any t a P2 sz.length d2 P3 sm.length d3 P4 X.length d4 sz X (i : Nat) n W (hS5.below h) rfl (by omega) (hR5.below h) rfl (by omega) (fun j hj => by have := hx30 j hj; omega))
        have hrr : rightB t a sz.length sm.length X.length sz X (i : Nat) n = true := by
          obtain ⟨g1, g2, g3, g4, g5, g6, g7⟩ := HRB.out
          refine rightB_mk g1 g2 (by have := HSL.out; omega) (by have := HUL.out; omega) (by omega) g6 fun l hl => ?_
          obtain ⟨j, hj, rfl⟩ := List.mem_iff_getElem.1 hl
          have h2 : X.getD j [] = X[j] := by rw [List.getD_eq_getElem?_getD, List.getElem?_eq_getElem hj]; rfl
          rw [← h2]
          exact (HEN.out j (by have := HL.out; omega)).1
        rw [hrr] at HR2
        have HS5 := Lib.hid hS5
        have HU5 := Lib.hid hU5
        have HR5 := Lib.hid hR5
        have HX30 := Lib.hid hx30
        obtain ⟨p0, p1, p2, p3, p4, p5, p6⟩ := HPB.out.below HBr
        have hxl30 : X.length ≤ 30 := by omega
        clear hS5 hU5 hR5 hxr hx30 hrr hBR HPo HK hxl
        go_wp2_with (first | (go_at_call 8; (with_reducible refine (KM2.out).mono ?_); rintro e w7 ⟨Aq, cq, Ay, cy, Q2, g2, Q3, g3, Q4, g4, ms2, ls2, X2, rfl, _, _, hS7, hU7, hR7, hPR2, hd⟩; obtain ⟨e1, e2, e3⟩ := HAG.out _ _ _ hPR2; subst e1; subst e2; subst e3; have HC7 := hd; have HS7 := Lib.hid hS7; have HU7 := Lib.hid hU7; have HR7 := Lib.hid hR7; have PB7 := Lib.hid ((HPB.out.below HBr).below hd); have q2 := fun o => cell_old o PB7.out.f2; have q3 := fun o => cell_old o PB7.out.f3; have q4 := fun o => cell_old o PB7.out.f4; have q5 := fun o => cell_old o PB7.out.f5; have q6 := fun o => cell_old o PB7.out.f6; have qm := fun o => cell_old o (cell_below hd b4); clear hPR2 hS7 hU7 hR7 hd p0 p1 p2 p3 p4 p5 p6 b4) | (go_at_call 14; (with_reducible refine (HR2.out _ (HC7.alloc HC7.size _)).mono ?_); rintro e w8 ⟨rfl, hd8⟩; have QB8 := (PBox.mk' w7 t a Aq 0 cq Ay 0 cy Q2 sz.length g2 Q3 sm.length g3 Q4 X2.length g4).below hd8; have PB8 := (PB7.out.below (bel1 w7 _)).below hd8; obtain ⟨r0, r1, r2, r3, r4, r5, r6⟩ := QB8; obtain ⟨s0, s1, s2, s3, s4, s5, s6⟩ := PB8; have HC8 := bt (HC7.alloc HC7.size _) (HC7.alloc HC7.size _).size hd8; have HSA := Lib.hid (same_yes t a t a Q2 sz.length g2 Q3 sm.length g3 Q4 X2.length g4 P2 sz.length d2 P3 sm.length d3 P4 X2.length d4 sz sz sm sm X2 X2 w8 ((HS7.out.below (bel1 w7 _)).below hd8) rfl (HS5.out.below HC8) rfl (by omega) ((HU7.out.below (bel1 w7 _)).below hd8) rfl (HU5.out.below HC8) rfl (by omega) ((HR7.out.below (bel1 w7 _)).below hd8) rfl (HR5.out.below HC8) rfl (by omega) (fun j hj => by have := HX30.out j hj; omega) rfl rfl rfl rfl rfl)) | (go_at_call 13; (with_reducible refine (HSA.out).mono ?_); rintro e w9 ⟨rfl, hd⟩; have HC9 := bt HC8 HC8.size hd; clear hd))
        go_ret
        exact ⟨rfl, bt HBw HBw.size HC9⟩
  · go_ret
    exact ⟨rfl, HB.alloc HB.size _⟩
end
theorem enough_any (t a : Int) (A2 : Option Addr) (n2 c2 : Nat) (A3 : Option Addr) (n3 c3 : Nat) (A4 : Option Addr) (n4 c4 : Nat) (Ah : Option Addr) (nh ch : Nat) (Al : Option Addr) (nl cl : Nat) (Ao : Option Addr) (no co : Nat) (sz sm : List Int) (hm : List (List Int)) (hv : List (List Bool)) (live : List Bool) (loads : List Int) (w : World) (k n : Int) (hS : Ints w A2 sz) (hsl : sz.length = n2) (hU : U32s w A3 sm) (hul : sm.length = n3) (hH : IRows w A4 hm) (hl : hm.length = n4) (hb : n2 ≤ 9223372036854775807 ∧ n3 ≤ 9223372036854775807 ∧ n4 ≤ 9223372036854775807) (hr : ∀ i (h : i < hm.length), hm[i].length ≤ 9223372036854775807) (hV : BRows w Ah hv) (hvl : hv.length = nh) (hvr : ∀ i (h : i < hv.length), hv[i].length ≤ 9223372036854775807) (hB : Bools w Al live) (hlv : live.length = nl) (hO : Ints w Ao loads) (hol : loads.length = no) (hbb : nh ≤ 9223372036854775807 ∧ nl ≤ 9223372036854775807 ∧ no ≤ 9223372036854775807) :
    Calls Try.prog 5 #[.agg #[.int .i64 t, .int .i64 a, .slice A2 n2 c2, .slice A3 n3 c3, .slice A4 n4 c4], .int .i64 k, .int .i64 n, .slice Ah nh ch, .slice Al nl cl, .slice Ao no co] w fun e w' => e = .returned (.bool true) ∧ Below w.heap.size w w' := by
  by_cases h0 : rightB t a n2 n3 n4 sz hm n4 n = true ∧ k ≤ n
  · obtain ⟨h1, hkn⟩ := h0
    by_cases hg : 1 ≤ k ∧ 0 < nl ∧ nl ≤ 16 ∧ no = nl
    · obtain ⟨hk, g1, g2, g3⟩ := hg
      obtain ⟨kn, rfl⟩ : ∃ kn : Nat, k = kn := ⟨k.toNat, by omega⟩
      by_cases hln : n ≤ (liveN live : Int)
      · exact enough_good t a A2 n2 c2 A3 n3 c3 A4 n4 c4 Ah nh ch Al nl cl Ao no co sz sm hm hv live loads w kn n hS hsl hU hul hH hl hb hr hV hvl hvr hB hlv hO hol hbb h1 hkn ⟨by omega, g1, g2⟩ g3.symm hln
      · exact enough_low t a A2 n2 c2 A3 n3 c3 A4 n4 c4 Ah nh ch Al nl cl Ao no co sz sm hm hv live loads w kn n hS hsl hU hul hH hl hb hr hV hvl hvr hB hlv hO hol hbb h1 hkn ⟨by omega, g1, g2⟩ g3.symm hln
    · exact enough_bad t a A2 n2 c2 A3 n3 c3 A4 n4 c4 Ah nh ch Al nl cl Ao no co sz sm hm hv live loads w k n hS hsl hU hul hH hl hb hr hV hvl hvr hB hlv hO hol hbb h1 hkn hg
  · exact enough_few t a A2 n2 c2 A3 n3 c3 A4 n4 c4 Ah nh ch Al nl cl Ao no co sz sm hm hv live loads w k n hS hsl hU hul hH hl hb hr hV hvl hvr hB hlv hO hol hbb h0
end Go.Proofs.Ytpologlcfohjeaa.MendW
