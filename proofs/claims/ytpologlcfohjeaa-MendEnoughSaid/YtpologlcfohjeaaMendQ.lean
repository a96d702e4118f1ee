/- The law MendNothing walked. -/
import Derived.Test.YtpologlcfohjeaaMendP
import Derived.StillTailTactics
set_option linter.unusedVariables false
set_option linter.unusedSimpArgs false
namespace Go.Proofs.Ytpologlcfohjeaa.MendW
open Go.RowKit Go.Proofs.Ytpologlcfohjeaa.Base
/-- How many pieces are not there, of the first j parts. -/
def lackN (hv : List (List Bool)) (live : List Bool) (hm : List (List Int)) : Nat → Nat
  | 0 => 0
  | j + 1 => lackN hv live hm j + ((hm.getD j []).length - (presOf hv live hm j).length)
theorem lackN_le (hv : List (List Bool)) (live : List Bool) (hm : List (List Int)) (h : ∀ j, (hm.getD j []).length ≤ 1000) : ∀ j, lackN hv live hm j ≤ 1000 * j
  | 0 => by simp [lackN]
  | j + 1 => by have := lackN_le hv live hm h j; have := h j; simp only [lackN]; omega
theorem lackN_zero {hv : List (List Bool)} {live : List Bool} {hm : List (List Int)} : ∀ n, lackN hv live hm n = 0 → ∀ j, j < n → (presOf hv live hm j).length = (hm.getD j []).length
  | 0, _, j, hj => by omega
  | n + 1, h, j, hj => by
    simp only [lackN] at h
    have h1 := presK_length hv live (hm.getD n []) n (hm.getD n []).length
    by_cases e : j = n
    · subst e
      have : (presOf hv live hm j).length ≤ (hm.getD j []).length := h1
      omega
    · exact lackN_zero n (by omega) j (by omega)
section
variable (t a : Int) (A2 : Option Addr) (n2 c2 : Nat) (A3 : Option Addr) (n3 c3 : Nat) (A4 : Option Addr) (n4 c4 : Nat) (Ah : Option Addr) (nh ch : Nat) (Al : Option Addr) (nl cl : Nat) (Ao : Option Addr) (no co : Nat) (sz sm : List Int) (hm : List (List Int)) (hv : List (List Bool)) (live : List Bool) (loads : List Int) (w : World)
set_option maxRecDepth 100000 in
set_option maxHeartbeats 8000000 in
theorem nothing_good (Aq : Option Addr) (nq cq : Nat) (other : List Int) (k : Nat) (hS : Ints w A2 sz) (hsl : sz.length = n2) (hU : U32s w A3 sm) (hul : sm.length = n3) (hH : IRows w A4 hm) (hl : hm.length = n4) (hb : n2 ≤ 9223372036854775807 ∧ n3 ≤ 9223372036854775807 ∧ n4 ≤ 9223372036854775807) (hr : ∀ i (h : i < hm.length), hm[i].length ≤ 9223372036854775807) (hV : BRows w Ah hv) (hvl : hv.length = nh) (hvr : ∀ i (h : i < hv.length), hv[i].length ≤ 9223372036854775807) (hB : Bools w Al live) (hlv : live.length = nl) (hO : Ints w Ao loads) (hol : loads.length = no) (hbb : nh ≤ 9223372036854775807 ∧ nl ≤ 9223372036854775807 ∧ no ≤ 9223372036854775807) (hQ : Ints w Aq other) (hql : other.length = nq) (hg : 1 ≤ k ∧ 0 < nl ∧ nl ≤ 16) (hno : nl = no) (hqn : nl = nq) :
    Calls Try.prog 4 #[.agg #[.int .i64 t, .int .i64 a, .slice A2 n2 c2, .slice A3 n3 c3, .slice A4 n4 c4], .int .i64 (k : Nat), .slice Ah nh ch, .slice Al nl cl, .slice Ao no co, .slice Aq nq cq] w fun e w' => e = .returned (.bool true) ∧ Below w.heap.size w w' := by
  obtain ⟨hk, hnl, hnl2⟩ := hg
  subst hqn
  subst hno
  have HSM := Lib.hid (fun W (h : Below w.heap.size w W) => small18_any t a A2 n2 c2 A3 n3 c3 A4 n4 c4 hm Ah nh ch hv Al nl cl Ao nl co loads W (hH.below h) hl hb hr (hV.below h) hvl hvr (hO.below h) hol hbb)
  have KM := Lib.hid (fun (Ax : Option Addr) (cx : Nat) (l : List Int) (hx : Ints w Ax l) (hxl : l.length = nl) W (h : Below w.heap.size w W) (h9 : Small18 n2 n3 hm hv nl nl loads) => make_post t a A2 n2 c2 A3 n3 c3 A4 n4 c4 k Ah nh ch Al nl cl Ax cx sz sm hm hv live l W hk hnl hnl2 (hS.below h) hsl (by have := h9.man.size; omega) (hU.below h) hul (by have := h9.man.sum; omega) (hH.below h) hl (by have := h9.man.homes; omega) (fun i hi => by have := h9.man.row i hi; omega) (hV.below h) hvl (hB.below h) hlv (hx.below h) hxl)
  have KM1 := Lib.hid (KM.out Ao co loads hO hol)
  have KM2 := Lib.hid (KM.out Aq cq other hQ hql)
  have HH := Lib.hid hH
  have HV := Lib.hid hV
  have HBL := Lib.hid hB
  have HL := Lib.hid hl
  have HVL := Lib.hid hvl
  have HLV := Lib.hid hlv
  have HSZ := Lib.hid hS
  have HSU := Lib.hid hU
  have HSL := Lib.hid hsl
  have HUL := Lib.hid hul
  have t0 : (((nl : Nat) : Int) != ((nl : Nat) : Int)) = false := by simp
  clear KM hS hsl hU hul hH hl hb hr hV hvl hvr hB hlv hO hol hbb hQ hql
  go_enter Try.func4, Try.ntmps4
  go_upto_region 1 with fail
  have HM := ManBox.mk' w t a A2 n2 c2 A3 n3 c3 A4 n4 c4
  have HB : Below w.heap.size w (w.alloc (.cells #[.int .i64 t, .int .i64 a, .slice A2 n2 c2, .slice A3 n3 c3, .slice A4 n4 c4] 26)) := (Below.refl _ _).alloc (Nat.le_refl _) _
  generalize w.alloc (.cells #[.int .i64 t, .int .i64 a, .slice A2 n2 c2, .slice A3 n3 c3, .slice A4 n4 c4] 26) = W at HM HB ⊢
  obtain ⟨m0, m1, m2, m3, m4⟩ := HM
  go_wp2_with (first | (go_at_call 6; (with_reducible refine (awake_any _).mono ?_); rintro e w2 ⟨rfl, hd⟩; replace m0 := cell_below hd m0; replace m1 := cell_below hd m1; replace m2 := cell_below hd m2; replace m3 := cell_below hd m3; replace m4 := cell_below hd m4; replace HB := bt HB HB.size hd; clear hd) | (go_at_call 7; (with_reducible refine (HSM.out _ HB).mono ?_); rintro e w3 ⟨f, rfl, hf, hd⟩; replace m0 := cell_below hd m0; replace m1 := cell_below hd m1; replace m2 := cell_below hd m2; replace m3 := cell_below hd m3; replace m4 := cell_below hd m4; replace HB := bt HB HB.size hd; clear hd; (rcases f with _ | _) <;> (first | (have H18 := Lib.hid (hf rfl); clear hf) | clear hf)) | (go_at_call 8; (with_reducible refine (KM1.out _ HB H18.out).mono ?_); rintro e w4 ⟨Am, cm, Ax, cx, P2, d2, P3, d3, P4, d4, ms, ls, X, rfl, hM4, hX4, hS4, hU4, hR4, hPR, hd⟩; replace m0 := cell_below hd m0; replace m1 := cell_below hd m1; replace m2 := cell_below hd m2; replace m3 := cell_below hd m3; replace m4 := cell_below hd m4; replace HB := bt HB HB.size hd; clear hd; have o0 := fun o => cell_old o m0; have o1 := fun o => cell_old o m1; have o2 := fun o => cell_old o m2; have o3 := fun o => cell_old o m3; have o4 := fun o => cell_old o m4; have HP1 := Lib.hid hPR; clear hPR) | (go_at_call 8; (with_reducible refine (KM2.out _ (HB.alloc HB.size _) H18.out).mono ?_); rintro e w5 ⟨Aq2, cq2, Ay, cy, Q2, g2, Q3, g3, Q4, g4, ms2, ls2, X2, rfl, hM5, hX5, hS5, hU5, hR5, hPR, hd⟩; have P5 := (PBox.mk' w4 t a Am ms.length cm Ax ls.length cx P2 sz.length d2 P3 sm.length d3 P4 X.length d4).below hd; replace hX4 := (hX4.below (bel1 w4 _)).below hd; replace hS4 := (hS4.below (bel1 w4 _)).below hd; replace hU4 := (hU4.below (bel1 w4 _)).below hd; replace hR4 := (hR4.below (bel1 w4 _)).below hd; clear o0 o1 o2 o3 o4; replace m0 := cell_below hd (cell_old _ m0); replace m1 := cell_below hd (cell_old _ m1); replace m2 := cell_below hd (cell_old _ m2); replace m3 := cell_below hd (cell_old _ m3); replace m4 := cell_below hd (cell_old _ m4); replace HB := bt (HB.alloc HB.size _) (HB.alloc HB.size _).size hd; obtain ⟨e1, e2⟩ := HP1.out.same hPR; have t5 : (((ms.length : Nat) : Int) != ((ms2.length : Nat) : Int)) = false := (by rw [e1]; simp); have HE1 := Lib.hid e1; clear e1; subst e2; have p0 := fun o => cell_old o P5.f0; have p1 := fun o => cell_old o P5.f1; have hd0 := bel1 w5; clear hd) | (go_at_call 12; (with_reducible refine (equal_any Ax Ay ls.length ls.length cx cy ls ls _ (hX4.below (hd0 _)) rfl (hX5.below (hd0 _)) rfl (by have := HP1.out.lost_len; have := H18.out.man.homes; omega)).mono ?_); rintro e w6 ⟨rfl, hd⟩; have P6 := (P5.below (hd0 _)).below hd; replace m0 := cell_below hd (cell_old _ m0); replace m1 := cell_below hd (cell_old _ m1); replace m2 := cell_below hd (cell_old _ m2); replace m3 := cell_below hd (cell_old _ m3); replace m4 := cell_below hd (cell_old _ m4); replace hS4 := (hS4.below (hd0 _)).below hd; replace hU4 := (hU4.below (hd0 _)).below hd; replace hR4 := (hR4.below (hd0 _)).below hd; replace HB := bt (HB.alloc HB.size _) (HB.alloc HB.size _).size hd; clear p0 p1 hd0))
  · go_ret
    exact ⟨rfl, HB⟩
  · have HM6 : ManBox w6 w.heap.size t a A2 n2 c2 A3 n3 c3 A4 n4 c4 := ⟨m0, m1, m2, m3, m4⟩
    have HP6 := Lib.hid P6
    clear m0 m1 m2 m3 m4 P5 P6 hM4 hM5 hX4 hX5 hS5 hU5 hR5 hd hPR KM1 KM2 HSM
    go_loopw [17, 18] (fun n i wr => ∃ j : Nat, j ≤ n4 ∧ i = .int .i64 j ∧ n = .int .i64 (lackN hv live hm j : Nat) ∧ Below w6.heap.size w6 wr) (fun _ i _ => n4 - (intOf i).toNat)
    case atStart => exact ⟨0, by omega, rfl, rfl, Below.refl _ _⟩
    case round =>
      obtain ⟨j, hj, rfl, rfl, HBr⟩ := hrel
      have HBw := bt HB HB.size HBr
      obtain ⟨m0, m1, m2, m3, m4⟩ := HM6.below HBr
      by_cases hlt : j < n4
      · have hjl : j < hm.length := by have := HL.out; omega
        have hgd : hm.getD j [] = hm[j] := by rw [List.getD_eq_getElem?_getD, List.getElem?_eq_getElem hjl]; rfl
        have hPL := presK_length hv live (hm.getD j []) j (hm.getD j []).length
        obtain ⟨q, hq⟩ : ∃ q, q = hm[j].length := ⟨_, rfl⟩
        obtain ⟨sp, hsp⟩ : ∃ sp, sp = (presOf hv live hm j).length := ⟨_, rfl⟩
        have hsq : sp ≤ q := by rw [hsp, hq, ← hgd]; exact hPL
        have hq30 : q ≤ 30 := by rw [hq]; exact H18.out.man.row j hjl
        have hLL := lackN_le hv live hm (getD_le (fun i hi => by have := H18.out.man.row i hi; omega)) j
        have hj30 : n4 ≤ 30 := by have := H18.out.man.homes; have := HL.out; omega
        have HY := Lib.hid (show lackN hv live hm (j + 1) = lackN hv live hm j + (q - sp) by simp only [lackN]; rw [hsp, hq, hgd])
        obtain ⟨L, hLe⟩ : ∃ L, L = lackN hv live hm j := ⟨_, rfl⟩
        rw [← hLe] at HY hLL ⊢
        have hL9 : L ≤ 30000 := by omega
        obtain ⟨y, hy⟩ : ∃ y, y = L + (q - sp) := ⟨_, rfl⟩
        rw [← hy] at HY
        have HYE := Lib.hid (show (((L : Nat) : Int) + ((q : Nat) : Int)) - ((sp : Nat) : Int) = ((y : Nat) : Int) by omega)
        have HPR := Lib.hid (fun W (h : Below w.heap.size w W) => present_any t a A2 n2 c2 A3 n3 c3 A4 n4 c4 hm Ah nh ch hv Al nl cl live W j hlt (HH.out.below h) HL.out (fun i hi => by have := H18.out.man.row i hi; omega) (HV.out.below h) HVL.out (HBL.out.below h) HLV.out)
        rw [← hsp] at HPR
        have HHW := HH.out.below HBw
        obtain ⟨b, off, rfl, hc⟩ := HHW.block (by omega)
        obtain ⟨B, cb, g1, _, _⟩ := hc j hjl
        rw [← hq] at g1
        clear hc HHW hgd hPL hq hsp hy hLe hLL
        go_upto_region 11 with fail
        replace HBr := HBr.drew
        replace HBw := HBw.drew
        go_region_with (go_at_call 9; (with_reducible refine (HPR.out _ HBw).mono ?_); rintro e w8 ⟨A9, c9, rfl, _, _, hd⟩; replace m0 := cell_below hd m0; replace m1 := cell_below hd m1; replace m2 := cell_below hd m2; replace m3 := cell_below hd m3; replace m4 := cell_below hd m4; replace g1 := cell_below hd g1; have HB8 := bt HBr HBr.size hd; clear hd)
        all_goals (go_wp2; go_roundw)
        all_goals first | exact ⟨j + 1, by omega, by go_num, by rw [HY.out]; exact congrArg (Value.int .i64) HYE.out, HB8⟩ | (simp [intOf]; omega)
      · obtain rfl : j = n4 := by omega
        by_cases h0 : lackN hv live hm j = 0
        · obtain ⟨hms, hXe⟩ := HP1.out.none_of (Nat.le_refl _) (by rw [HL.out]; exact lackN_zero j h0)
          subst hms
          subst hXe
          rw [h0]
          obtain ⟨q0, q1, q2, q3, q4, q5, q6⟩ := HP6.out.below HBr
          have hS9 := hS4.below HBr
          have hU9 := hU4.below HBr
          have hR9 := hR4.below HBr
          have HSA := Lib.hid (same_yes t a t a P2 sz.length d2 P3 sm.length d3 P4 X.length d4 A2 n2 c2 A3 n3 c3 A4 j c4 sz sz sm sm X X wr hS9 rfl (HSZ.out.below HBw) HSL.out (by have := H18.out.man.size; have := HSL.out; omega) hU9 rfl (HSU.out.below HBw) HUL.out (by have := H18.out.man.sum; have := HUL.out; omega) hR9 rfl (HH.out.below HBw) HL.out (by have := H18.out.man.homes; omega) (fun i hi => by have := H18.out.man.row i hi; omega) rfl rfl rfl rfl rfl)
          clear hS9 hU9 hR9 h0
          go_wp2_with (go_at_call 13; (with_reducible refine (HSA.out).mono ?_); rintro e w9 ⟨rfl, hd⟩; have HB9 := bt HBw HBw.size hd; clear hd)
          go_ret
          exact ⟨rfl, HB9⟩
        · have t9 : decide ((0 : Int) < ((lackN hv live hm j : Nat) : Int)) = true := by simp; omega
          have t9' : decide (0 < lackN hv live hm j) = true := by simp; omega
          generalize lackN hv live hm j = L at t9 t9' ⊢
          clear h0
          go_wp2
          go_ret
          exact ⟨rfl, HBw⟩
end
end Go.Proofs.Ytpologlcfohjeaa.MendW
