/- The law MendNothing walked: what is refused; all. -/
import Derived.Test.YtpologlcfohjeaaMendQ
set_option linter.unusedVariables false
set_option linter.unusedSimpArgs false
namespace Go.Proofs.Ytpologlcfohjeaa.MendW
open Go.RowKit Go.Proofs.Ytpologlcfohjeaa.Base
section
variable (t a : Int) (A2 : Option Addr) (n2 c2 : Nat) (A3 : Option Addr) (n3 c3 : Nat) (A4 : Option Addr) (n4 c4 : Nat) (Ah : Option Addr) (nh ch : Nat) (Al : Option Addr) (nl cl : Nat) (Ao : Option Addr) (no co : Nat) (sz sm : List Int) (hm : List (List Int)) (hv : List (List Bool)) (live : List Bool) (loads : List Int) (w : World)
set_option maxRecDepth 100000 in
set_option maxHeartbeats 8000000 in
theorem nothing_bad (Aq : Option Addr) (nq cq : Nat) (other : List Int) (k : Int) (hS : Ints w A2 sz) (hsl : sz.length = n2) (hU : U32s w A3 sm) (hul : sm.length = n3) (hH : IRows w A4 hm) (hl : hm.length = n4) (hb : n2 ≤ 9223372036854775807 ∧ n3 ≤ 9223372036854775807 ∧ n4 ≤ 9223372036854775807) (hr : ∀ i (h : i < hm.length), hm[i].length ≤ 9223372036854775807) (hV : BRows w Ah hv) (hvl : hv.length = nh) (hvr : ∀ i (h : i < hv.length), hv[i].length ≤ 9223372036854775807) (hB : Bools w Al live) (hlv : live.length = nl) (hO : Ints w Ao loads) (hol : loads.length = no) (hbb : nh ≤ 9223372036854775807 ∧ nl ≤ 9223372036854775807 ∧ no ≤ 9223372036854775807) (hQ : Ints w Aq other) (hql : other.length = nq) (hbad : ¬ (1 ≤ k ∧ 0 < nl ∧ nl ≤ 16 ∧ no = nl)) (hqn : no = nq) :
    Calls Try.prog 4 #[.agg #[.int .i64 t, .int .i64 a, .slice A2 n2 c2, .slice A3 n3 c3, .slice A4 n4 c4], .int .i64 k, .slice Ah nh ch, .slice Al nl cl, .slice Ao no co, .slice Aq nq cq] w fun e w' => e = .returned (.bool true) ∧ Below w.heap.size w w' := by
  subst hqn
  have HSM := Lib.hid (fun W (h : Below w.heap.size w W) => small18_any t a A2 n2 c2 A3 n3 c3 A4 n4 c4 hm Ah nh ch hv Al nl cl Ao no co loads W (hH.below h) hl hb hr (hV.below h) hvl hvr (hO.below h) hol hbb)
  have KM1 := Lib.hid (fun W => make_bad t a A2 n2 c2 A3 n3 c3 A4 n4 c4 k Ah nh ch Al nl cl Ao no co W hbad)
  have KM2 := Lib.hid (fun W => make_bad t a A2 n2 c2 A3 n3 c3 A4 n4 c4 k Ah nh ch Al nl cl Aq no cq W hbad)
  have HH := Lib.hid hH
  have HV := Lib.hid hV
  have HBL := Lib.hid hB
  have HL := Lib.hid hl
  have HVL := Lib.hid hvl
  have HLV := Lib.hid hlv
  have t0 : (((no : Nat) : Int) != ((no : Nat) : Int)) = false := by simp
  clear hS hsl hU hul hH hl hb hr hV hvl hvr hB hlv hO hol hbb hQ hql hbad
  go_enter Try.func4, Try.ntmps4
  go_upto_region 1 with fail
  have HM := ManBox.mk' w t a A2 n2 c2 A3 n3 c3 A4 n4 c4
  have HB : Below w.heap.size w (w.alloc (.cells #[.int .i64 t, .int .i64 a, .slice A2 n2 c2, .slice A3 n3 c3, .slice A4 n4 c4] 26)) := (Below.refl _ _).alloc (Nat.le_refl _) _
  generalize w.alloc (.cells #[.int .i64 t, .int .i64 a, .slice A2 n2 c2, .slice A3 n3 c3, .slice A4 n4 c4] 26) = W at HM HB ⊢
  obtain ⟨m0, m1, m2, m3, m4⟩ := HM
  go_wp2_with (first | (go_at_call 6; (with_reducible refine (awake_any _).mono ?_); rintro e w2 ⟨rfl, hd⟩; replace m0 := cell_below hd m0; replace m1 := cell_below hd m1; replace m2 := cell_below hd m2; replace m3 := cell_below hd m3; replace m4 := cell_below hd m4; replace HB := bt HB HB.size hd; clear hd) | (go_at_call 7; (with_reducible refine (HSM.out _ HB).mono ?_); rintro e w3 ⟨f, rfl, hf, hd⟩; replace m0 := cell_below hd m0; replace m1 := cell_below hd m1; replace m2 := cell_below hd m2; replace m3 := cell_below hd m3; replace m4 := cell_below hd m4; replace HB := bt HB HB.size hd; clear hd; (rcases f with _ | _) <;> (first | (have H18 := Lib.hid (hf rfl); clear hf) | clear hf)) | (go_at_call 8; (with_reducible refine (KM1.out _).mono ?_); rintro e w4 ⟨rfl, hd⟩; have hz4 := Lib.hid (Eq.refl w4); replace m0 := cell_below hd m0; replace m1 := cell_below hd m1; replace m2 := cell_below hd m2; replace m3 := cell_below hd m3; replace m4 := cell_below hd m4; replace HB := bt HB HB.size hd; clear hd; have o0 := fun o => cell_old o m0; have o1 := fun o => cell_old o m1; have o2 := fun o => cell_old o m2; have o3 := fun o => cell_old o m3; have o4 := fun o => cell_old o m4) | (go_at_call 8; (with_reducible refine (KM2.out _).mono ?_); rintro e w5 ⟨rfl, hd⟩; have P5 := (PBox.mk' w4 0 0 none 0 0 none 0 0 none 0 0 none 0 0 none 0 0).below hd; clear o0 o1 o2 o3 o4; replace m0 := cell_below hd (cell_old _ m0); replace m1 := cell_below hd (cell_old _ m1); replace m2 := cell_below hd (cell_old _ m2); replace m3 := cell_below hd (cell_old _ m3); replace m4 := cell_below hd (cell_old _ m4); replace HB := bt (HB.alloc HB.size _) (HB.alloc HB.size _).size hd; have p0 := fun o => cell_old o P5.f0; have p1 := fun o => cell_old o P5.f1; clear hd) | (go_at_call 12; (with_reducible refine (equal_any none none 0 0 0 0 [] [] _ (Ints.nil _ _) rfl (Ints.nil _ _) rfl (by omega)).mono ?_); rintro e w6 ⟨rfl, hd⟩; replace m0 := cell_below hd (cell_old _ m0); replace m1 := cell_below hd (cell_old _ m1); replace m2 := cell_below hd (cell_old _ m2); replace m3 := cell_below hd (cell_old _ m3); replace m4 := cell_below hd (cell_old _ m4); replace HB := bt (HB.alloc HB.size _) (HB.alloc HB.size _).size hd; clear p0 p1))
  · go_ret
    exact ⟨rfl, HB⟩
  · have HM6 : ManBox w6 w.heap.size t a A2 n2 c2 A3 n3 c3 A4 n4 c4 := ⟨m0, m1, m2, m3, m4⟩
    clear m0 m1 m2 m3 m4 P5 hd KM1 KM2 HSM
    go_loopw [17, 18] (fun n i wr => ∃ j : Nat, j ≤ n4 ∧ i = .int .i64 j ∧ n = .int .i64 (lackN hv live hm j : Nat) ∧ Below w6.heap.size w6 wr) (fun _ i _ => n4 - (intOf i).toNat)
    case atStart => exact ⟨0, by omega, rfl, rfl, Below.refl _ _⟩
    case round =>
      obtain ⟨j, hj, rfl, rfl, HBr⟩ := hrel
      have HBw := bt HB HB.size HBr
      obtain ⟨m0, m1, m2, m3, m4⟩ := HM6.below HBr
      by_cases hlt : j < n4
      · have hjl : j < hm.length := by have := HL.out; omega
        have hgd : hm.getD j [] = hm[j] := by rw [List.getD_eq_getElem?_getD, List.getElem?_eq_getElem hjl]; rfl
        have hPL := presK_length hv live (hm.getD j []) j (hm.getD j []).length
        obtain ⟨q, hq⟩ : ∃ q, q = hm[j].length := ⟨_, rfl⟩
        obtain ⟨sp, hsp⟩ : ∃ sp, sp = (presOf hv live hm j).length := ⟨_, rfl⟩
        have hsq : sp ≤ q := by rw [hsp, hq, ← hgd]; exact hPL
        have hq30 : q ≤ 30 := by rw [hq]; exact H18.out.man.row j hjl
        have hLL := lackN_le hv live hm (getD_le (fun i hi => by have := H18.out.man.row i hi; omega)) j
        have hj30 : n4 ≤ 30 := by have := H18.out.man.homes; have := HL.out; omega
        have HY := Lib.hid (show lackN hv live hm (j + 1) = lackN hv live hm j + (q - sp) by simp only [lackN]; rw [hsp, hq, hgd])
        obtain ⟨L, hLe⟩ : ∃ L, L = lackN hv live hm j := ⟨_, rfl⟩
        rw [← hLe] at HY hLL ⊢
        have hL9 : L ≤ 30000 := by omega
        obtain ⟨y, hy⟩ : ∃ y, y = L + (q - sp) := ⟨_, rfl⟩
        rw [← hy] at HY
        have HYE := Lib.hid (show (((L : Nat) : Int) + ((q : Nat) : Int)) - ((sp : Nat) : Int) = ((y : Nat) : Int) by omega)
        have HPR := Lib.hid (fun W (h : Below w.heap.size w W) => present_any t a A2 n2 c2 A3 n3 c3 A4 n4 c4 hm Ah nh ch hv Al nl cl live W j hlt (HH.out.below h) HL.out (fun i hi => by have := H18.out.man.row i hi; omega) (HV.out.below h) HVL.out (HBL.out.below h) HLV.out)
        rw [← hsp] at HPR
        have HHW := HH.out.below HBw
        obtain ⟨b, off, rfl, hc⟩ := HHW.block (by omega)
        obtain ⟨B, cb, g1, _, _⟩ := hc j hjl
        rw [← hq] at g1
        clear hc HHW hgd hPL hq hsp hy hLe hLL
        go_upto_region 11 with fail
        replace HBr := HBr.drew
        replace HBw := HBw.drew
        go_region_with (go_at_call 9; (with_reducible refine (HPR.out _ HBw).mono ?_); rintro e w8 ⟨A9, c9, rfl, _, _, hd⟩; replace m0 := cell_below hd m0; replace m1 := cell_below hd m1; replace m2 := cell_below hd m2; replace m3 := cell_below hd m3; replace m4 := cell_below hd m4; replace g1 := cell_below hd g1; have HB8 := bt HBr HBr.size hd; clear hd)
        all_goals (go_wp2; go_roundw)
        all_goals first | exact ⟨j + 1, by omega, by go_num, by rw [HY.out]; exact congrArg (Value.int .i64) HYE.out, HB8⟩ | (simp [intOf]; omega)
      · obtain rfl : j = n4 := by omega
        generalize lackN hv live hm j = L
        go_wp2
        go_ret
        exact ⟨rfl, HBw⟩
set_option maxRecDepth 100000 in
set_option maxHeartbeats 8000000 in
theorem nothing_few (Aq : Option Addr) (nq cq : Nat) (other : List Int) (k : Int) (hS : Ints w A2 sz) (hsl : sz.length = n2) (hU : U32s w A3 sm) (hul : sm.length = n3) (hH : IRows w A4 hm) (hl : hm.length = n4) (hb : n2 ≤ 9223372036854775807 ∧ n3 ≤ 9223372036854775807 ∧ n4 ≤ 9223372036854775807) (hr : ∀ i (h : i < hm.length), hm[i].length ≤ 9223372036854775807) (hV : BRows w Ah hv) (hvl : hv.length = nh) (hvr : ∀ i (h : i < hv.length), hv[i].length ≤ 9223372036854775807) (hB : Bools w Al live) (hlv : live.length = nl) (hO : Ints w Ao loads) (hol : loads.length = no) (hbb : nh ≤ 9223372036854775807 ∧ nl ≤ 9223372036854775807 ∧ no ≤ 9223372036854775807) (hQ : Ints w Aq other) (hql : other.length = nq) (hqn : nq ≠ no) :
    Calls Try.prog 4 #[.agg #[.int .i64 t, .int .i64 a, .slice A2 n2 c2, .slice A3 n3 c3, .slice A4 n4 c4], .int .i64 k, .slice Ah nh ch, .slice Al nl cl, .slice Ao no co, .slice Aq nq cq] w fun e w' => e = .returned (.bool true) ∧ Below w.heap.size w w' := by
  have HSM := Lib.hid (fun W (h : Below w.heap.size w W) => small18_any t a A2 n2 c2 A3 n3 c3 A4 n4 c4 hm Ah nh ch hv Al nl cl Ao no co loads W (hH.below h) hl hb hr (hV.below h) hvl hvr (hO.below h) hol hbb)
  have t0 : (((nq : Nat) : Int) != ((no : Nat) : Int)) = true := by simp; omega
  have t0' : (nq != no) = true := by simp; omega
  clear hS hsl hU hul hH hl hb hr hV hvl hvr hB hlv hO hol hbb hQ hql hqn
  go_enter Try.func4, Try.ntmps4
  go_upto_region 1 with fail
  have HM := ManBox.mk' w t a A2 n2 c2 A3 n3 c3 A4 n4 c4
  have HB : Below w.heap.size w (w.alloc (.cells #[.int .i64 t, .int .i64 a, .slice A2 n2 c2, .slice A3 n3 c3, .slice A4 n4 c4] 26)) := (Below.refl _ _).alloc (Nat.le_refl _) _
  generalize w.alloc (.cells #[.int .i64 t, .int .i64 a, .slice A2 n2 c2, .slice A3 n3 c3, .slice A4 n4 c4] 26) = W at HM HB ⊢
  obtain ⟨m0, m1, m2, m3, m4⟩ := HM
  go_wp2_with (first | (go_at_call 6; (with_reducible refine (awake_any _).mono ?_); rintro e w2 ⟨rfl, hd⟩; replace m0 := cell_below hd m0; replace m1 := cell_below hd m1; replace m2 := cell_below hd m2; replace m3 := cell_below hd m3; replace m4 := cell_below hd m4; replace HB := bt HB HB.size hd; clear hd) | (go_at_call 7; (with_reducible refine (HSM.out _ HB).mono ?_); rintro e w3 ⟨f, rfl, hf, hd⟩; replace m0 := cell_below hd m0; replace m1 := cell_below hd m1; replace m2 := cell_below hd m2; replace m3 := cell_below hd m3; replace m4 := cell_below hd m4; replace HB := bt HB HB.size hd; clear hd; (rcases f with _ | _) <;> (first | (have H18 := Lib.hid (hf rfl); clear hf) | clear hf)))
  all_goals (go_ret; exact ⟨rfl, HB⟩)
end
theorem nothing_any (t a : Int) (A2 : Option Addr) (n2 c2 : Nat) (A3 : Option Addr) (n3 c3 : Nat) (A4 : Option Addr) (n4 c4 : Nat) (Ah : Option Addr) (nh ch : Nat) (Al : Option Addr) (nl cl : Nat) (Ao : Option Addr) (no co : Nat) (sz sm : List Int) (hm : List (List Int)) (hv : List (List Bool)) (live : List Bool) (loads : List Int) (w : World) (Aq : Option Addr) (nq cq : Nat) (other : List Int) (k : Int) (hS : Ints w A2 sz) (hsl : sz.length = n2) (hU : U32s w A3 sm) (hul : sm.length = n3) (hH : IRows w A4 hm) (hl : hm.length = n4) (hb : n2 ≤ 9223372036854775807 ∧ n3 ≤ 9223372036854775807 ∧ n4 ≤ 9223372036854775807) (hr : ∀ i (h : i < hm.length), hm[i].length ≤ 9223372036854775807) (hV : BRows w Ah hv) (hvl : hv.length = nh) (hvr : ∀ i (h : i < hv.length), hv[i].length ≤ 9223372036854775807) (hB : Bools w Al live) (hlv : live.length = nl) (hO : Ints w Ao loads) (hol : loads.length = no) (hbb : nh ≤ 9223372036854775807 ∧ nl ≤ 9223372036854775807 ∧ no ≤ 9223372036854775807) (hQ : Ints w Aq other) (hql : other.length = nq) :
    Calls Try.prog 4 #[.agg #[.int .i64 t, .int .i64 a, .slice A2 n2 c2, .slice A3 n3 c3, .slice A4 n4 c4], .int .i64 k, .slice Ah nh ch, .slice Al nl cl, .slice Ao no co, .slice Aq nq cq] w fun e w' => e = .returned (.bool true) ∧ Below w.heap.size w w' := by
  by_cases hqn : nq = no
  · by_cases hg : 1 ≤ k ∧ 0 < nl ∧ nl ≤ 16 ∧ no = nl
    · obtain ⟨hk, h1, h2, h3⟩ := hg
      obtain ⟨kn, rfl⟩ : ∃ kn : Nat, k = kn := ⟨k.toNat, by omega⟩
      exact nothing_good t a A2 n2 c2 A3 n3 c3 A4 n4 c4 Ah nh ch Al nl cl Ao no co sz sm hm hv live loads w Aq nq cq other kn hS hsl hU hul hH hl hb hr hV hvl hvr hB hlv hO hol hbb hQ hql ⟨by omega, h1, h2⟩ h3.symm (by omega)
    · exact nothing_bad t a A2 n2 c2 A3 n3 c3 A4 n4 c4 Ah nh ch Al nl cl Ao no co sz sm hm hv live loads w Aq nq cq other k hS hsl hU hul hH hl hb hr hV hvl hvr hB hlv hO hol hbb hQ hql hg hqn.symm
  · exact nothing_few t a A2 n2 c2 A3 n3 c3 A4 n4 c4 Ah nh ch Al nl cl Ao no co sz sm hm hv live loads w Aq nq cq other k hS hsl hU hul hH hl hb hr hV hvl hvr hB hlv hO hol hbb hQ hql hqn
end Go.Proofs.Ytpologlcfohjeaa.MendW
