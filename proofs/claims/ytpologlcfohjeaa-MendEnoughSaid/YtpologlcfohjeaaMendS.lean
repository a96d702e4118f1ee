/- The law MendSafe walked. -/
import Derived.Test.YtpologlcfohjeaaMendR
set_option linter.unusedVariables false
set_option linter.unusedSimpArgs false
namespace Go.Proofs.Ytpologlcfohjeaa.MendW
open Go.RowKit Go.Proofs.Ytpologlcfohjeaa.Base
/-- A block that holds a move. -/
structure XBox (w : World) (b : Nat) (p q d : Nat) (A : Option Addr) (n c : Nat) : Prop where
  f0 : w.cell? ⟨b, 0, none⟩ = some (.int .i64 ((p : Nat) : Int))
  f1 : w.cell? ⟨b, 1, none⟩ = some (.int .i64 ((q : Nat) : Int))
  f2 : w.cell? ⟨b, 2, none⟩ = some (.int .i64 ((d : Nat) : Int))
  f3 : w.cell? ⟨b, 3, none⟩ = some (.slice A n c)
theorem XBox.below {w w' : World} {b p q d : Nat} {A : Option Addr} {n c : Nat} (h : XBox w b p q d A n c) (hb : Below w.heap.size w w') : XBox w' b p q d A n c :=
  ⟨cell_below hb h.f0, cell_below hb h.f1, cell_below hb h.f2, cell_below hb h.f3⟩
theorem XBox.mk' (w : World) (p q d : Nat) (A : Option Addr) (n c : Nat) : XBox (w.alloc (.cells #[.int .i64 ((p : Nat) : Int), .int .i64 ((q : Nat) : Int), .int .i64 ((d : Nat) : Int), .slice A n c] 38)) w.heap.size p q d A n c := by
  constructor <;> (rw [cell_of_row _ _ _ _ _ _ (heap_alloc_new w _)]; rfl)
theorem dec_cast (s : List Nat) (i : Nat) : decide (((i : Nat) : Int) ∈ castL s) = decide (i ∈ s) := by
  simp only [castL, List.mem_map, decide_eq_decide]
  constructor
  · rintro ⟨x, hx, he⟩
    obtain rfl : x = i := by omega
    exact hx
  · intro h; exact ⟨i, h, rfl⟩
theorem wholeB_iff {hv : List (List Bool)} {live : List Bool} {hm : List (List Int)} {k n : Nat} : wholeB hv live hm k n = true ↔ ∀ j, j < n → k ≤ (presOf hv live hm j).length := by
  unfold wholeB
  rw [List.all_eq_true]
  constructor
  · intro h j hj
    have := h j (List.mem_range.2 hj)
    simp at this
    omega
  · intro h j hj
    have := h j (List.mem_range.1 hj)
    simp
    omega
section
variable (t a : Int) (A2 : Option Addr) (n2 c2 : Nat) (A3 : Option Addr) (n3 c3 : Nat) (A4 : Option Addr) (n4 c4 : Nat) (Ah : Option Addr) (nh ch : Nat) (Al : Option Addr) (nl cl : Nat) (Ao : Option Addr) (no co : Nat) (sz sm : List Int) (hm : List (List Int)) (hv : List (List Bool)) (live : List Bool) (loads : List Int) (w : World)
set_option maxRecDepth 100000 in
set_option maxHeartbeats 8000000 in
theorem safe_bad (k : Int) (hS : Ints w A2 sz) (hsl : sz.length = n2) (hU : U32s w A3 sm) (hul : sm.length = n3) (hH : IRows w A4 hm) (hl : hm.length = n4) (hb : n2 ≤ 9223372036854775807 ∧ n3 ≤ 9223372036854775807 ∧ n4 ≤ 9223372036854775807) (hr : ∀ i (h : i < hm.length), hm[i].length ≤ 9223372036854775807) (hV : BRows w Ah hv) (hvl : hv.length = nh) (hvr : ∀ i (h : i < hv.length), hv[i].length ≤ 9223372036854775807) (hB : Bools w Al live) (hlv : live.length = nl) (hO : Ints w Ao loads) (hol : loads.length = no) (hbb : nh ≤ 9223372036854775807 ∧ nl ≤ 9223372036854775807 ∧ no ≤ 9223372036854775807) (hbad : ¬ (1 ≤ k ∧ 0 < nl ∧ nl ≤ 16 ∧ no = nl)) :
    Calls Try.prog 3 #[.agg #[.int .i64 t, .int .i64 a, .slice A2 n2 c2, .slice A3 n3 c3, .slice A4 n4 c4], .int .i64 k, .slice Ah nh ch, .slice Al nl cl, .slice Ao no co] w fun e w' => e = .returned (.bool true) ∧ Below w.heap.size w w' := by
  have HSM := Lib.hid (fun W (h : Below w.heap.size w W) => small18_any t a A2 n2 c2 A3 n3 c3 A4 n4 c4 hm Ah nh ch hv Al nl cl Ao no co loads W (hH.below h) hl hb hr (hV.below h) hvl hvr (hO.below h) hol hbb)
  have KM1 := Lib.hid (fun W => make_bad t a A2 n2 c2 A3 n3 c3 A4 n4 c4 k Ah nh ch Al nl cl Ao no co W hbad)
  clear hS hsl hU hul hH hl hb hr hV hvl hvr hB hlv hO hol hbb hbad
  go_enter Try.func3, Try.ntmps3
  go_upto_region 1 with fail
  have HM := ManBox.mk' w t a A2 n2 c2 A3 n3 c3 A4 n4 c4
  have HB : Below w.heap.size w (w.alloc (.cells #[.int .i64 t, .int .i64 a, .slice A2 n2 c2, .slice A3 n3 c3, .slice A4 n4 c4] 26)) := (Below.refl _ _).alloc (Nat.le_refl _) _
  generalize w.alloc (.cells #[.int .i64 t, .int .i64 a, .slice A2 n2 c2, .slice A3 n3 c3, .slice A4 n4 c4] 26) = W at HM HB ⊢
  obtain ⟨m0, m1, m2, m3, m4⟩ := HM
  go_wp2_with (first | (go_at_call 6; (with_reducible refine (awake_any _).mono ?_); rintro e w2 ⟨rfl, hd⟩; replace m0 := cell_below hd m0; replace m1 := cell_below hd m1; replace m2 := cell_below hd m2; replace m3 := cell_below hd m3; replace m4 := cell_below hd m4; replace HB := bt HB HB.size hd; clear hd) | (go_at_call 7; (with_reducible refine (HSM.out _ HB).mono ?_); rintro e w3 ⟨f, rfl, hf, hd⟩; replace m0 := cell_below hd m0; replace m1 := cell_below hd m1; replace m2 := cell_below hd m2; replace m3 := cell_below hd m3; replace m4 := cell_below hd m4; replace HB := bt HB HB.size hd; clear hd; (rcases f with _ | _) <;> (first | (have H18 := Lib.hid (hf rfl); clear hf) | clear hf)) | (go_at_call 8; (with_reducible refine (KM1.out _).mono ?_); rintro e w4 ⟨rfl, hd⟩; replace m0 := cell_below hd m0; replace m1 := cell_below hd m1; replace m2 := cell_below hd m2; replace m3 := cell_below hd m3; replace m4 := cell_below hd m4; replace HB := bt HB HB.size hd; clear hd))
  · go_ret
    exact ⟨rfl, HB⟩
  · go_ret
    exact ⟨rfl, HB.alloc HB.size _⟩
set_option maxRecDepth 100000 in
set_option maxHeartbeats 8000000 in
theorem safe_good (k : Nat) (hS : Ints w A2 sz) (hsl : sz.length = n2) (hU : U32s w A3 sm) (hul : sm.length = n3) (hH : IRows w A4 hm) (hl : hm.length = n4) (hb : n2 ≤ 9223372036854775807 ∧ n3 ≤ 9223372036854775807 ∧ n4 ≤ 9223372036854775807) (hr : ∀ i (h : i < hm.length), hm[i].length ≤ 9223372036854775807) (hV : BRows w Ah hv) (hvl : hv.length = nh) (hvr : ∀ i (h : i < hv.length), hv[i].length ≤ 9223372036854775807) (hB : Bools w Al live) (hlv : live.length = nl) (hO : Ints w Ao loads) (hol : loads.length = no) (hbb : nh ≤ 9223372036854775807 ∧ nl ≤ 9223372036854775807 ∧ no ≤ 9223372036854775807) (hg : 1 ≤ k ∧ 0 < nl ∧ nl ≤ 16) (hno : nl = no) :
    Calls Try.prog 3 #[.agg #[.int .i64 t, .int .i64 a, .slice A2 n2 c2, .slice A3 n3 c3, .slice A4 n4 c4], .int .i64 (k : Nat), .slice Ah nh ch, .slice Al nl cl, .slice Ao no co] w fun e w' => e = .returned (.bool true) ∧ Below w.heap.size w w' := by
  obtain ⟨hk, hnl, hnl2⟩ := hg
  subst hno
  have HSM := Lib.hid (fun W (h : Below w.heap.size w W) => small18_any t a A2 n2 c2 A3 n3 c3 A4 n4 c4 hm Ah nh ch hv Al nl cl Ao nl co loads W (hH.below h) hl hb hr (hV.below h) hvl hvr (hO.below h) hol hbb)
  have KM1 := Lib.hid (fun W (h : Below w.heap.size w W) (h9 : Small18 n2 n3 hm hv nl nl loads) => make_post t a A2 n2 c2 A3 n3 c3 A4 n4 c4 k Ah nh ch Al nl cl Ao co sz sm hm hv live loads W hk hnl hnl2 (hS.below h) hsl (by have := h9.man.size; omega) (hU.below h) hul (by have := h9.man.sum; omega) (hH.below h) hl (by have := h9.man.homes; omega) (fun i hi => by have := h9.man.row i hi; omega) (hV.below h) hvl (hB.below h) hlv (hO.below h) hol)
  have HH := Lib.hid hH
  have HV := Lib.hid hV
  have HBL := Lib.hid hB
  have HL := Lib.hid hl
  have HVL := Lib.hid hvl
  have HLV := Lib.hid hlv
  clear hS hsl hU hul hH hl hb hr hV hvl hvr hB hlv hO hol hbb
  go_enter Try.func3, Try.ntmps3
  go_upto_region 1 with fail
  have HM := ManBox.mk' w t a A2 n2 c2 A3 n3 c3 A4 n4 c4
  have HB : Below w.heap.size w (w.alloc (.cells #[.int .i64 t, .int .i64 a, .slice A2 n2 c2, .slice A3 n3 c3, .slice A4 n4 c4] 26)) := (Below.refl _ _).alloc (Nat.le_refl _) _
  generalize w.alloc (.cells #[.int .i64 t, .int .i64 a, .slice A2 n2 c2, .slice A3 n3 c3, .slice A4 n4 c4] 26) = W at HM HB ⊢
  obtain ⟨m0, m1, m2, m3, m4⟩ := HM
  go_wp2_with (first | (go_at_call 6; (with_reducible refine (awake_any _).mono ?_); rintro e w2 ⟨rfl, hd⟩; replace m0 := cell_below hd m0; replace m1 := cell_below hd m1; replace m2 := cell_below hd m2; replace m3 := cell_below hd m3; replace m4 := cell_below hd m4; replace HB := bt HB HB.size hd; clear hd) | (go_at_call 7; (with_reducible refine (HSM.out _ HB).mono ?_); rintro e w3 ⟨f, rfl, hf, hd⟩; replace m0 := cell_below hd m0; replace m1 := cell_below hd m1; replace m2 := cell_below hd m2; replace m3 := cell_below hd m3; replace m4 := cell_below hd m4; replace HB := bt HB HB.size hd; clear hd; (rcases f with _ | _) <;> (first | (have H18 := Lib.hid (hf rfl); clear hf) | clear hf)) | (go_at_call 8; (with_reducible refine (KM1.out _ HB H18.out).mono ?_); rintro e w4 ⟨Am, cm, Ax, cx, P2, d2, P3, d3, P4, d4, ms, ls, X, rfl, hM4, hX4, hS4, hU4, hR4, hPR, hd⟩; replace m0 := cell_below hd m0; replace m1 := cell_below hd m1; replace m2 := cell_below hd m2; replace m3 := cell_below hd m3; replace m4 := cell_below hd m4; replace HB := bt HB HB.size hd; clear hd; have HP1 := Lib.hid hPR; clear hPR hS4 hU4))
  · go_ret
    exact ⟨rfl, HB⟩
  · have hb4 := bel1 w4 (.cells #[.slice Am ms.length cm, .slice Ax ls.length cx, .int .i64 t, .int .i64 a, .slice P2 sz.length d2, .slice P3 sm.length d3, .slice P4 X.length d4] 33)
    have HPB := Lib.hid (PBox.mk' w4 t a Am ms.length cm Ax ls.length cx P2 sz.length d2 P3 sm.length d3 P4 X.length d4)
    have HMB : ManBox w4 w.heap.size t a A2 n2 c2 A3 n3 c3 A4 n4 c4 := ⟨m0, m1, m2, m3, m4⟩
    replace HMB := Lib.hid (HMB.below hb4)
    replace hM4 := Lib.hid (hM4.below hb4)
    replace hR4 := Lib.hid (hR4.below hb4)
    replace HB := bt HB HB.size hb4
    generalize w4.alloc (.cells #[.slice Am ms.length cm, .slice Ax ls.length cx, .int .i64 t, .int .i64 a, .slice P2 sz.length d2, .slice P3 sm.length d3, .slice P4 X.length d4] 33) = w5 at HPB HMB hM4 hR4 HB ⊢
    generalize w4.heap.size = pb at HPB ⊢
    clear m0 m1 m2 m3 m4 hX4 hb4 HSM KM1
    have hmsl : ms.length ≤ 30000 := by
      have h1 := HP1.out.moves_len (getD_le fun i hi => by have := H18.out.man.row i hi; omega)
      have h2 := H18.out.man.homes
      omega
    go_loopw [13, 14, 15, 16, 17, 18] (fun i _ _ _ _ _ wr => ∃ j : Nat, j ≤ ms.length ∧ i = .int .i64 j ∧ Below w5.heap.size w5 wr) (fun i _ _ _ _ _ _ => ms.length - (intOf i).toNat)
    case atStart => exact ⟨0, by omega, rfl, Below.refl _ _⟩
    case round =>
      obtain ⟨i, hi, rfl, HBr⟩ := hrel
      have HBw := bt HB HB.size HBr
      have HPW := HPB.out.below HBr
      have p0 := HPW.f0
      by_cases hlt : i < ms.length
      · obtain ⟨bm, om, rfl, hcm⟩ := (hM4.out.below HBr).block (by omega)
        obtain ⟨x0, x1, x2, Af, cf, x3, hIf⟩ := hcm i hlt
        have HOK := Lib.hid (HP1.out.moves (Nat.le_refl _) ms[i] (List.getElem_mem hlt))
        obtain ⟨m, hm9⟩ : ∃ m, m = ms[i] := ⟨_, rfl⟩
        rw [← hm9] at x0 x1 x2 x3 hIf HOK
        have HMI := Lib.hid hm9
        clear hcm hm9
        have hpl : m.part < hm.length := HOK.out.part_lt
        have hrow30 : ∀ j (h : j < hm.length), hm[j].length ≤ 30 := H18.out.man.row
        have hgd : hm.getD m.part [] = hm[m.part] := by rw [List.getD_eq_getElem?_getD, List.getElem?_eq_getElem hpl]; rfl
        have HGD := Lib.hid hgd
        have HPR := Lib.hid (fun W (h : Below w.heap.size w W) => present_any t a A2 n2 c2 A3 n3 c3 A4 n4 c4 hm Ah nh ch hv Al nl cl live W m.part (by have := HL.out; omega) (HH.out.below h) HL.out (fun i hi => by have := hrow30 i hi; omega) (HV.out.below h) HVL.out (HBL.out.below h) HLV.out)
        have hpl4 : m.part < n4 := by have := HL.out; omega
        have hs30 : (presOf hv live hm m.part).length ≤ 30 := by
          have h1 := presK_length hv live (hm.getD m.part []) m.part (hm.getD m.part []).length
          have h2 := hrow30 m.part hpl
          have h3 : (presOf hv live hm m.part).length ≤ (hm.getD m.part []).length := h1
          rw [hgd] at h3
          omega
        have hfl : m.fl.length = k := by rw [HOK.out.fl, castL_length, List.length_take]; have := HOK.out.pres; omega
        rw [hfl] at x3
        have HFL := Lib.hid hfl
        obtain ⟨m0, m1, m2, m3, m4⟩ := HMB.out.below HBr
        have o0 := fun o => cell_old o m0
        have o1 := fun o => cell_old o m1
        have o2 := fun o => cell_old o m2
        have o3 := fun o => cell_old o m3
        have o4 := fun o => cell_old o m4
        have hb9 := bel1 wr
        clear hgd hfl hrow30
        go_upto_region 11 with (go_at_call 9; (with_reducible refine (HPR.out _ (HBw.alloc HBw.size _)).mono ?_); rintro e w8 ⟨A9, c9, rfl, _, hI9, hd⟩)
        clear o0 o1 o2 o3 o4 m0 m1 m2 m3 m4 HPR hb9
        have HXB := Lib.hid ((XBox.mk' wr m.part m.at_ m.dst Af k cf).below hd)
        have HB8r := bt (HBr.alloc HBr.size _) (HBr.alloc HBr.size _).size hd
        have HB8 := bt HB HB.size HB8r
        have hIf8 := (hIf.below (bel1 wr _)).below hd
        clear hd hIf HBr HBw HPW p0 x0 x1 x2 x3
        generalize wr.heap.size = xb at HXB ⊢
        obtain ⟨s, hs⟩ : ∃ s, s = presOf hv live hm m.part := ⟨_, rfl⟩
        rw [← hs] at hI9 hs30 ⊢
        have HSE := Lib.hid hs
        clear hs
        obtain ⟨D, hD⟩ : ∃ D, D = m.dst := ⟨_, rfl⟩
        obtain ⟨Q, hQ⟩ : ∃ Q, Q = m.part := ⟨_, rfl⟩
        obtain ⟨E, hE⟩ : ∃ E, E = m.at_ := ⟨_, rfl⟩
        have hd1 : 1 ≤ D := by rw [hD]; exact HOK.out.d1
        have hd2 : D ≤ nl := by rw [hD, ← HLV.out]; exact HOK.out.d2
        have hd3 : live.getD (D - 1) false = true := by rw [hD]; exact HOK.out.d3
        have hd4 : ((D : Nat) : Int) ∉ s.map fun j => (hm.getD Q []).getD j 0 := by rw [hD, hQ, HSE.out]; exact HOK.out.d4
        have hEn : E ∉ s := by rw [hE, HSE.out]; exact HOK.out.at_no
        have hgot : (X.getD Q [])[E]? = some ((D : Nat) : Int) := by rw [hD, hQ, hE]; exact HOK.out.got
        have hQl : Q < hm.length := by rw [hQ]; exact hpl
        have hEl : E < (hm.getD Q []).length := by rw [hE, hQ]; exact HOK.out.at_lt
        have hflE : m.fl = castL (s.take k) := by rw [HSE.out]; exact HOK.out.fl
        have hks : k ≤ s.length := by rw [HSE.out]; exact HOK.out.pres
        rw [← hD, ← hQ, ← hE] at HXB
        rw [← hQ] at hpl4
        have HD := Lib.hid hD
        have HQ0 := Lib.hid hQ
        have HE0 := Lib.hid hE
        have HD4 := Lib.hid hd4
        have HFE := Lib.hid hflE
        obtain ⟨jd, hjd⟩ : ∃ jd : Nat, ((D : Nat) : Int) - 1 = (jd : Nat) := ⟨D - 1, by omega⟩
        have hjn : jd < nl := by omega
        have hjl : jd < live.length := by have := HLV.out; omega
        have hlvj : live[jd] = true := by
          have e : jd = D - 1 := by omega
          rw [List.getD_eq_getElem?_getD, List.getElem?_eq_getElem (by omega)] at hd3
          simpa [e] using hd3
        have hXQ : Q < X.length := by rw [HP1.out.len]; exact hQl
        have hXd : X.getD Q [] = X[Q] := by rw [List.getD_eq_getElem?_getD, List.getElem?_eq_getElem hXQ]; rfl
        rw [hXd] at hgot
        obtain ⟨hEX, hgot2⟩ := List.getElem?_eq_some_iff.1 hgot
        have HB8c := HB8r
        obtain ⟨bl, ol, rfl, hcl⟩ := (HBL.out.below HB8).block (by omega)
        have l1 := hcl jd hjl
        rw [hlvj] at l1
        obtain ⟨b4, of4, rfl, hc4⟩ := (hR4.out.below HB8r).block (by omega)
        obtain ⟨Br, cr, r1, _, hIr⟩ := hc4 Q hXQ
        obtain ⟨br, ofr, rfl, hcr⟩ := hIr.block (by omega)
        have r2 := hcr E hEX
        rw [hgot2] at r2
        obtain ⟨xq, hxq⟩ : ∃ xq, xq = X[Q].length := ⟨_, rfl⟩
        rw [← hxq] at r1
        rw [← hxq] at hEX
        have hXn : Q < X.length := hXQ
        obtain ⟨xn, hxn⟩ : ∃ xn, xn = X.length := ⟨_, rfl⟩
        have HPX := HPB.out
        rw [← hxn] at HPX hXn
        have t1 : decide (((D : Nat) : Int) < 1) = false := by simp; omega
        have t1' : decide (D < 1) = false := by simp; omega
        have t2 : decide (((nl : Nat) : Int) < ((D : Nat) : Int)) = false := by simp; omega
        have t2' : decide (nl < D) = false := by simp; omega
        have t3 : (((k : Nat) : Int) != ((k : Nat) : Int)) = false := by simp
        have t4 : (((D : Nat) : Int) != ((D : Nat) : Int)) = false := by simp
        have hjm : jd ≤ 1000000 := by omega
        have HIN := Lib.hid (fun W (x : Int) (h : Ints W A9 (castL s)) => (in_any A9 s.length c9 (castL s) x W h (castL_length s) (by omega)).mono (fun e w' (h : e = .returned (.bool (decide (x ∈ castL s))) ∧ W = w') => (show e = .returned (.bool (decide (x ∈ castL s))) ∧ Below W.heap.size W w' from ⟨h.1, h.2 ▸ Below.refl _ _⟩)))
        have HINE := Lib.hid (fun W (h : Ints W A9 (castL s)) => HIN.out W ((E : Nat) : Int) h)
        rw [dec_cast, decide_eq_false hEn] at HINE
        have RT := ints_regrown hI9
        obtain ⟨f0, f1, f2, f3⟩ := HXB.out
        have f6 := (HPX.below HB8r).f6
        have g0 := regrown_cell f0
        have g1 := regrown_cell f1
        have g2 := regrown_cell f2
        have g3 := regrown_cell f3
        have g6 := regrown_cell f6
        have gl := regrown_cell l1
        have gr1 := regrown_cell r1
        have gr2 := regrown_cell r2
        clear hcl hc4 hcr hIr hd3 hd4 hEn hgot hXd hgot2 hflE hjl hlvj hEl hxq hxn hD hQ hE
        (refine wp_region_quiet_below (by kernel_rfl) (by kernel_rfl) ?_; (repeat (go_big_quiet_step ((go_at_call 10; with_reducible exact Calls.regrown_of (HINE.out _ (RT ⟨_, _⟩)))))); refine wpQuiet_nil ?_; intro wq hw'; have HQ := below_of_regrown hw'; clear hw')
        have HXQ := Lib.hid (HXB.out.below HQ)
        have HB9r := bt HB8r HB8r.size HQ
        have HB9 := bt HB HB.size HB9r
        have hI10 := hI9.below HQ
        have hIf9 := hIf8.below HQ
        clear f0 f1 f2 f3 f6 g0 g1 g2 g3 g6 gl gr1 gr2 l1 r1 r2 RT hI9 hIf8 HQ HB8r HB8 HB8c HINE HXB t1 t1' t2 t2' t4
        go_wp2
        go_loop [16] (fun jj => ∃ j : Nat, j ≤ k ∧ jj = .int .i64 j) (fun jj => k - (intOf jj).toNat)
        case atStart => exact ⟨0, by omega, rfl⟩
        case round =>
          obtain ⟨j, hj, rfl⟩ := hrel
          by_cases hjk : j < k
          · have hjf : j < m.fl.length := by rw [HFL.out]; exact hjk
            obtain ⟨bf, off9, rfl, hcf⟩ := hIf9.block (by omega)
            have x4 := hcf j hjf
            have f3 := HXQ.out.f3
            have hmem : m.fl[j] ∈ castL s := by
              have : m.fl[j] ∈ castL (s.take k) := by rw [← HFE.out]; exact List.getElem_mem hjf
              obtain ⟨y, hy, e⟩ := List.mem_map.1 this
              exact List.mem_map.2 ⟨y, List.mem_of_mem_take hy, e⟩
            have HIJ := Lib.hid (in_any A9 s.length c9 (castL s) m.fl[j] wq hI10 (castL_length s) (by omega))
            rw [decide_eq_true hmem] at HIJ
            clear hcf hmem
            generalize m.fl[j] = z at x4 HIJ
            go_wp2_with (go_at_call 10; (with_reducible refine (HIJ.out).mono ?_); rintro e w10 ⟨rfl, rfl⟩)
            go_round
            case rel => exact ⟨j + 1, by omega, by go_num⟩
            case measure => simp [intOf]; omega
          · obtain rfl : j = k := by omega
            clear hjk
            go_wp2
            go_loopw [17] (fun jj wr => ∃ a : Nat, a ≤ s.length ∧ jj = .int .i64 a ∧ Below wq.heap.size wq wr) (fun jj _ => s.length - (intOf jj).toNat)
            case atStart => exact ⟨0, by omega, rfl, Below.refl _ _⟩
            case round =>
              obtain ⟨a9, ha9, rfl, HC⟩ := hrel
              by_cases hlt2 : a9 < s.length
              · have hB2 := bt HB9 HB9.size HC
                have HX2 := HXQ.out.below HC
                have HM2 := (HMB.out.below HB9r).below HC
                obtain ⟨b9, of9, rfl, hc9⟩ := (hI10.below HC).block (by rw [castL_length]; omega)
                have y1 := hc9 a9 (by rw [castL_length]; exact hlt2)
                obtain ⟨sa, hsa⟩ : ∃ sa, sa = s[a9] := ⟨_, rfl⟩
                have e9 : (castL s)[a9]'(by rw [castL_length]; exact hlt2) = ((sa : Nat) : Int) := by rw [hsa]; simp [castL]
                rw [e9] at y1
                have hsar : sa < (hm.getD Q []).length := by
                  have h1 : sa ∈ presOf hv live hm m.part := by rw [← HSE.out, hsa]; exact List.getElem_mem hlt2
                  rw [HQ0.out]
                  exact (presK_lt _ _ _ _ _ sa h1).1
                have hne : ((hm.getD Q []).getD sa 0 == ((D : Nat) : Int)) = false := by
                  have : (hm.getD Q []).getD sa 0 ≠ ((D : Nat) : Int) := fun e => HD4.out (List.mem_map.2 ⟨sa, by rw [hsa]; exact List.getElem_mem hlt2, e⟩)
                  simpa using this
                have HHW := HH.out.below hB2
                obtain ⟨bh, oh, rfl, hch⟩ := HHW.block (by omega)
                obtain ⟨Bh, c7, y2, _, hIh⟩ := hch Q hQl
                have hgq : hm.getD Q [] = hm[Q] := by rw [List.getD_eq_getElem?_getD, List.getElem?_eq_getElem hQl]; rfl
                rw [← hgq] at y2 hIh
                obtain ⟨bi, oi, rfl, hci⟩ := hIh.block (by omega)
                have y3 := hci sa hsar
                have hrg : (hm.getD Q [])[sa] = (hm.getD Q []).getD sa 0 := by rw [List.getD_eq_getElem?_getD (l := hm.getD Q []), List.getElem?_eq_getElem hsar]; rfl
                rw [hrg] at y3
                obtain ⟨q9, hq9⟩ : ∃ q, q = (hm.getD Q []).length := ⟨_, rfl⟩
                rw [← hq9] at y2 hsar
                obtain ⟨z9, hz9⟩ : ∃ z, z = (hm.getD Q []).getD sa 0 := ⟨_, rfl⟩
                rw [← hz9] at y3 hne
                have k0 := regrown_cell HX2.f0
                have k2 := regrown_cell HX2.f2
                have k4 := regrown_cell HM2.f4
                have k5 := regrown_cell y1
                have k6 := regrown_cell y2
                have k7 := regrown_cell y3
                clear hc9 hch hci hIh hgq hrg hq9 hz9 y1 y2 y3 e9 hsa HX2 HM2
                go_upto_region 21 with fail
                (refine wp_region_quiet_below (by kernel_rfl) (by kernel_rfl) ?_; (repeat (go_big_quiet_step (fail))); refine wpQuiet_nil ?_; intro wq hw'; have HQ := below_of_regrown hw'; clear hw')
                have HC2 := bt HC HC.size HQ
                clear HQ HC hB2
                go_wp2
                go_roundw
                case rel => exact ⟨a9 + 1, by omega, by go_num, HC2⟩
                case measure => simp [intOf]; omega
              · obtain rfl : a9 = s.length := by omega
                clear hlt2
                go_wp2
                go_loopw [18] (fun jj wr => ∃ a : Nat, a ≤ i ∧ jj = .int .i64 a ∧ Below wq.heap.size wq wr) (fun jj _ => i - (intOf jj).toNat)
                case atStart => exact ⟨0, by omega, rfl, HC⟩
                case round =>
                  clear HC
                  obtain ⟨a9, ha9, rfl, HC⟩ := hrel
                  by_cases hlt2 : a9 < i
                  · have ha9l : a9 < ms.length := by omega
                    obtain ⟨bm2, om2, eqm, hcm2⟩ := ((hM4.out.below HB9r).below HC).block (by omega)
                    cases eqm
                    obtain ⟨y0, y1, y2, _⟩ := hcm2 a9 ha9l
                    have hpw := (List.pairwise_iff_getElem.1 (HP1.out.pw (Nat.le_refl _))) a9 i ha9l hlt hlt2
                    rw [← HMI.out, ← HQ0.out, ← HD.out, ← HE0.out] at hpw
                    have HX2 := HXQ.out.below HC
                    have HP2 := (HPB.out.below HB9r).below HC
                    obtain ⟨mp, hmp⟩ : ∃ x, x = ms[a9].part := ⟨_, rfl⟩
                    obtain ⟨ma, hma⟩ : ∃ x, x = ms[a9].at_ := ⟨_, rfl⟩
                    obtain ⟨md, hmd⟩ : ∃ x, x = ms[a9].dst := ⟨_, rfl⟩
                    rw [← hmp] at y0 hpw
                    rw [← hma] at y1 hpw
                    rw [← hmd] at y2 hpw
                    have k0 := regrown_cell HX2.f0
                    have k1 := regrown_cell HX2.f1
                    have k2 := regrown_cell HX2.f2
                    have k3 := regrown_cell HP2.f0
                    have k4 := regrown_cell y0
                    have k5 := regrown_cell y1
                    have k6 := regrown_cell y2
                    clear hcm2 hmp hma hmd y0 y1 y2 HX2 HP2
                    by_cases hpq : mp = Q
                    · obtain ⟨g1, g2⟩ := hpw hpq
                      have t6 : (((mp : Nat) : Int) == ((Q : Nat) : Int)) = true := by simp [hpq]
                      have t7 : (((md : Nat) : Int) == ((D : Nat) : Int)) = false := by simp; omega
                      have t8 : (((ma : Nat) : Int) == ((E : Nat) : Int)) = false := by simp; omega
                      clear hpq g1 g2 hpw
                      go_upto_region 26 with fail
                      (refine wp_region_quiet_below (by kernel_rfl) (by kernel_rfl) ?_; (repeat (go_big_quiet_step (fail))); refine wpQuiet_nil ?_; intro wq hw'; have HQ := below_of_regrown hw'; clear hw')
                      have HC2 := bt HC HC.size HQ
                      clear HQ HC
                      go_wp2
                      go_roundw
                      case rel => exact ⟨a9 + 1, by omega, by go_num, HC2⟩
                      case measure => simp [intOf]; omega
                    · have t6 : (((mp : Nat) : Int) == ((Q : Nat) : Int)) = false := by simp; omega
                      clear hpq hpw
                      go_upto_region 26 with fail
                      (refine wp_region_quiet_below (by kernel_rfl) (by kernel_rfl) ?_; (repeat (go_big_quiet_step (fail))); refine wpQuiet_nil ?_; intro wq hw'; have HQ := below_of_regrown hw'; clear hw')
                      have HC2 := bt HC HC.size HQ
                      clear HQ HC
                      go_wp2
                      go_roundw
                      case rel => exact ⟨a9 + 1, by omega, by go_num, HC2⟩
                      case measure => simp [intOf]; omega
                  · obtain rfl : a9 = i := by omega
                    clear hlt2
                    go_wp2
                    go_roundw
                    case rel => exact ⟨a9 + 1, by omega, by go_num, bt HB9r HB9r.size HC⟩
                    case measure => simp [intOf]; omega
      · obtain rfl : i = ms.length := by omega
        have HWH := Lib.hid (fun W (h : Below wr.heap.size wr W) => whole_any t a A2 n2 c2 A3 n3 c3 A4 n4 c4 hm Ah nh ch hv Al nl cl live W (k : Nat) ((HH.out.below HBw).below h) HL.out (by have := H18.out.man.homes; have := HL.out; omega) (fun i hi => by have := H18.out.man.row i hi; omega) ((HV.out.below HBw).below h) HVL.out ((HBL.out.below HBw).below h) HLV.out)
        have hiff := HP1.out.lost_nil
        rw [HL.out, ← wholeB_iff] at hiff
        obtain ⟨R, hR⟩ : ∃ R, R = wholeB hv live hm k n4 := ⟨_, rfl⟩
        rw [← hR] at HWH hiff
        have t9 : (((ls.length : Nat) : Int) == 0) = R := by
          cases R with
          | true => rw [hiff.2 rfl]; rfl
          | false =>
            have : ls ≠ [] := fun e => by have := hiff.1 e; cases this
            have : 0 < ls.length := List.length_pos_iff.2 this
            simp
            omega
        obtain ⟨m0, m1, m2, m3, m4⟩ := HMB.out.below HBr
        have p1 := HPW.f1
        have RW := fun p : Regrown => below_of_regrown (w := wr) ⟨p, rfl⟩
        have g0 := regrown_cell m0
        have g1 := regrown_cell m1
        have g2 := regrown_cell m2
        have g3 := regrown_cell m3
        have g4 := regrown_cell m4
        have g5 := regrown_cell p1
        clear hiff hR
        go_upto_region 28 with fail
        (refine wp_region_quiet_below (by kernel_rfl) (by kernel_rfl) ?_; (repeat (go_big_quiet_step ((go_at_call 11; with_reducible exact Calls.regrown_of (HWH.out _ (RW ⟨_, _⟩)))))); refine wpQuiet_nil ?_; intro wq hw'; have HQ := below_of_regrown hw'; clear hw')
        have HC2 := bt HBw HBw.size HQ
        clear HQ
        go_wp2
        go_ret
        exact ⟨by simp, HC2⟩
end
theorem safe_any (t a : Int) (A2 : Option Addr) (n2 c2 : Nat) (A3 : Option Addr) (n3 c3 : Nat) (A4 : Option Addr) (n4 c4 : Nat) (Ah : Option Addr) (nh ch : Nat) (Al : Option Addr) (nl cl : Nat) (Ao : Option Addr) (no co : Nat) (sz sm : List Int) (hm : List (List Int)) (hv : List (List Bool)) (live : List Bool) (loads : List Int) (w : World) (k : Int) (hS : Ints w A2 sz) (hsl : sz.length = n2) (hU : U32s w A3 sm) (hul : sm.length = n3) (hH : IRows w A4 hm) (hl : hm.length = n4) (hb : n2 ≤ 9223372036854775807 ∧ n3 ≤ 9223372036854775807 ∧ n4 ≤ 9223372036854775807) (hr : ∀ i (h : i < hm.length), hm[i].length ≤ 9223372036854775807) (hV : BRows w Ah hv) (hvl : hv.length = nh) (hvr : ∀ i (h : i < hv.length), hv[i].length ≤ 9223372036854775807) (hB : Bools w Al live) (hlv : live.length = nl) (hO : Ints w Ao loads) (hol : loads.length = no) (hbb : nh ≤ 9223372036854775807 ∧ nl ≤ 9223372036854775807 ∧ no ≤ 9223372036854775807) :
    Calls Try.prog 3 #[.agg #[.int .i64 t, .int .i64 a, .slice A2 n2 c2, .slice A3 n3 c3, .slice A4 n4 c4], .int .i64 k, .slice Ah nh ch, .slice Al nl cl, .slice Ao no co] w fun e w' => e = .returned (.bool true) ∧ Below w.heap.size w w' := by
  by_cases hg : 1 ≤ k ∧ 0 < nl ∧ nl ≤ 16 ∧ no = nl
  · obtain ⟨hk, h1, h2, h3⟩ := hg
    obtain ⟨kn, rfl⟩ : ∃ kn : Nat, k = kn := ⟨k.toNat, by omega⟩
    exact safe_good t a A2 n2 c2 A3 n3 c3 A4 n4 c4 Ah nh ch Al nl cl Ao no co sz sm hm hv live loads w kn hS hsl hU hul hH hl hb hr hV hvl hvr hB hlv hO hol hbb ⟨by omega, h1, h2⟩ h3.symm
  · exact safe_bad t a A2 n2 c2 A3 n3 c3 A4 n4 c4 Ah nh ch Al nl cl Ao no co sz sm hm hv live loads w k hS hsl hU hul hH hl hb hr hV hvl hvr hB hlv hO hol hbb hg
end Go.Proofs.Ytpologlcfohjeaa.MendW
