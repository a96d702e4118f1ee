/- stookref02.Mul walked. -/
import Derived.Test.YtalinkpfklhgaaaRowsUndo
set_option linter.unusedVariables false
set_option linter.unusedSimpArgs false
namespace Go.Proofs.Ytalinkpfklhgaaa.RowsW
open Go.RowKit Go.Proofs.Ytalinkpfklhgaaa.Base Go.Proofs.Ytalinkpfklhgaaa.GfP Go.Proofs.Ytalinkpfklhgaaa.GfW Go.Proofs.Ytalinkpfklhgaaa.GfR Go.Proofs.Ytalinkpfklhgaaa.Lin

theorem lv_rw1_succ (j : Nat) (f : Nat → F) : lv (rw1 (j + 1) f) = lv (rw1 j f) ++ [.int .u8 (((f j).v : Nat) : Int)] := by
  unfold rw1 lv
  rw [List.range_succ]
  simp
theorem tab_succ (k p : Nat) (P : M) : tab (k + 1) p P = tab k p P ++ [rw1 p (P k)] := by
  unfold tab
  rw [List.range_succ]
  simp
theorem sm_xor (k : Nat) (f : Nat → F) : (sm (k + 1) f).v = (sm k f).v ^^^ (f k).v := rfl
set_option maxRecDepth 100000 in
set_option maxHeartbeats 1000000 in
theorem rmul_rows (A A' : Option Addr) (n m c c' p : Nat) (ls ms : List (List Nat)) (w : World) (hR : Base.Rows w A ls) (hR' : Base.Rows w A' ms) (hl : ls.length = n) (hl' : ms.length = m) (h0 : 0 < m) (hn : n ≤ 1000) (hm : m ≤ 1000) (hp1 : 0 < p) (hp0 : p ≤ 1000)
    (hq : ∀ i (h : i < ls.length), ls[i].length = m) (hp : ∀ i (h : i < ms.length), ms[i].length = p) :
    Calls Try.prog 47 #[.slice A n c, .slice A' m c'] w fun e w' => ∃ A2 c2, e = .returned (.slice A2 n c2) ∧ Base.Rows w' A2 (tab n p (mm m (fn ls) (fn ms))) ∧ Below w.heap.size w w' := by
  have HQ := Lib.hid hq
  have HP := Lib.hid hp
  have HL := Lib.hid hl
  have HL' := Lib.hid hl'
  have HLE := Lib.hid hR.le
  have HLE' := Lib.hid hR'.le
  obtain ⟨b', off', rfl, hc0'⟩ := hR'.block (by omega)
  obtain ⟨B0', c0', h0', hx0'⟩ := hc0' 0 (by omega)
  rw [Nat.add_zero, hp 0 (by omega)] at h0'
  clear hc0' hx0' hq hp hl hl'
  obtain ⟨P, hP⟩ : ∃ P : M, P = mm m (fn ls) (fn ms) := ⟨_, rfl⟩
  rw [← hP]
  have HPP := Lib.hid hP
  clear hP
  have z1 : (0 : Int) < m := by omega
  go_enter Try.func47, Try.ntmps47
  go_wp2
  go_loopw [5, 6, 7, 8, 9, 10] (fun d i _ _ _ _ wr => ∃ (k : Nat) (vs : List Value), k ≤ n ∧ i = .int .i64 k ∧ Picked w wr d vs (tab k p P)) (fun _ i _ _ _ _ _ => n - (intOf i).toNat)
  case atStart => exact ⟨0, [], by omega, rfl, Picked.start w⟩
  case round =>
    obtain ⟨k, vs, hk, rfl, HPK⟩ := hrel
    by_cases hlt : k < n
    · have hkl : k < ls.length := by have := HL.out; omega
      obtain ⟨b, off, rfl, hc⟩ := (hR.below HPK.below).block (by have := HL.out; omega)
      obtain ⟨B1, c1, hcell, hrow⟩ := hc k hkl
      rw [HQ.out k hkl] at hcell
      have hrl := HQ.out k hkl
      obtain ⟨b1, off1, rfl, hsrc⟩ := hrow.block (by omega)
      have HSRC := Lib.hid (fun x (hx : x < m) => show wr.cell? ⟨b1, off1 + x, none⟩ = some (.int .u8 (((fn ls k x).v : Nat) : Int)) by
        rw [fn_at hkl (HLE.out k hkl)]
        exact hsrc x (by omega))
      clear hc hrow hrl hsrc
      have hR2 := hR'.below HPK.below
      have h02 := cell_below HPK.below h0'
      obtain ⟨wi, rfl⟩ : ∃ wi : World, wi = wr := ⟨_, rfl⟩
      go_wp2
      go_loopw [7, 8, 9, 10] (fun r j _ _ wx => ∃ q : Nat, q ≤ p ∧ j = .int .i64 q ∧ wx.ownsRow wi.heap.size 5 1 r q (lv (rw1 q (P k))) ∧ Below wi.heap.size wi wx) (fun _ j _ _ _ => p - (intOf j).toNat)
      case atStart => exact ⟨0, by omega, rfl, World.ownsRow_nil _ _ _ _, Below.refl _ _⟩
      case round =>
        obtain ⟨q, hq, rfl, HO, HB1⟩ := hrel
        by_cases hqp : q < p
        · obtain ⟨wj, rfl⟩ : ∃ wj : World, wj = wr := ⟨_, rfl⟩
          have h03 := cell_below HB1 h02
          have HCM := Lib.hid (fun x (hx : x < m) => show ∃ b2 off2 c2, wj.cell? ⟨b', off' + x, none⟩ = some (.slice (some ⟨b2, off2, none⟩) p c2) ∧ wj.cell? ⟨b2, off2 + q, none⟩ = some (.int .u8 (((fn ms x q).v : Nat) : Int)) by
            have hxl : x < ms.length := by have := HL'.out; omega
            obtain ⟨b9, off9, e9, hc9⟩ := (hR2.below HB1).block (by have := HL'.out; omega)
            cases e9
            obtain ⟨B9, c9, hcell9, hrow9⟩ := hc9 x hxl
            have hp9 := HP.out x hxl
            obtain ⟨b8, off8, rfl, hs8⟩ := hrow9.block (by omega)
            rw [hp9] at hcell9
            exact ⟨b8, off8, c9, hcell9, by rw [fn_at hxl (HLE'.out x hxl)]; exact hs8 q (by omega)⟩)
          go_wp2
          go_loopw [9, 10] (fun v x wx => ∃ y : Nat, y ≤ m ∧ x = .int .i64 y ∧ v = .int .i64 (((sm y fun t => fn ls k t * fn ms t q).v : Nat) : Int) ∧ Drawn wj wx) (fun _ x _ => m - (intOf x).toNat)
          case atStart => exact ⟨0, by omega, rfl, rfl, Drawn.refl _⟩
          case round =>
            obtain ⟨y, hy, rfl, rfl, HD⟩ := hrel
            by_cases hym : y < m
            · have g1 := cell_below HD.below (cell_below HB1 hcell)
              have g2 := cell_below HD.below (cell_below HB1 (HSRC.out y hym))
              obtain ⟨b2, off2, c2, g3, g4⟩ := HCM.out y hym
              replace g3 := cell_below HD.below g3
              replace g4 := cell_below HD.below g4
              have HX := Lib.hid (sm_xor y fun t => fn ls k t * fn ms t q)
              rw [v_mul] at HX
              have l1 := (fn ls k y).le
              have l2 := (fn ms y q).le
              have l3 := (sm y fun t => fn ls k t * fn ms t q).le
              generalize (fn ls k y).v = x1 at HX l1 g2
              generalize (fn ms y q).v = x2 at HX l2 g4
              generalize hs0 : (sm y fun t => fn ls k t * fn ms t q).v = s at HX l3 ⊢
              clear hs0
              have l4 := mul_le x1 x2
              have hxx := i64_xor_nat s (mul x1 x2) (by omega) (by omega)
              have w1 : IntKind.i64.wrap ((x1 : Nat) : Int) = ((x1 : Nat) : Int) := by rw [IntKind.wrap_i64]; omega
              have w2 : IntKind.i64.wrap ((x2 : Nat) : Int) = ((x2 : Nat) : Int) := by rw [IntKind.wrap_i64]; omega
              go_upto_region 13 with fail
              go_quiet ((go_at_call 26; exact Calls.quiet_of ((rmul _ _ _ (by omega) (by omega)).mono fun _ _ ⟨h1, h2⟩ => ⟨h1, 0, h2.symm⟩)))
              go_wp2
              rw [← HX.out]
              go_roundw
              case rel => exact ⟨y + 1, by omega, by go_num, rfl, HD.trans (Drawn.step _)⟩
              case measure => simp [intOf]; omega
            · obtain rfl : y = m := by omega
              have HV := Lib.hid (show (sm y fun t => fn ls k t * fn ms t q).v = (P k q).v by rw [HPP.out]; rfl)
              rw [HV.out]
              have l3 := (P k q).le
              have hcv : IntKind.u8.wrap (((P k q).v : Nat) : Int) = (((P k q).v : Nat) : Int) := by rw [IntKind.wrap_u8]; omega
              have HS := Lib.hid (lv_rw1_succ q (P k))
              have HO1 := own_below HO (HD.below (B := wj.heap.size))
              have HB2 := bt HB1 HB1.size HD.below
              have hll : (lv (rw1 q (P k))).length = q := by rw [lv_length, rw1_length]
              have HLL := Lib.hid hll
              clear hll
              go_wp2_with (at_builtin; refine app_one wi.heap.size rfl (.tmp 50) (.tmp 53) 29 5 (.int .u8 0) 1 rfl Try.underlying29 info_byte rfl (by omega) _ (lv (rw1 q (P k))) _ q HLL.out rfl rfl rfl HO1 HB2 HB2.size (by omega) ?_; intro v1 w1 HO2 HB3 hg2)
              go_roundw
              case rel => exact ⟨q + 1, by omega, by go_num, by rw [HS.out]; exact HO2, HB3⟩
              case measure => simp [intOf]; omega
        · obtain rfl : q = p := by omega
          have h03 := cell_below HB1 h02
          have HO1 := own_below HPK.own HB1
          rw [tab_length] at HO1
          have HB2 := bt HPK.below HPK.below.size HB1
          have hvl : vs.length = k := by have := HO1.1; omega
          have HT := Lib.hid (tab_succ k q P)
          have HTL := Lib.hid (tab_length k q P)
          have HRL := Lib.hid (rw1_length q (P k))
          obtain ⟨rg, rc, rfl⟩ := own_form HO (by omega)
          go_wp2_with (at_builtin; refine app_one w.heap.size rfl (.tmp 55) (.tmp 57) 40 29 (.slice none 0 0) 24 rfl Try.underlying40 info_row rfl (by omega) _ vs _ k hvl rfl rfl rfl HO1 HB2 HB2.size (by omega) ?_; intro v1 w1 HO2 HB3 hg2)
          go_roundw
          case rel =>
            rw [← HTL.out] at HO2
            have HO3 := HO
            rw [← HRL.out] at HO3
            rw [rw1_length] at HO3
            have HP2 := HPK.step HB1 (l := rw1 q (P k)) (by rw [HRL.out]; exact HO) (rw1_le _ _) HO2 HB3 hg2
            rw [← HT.out] at HP2
            exact ⟨k + 1, _, by omega, by go_num, HP2⟩
          case measure => simp [intOf]; omega
    · obtain rfl : k = n := by omega
      obtain ⟨A2, c2, rfl, h3, h4⟩ := HPK.rows' (k := k) (tab_length _ _ _)
      have HB := HPK.below
      go_wp2
      go_ret
      exact ⟨A2, c2, rfl, h4, HB⟩
end Go.Proofs.Ytalinkpfklhgaaa.RowsW
