/- The law CoderRefuses walked. -/
import Derived.Test.YtalinkpfklhgaaaCodRefA
set_option linter.unusedVariables false
set_option linter.unusedSimpArgs false
namespace Go.Proofs.Ytalinkpfklhgaaa.CodW
open Go.RowKit Go.Proofs.Ytalinkpfklhgaaa.Base Go.Proofs.Ytalinkpfklhgaaa.GfP Go.Proofs.Ytalinkpfklhgaaa.GfW Go.Proofs.Ytalinkpfklhgaaa.Lin Go.Proofs.Ytalinkpfklhgaaa.RowsW Go.Proofs.Ytalinkpfklhgaaa.CodP

theorem new_some (k n : Nat) (w : World) : Calls Try.prog 50 #[.int .i64 (k : Nat), .int .i64 (n : Nat)] w fun e w' => ∃ v er, e = .returned (.tuple #[v, .int .i64 er]) ∧ Below w.heap.size w w' := by
  by_cases h : 1 ≤ k ∧ k ≤ n ∧ n ≤ 16
  · exact (new_ok k n w h.1 h.2.1 h.2.2).mono fun e w' ⟨cb, fb, A, c, G, h1, _, h2⟩ => ⟨_, _, h1, h2⟩
  · exact (new_no k n w (by omega)).mono fun e w' ⟨h1, h2⟩ => ⟨_, _, h1, h2 ▸ Below.refl _ _⟩
section
variable (A : Option Addr) (k n m c : Nat) (z : Int) (ps : List (Int × ByteArray)) (w : World)
set_option maxRecDepth 100000 in
set_option maxHeartbeats 2000000 in
theorem lawrefuses_far (hP : Pieces w A ps) (hm : m ≤ 9223372036854775807) (hl : ps.length = m) (hx : k ≤ 255) (hy : n ≤ 255) (hfar : 40 < m) :
    Calls Try.prog 17 #[.int .u8 (k : Nat), .int .u8 (n : Nat), .slice A m c, .int .i64 z] w fun e w' => e = .returned (.bool true) ∧ Below w.heap.size w w' := by
  have HB : Below w.heap.size w w := Below.refl _ _
  have t1 : decide ((40 : Int) < ((m : Nat) : Int)) = true := by simp; omega
  have t1' : decide (40 < m) = true := by simp; omega
  go_enter Try.func17, Try.ntmps17
  go_wp2_with (go_at_call 48; (with_reducible refine (CodW.awake_any _).mono ?_); rintro e w2 ⟨rfl, hd⟩; replace HB := bt HB HB.size hd; clear hd)
  go_ret
  exact ⟨rfl, HB⟩
set_option maxRecDepth 100000 in
set_option maxHeartbeats 4000000 in
theorem lawrefuses_near (hP : Pieces w A ps) (hl : ps.length = m) (hmc : m ≤ c) (hx : k ≤ 255) (hy : n ≤ 255) (hz : -9223372036854775808 ≤ z ∧ z ≤ 9223372036854775807) (hnear : m ≤ 40) :
    Calls Try.prog 17 #[.int .u8 (k : Nat), .int .u8 (n : Nat), .slice A m c, .int .i64 z] w fun e w' => e = .returned (.bool true) ∧ Below w.heap.size w w' := by
  have HB : Below w.heap.size w w := Below.refl _ _
  have t1 : decide ((40 : Int) < ((m : Nat) : Int)) = false := by simp; omega
  have t1' : decide (40 < m) = false := by simp; omega
  have ex := u8int k hx
  have ey := u8int n hy
  have HL := Lib.hid hl
  go_enter Try.func17, Try.ntmps17
  go_wp2_with (go_at_call 48; (with_reducible refine (CodW.awake_any _).mono ?_); rintro e w2 ⟨rfl, hd⟩; replace HB := bt HB HB.size hd; clear hd)
  have HB0 := HB
  clear HB t1 t1'
  go_loopw [9, 10] (fun d i wr => ∃ a : Nat, a ≤ m ∧ i = .int .i64 a ∧ wr.ownsRow w2.heap.size 9 1 d a (sv (txts (ps.take a))) ∧ Below w2.heap.size w2 wr) (fun _ i _ => m - (intOf i).toNat)
  case atStart => exact ⟨0, by omega, rfl, World.ownsRow_nil _ _ _ _, Below.refl _ _⟩
  case round =>
    obtain ⟨a, ha, rfl, HO, HB1⟩ := hrel
    have HB := bt HB0 HB0.size HB1
    by_cases hlt : a < m
    · have hal : a < ps.length := by have := HL.out; omega
      obtain ⟨b, off, rfl, hc⟩ := (hP.below HB).block (by omega)
      obtain ⟨_, g2⟩ := hc a hal
      clear hc
      have HT := Lib.hid (sv_take hal)
      have HLN := Lib.hid (show (sv (txts (ps.take a))).length = a by rw [sv_length, txts_length, List.length_take]; omega)
      generalize ps[a].2 = s at g2 HT
      go_wp2_with (at_builtin; refine app_one_at w2.heap.size rfl (.tmp 37) (.tmp 43) 59 9 (.string ByteArray.empty) 16 rfl Try.underlying59 info_str rfl (by omega) _ (sv (txts (ps.take a))) _ a HLN.out rfl rfl rfl HO HB1 HB1.size (by omega) ?_; intro g1 cc1 w1 HO6 HB6 hg6 _)
      go_roundw
      case rel => exact ⟨a + 1, by omega, by go_num, by rw [HT.out]; exact HO6, HB6⟩
      case measure => simp [intOf]; omega
    · obtain rfl : a = m := by omega
      rw [List.take_of_length_le (by have := HL.out; omega)] at HO
      obtain ⟨A9, c9, rfl, hl9, hc9, _⟩ := own_strs HO
      clear HO HB1
      by_cases hf : fewT (txts ps) = true
      · have HFA := Lib.hid (fun W (h : Strs W A9 a (txts ps)) => fewt_below A9 a c9 (txts ps) true hf W h (by omega))
        have hsz : ∀ i (h : i < ps.length), ps[i].2.size ≤ 1000 := fun i hi => by
          have := (fewT_yes hf).2.1 i (by rw [txts_length]; exact hi)
          rw [txts_getElem] at this
          exact this
        have HSZ := Lib.hid hsz
        clear hf hsz
        by_cases hb : 1 ≤ k ∧ k ≤ n ∧ n ≤ 16
        · obtain ⟨k1, kn, n16⟩ := hb
          have HN := Lib.hid (fun W => new_ok k n W k1 kn n16)
          go_upto_region 11 with (first | (go_at_call 49; (with_reducible refine (HFA.out _ hl9).mono ?_); rintro e w4 ⟨rfl, hd⟩; replace hl9 := hl9.below hd; (try replace hC := hC.below hd); replace HB := bt HB HB.size hd; clear hd) | (go_at_call 50; (with_reducible refine (HN.out _).mono ?_); rintro e w3 ⟨cb, fb2, A5, c5, G, rfl, hC, hd⟩; replace hl9 := hl9.below hd; replace HB := bt HB HB.size hd; clear hd))
          clear HFA HN
          go_wp2_with (go_at_call 53; (with_reducible refine (reven_any A9 _ c9 (txts ps) _ hl9 (by omega)).mono ?_); rintro e w5 ⟨rfl, hd⟩; replace hC := hC.below hd; replace HB := bt HB HB.size hd; clear hd)
          have HB0 := HB
          clear HB hl9
          go_loopw [13, 14, 15] (fun f i _ wr => ∃ (t : Nat) (b : Bool), t ≤ a ∧ i = .int .i64 t ∧ f = .bool b ∧ Judged n ps t b ∧ Below w5.heap.size w5 wr) (fun _ i _ _ => a - (intOf i).toNat)
          case atStart => exact ⟨0, _, by omega, rfl, rfl, Judged.start, Below.refl _ _⟩
          case round =>
            obtain ⟨t, b, ha, rfl, rfl, HJ, HB1⟩ := hrel
            have HB := bt HB0 HB0.size HB1
            by_cases hlt : t < a
            · have hal : t < ps.length := by have := HL.out; omega
              obtain ⟨bp, off, rfl, hc⟩ := (hP.below HB).block (by omega)
              obtain ⟨g1, _⟩ := hc t hal
              clear hc
              have hxr := hP.le ps[t] (List.getElem_mem hal)
              have hsp : (b = true ∧ Judging n ps t 0 true) ∨ (b = false ∧ decide (ps[t].1 < 0) = true ∧ Judging n ps t 0 true) ∨ (b = false ∧ decide (ps[t].1 < 0) = false ∧ decide ((n : Int) ≤ ps[t].1) = true ∧ Judging n ps t 0 true) ∨ (b = false ∧ decide (ps[t].1 < 0) = false ∧ decide ((n : Int) ≤ ps[t].1) = false ∧ Judging n ps t 0 false) := by
                cases b
                · by_cases h1 : ps[t].1 < 0
                  · exact .inr (.inl ⟨rfl, by simp [h1], Judged.bad_range hal (.inl h1) 0⟩)
                  · by_cases h2 : (n : Int) ≤ ps[t].1
                    · exact .inr (.inr (.inl ⟨rfl, by simp [h1], by simp [h2], Judged.bad_range hal (.inr h2) 0⟩))
                    · exact .inr (.inr (.inr ⟨rfl, by simp [h1], by simp [h2], HJ.on hal (by omega) (by omega)⟩))
                · exact .inl ⟨rfl, HJ.stay 0⟩
              obtain ⟨x, hx9⟩ : ∃ x, x = ps[t].1 := ⟨_, rfl⟩
              rw [← hx9] at g1 hsp hxr
              have HX := Lib.hid hx9
              clear hx9 HJ
              rcases hsp with ⟨rfl, HG⟩ | ⟨rfl, d1, HG⟩ | ⟨rfl, d1, d2, HG⟩ | ⟨rfl, d1, d2, HG⟩
              all_goals go_wp2
              all_goals clear g1
              all_goals go_loopw [13, 15] (fun f j ws => ∃ (s : Nat) (b : Bool), s ≤ t ∧ j = .int .i64 s ∧ f = .bool b ∧ Judging n ps t s b ∧ Below wr.heap.size wr ws) (fun _ j _ => t - (intOf j).toNat)
              all_goals first | exact ⟨0, _, by omega, rfl, rfl, HG, Below.refl _ _⟩ | skip
              all_goals clear HG
              all_goals
                obtain ⟨s, b, hs, rfl, rfl, HG, HB2⟩ := hrel
                have HB3 := bt HB HB.size HB2
                by_cases hlt2 : s < t
                · have hsl : s < ps.length := by omega
                  obtain ⟨_, _, e9, hc⟩ := (hP.below HB3).block (by omega)
                  cases e9
                  obtain ⟨g1, _⟩ := hc t hal
                  obtain ⟨g2, _⟩ := hc s hsl
                  clear hc
                  rw [← HX.out] at g1
                  obtain ⟨y, hy9⟩ : ∃ y, y = ps[s].1 := ⟨_, rfl⟩
                  rw [← hy9] at g2
                  have HY := Lib.hid hy9
                  clear hy9
                  have r1 := regrown_cell g1
                  have r2 := regrown_cell g2
                  obtain ⟨f, HF, hff⟩ : ∃ f : Bool, Judging n ps t (s + 1) f ∧ (b = true ∧ f = true ∨ b = false ∧ f = (x == y)) := by
                    cases b
                    · by_cases hxy : x = y
                      · exact ⟨true, Judging.eq (c := s) hal hlt2 (by rw [← HX.out, ← HY.out]; exact hxy) _, .inr ⟨rfl, by simp [hxy]⟩⟩
                      · exact ⟨false, HG.ne hal hlt2 (by rw [← HX.out, ← HY.out]; exact hxy), .inr ⟨rfl, by simp [hxy]⟩⟩
                    · exact ⟨true, HG.stay _, .inl ⟨rfl, rfl⟩⟩
                  clear HG g1 g2
                  go_upto_region 19 with fail
                  rcases hff with ⟨rfl, rfl⟩ | ⟨rfl, hxy⟩
                  · (refine wp_region_quiet_below (by kernel_rfl) (by kernel_rfl) ?_; (repeat (go_big_quiet_step (fail))); refine wpQuiet_nil ?_; intro wq hw'; have HQ := below_of_regrown hw'; clear hw')
                    have HE := bt HB2 HB2.size HQ
                    clear HQ HB2 HB3 r1 r2
                    go_wp2
                    go_roundw
                    case rel => exact ⟨s + 1, _, by omega, by go_num, rfl, HF, HE⟩
                    case measure => simp [intOf]; omega
                  · have t5 : (x == y) = f := hxy.symm
                    clear hxy
                    (refine wp_region_quiet_below (by kernel_rfl) (by kernel_rfl) ?_; (repeat (go_big_quiet_step (fail))); refine wpQuiet_nil ?_; intro wq hw'; have HQ := below_of_regrown hw'; clear hw')
                    have HE := bt HB2 HB2.size HQ
                    clear HQ HB2 HB3 r1 r2
                    go_wp2
                    go_roundw
                    case rel => exact ⟨s + 1, _, by omega, by go_num, rfl, HF, HE⟩
                    case measure => simp [intOf]; omega
                · obtain rfl : s = t := by omega
                  go_wp2
                  go_roundw
                  case rel => exact ⟨s + 1, b, by omega, by go_num, rfl, HG.done, bt HB1 HB1.size HB2⟩
                  case measure => simp [intOf]; omega
            · obtain rfl : t = a := by omega
              replace hC := hC.below HB1
              replace hP := hP.below HB
              have hl := HL.out
              subst hl
              clear HB0 HB1
              cases b
              · have hM := Lib.hid ((HJ.good rfl).may (Nat.le_refl _))
                by_cases htk : ps.length < k
                · have HLT := Lib.hid htk
                  have t3 : decide (((ps.length : Nat) : Int) < ((k : Nat) : Int)) = true := by simp [htk]
                  have t3' : decide (ps.length < k) = true := by simp [htk]
                  clear htk
                  go_wp2_with (first | (go_at_call 54; (with_reducible refine (read_no _ k n _ _ _ _ _ _ c ps _ hC hP rfl (by omega) 5 (.inr ⟨rfl, hM.out, HLT.out⟩)).mono ?_); rintro e w6 ⟨rfl, hd⟩; replace hC := hC.below hd; replace hP := hP.below hd; replace HB := bt HB HB.size hd; clear hd) | (go_at_call 55; (with_reducible refine (again_no _ k n _ _ _ _ _ _ c ps z _ hC hP rfl (by omega) 5 (.inr ⟨rfl, hM.out, HLT.out⟩)).mono ?_); rintro e w7 ⟨rfl, hd⟩; replace HB := bt HB HB.size hd; clear hd))
                  go_ret
                  exact ⟨rfl, HB⟩
                · have t3 : decide (((ps.length : Nat) : Int) < ((k : Nat) : Int)) = false := by simp; omega
                  have t3' : decide (ps.length < k) = false := by simp; omega
                  have hk : k ≤ ps.length := by omega
                  clear htk
                  obtain ⟨L, hLe⟩ : ∃ L, L = (ps[0]'(by omega)).2.size := ⟨_, rfl⟩
                  have hL : L ≤ 1000 := by rw [hLe]; exact HSZ.out 0 (by omega)
                  have HSL := Lib.hid (show ∀ i (h : i < ps.length), ps[i].2.size = L from fun i hi => by rw [hLe]; exact hM.out.even i hi)
                  clear hLe
                  have eq0 : (((k : Nat) : Int) == ((k : Nat) : Int)) = true := by simp
                  by_cases hzr : z < 0 ∨ n ≤ z
                  · have HZR := Lib.hid hzr
                    have hsp : decide (z < 0) = true ∨ decide (z < 0) = false ∧ decide ((n : Int) ≤ z) = true := by
                      by_cases h1 : z < 0
                      · exact .inl (by simp [h1])
                      · exact .inr ⟨by simp [h1], by simp; omega⟩
                    clear hzr
                    rcases hsp with d1 | ⟨d1, d2⟩
                    all_goals go_wp2_with (first | (go_at_call 54; (with_reducible refine (read_ok _ k n _ _ _ _ _ _ c ps _ hC hP rfl hmc (by omega) hM.out hk L (by omega) HSL.out).mono ?_); rintro e w6 ⟨A6, c6, V6, rfl, hc6, _, _, hd⟩; replace hC := hC.below hd; replace hP := hP.below hd; replace HB := bt HB HB.size hd; clear hd) | (go_at_call 55; (with_reducible refine (again_far _ k n _ _ _ _ _ _ c ps z _ hC hP rfl hmc (by omega) hM.out hk L (by omega) HSL.out HZR.out).mono ?_); rintro e w7 ⟨rfl, hd⟩; replace HB := bt HB HB.size hd; clear hd))
                    all_goals go_ret
                    all_goals exact ⟨rfl, HB⟩
                  · obtain ⟨i, rfl⟩ : ∃ i : Nat, z = i := ⟨z.toNat, by omega⟩
                    have hin : i < n := by omega
                    have d1 : decide (((i : Nat) : Int) < 0) = false := by simp
                    have d2 : decide (((n : Nat) : Int) ≤ ((i : Nat) : Int)) = false := by simp; omega
                    have d2' : decide (n ≤ i) = false := by simp; omega
                    clear hzr
                    go_wp2_with (first | (go_at_call 54; (with_reducible refine (read_ok _ k n _ _ _ _ _ _ c ps _ hC hP rfl hmc (by omega) hM.out hk L (by omega) HSL.out).mono ?_); rintro e w6 ⟨A6, c6, V6, rfl, hc6, _, _, hd⟩; replace hC := hC.below hd; replace hP := hP.below hd; replace HB := bt HB HB.size hd; clear hd) | (go_at_call 55; (with_reducible refine (again_ok _ k n _ _ _ _ _ _ c ps _ i hin hC hP rfl hmc (by omega) hM.out hk L (by omega) HSL.out).mono ?_); rintro e w7 ⟨V7, rfl, _, hd⟩; replace hC := hC.below hd; replace hP := hP.below hd; replace HB := bt HB HB.size hd; clear hd))
                    have HB0 := HB
                    clear HB
                    go_loopw [20, 21, 22] (fun i _ _ wr => ∃ a : Nat, a ≤ k ∧ i = .int .i64 a ∧ Below w7.heap.size w7 wr) (fun i _ _ _ => k - (intOf i).toNat)
                    case atStart => exact ⟨0, by omega, rfl, Below.refl _ _⟩
                    case round =>
                      obtain ⟨a, ha, rfl, HB1⟩ := hrel
                      have HB := bt HB0 HB0.size HB1
                      by_cases hlt : a < k
                      · have hal : a < ps.length := by omega
                        obtain ⟨bp, off, rfl, hc⟩ := (hP.below HB1).block (by omega)
                        obtain ⟨g1, g2⟩ := hc a hal
                        clear hc
                        obtain ⟨x, hx9⟩ : ∃ x, x = ps[a].1 := ⟨_, rfl⟩
                        obtain ⟨s, hs9⟩ : ∃ s, s = ps[a].2 := ⟨_, rfl⟩
                        rw [← hx9] at g1
                        rw [← hs9] at g2
                        have HX := Lib.hid hx9
                        have HS := Lib.hid hs9
                        clear hx9 hs9
                        have es : (s.toList != s.toList) = false := by simp
                        replace hC := hC.below HB1
                        replace hP := hP.below HB1
                        go_wp2_with (go_at_call 55; (with_reducible refine (again_same _ k n _ _ _ _ _ c ps _ a hlt hC hP hmc (by omega) hM.out hk (fun i hi => by have := HSZ.out i hi; omega) x s HX.out HS.out).mono ?_); rintro e w8 ⟨rfl, hd⟩; replace g2 := cell_below hd g2; replace HB1 := bt HB1 HB1.size hd; clear hd)
                        go_roundw
                        case rel => exact ⟨a + 1, by omega, by go_num, HB1⟩
                        case measure => simp [intOf]; omega
                      · obtain rfl : a = k := by omega
                        go_wp2
                        go_ret
                        exact ⟨rfl, HB⟩
              · have hM := Lib.hid (HJ.bad rfl)
                go_wp2_with (first | (go_at_call 54; (with_reducible refine (read_no _ k n _ _ _ _ _ _ c ps _ hC hP rfl (by omega) 1 (.inl ⟨rfl, hM.out⟩)).mono ?_); rintro e w6 ⟨rfl, hd⟩; replace hC := hC.below hd; replace hP := hP.below hd; replace HB := bt HB HB.size hd; clear hd) | (go_at_call 55; (with_reducible refine (again_no _ k n _ _ _ _ _ _ c ps z _ hC hP rfl (by omega) 1 (.inl ⟨rfl, hM.out⟩)).mono ?_); rintro e w7 ⟨rfl, hd⟩; replace HB := bt HB HB.size hd; clear hd))
                go_ret
                exact ⟨rfl, HB⟩
        · have HN := Lib.hid (fun W => new_no k n W (by omega))
          go_wp2_with (first | (go_at_call 49; (with_reducible refine (HFA.out _ hl9).mono ?_); rintro e w4 ⟨rfl, hd⟩; replace hl9 := hl9.below hd; (try replace hC := hC.below hd); replace HB := bt HB HB.size hd; clear hd) | (go_at_call 50; (with_reducible refine (HN.out _).mono ?_); rintro e w3 ⟨rfl, rfl⟩))
          go_ret
          exact ⟨rfl, HB⟩
      · have HFA := Lib.hid (fun W (h : Strs W A9 a (txts ps)) => fewt_below A9 a c9 (txts ps) false (by simpa using hf) W h (by omega))
        clear hf
        go_wp2_with (first | (go_at_call 49; (with_reducible refine (HFA.out _ hl9).mono ?_); rintro e w4 ⟨rfl, hd⟩; replace hl9 := hl9.below hd; (try replace hC := hC.below hd); replace HB := bt HB HB.size hd; clear hd) | (go_at_call 50; (with_reducible refine (new_some k n _).mono ?_); rintro e w3 ⟨v3, er3, rfl, hd⟩; replace hl9 := hl9.below hd; replace HB := bt HB HB.size hd; clear hd))
        go_ret
        exact ⟨rfl, HB⟩
theorem lawrefuses (hP : Pieces w A ps) (hm : m ≤ 9223372036854775807) (hl : ps.length = m) (hmc : m ≤ c) (hx : k ≤ 255) (hy : n ≤ 255) (hz : -9223372036854775808 ≤ z ∧ z ≤ 9223372036854775807) :
    Calls Try.prog 17 #[.int .u8 (k : Nat), .int .u8 (n : Nat), .slice A m c, .int .i64 z] w fun e w' => e = .returned (.bool true) ∧ Below w.heap.size w w' := by
  by_cases h : m ≤ 40
  · exact lawrefuses_near A k n m c z ps w hP hl hmc hx hy hz h
  · exact lawrefuses_far A k n m c z ps w hP hm hl hx hy (by omega)
end
end Go.Proofs.Ytalinkpfklhgaaa.CodW
