/- stooklaw20.LedgerEnds walked. -/
import Derived.Test.YtmlemichkeomjaaLedSt
import Derived.Test.YtmlemichkeomjaaLedLaw1
import Derived.Deep.CutRange
set_option linter.unusedVariables false
set_option linter.unusedSimpArgs false
namespace Go.Proofs.Ytmlemichkeomjaa.LedW
open Go.RowKit Go.Proofs.Ytmlemichkeomjaa.Base Go.Proofs.Ytmlemichkeomjaa.MendW Go.Proofs.Ytmlemichkeomjaa.ManP Go.Proofs.Ytmlemichkeomjaa.ManW Go.Proofs.Ytmlemichkeomjaa.LedP
section
variable (t p n eb : Nat) (A : Option Addr) (n1 c1 : Nat) (rs : List LR) (vs : Nat → MV) (B : Option Addr) (n2 c2 : Nat) (qs : List LR) (us : Nat → MV) (w : World)
set_option maxRecDepth 100000 in
set_option maxHeartbeats 4000000 in
theorem ends_bad (hR : RecsV w A rs vs) (hl1 : rs.length = n1) (hn1 : n1 ≤ maxLen) (hQ : RecsV w B qs us) (hl2 : qs.length = n2) (hn2 : n2 ≤ maxLen) (heb : eb ≤ 255) (ht8 : t ≤ 255) (hp8 : p ≤ 255) (hn8 : n ≤ 255) (hg : ¬ ((1 ≤ (t : Int) ∧ (t : Int) ≤ 16) ∧ (1 ≤ (p : Int) ∧ (p : Int) ≤ 16) ∧ (1 ≤ (n : Int) ∧ (n : Int) ≤ 16))) :
    Calls Try.prog 6 #[.int .u8 (t : Nat), .int .u8 (p : Nat), .int .u8 (n : Nat), .slice A n1 c1, .slice B n2 c2, .int .u8 (eb : Nat)] w fun e w' => e = .returned (.bool true) ∧ Below w.heap.size w w' := by
  have KS1 := Lib.hid (fun W (h : Below w.heap.size w W) => small20_any A n1 c1 rs vs W (hR.below h) hl1 hn1); have KS2 := Lib.hid (fun W (h : Below w.heap.size w W) => small20_any B n2 c2 qs us W (hQ.below h) hl2 hn2); have HR := Lib.hid hR; have HQ := Lib.hid hQ; have HL1 := Lib.hid hl1; have HL2 := Lib.hid hl2; have HEB := Lib.hid heb; have hm1 : n1 ≤ 9223372036854775807 := by simpa [maxLen] using hn1
  have hm2 : n2 ≤ 9223372036854775807 := by simpa [maxLen] using hn2
  have KN := Lib.hid (fun W => new_no t p n hg W)
  have HB := Below.refl w.heap.size w
  clear hR hQ hl1 hl2 hn1 hn2 heb hg
  go_enter Try.func6, Try.ntmps6
  go_wp2_with (first | (go_at_call 16; (with_reducible refine (awake20_any _).mono ?_); rintro e w2 ⟨rfl, hd⟩; replace HB := HB.trans (hd.mono HB.size); clear hd) | (go_at_call 17; (with_reducible refine (KS1.out _ HB).mono ?_); rintro e w2 ⟨q1, rfl, hs1, hd⟩; replace HB := HB.trans (hd.mono HB.size); clear hd; have F1 := Lib.hid hs1; (rcases hs1 with rfl | ⟨rfl, hs1⟩)) | (go_at_call 17; (with_reducible refine (KS2.out _ HB).mono ?_); rintro e w2 ⟨q2, rfl, hs2, hd⟩; replace HB := HB.trans (hd.mono HB.size); clear hd; have F2 := Lib.hid hs2; (rcases hs2 with rfl | ⟨rfl, hs2⟩)) | (go_at_call 18; (with_reducible refine (KN.out _).mono ?_); rintro e w3 ⟨rfl, hd⟩; replace HB := HB.trans (hd.mono HB.size); clear hd))
  all_goals go_ret
  all_goals first | exact ⟨rfl, HB⟩ | exact ⟨rfl, HB.alloc HB.size _⟩
set_option maxRecDepth 100000 in
set_option maxHeartbeats 16000000 in
theorem ends_good (hR : RecsV w A rs vs) (hl1 : rs.length = n1) (hn1 : n1 ≤ maxLen) (hQ : RecsV w B qs us) (hl2 : qs.length = n2) (hn2 : n2 ≤ maxLen) (heb : eb ≤ 255) (ht : 1 ≤ t ∧ t ≤ 16) (hp : 1 ≤ p ∧ p ≤ 16) (hn : 1 ≤ n ∧ n ≤ 16) :
    Calls Try.prog 6 #[.int .u8 (t : Nat), .int .u8 (p : Nat), .int .u8 (n : Nat), .slice A n1 c1, .slice B n2 c2, .int .u8 (eb : Nat)] w fun e w' => e = .returned (.bool true) ∧ Below w.heap.size w w' := by
  have KS1 := Lib.hid (fun W (h : Below w.heap.size w W) => small20_any A n1 c1 rs vs W (hR.below h) hl1 hn1); have KS2 := Lib.hid (fun W (h : Below w.heap.size w W) => small20_any B n2 c2 qs us W (hQ.below h) hl2 hn2); have HR := Lib.hid hR; have HQ := Lib.hid hQ; have HL1 := Lib.hid hl1; have HL2 := Lib.hid hl2; have HEB := Lib.hid heb; have hm1 : n1 ≤ 9223372036854775807 := by simpa [maxLen] using hn1
  have hm2 : n2 ≤ 9223372036854775807 := by simpa [maxLen] using hn2
  have KN := Lib.hid (fun W => new_v t p n ht hp hn W)
  have HB := Below.refl w.heap.size w
  clear hR hQ hl1 hl2 hn1 hn2 heb
  have ht8 : t ≤ 255 := by omega
  have hp8 : p ≤ 255 := by omega
  have hn8 : n ≤ 255 := by omega
  clear ht hp hn
  generalize newS t p n = s0 at KN
  go_enter Try.func6, Try.ntmps6
  go_upto_region 6 with (first | (go_at_call 16; (with_reducible refine (awake20_any _).mono ?_); rintro e w2 ⟨rfl, hd⟩; replace HB := HB.trans (hd.mono HB.size); clear hd) | (go_at_call 17; (with_reducible refine (KS1.out _ HB).mono ?_); rintro e w2 ⟨q1, rfl, hs1, hd⟩; replace HB := HB.trans (hd.mono HB.size); clear hd; have F1 := Lib.hid hs1; (rcases hs1 with rfl | ⟨rfl, hs1⟩)) | (go_at_call 17; (with_reducible refine (KS2.out _ HB).mono ?_); rintro e w2 ⟨q2, rfl, hs2, hd⟩; replace HB := HB.trans (hd.mono HB.size); clear hd; have F2 := Lib.hid hs2; (rcases hs2 with rfl | ⟨rfl, hs2⟩)) | (go_at_call 18; (with_reducible refine (KN.out _).mono ?_); rintro e w3 ⟨x0, rfl, hS0, hd⟩; have hw2 := HB.size; replace HB := HB.trans (hd.mono HB.size); clear hd))
  · go_ret
    exact ⟨rfl, HB⟩
  · go_ret
    exact ⟨rfl, HB⟩
  have HV := VarS.new (w0 := w) hS0 HB.size
  replace HB := HB.alloc HB.size (.cells #[.int .i64 s0.n, .int .i64 s0.ep, .slice x0.A2 s0.done.length x0.c2, .slice x0.A3 s0.done.length x0.c3, .slice x0.A4 s0.done.length x0.c4, .slice x0.A5 s0.has.length x0.c5, .slice x0.A6 s0.has.length x0.c6, .slice x0.A7 s0.has.length x0.c7, .slice x0.A8 s0.has.length x0.c8, .int .i64 s0.fin, .int .i64 s0.er] 42)
  obtain ⟨g, hg⟩ : ∃ g, g = w3.heap.size := ⟨_, rfl⟩
  rw [← hg] at HV ⊢
  generalize w3.alloc (.cells #[.int .i64 s0.n, .int .i64 s0.ep, .slice x0.A2 s0.done.length x0.c2, .slice x0.A3 s0.done.length x0.c3, .slice x0.A4 s0.done.length x0.c4, .slice x0.A5 s0.has.length x0.c5, .slice x0.A6 s0.has.length x0.c6, .slice x0.A7 s0.has.length x0.c7, .slice x0.A8 s0.has.length x0.c8, .int .i64 s0.fin, .int .i64 s0.er] 42) = W0 at HV HB ⊢
  clear hS0 hw2 hg
  go_wp2
  go_loopw [15] (fun i wr => ∃ (k : Nat) (x : SV) (s : LS), k ≤ n1 ∧ i = .int .i64 k ∧ VarS w wr g x s ∧ Below w.heap.size w wr) (fun i _ => n1 - (intOf i).toNat)
  case atStart => exact ⟨0, x0, s0, by omega, rfl, HV, HB⟩
  case round =>
    clear HV HB
    obtain ⟨k, x, s, hk, rfl, HV, HB⟩ := hrel
    have HVV := Lib.hid HV
    have FS1 := Lib.hid (F1.out.resolve_left (by decide)).2
    by_cases hlt : k < n1
    · skip
      have hkl : k < rs.length := by have := HL1.out; omega
      obtain ⟨b, off, rfl, hc⟩ := (HR.out.below HB).block (by omega)
      have hm := Lib.hid ((HR.out.below HB).man k hkl)
      have RA := hc k hkl
      have hsl := Lib.hid (FS1.out.2 _ (List.getElem_mem hkl)).1
      obtain ⟨r, hr⟩ : ∃ r, r = rs[k] := ⟨_, rfl⟩
      rw [← hr] at RA hm hsl
      generalize vs k = v at RA hm
      clear hc hr
      obtain ⟨f0, f1, f2, f3, f4, f5, f6, f7, f8⟩ := RA
      obtain ⟨P, hP⟩ : ∃ P, P = applyP s r := ⟨_, rfl⟩
      have HAP := Lib.hid (fun W (h : Below wr.heap.size wr W) => apply_v x s r v W (HVV.out.state.below h) (hm.out.below h) hsl.out)
      rw [← hP] at HAP
      have HP := Lib.hid hP
      clear hP
      have p0 : wr.cell? ⟨g, 0, none⟩ = some (.int .i64 s.n) := HVV.out.cell (j := 0) rfl
      have p1 : wr.cell? ⟨g, 1, none⟩ = some (.int .i64 s.ep) := HVV.out.cell (j := 1) rfl
      have p2 : wr.cell? ⟨g, 2, none⟩ = some (.slice x.A2 s.done.length x.c2) := HVV.out.cell (j := 2) rfl
      have p3 : wr.cell? ⟨g, 3, none⟩ = some (.slice x.A3 s.done.length x.c3) := HVV.out.cell (j := 3) rfl
      have p4 : wr.cell? ⟨g, 4, none⟩ = some (.slice x.A4 s.done.length x.c4) := HVV.out.cell (j := 4) rfl
      have p5 : wr.cell? ⟨g, 5, none⟩ = some (.slice x.A5 s.has.length x.c5) := HVV.out.cell (j := 5) rfl
      have p6 : wr.cell? ⟨g, 6, none⟩ = some (.slice x.A6 s.has.length x.c6) := HVV.out.cell (j := 6) rfl
      have p7 : wr.cell? ⟨g, 7, none⟩ = some (.slice x.A7 s.has.length x.c7) := HVV.out.cell (j := 7) rfl
      have p8 : wr.cell? ⟨g, 8, none⟩ = some (.slice x.A8 s.has.length x.c8) := HVV.out.cell (j := 8) rfl
      have p9 : wr.cell? ⟨g, 9, none⟩ = some (.int .i64 s.fin) := HVV.out.cell (j := 9) rfl
      have p10 : wr.cell? ⟨g, 10, none⟩ = some (.int .i64 s.er) := HVV.out.cell (j := 10) rfl
      clear HV
      go_upto_region 9 with fail
      have HS : Below wr.heap.size wr wr.drew := (Below.refl _ _).drew
      refine RegG.wp_region_g (fun W => Below wr.heap.size wr W) [5, 6] (by kernel_rfl) ?_
      generalize wr.drew = Wd at HS ⊢
      refine RegG.wpG.pure (v := ?_) 1 3 rfl (by kernel_rfl) (by decide) (fun _ _ _ h => h) ?_ rfl (fun _ => HS) ?_
      rotate_left
      · (intro w9; go_simp; first | done | with_reducible rfl)
      (try simp only [Act.put, List.setIfInBounds_toArray, List.set_cons_zero, List.set_cons_succ])
      refine RegG.wpG.pure (v := ?_) 2 3 rfl (by kernel_rfl) (by decide) (fun _ _ _ h => h) ?_ rfl (fun _ => HS) ?_
      rotate_left
      · (intro w9; go_simp; first | done | with_reducible rfl)
      (try simp only [Act.put, List.setIfInBounds_toArray, List.set_cons_zero, List.set_cons_succ])
      refine RegG.wpG.load (v := ?_) 0 6 rfl (by kernel_rfl) (by decide) (by decide) (fun _ _ _ h => h) ?_ rfl HS ?_
      rotate_left
      · (intro w9 hS9; have sp0 := cell_below hS9 p0; have sp1 := cell_below hS9 p1; have sp2 := cell_below hS9 p2; have sp3 := cell_below hS9 p3; have sp4 := cell_below hS9 p4; have sp5 := cell_below hS9 p5; have sp6 := cell_below hS9 p6; have sp7 := cell_below hS9 p7; have sp8 := cell_below hS9 p8; have sp9 := cell_below hS9 p9; have sp10 := cell_below hS9 p10; go_simp; first | done | with_reducible rfl)
      (try simp only [Act.put, List.setIfInBounds_toArray, List.set_cons_zero, List.set_cons_succ])
      refine RegG.wpG.pure (v := ?_) 3 4 rfl (by kernel_rfl) (by decide) (fun _ _ _ h => h) ?_ rfl (fun _ => HS) ?_
      rotate_left
      · (intro w9; go_simp; first | done | with_reducible rfl)
      (try simp only [Act.put, List.setIfInBounds_toArray, List.set_cons_zero, List.set_cons_succ])
      refine RegG.wpG.load (v := ?_) 4 5 rfl (by kernel_rfl) (by decide) (by decide) (fun _ _ _ h => h) ?_ rfl HS ?_
      rotate_left
      · (intro w9 hS9; have sf0 := cell_below hS9 f0; have sf1 := cell_below hS9 f1; have sf2 := cell_below hS9 f2; have sf3 := cell_below hS9 f3; have sf4 := cell_below hS9 f4; have sf5 := cell_below hS9 f5; have sf6 := cell_below hS9 f6; have sf7 := cell_below hS9 f7; have sf8 := cell_below hS9 f8; go_simp; first | done | with_reducible rfl)
      (try simp only [Act.put, List.setIfInBounds_toArray, List.set_cons_zero, List.set_cons_succ])
      refine RegG.wpG.one 5 (by kernel_rfl) rfl rfl (fun K hK => ?_)
      go_simp
      go_at_call 22
      (with_reducible refine (of_any r v _).mono ?_)
      rintro e w3 ⟨rfl, hd⟩
      have HS3 := HS.trans (hd.mono HS.size)
      clear hd
      refine hK.out _ _ (fun _ => HS3) ?_
      clear hK K
      (try simp only [Act.put, List.setIfInBounds_toArray, List.set_cons_zero, List.set_cons_succ])
      refine RegG.wpG.one 6 (by kernel_rfl) rfl rfl (fun K hK => ?_)
      go_simp
      go_at_call 21
      (with_reducible refine (HAP.out _ HS3).mono ?_)
      rintro e w4 ⟨y, rfl, hS4, hd⟩
      have HS4 := HS3.trans (hd.mono HS3.size)
      have hz3 := hd.size
      have hz2 := HS3.size
      clear hd
      refine hK.out _ _ (fun h => absurd h (by decide)) ?_
      clear hK K
      (try simp only [Act.put, List.setIfInBounds_toArray, List.set_cons_zero, List.set_cons_succ])
      refine RegG.wpG.pure (v := ?_) 7 8 rfl (by kernel_rfl) (by decide) (fun _ _ _ h => h) ?_ rfl (fun h => absurd h (by decide)) ?_
      rotate_left
      · (intro w9; go_simp; first | done | with_reducible rfl)
      (try simp only [Act.put, List.setIfInBounds_toArray, List.set_cons_zero, List.set_cons_succ])
      refine RegG.wpG.pure (v := ?_) 8 10 rfl (by kernel_rfl) (by decide) (fun _ _ _ h => h) ?_ rfl (fun h => absurd h (by decide)) ?_
      rotate_left
      · (intro w9; go_simp; first | done | with_reducible rfl)
      (try simp only [Act.put, List.setIfInBounds_toArray, List.set_cons_zero, List.set_cons_succ])
      have hA := (HS4.block _ HVV.out.lt).trans HVV.out.box
      have hone := SV.one y P.1
      refine RegG.wpG.two 9 10 (by kernel_rfl) rfl rfl rfl rfl (fun K hK => ?_) (fun K hK => ?_)
      · skip
        go_simp
        refine hK.out _ _ (fun h => absurd h (by decide)) ?_
        clear hK K
        (try simp only [Act.put, List.setIfInBounds_toArray, List.set_cons_zero, List.set_cons_succ])
        refine RegG.wpG.one 10 (by kernel_rfl) rfl rfl (fun K hK => ?_)
        refine wp_store_row 42 (.tmp 13) (.tmp 59) rfl g (y.cells P.1) rfl rfl 42 (x.cells s) hA info_state rfl hone ?_
        refine hK.out _ _ (fun h => absurd h (by decide)) ?_
        clear hK K
        (try simp only [Act.put, List.setIfInBounds_toArray, List.set_cons_zero, List.set_cons_succ])
        refine RegG.wpG.done (by kernel_rfl) ?_ _
        have HV := VarS.put hA HVV.out.lo hS4 (.inl (by have := HVV.out.lt; omega)) (Nat.le_refl _)
        have HB5 := below_put (HB.trans (HS4.mono HB.size)) HVV.out.lo (y.cells P.1)
        generalize w4.setRow g (y.cells P.1) = W5 at HV HB5 ⊢
        clear HS HS3 HS4 hS4 hA hone HB
        go_wp2_with fail
        go_roundw
        case rel => exact ⟨k + 1, y, P.1, by omega, by go_num, HV, HB5⟩
        case measure => simp [intOf]; omega
      · skip
        refine wp_store_row 42 (.tmp 13) (.tmp 59) rfl g (y.cells P.1) rfl rfl 42 (x.cells s) hA info_state rfl hone ?_
        refine hK.out _ _ (fun h => absurd h (by decide)) ?_
        clear hK K
        (try simp only [Act.put, List.setIfInBounds_toArray, List.set_cons_zero, List.set_cons_succ])
        refine RegG.wpG.one 9 (by kernel_rfl) rfl rfl (fun K hK => ?_)
        go_simp
        refine hK.out _ _ (fun h => absurd h (by decide)) ?_
        clear hK K
        (try simp only [Act.put, List.setIfInBounds_toArray, List.set_cons_zero, List.set_cons_succ])
        refine RegG.wpG.done (by kernel_rfl) ?_ _
        have HV := VarS.put hA HVV.out.lo hS4 (.inl (by have := HVV.out.lt; omega)) (Nat.le_refl _)
        have HB5 := below_put (HB.trans (HS4.mono HB.size)) HVV.out.lo (y.cells P.1)
        generalize w4.setRow g (y.cells P.1) = W5 at HV HB5 ⊢
        clear HS HS3 HS4 hS4 hA hone HB
        go_wp2_with fail
        go_roundw
        case rel => exact ⟨k + 1, y, P.1, by omega, by go_num, HV, HB5⟩
        case measure => simp [intOf]; omega
    · obtain rfl : k = n1 := by omega
      by_cases hfin : s.fin = 0
      · have tf : (s.fin == 0) = true := by simpa using hfin
        have hwe : wrap64 ((eb : Nat) : Int) = eb := by have h9 := HEB.out; unfold wrap64; omega
        have hme : ((eb : Nat) : Int).tmod 200 = ((eb % 200 : Nat) : Int) := rfl
        have hE : 1 ≤ wrap64 (1 + (wrap64 ((eb : Nat) : Int)).tmod 200) ∧ wrap64 (1 + (wrap64 ((eb : Nat) : Int)).tmod 200) ≤ 200 := by
          rw [hwe, hme]
          unfold wrap64
          omega
        have KF := Lib.hid (fun W (h : StW W x s) => apply_0 7 2 (wrap64 (1 + (wrap64 ((eb : Nat) : Int)).tmod 200)) x s W h)
        have hL := fin_law hE ByteArray.empty noMan hfin
        obtain ⟨P, hP⟩ : ∃ P, P = applyP s (rec0 7 2 (wrap64 (1 + (wrap64 ((eb : Nat) : Int)).tmod 200))) := ⟨_, rfl⟩
        rw [← hP] at KF
        replace hL : (P.2 = 0 ∧ P.1.fin ≠ 0) ∨ P.2 = 19 := by rw [hP]; exact hL
        clear hP hE hwe hme hfin
        obtain ⟨s', m9⟩ := P
        have p0 : wr.cell? ⟨g, 0, none⟩ = some (.int .i64 s.n) := HVV.out.cell (j := 0) rfl
        have p1 : wr.cell? ⟨g, 1, none⟩ = some (.int .i64 s.ep) := HVV.out.cell (j := 1) rfl
        have p2 : wr.cell? ⟨g, 2, none⟩ = some (.slice x.A2 s.done.length x.c2) := HVV.out.cell (j := 2) rfl
        have p3 : wr.cell? ⟨g, 3, none⟩ = some (.slice x.A3 s.done.length x.c3) := HVV.out.cell (j := 3) rfl
        have p4 : wr.cell? ⟨g, 4, none⟩ = some (.slice x.A4 s.done.length x.c4) := HVV.out.cell (j := 4) rfl
        have p5 : wr.cell? ⟨g, 5, none⟩ = some (.slice x.A5 s.has.length x.c5) := HVV.out.cell (j := 5) rfl
        have p6 : wr.cell? ⟨g, 6, none⟩ = some (.slice x.A6 s.has.length x.c6) := HVV.out.cell (j := 6) rfl
        have p7 : wr.cell? ⟨g, 7, none⟩ = some (.slice x.A7 s.has.length x.c7) := HVV.out.cell (j := 7) rfl
        have p8 : wr.cell? ⟨g, 8, none⟩ = some (.slice x.A8 s.has.length x.c8) := HVV.out.cell (j := 8) rfl
        have p9 : wr.cell? ⟨g, 9, none⟩ = some (.int .i64 s.fin) := HVV.out.cell (j := 9) rfl
        have p10 : wr.cell? ⟨g, 10, none⟩ = some (.int .i64 s.er) := HVV.out.cell (j := 10) rfl
        have hA := HVV.out.box
        have hgl := HVV.out.lt
        have hgo := HVV.out.lo
        dsimp only at KF hL
        clear HV
        rcases hL with ⟨hm9, hfin⟩ | hm9
        · subst hm9
          go_upto_region 12 with (first | (go_at_call 21; (with_reducible refine (KF.out _ HVV.out.state).mono ?_); rintro e w4 ⟨y, rfl, hS4, hd⟩; replace hA := (hd.block _ hgl).trans hA; have hone := SV.one y s') | (refine wpList_store_row rfl 42 (.tmp 13) (.tmp 72) rfl g (y.cells s') rfl rfl 42 (x.cells s) hA info_state rfl hone ?_))
          have HV := VarS.put hA hgo hS4 (.inl hgl) (Nat.le_refl _)
          replace HB := below_put (HB.trans (hd.mono HB.size)) hgo (y.cells s')
          generalize w4.setRow g (y.cells s') = W5 at HV HB ⊢
          clear hA hS4 hd hone KF HVV hgl hgo p0 p1 p2 p3 p4 p5 p6 p7 p8 p9 p10
          have HVV := Lib.hid HV
          have hj : True := trivial
          have FS2 := Lib.hid (F2.out.resolve_left (by decide)).2
          go_wp2
          go_loopw [16, 17, 18, 19] (fun i _ _ _ wr => ∃ (k : Nat) (x : SV) (s : LS), k ≤ n2 ∧ i = .int .i64 k ∧ VarS w wr g x s ∧ s.fin ≠ 0 ∧ Below w.heap.size w wr) (fun i _ _ _ _ => n2 - (intOf i).toNat)
          case atStart => exact ⟨0, y, s', by omega, rfl, HV, hfin, HB⟩
          case round =>
            clear HV HB hfin HVV
            obtain ⟨k, x, s, hk, rfl, HV, hfin, HB⟩ := hrel
            have HVV := Lib.hid HV
            by_cases hlt : k < n2
            · skip
              have hkl : k < qs.length := by have := HL2.out; omega
              obtain ⟨b, off, rfl, hc⟩ := (HQ.out.below HB).block (by omega)
              have hm := Lib.hid ((HQ.out.below HB).man k hkl)
              have RA := hc k hkl
              have hsl := Lib.hid (FS2.out.2 _ (List.getElem_mem hkl)).1
              obtain ⟨r, hr⟩ : ∃ r, r = qs[k] := ⟨_, rfl⟩
              rw [← hr] at RA hm hsl
              generalize us k = v at RA hm
              clear hc hr
              obtain ⟨f0, f1, f2, f3, f4, f5, f6, f7, f8⟩ := RA
              obtain ⟨P, hP⟩ : ∃ P, P = applyP s r := ⟨_, rfl⟩
              have HAP := Lib.hid (fun W (h : Below wr.heap.size wr W) => apply_v x s r v W (HVV.out.state.below h) (hm.out.below h) hsl.out)
              rw [← hP] at HAP
              have HP := Lib.hid hP
              clear hP
              have p0 : wr.cell? ⟨g, 0, none⟩ = some (.int .i64 s.n) := HVV.out.cell (j := 0) rfl
              have p1 : wr.cell? ⟨g, 1, none⟩ = some (.int .i64 s.ep) := HVV.out.cell (j := 1) rfl
              have p2 : wr.cell? ⟨g, 2, none⟩ = some (.slice x.A2 s.done.length x.c2) := HVV.out.cell (j := 2) rfl
              have p3 : wr.cell? ⟨g, 3, none⟩ = some (.slice x.A3 s.done.length x.c3) := HVV.out.cell (j := 3) rfl
              have p4 : wr.cell? ⟨g, 4, none⟩ = some (.slice x.A4 s.done.length x.c4) := HVV.out.cell (j := 4) rfl
              have p5 : wr.cell? ⟨g, 5, none⟩ = some (.slice x.A5 s.has.length x.c5) := HVV.out.cell (j := 5) rfl
              have p6 : wr.cell? ⟨g, 6, none⟩ = some (.slice x.A6 s.has.length x.c6) := HVV.out.cell (j := 6) rfl
              have p7 : wr.cell? ⟨g, 7, none⟩ = some (.slice x.A7 s.has.length x.c7) := HVV.out.cell (j := 7) rfl
              have p8 : wr.cell? ⟨g, 8, none⟩ = some (.slice x.A8 s.has.length x.c8) := HVV.out.cell (j := 8) rfl
              have p9 : wr.cell? ⟨g, 9, none⟩ = some (.int .i64 s.fin) := HVV.out.cell (j := 9) rfl
              have p10 : wr.cell? ⟨g, 10, none⟩ = some (.int .i64 s.er) := HVV.out.cell (j := 10) rfl
              clear HV
              go_upto_region 17 with fail
              go_cut [17, 18] from 84 to 93 (fun s17 s18 wx => ∃ (nb : Nat) (y : SV) (W9 : World), W9 = wx ∧ s17 = .pointer (some ⟨nb, 0, none⟩) ∧ s18 = .int .i64 P.2 ∧ VarS wr wx nb y P.1 ∧ Below wr.heap.size wr wx)
              case first =>
                have HS : Below wr.heap.size wr wr.drew := (Below.refl _ _).drew
                refine RegG.wp_region_g (fun W => Below wr.heap.size wr W) [5, 6] (by kernel_rfl) ?_
                generalize wr.drew = Wd at HS ⊢
                refine RegG.wpG.pure (v := ?_) 1 3 rfl (by kernel_rfl) (by decide) (fun _ _ _ h => h) ?_ rfl (fun _ => HS) ?_
                rotate_left
                · (intro w9; go_simp; first | done | with_reducible rfl)
                (try simp only [Act.put, List.setIfInBounds_toArray, List.set_cons_zero, List.set_cons_succ])
                refine RegG.wpG.pure (v := ?_) 2 3 rfl (by kernel_rfl) (by decide) (fun _ _ _ h => h) ?_ rfl (fun _ => HS) ?_
                rotate_left
                · (intro w9; go_simp; first | done | with_reducible rfl)
                (try simp only [Act.put, List.setIfInBounds_toArray, List.set_cons_zero, List.set_cons_succ])
                refine RegG.wpG.load (v := ?_) 0 6 rfl (by kernel_rfl) (by decide) (by decide) (fun _ _ _ h => h) ?_ rfl HS ?_
                rotate_left
                · (intro w9 hS9; have sp0 := cell_below hS9 p0; have sp1 := cell_below hS9 p1; have sp2 := cell_below hS9 p2; have sp3 := cell_below hS9 p3; have sp4 := cell_below hS9 p4; have sp5 := cell_below hS9 p5; have sp6 := cell_below hS9 p6; have sp7 := cell_below hS9 p7; have sp8 := cell_below hS9 p8; have sp9 := cell_below hS9 p9; have sp10 := cell_below hS9 p10; go_simp; first | done | with_reducible rfl)
                (try simp only [Act.put, List.setIfInBounds_toArray, List.set_cons_zero, List.set_cons_succ])
                refine RegG.wpG.pure (v := ?_) 3 4 rfl (by kernel_rfl) (by decide) (fun _ _ _ h => h) ?_ rfl (fun _ => HS) ?_
                rotate_left
                · (intro w9; go_simp; first | done | with_reducible rfl)
                (try simp only [Act.put, List.setIfInBounds_toArray, List.set_cons_zero, List.set_cons_succ])
                refine RegG.wpG.load (v := ?_) 4 5 rfl (by kernel_rfl) (by decide) (by decide) (fun _ _ _ h => h) ?_ rfl HS ?_
                rotate_left
                · (intro w9 hS9; have sf0 := cell_below hS9 f0; have sf1 := cell_below hS9 f1; have sf2 := cell_below hS9 f2; have sf3 := cell_below hS9 f3; have sf4 := cell_below hS9 f4; have sf5 := cell_below hS9 f5; have sf6 := cell_below hS9 f6; have sf7 := cell_below hS9 f7; have sf8 := cell_below hS9 f8; go_simp; first | done | with_reducible rfl)
                (try simp only [Act.put, List.setIfInBounds_toArray, List.set_cons_zero, List.set_cons_succ])
                refine RegG.wpG.two 5 10 (by kernel_rfl) rfl rfl rfl rfl (fun K hK => ?_) (fun K hK => ?_)
                · skip
                  go_simp
                  go_at_call 22
                  (with_reducible refine (of_any r v _).mono ?_)
                  rintro e w3 ⟨rfl, hd⟩
                  have HS3 := HS.trans (hd.mono HS.size)
                  clear hd
                  refine hK.out _ _ (fun _ => HS3) ?_
                  clear hK K
                  (try simp only [Act.put, List.setIfInBounds_toArray, List.set_cons_zero, List.set_cons_succ])
                  refine RegG.wpG.two 6 10 (by kernel_rfl) rfl rfl rfl rfl (fun K hK => ?_) (fun K hK => ?_)
                  · skip
                    go_simp
                    go_at_call 21
                    (with_reducible refine (HAP.out _ HS3).mono ?_)
                    rintro e w4 ⟨y, rfl, hS4, hd⟩
                    have HS4 := HS3.trans (hd.mono HS3.size)
                    have hlow := HS3.size
                    clear hd
                    refine hK.out _ _ (fun h => absurd h (by decide)) ?_
                    clear hK K
                    (try simp only [Act.put, List.setIfInBounds_toArray, List.set_cons_zero, List.set_cons_succ])
                    refine RegG.wpG.pure (v := ?_) 7 8 rfl (by kernel_rfl) (by decide) (fun _ _ _ h => h) ?_ rfl (fun h => absurd h (by decide)) ?_
                    rotate_left
                    · (intro w9; go_simp; first | done | with_reducible rfl)
                    (try simp only [Act.put, List.setIfInBounds_toArray, List.set_cons_zero, List.set_cons_succ])
                    refine RegG.wpG.pure (v := ?_) 8 11 rfl (by kernel_rfl) (by decide) (fun _ _ _ h => h) ?_ rfl (fun h => absurd h (by decide)) ?_
                    rotate_left
                    · (intro w9; go_simp; first | done | with_reducible rfl)
                    (try simp only [Act.put, List.setIfInBounds_toArray, List.set_cons_zero, List.set_cons_succ])
                    refine RegG.wpG.pure (v := ?_) 9 12 rfl (by kernel_rfl) (by decide) (fun _ _ _ h => h) ?_ rfl (fun h => absurd h (by decide)) ?_
                    rotate_left
                    · (intro w9; go_simp; first | done | with_reducible rfl)
                    (try simp only [Act.put, List.setIfInBounds_toArray, List.set_cons_zero, List.set_cons_succ])
                    refine RegG.wpG.one 10 (by kernel_rfl) rfl rfl (fun K hK => ?_)
                    go_simp
                    have hnA := heap_alloc_new w4 (.cells #[.int .i64 0, .int .i64 0, .slice none 0 0, .slice none 0 0, .slice none 0 0, .slice none 0 0, .slice none 0 0, .slice none 0 0, .slice none 0 0, .int .i64 0, .int .i64 0] 42)
                    have hnz := World.size_alloc w4 (.cells #[.int .i64 0, .int .i64 0, .slice none 0 0, .slice none 0 0, .slice none 0 0, .slice none 0 0, .slice none 0 0, .slice none 0 0, .slice none 0 0, .int .i64 0, .int .i64 0] 42)
                    have hnB := (Below.refl w4.heap.size w4).alloc (Nat.le_refl _) (.cells #[.int .i64 0, .int .i64 0, .slice none 0 0, .slice none 0 0, .slice none 0 0, .slice none 0 0, .slice none 0 0, .slice none 0 0, .slice none 0 0, .int .i64 0, .int .i64 0] 42)
                    have HS5 := HS4.trans (hnB.mono HS4.size)
                    obtain ⟨nb, hnb⟩ : ∃ n, n = w4.heap.size := ⟨_, rfl⟩
                    have hnl : wr.heap.size ≤ nb := by rw [hnb]; exact HS4.size
                    have hS5 := StateB.below hS4 hnB
                    have hgb : nb < w3.heap.size ∨ w4.heap.size ≤ nb := .inr (by rw [hnb]; exact Nat.le_refl _)
                    rw [← hnb] at hnA hnz ⊢
                    clear hnb
                    generalize w4.alloc (.cells #[.int .i64 0, .int .i64 0, .slice none 0 0, .slice none 0 0, .slice none 0 0, .slice none 0 0, .slice none 0 0, .slice none 0 0, .slice none 0 0, .int .i64 0, .int .i64 0] 42) = wa at hnA hnz hnB HS5 hS5 ⊢
                    refine hK.out _ _ (fun h => absurd h (by decide)) ?_
                    clear hK K
                    (try simp only [Act.put, List.setIfInBounds_toArray, List.set_cons_zero, List.set_cons_succ])
                    have hhi : w4.heap.size ≤ wa.heap.size := hnB.size
                    refine RegG.wpG.one 11 (by kernel_rfl) rfl rfl (fun K hK => ?_)
                    refine wp_store_row 42 (.tmp 17) (.tmp 92) rfl nb (y.cells P.1) rfl rfl 42 #[.int .i64 0, .int .i64 0, .slice none 0 0, .slice none 0 0, .slice none 0 0, .slice none 0 0, .slice none 0 0, .slice none 0 0, .slice none 0 0, .int .i64 0, .int .i64 0] hnA info_state rfl (SV.one y P.1) ?_
                    refine hK.out _ _ (fun h => absurd h (by decide)) ?_
                    clear hK K
                    (try simp only [Act.put, List.setIfInBounds_toArray, List.set_cons_zero, List.set_cons_succ])
                    refine RegG.wpG.one 12 (by kernel_rfl) rfl rfl (fun K hK => ?_)
                    go_simp
                    refine hK.out _ _ (fun h => absurd h (by decide)) ?_
                    clear hK K
                    (try simp only [Act.put, List.setIfInBounds_toArray, List.set_cons_zero, List.set_cons_succ])
                    refine RegG.wpG.done (by kernel_rfl) ?_ _
                    go_wp2_with fail
                    go_meet
                    exact ⟨nb, y, _, rfl, rfl, rfl, VarS.put hnA hnl hS5 hgb hhi, below_put HS5 hnl _⟩
                  · skip
                    go_simp
                    have hnA := heap_alloc_new w3 (.cells #[.int .i64 0, .int .i64 0, .slice none 0 0, .slice none 0 0, .slice none 0 0, .slice none 0 0, .slice none 0 0, .slice none 0 0, .slice none 0 0, .int .i64 0, .int .i64 0] 42)
                    have hnz := World.size_alloc w3 (.cells #[.int .i64 0, .int .i64 0, .slice none 0 0, .slice none 0 0, .slice none 0 0, .slice none 0 0, .slice none 0 0, .slice none 0 0, .slice none 0 0, .int .i64 0, .int .i64 0] 42)
                    have hnB := (Below.refl w3.heap.size w3).alloc (Nat.le_refl _) (.cells #[.int .i64 0, .int .i64 0, .slice none 0 0, .slice none 0 0, .slice none 0 0, .slice none 0 0, .slice none 0 0, .slice none 0 0, .slice none 0 0, .int .i64 0, .int .i64 0] 42)
                    have HS5 := HS3.trans (hnB.mono HS3.size)
                    obtain ⟨nb, hnb⟩ : ∃ n, n = w3.heap.size := ⟨_, rfl⟩
                    have hnl : wr.heap.size ≤ nb := by rw [hnb]; exact HS3.size
                    rw [← hnb] at hnA hnz ⊢
                    clear hnb
                    generalize w3.alloc (.cells #[.int .i64 0, .int .i64 0, .slice none 0 0, .slice none 0 0, .slice none 0 0, .slice none 0 0, .slice none 0 0, .slice none 0 0, .slice none 0 0, .int .i64 0, .int .i64 0] 42) = wa at hnA hnz hnB HS5 ⊢
                    refine hK.out _ _ (fun _ => HS5) ?_
                    clear hK K
                    (try simp only [Act.put, List.setIfInBounds_toArray, List.set_cons_zero, List.set_cons_succ])
                    refine RegG.wpG.one 6 (by kernel_rfl) rfl rfl (fun K hK => ?_)
                    go_simp
                    go_at_call 21
                    (with_reducible refine (HAP.out _ HS5).mono ?_)
                    rintro e w4 ⟨y, rfl, hS4, hd⟩
                    have HS6 := HS5.trans (hd.mono HS5.size)
                    have hlow := HS5.size
                    replace hnA := (hd.block _ (by omega)).trans hnA
                    have hS5 := hS4
                    have hgb : nb < wa.heap.size ∨ w4.heap.size ≤ nb := .inl (by omega)
                    have hhi := Nat.le_refl w4.heap.size
                    clear hd
                    refine hK.out _ _ (fun h => absurd h (by decide)) ?_
                    clear hK K
                    (try simp only [Act.put, List.setIfInBounds_toArray, List.set_cons_zero, List.set_cons_succ])
                    refine RegG.wpG.pure (v := ?_) 7 8 rfl (by kernel_rfl) (by decide) (fun _ _ _ h => h) ?_ rfl (fun h => absurd h (by decide)) ?_
                    rotate_left
                    · (intro w9; go_simp; first | done | with_reducible rfl)
                    (try simp only [Act.put, List.setIfInBounds_toArray, List.set_cons_zero, List.set_cons_succ])
                    refine RegG.wpG.pure (v := ?_) 8 11 rfl (by kernel_rfl) (by decide) (fun _ _ _ h => h) ?_ rfl (fun h => absurd h (by decide)) ?_
                    rotate_left
                    · (intro w9; go_simp; first | done | with_reducible rfl)
                    (try simp only [Act.put, List.setIfInBounds_toArray, List.set_cons_zero, List.set_cons_succ])
                    refine RegG.wpG.pure (v := ?_) 9 12 rfl (by kernel_rfl) (by decide) (fun _ _ _ h => h) ?_ rfl (fun h => absurd h (by decide)) ?_
                    rotate_left
                    · (intro w9; go_simp; first | done | with_reducible rfl)
                    (try simp only [Act.put, List.setIfInBounds_toArray, List.set_cons_zero, List.set_cons_succ])
                    refine RegG.wpG.one 11 (by kernel_rfl) rfl rfl (fun K hK => ?_)
                    refine wp_store_row 42 (.tmp 17) (.tmp 92) rfl nb (y.cells P.1) rfl rfl 42 #[.int .i64 0, .int .i64 0, .slice none 0 0, .slice none 0 0, .slice none 0 0, .slice none 0 0, .slice none 0 0, .slice none 0 0, .slice none 0 0, .int .i64 0, .int .i64 0] hnA info_state rfl (SV.one y P.1) ?_
                    refine hK.out _ _ (fun h => absurd h (by decide)) ?_
                    clear hK K
                    (try simp only [Act.put, List.setIfInBounds_toArray, List.set_cons_zero, List.set_cons_succ])
                    refine RegG.wpG.one 12 (by kernel_rfl) rfl rfl (fun K hK => ?_)
                    go_simp
                    refine hK.out _ _ (fun h => absurd h (by decide)) ?_
                    clear hK K
                    (try simp only [Act.put, List.setIfInBounds_toArray, List.set_cons_zero, List.set_cons_succ])
                    refine RegG.wpG.done (by kernel_rfl) ?_ _
                    go_wp2_with fail
                    go_meet
                    exact ⟨nb, y, _, rfl, rfl, rfl, VarS.put hnA hnl hS5 hgb hhi, below_put HS6 hnl _⟩
                · skip
                  go_simp
                  have hnA := heap_alloc_new Wd (.cells #[.int .i64 0, .int .i64 0, .slice none 0 0, .slice none 0 0, .slice none 0 0, .slice none 0 0, .slice none 0 0, .slice none 0 0, .slice none 0 0, .int .i64 0, .int .i64 0] 42)
                  have hnz := World.size_alloc Wd (.cells #[.int .i64 0, .int .i64 0, .slice none 0 0, .slice none 0 0, .slice none 0 0, .slice none 0 0, .slice none 0 0, .slice none 0 0, .slice none 0 0, .int .i64 0, .int .i64 0] 42)
                  have hnB := (Below.refl Wd.heap.size Wd).alloc (Nat.le_refl _) (.cells #[.int .i64 0, .int .i64 0, .slice none 0 0, .slice none 0 0, .slice none 0 0, .slice none 0 0, .slice none 0 0, .slice none 0 0, .slice none 0 0, .int .i64 0, .int .i64 0] 42)
                  have HS0 := HS.trans (hnB.mono HS.size)
                  obtain ⟨nb, hnb⟩ : ∃ n, n = Wd.heap.size := ⟨_, rfl⟩
                  have hnl : wr.heap.size ≤ nb := by rw [hnb]; exact HS.size
                  rw [← hnb] at hnA hnz ⊢
                  clear hnb
                  generalize Wd.alloc (.cells #[.int .i64 0, .int .i64 0, .slice none 0 0, .slice none 0 0, .slice none 0 0, .slice none 0 0, .slice none 0 0, .slice none 0 0, .slice none 0 0, .int .i64 0, .int .i64 0] 42) = wa at hnA hnz hnB HS0 ⊢
                  refine hK.out _ _ (fun _ => HS0) ?_
                  clear hK K
                  (try simp only [Act.put, List.setIfInBounds_toArray, List.set_cons_zero, List.set_cons_succ])
                  have HZ := HS
                  replace HS := HS0
                  refine RegG.wpG.one 5 (by kernel_rfl) rfl rfl (fun K hK => ?_)
                  go_simp
                  go_at_call 22
                  (with_reducible refine (of_any r v _).mono ?_)
                  rintro e w3 ⟨rfl, hd⟩
                  have HS3 := HS.trans (hd.mono HS.size)
                  replace hnA := (hd.block _ (by omega)).trans hnA
                  have hnz3 := hd.size
                  clear hd
                  refine hK.out _ _ (fun _ => HS3) ?_
                  clear hK K
                  (try simp only [Act.put, List.setIfInBounds_toArray, List.set_cons_zero, List.set_cons_succ])
                  refine RegG.wpG.one 6 (by kernel_rfl) rfl rfl (fun K hK => ?_)
                  go_simp
                  go_at_call 21
                  (with_reducible refine (HAP.out _ HS3).mono ?_)
                  rintro e w4 ⟨y, rfl, hS4, hd⟩
                  have HS4 := HS3.trans (hd.mono HS3.size)
                  have hlow := HS3.size
                  replace hnA := (hd.block _ (by omega)).trans hnA
                  have hS5 := hS4
                  have hgb : nb < w3.heap.size ∨ w4.heap.size ≤ nb := .inl (by omega)
                  have hhi := Nat.le_refl w4.heap.size
                  clear hd
                  refine hK.out _ _ (fun h => absurd h (by decide)) ?_
                  clear hK K
                  (try simp only [Act.put, List.setIfInBounds_toArray, List.set_cons_zero, List.set_cons_succ])
                  refine RegG.wpG.pure (v := ?_) 7 8 rfl (by kernel_rfl) (by decide) (fun _ _ _ h => h) ?_ rfl (fun h => absurd h (by decide)) ?_
                  rotate_left
                  · (intro w9; go_simp; first | done | with_reducible rfl)
                  (try simp only [Act.put, List.setIfInBounds_toArray, List.set_cons_zero, List.set_cons_succ])
                  refine RegG.wpG.pure (v := ?_) 8 11 rfl (by kernel_rfl) (by decide) (fun _ _ _ h => h) ?_ rfl (fun h => absurd h (by decide)) ?_
                  rotate_left
                  · (intro w9; go_simp; first | done | with_reducible rfl)
                  (try simp only [Act.put, List.setIfInBounds_toArray, List.set_cons_zero, List.set_cons_succ])
                  refine RegG.wpG.pure (v := ?_) 9 12 rfl (by kernel_rfl) (by decide) (fun _ _ _ h => h) ?_ rfl (fun h => absurd h (by decide)) ?_
                  rotate_left
                  · (intro w9; go_simp; first | done | with_reducible rfl)
                  (try simp only [Act.put, List.setIfInBounds_toArray, List.set_cons_zero, List.set_cons_succ])
                  refine RegG.wpG.one 11 (by kernel_rfl) rfl rfl (fun K hK => ?_)
                  refine wp_store_row 42 (.tmp 17) (.tmp 92) rfl nb (y.cells P.1) rfl rfl 42 #[.int .i64 0, .int .i64 0, .slice none 0 0, .slice none 0 0, .slice none 0 0, .slice none 0 0, .slice none 0 0, .slice none 0 0, .slice none 0 0, .int .i64 0, .int .i64 0] hnA info_state rfl (SV.one y P.1) ?_
                  refine hK.out _ _ (fun h => absurd h (by decide)) ?_
                  clear hK K
                  (try simp only [Act.put, List.setIfInBounds_toArray, List.set_cons_zero, List.set_cons_succ])
                  refine RegG.wpG.one 12 (by kernel_rfl) rfl rfl (fun K hK => ?_)
                  go_simp
                  refine hK.out _ _ (fun h => absurd h (by decide)) ?_
                  clear hK K
                  (try simp only [Act.put, List.setIfInBounds_toArray, List.set_cons_zero, List.set_cons_succ])
                  refine RegG.wpG.done (by kernel_rfl) ?_ _
                  go_wp2_with fail
                  go_meet
                  exact ⟨nb, y, _, rfl, rfl, rfl, VarS.put hnA hnl hS5 hgb hhi, below_put HS4 hnl _⟩
              case rest =>
                obtain ⟨nb, y, wx, rfl, rfl, rfl, HN, HS⟩ := hcut
                clear HAP hm hsl p0 p1 p2 p3 p4 p5 p6 p7 p8 p9 p10
                obtain ⟨e1, n3, hE, hle, hn0⟩ := ends_law r hfin
                obtain rfl : P = ({ s with ep := e1 }, n3) := HP.out.trans hE
                dsimp only at HN ⊢
                clear HP hE
                have HG := HVV.out.below HS
                replace f0 := cell_below HS f0
                have p1 : wx.cell? ⟨g, 1, none⟩ = some (.int .i64 s.ep) := HG.cell (j := 1) rfl
                have q1 : wx.cell? ⟨nb, 1, none⟩ = some (.int .i64 e1) := HN.cell (j := 1) rfl
                have zn : wx.frozen? ⟨nb, 1, none⟩ = false := Lib.frozen_of_heap HN.box 1
                have HE := Lib.hid hle
                have HB0 := Lib.hid HB
                have HN9 := Lib.hid HN
                have HF := Lib.hid hfin
                have te : decide (e1 < s.ep) = false := by simp; omega
                clear HB HG hle hfin HN
                by_cases hn : n3 = 0
                · subst hn
                  have hk0 := hn0 rfl
                  rw [hk0] at f0
                  clear hn0 hk0
                  go_upto_region 22 with fail
                  have HN2 : VarS wr (wx.setCell ⟨nb, 1, none⟩ (.int .i64 s.ep)) nb y s := HN9.out.epoch s.ep
                  have HS2 := HS.setCell (p := ⟨nb, 1, none⟩) HN9.out.lo (.int .i64 s.ep)
                  generalize wx.setCell ⟨nb, 1, none⟩ (.int .i64 s.ep) = W6 at HN2 HS2 ⊢
                  have HG2 := HVV.out.below HS2
                  clear p1 q1 zn f0 f1 f2 f3 f4 f5 f6 f7 f8
                  have p0 : W6.cell? ⟨g, 0, none⟩ = some (.int .i64 s.n) := HG2.cell (j := 0) rfl
                  have p1 : W6.cell? ⟨g, 1, none⟩ = some (.int .i64 s.ep) := HG2.cell (j := 1) rfl
                  have p2 : W6.cell? ⟨g, 2, none⟩ = some (.slice x.A2 s.done.length x.c2) := HG2.cell (j := 2) rfl
                  have p3 : W6.cell? ⟨g, 3, none⟩ = some (.slice x.A3 s.done.length x.c3) := HG2.cell (j := 3) rfl
                  have p4 : W6.cell? ⟨g, 4, none⟩ = some (.slice x.A4 s.done.length x.c4) := HG2.cell (j := 4) rfl
                  have p5 : W6.cell? ⟨g, 5, none⟩ = some (.slice x.A5 s.has.length x.c5) := HG2.cell (j := 5) rfl
                  have p6 : W6.cell? ⟨g, 6, none⟩ = some (.slice x.A6 s.has.length x.c6) := HG2.cell (j := 6) rfl
                  have p7 : W6.cell? ⟨g, 7, none⟩ = some (.slice x.A7 s.has.length x.c7) := HG2.cell (j := 7) rfl
                  have p8 : W6.cell? ⟨g, 8, none⟩ = some (.slice x.A8 s.has.length x.c8) := HG2.cell (j := 8) rfl
                  have p9 : W6.cell? ⟨g, 9, none⟩ = some (.int .i64 s.fin) := HG2.cell (j := 9) rfl
                  have p10 : W6.cell? ⟨g, 10, none⟩ = some (.int .i64 s.er) := HG2.cell (j := 10) rfl
                  have q0 : W6.cell? ⟨nb, 0, none⟩ = some (.int .i64 s.n) := HN2.cell (j := 0) rfl
                  have q1 : W6.cell? ⟨nb, 1, none⟩ = some (.int .i64 s.ep) := HN2.cell (j := 1) rfl
                  have q2 : W6.cell? ⟨nb, 2, none⟩ = some (.slice y.A2 s.done.length y.c2) := HN2.cell (j := 2) rfl
                  have q3 : W6.cell? ⟨nb, 3, none⟩ = some (.slice y.A3 s.done.length y.c3) := HN2.cell (j := 3) rfl
                  have q4 : W6.cell? ⟨nb, 4, none⟩ = some (.slice y.A4 s.done.length y.c4) := HN2.cell (j := 4) rfl
                  have q5 : W6.cell? ⟨nb, 5, none⟩ = some (.slice y.A5 s.has.length y.c5) := HN2.cell (j := 5) rfl
                  have q6 : W6.cell? ⟨nb, 6, none⟩ = some (.slice y.A6 s.has.length y.c6) := HN2.cell (j := 6) rfl
                  have q7 : W6.cell? ⟨nb, 7, none⟩ = some (.slice y.A7 s.has.length y.c7) := HN2.cell (j := 7) rfl
                  have q8 : W6.cell? ⟨nb, 8, none⟩ = some (.slice y.A8 s.has.length y.c8) := HN2.cell (j := 8) rfl
                  have q9 : W6.cell? ⟨nb, 9, none⟩ = some (.int .i64 s.fin) := HN2.cell (j := 9) rfl
                  have q10 : W6.cell? ⟨nb, 10, none⟩ = some (.int .i64 s.er) := HN2.cell (j := 10) rfl
                  have HGG := Lib.hid HG2
                  have HNN := Lib.hid HN2
                  clear HG2 HN2
                  go_upto_region 24 with (go_at_call 25; (with_reducible refine (same_v y x s _ HNN.out.state HGG.out.state).mono ?_); rintro e w7 ⟨rfl, hd⟩; replace p1 := cell_below hd p1; have HG3 := Lib.hid (HGG.out.below hd); have HS3 := HS2.trans (hd.mono HS2.size); clear hd)
                  have zg : w7.frozen? ⟨g, 1, none⟩ = false := Lib.frozen_of_heap HG3.out.box 1
                  have HB3 := Lib.hid (((HB0.out.trans (HS3.mono HB0.out.size))).setCell (p := ⟨g, 1, none⟩) HG3.out.lo (.int .i64 e1))
                  have HG4 := Lib.hid (HG3.out.epoch e1)
                  clear p0 p2 p3 p4 p5 p6 p7 p8 p9 p10 q0 q1 q2 q3 q4 q5 q6 q7 q8 q9 q10
                  go_wp2
                  go_roundw
                  case rel => exact ⟨k + 1, x, { s with ep := e1 }, by omega, by go_num, HG4.out, HF.out, HB3.out⟩
                  case measure => simp [intOf]; omega
                · have tn : (((n3 : Nat) : Int) == 0) = false := by simp; omega
                  clear hn0 hn
                  go_upto_region 22 with fail
                  have HN2 : VarS wr (wx.setCell ⟨nb, 1, none⟩ (.int .i64 s.ep)) nb y s := HN9.out.epoch s.ep
                  have HS2 := HS.setCell (p := ⟨nb, 1, none⟩) HN9.out.lo (.int .i64 s.ep)
                  generalize wx.setCell ⟨nb, 1, none⟩ (.int .i64 s.ep) = W6 at HN2 HS2 ⊢
                  have HG2 := HVV.out.below HS2
                  clear p1 q1 zn f0 f1 f2 f3 f4 f5 f6 f7 f8
                  have p0 : W6.cell? ⟨g, 0, none⟩ = some (.int .i64 s.n) := HG2.cell (j := 0) rfl
                  have p1 : W6.cell? ⟨g, 1, none⟩ = some (.int .i64 s.ep) := HG2.cell (j := 1) rfl
                  have p2 : W6.cell? ⟨g, 2, none⟩ = some (.slice x.A2 s.done.length x.c2) := HG2.cell (j := 2) rfl
                  have p3 : W6.cell? ⟨g, 3, none⟩ = some (.slice x.A3 s.done.length x.c3) := HG2.cell (j := 3) rfl
                  have p4 : W6.cell? ⟨g, 4, none⟩ = some (.slice x.A4 s.done.length x.c4) := HG2.cell (j := 4) rfl
                  have p5 : W6.cell? ⟨g, 5, none⟩ = some (.slice x.A5 s.has.length x.c5) := HG2.cell (j := 5) rfl
                  have p6 : W6.cell? ⟨g, 6, none⟩ = some (.slice x.A6 s.has.length x.c6) := HG2.cell (j := 6) rfl
                  have p7 : W6.cell? ⟨g, 7, none⟩ = some (.slice x.A7 s.has.length x.c7) := HG2.cell (j := 7) rfl
                  have p8 : W6.cell? ⟨g, 8, none⟩ = some (.slice x.A8 s.has.length x.c8) := HG2.cell (j := 8) rfl
                  have p9 : W6.cell? ⟨g, 9, none⟩ = some (.int .i64 s.fin) := HG2.cell (j := 9) rfl
                  have p10 : W6.cell? ⟨g, 10, none⟩ = some (.int .i64 s.er) := HG2.cell (j := 10) rfl
                  have q0 : W6.cell? ⟨nb, 0, none⟩ = some (.int .i64 s.n) := HN2.cell (j := 0) rfl
                  have q1 : W6.cell? ⟨nb, 1, none⟩ = some (.int .i64 s.ep) := HN2.cell (j := 1) rfl
                  have q2 : W6.cell? ⟨nb, 2, none⟩ = some (.slice y.A2 s.done.length y.c2) := HN2.cell (j := 2) rfl
                  have q3 : W6.cell? ⟨nb, 3, none⟩ = some (.slice y.A3 s.done.length y.c3) := HN2.cell (j := 3) rfl
                  have q4 : W6.cell? ⟨nb, 4, none⟩ = some (.slice y.A4 s.done.length y.c4) := HN2.cell (j := 4) rfl
                  have q5 : W6.cell? ⟨nb, 5, none⟩ = some (.slice y.A5 s.has.length y.c5) := HN2.cell (j := 5) rfl
                  have q6 : W6.cell? ⟨nb, 6, none⟩ = some (.slice y.A6 s.has.length y.c6) := HN2.cell (j := 6) rfl
                  have q7 : W6.cell? ⟨nb, 7, none⟩ = some (.slice y.A7 s.has.length y.c7) := HN2.cell (j := 7) rfl
                  have q8 : W6.cell? ⟨nb, 8, none⟩ = some (.slice y.A8 s.has.length y.c8) := HN2.cell (j := 8) rfl
                  have q9 : W6.cell? ⟨nb, 9, none⟩ = some (.int .i64 s.fin) := HN2.cell (j := 9) rfl
                  have q10 : W6.cell? ⟨nb, 10, none⟩ = some (.int .i64 s.er) := HN2.cell (j := 10) rfl
                  have HGG := Lib.hid HG2
                  have HNN := Lib.hid HN2
                  clear HG2 HN2
                  go_upto_region 24 with (go_at_call 25; (with_reducible refine (same_v y x s _ HNN.out.state HGG.out.state).mono ?_); rintro e w7 ⟨rfl, hd⟩; replace p1 := cell_below hd p1; have HG3 := Lib.hid (HGG.out.below hd); have HS3 := HS2.trans (hd.mono HS2.size); clear hd)
                  have zg : w7.frozen? ⟨g, 1, none⟩ = false := Lib.frozen_of_heap HG3.out.box 1
                  have HB3 := Lib.hid (((HB0.out.trans (HS3.mono HB0.out.size))).setCell (p := ⟨g, 1, none⟩) HG3.out.lo (.int .i64 e1))
                  have HG4 := Lib.hid (HG3.out.epoch e1)
                  clear p0 p2 p3 p4 p5 p6 p7 p8 p9 p10 q0 q1 q2 q3 q4 q5 q6 q7 q8 q9 q10
                  go_wp2
                  go_roundw
                  case rel => exact ⟨k + 1, x, { s with ep := e1 }, by omega, by go_num, HG4.out, HF.out, HB3.out⟩
                  case measure => simp [intOf]; omega
            · obtain rfl : k = n2 := by omega
              go_wp2
              go_ret
              exact ⟨rfl, HB⟩
        · subst hm9
          go_upto_region 12 with (first | (go_at_call 21; (with_reducible refine (KF.out _ HVV.out.state).mono ?_); rintro e w4 ⟨y, rfl, hS4, hd⟩; replace hA := (hd.block _ hgl).trans hA; have hone := SV.one y s') | (refine wpList_store_row rfl 42 (.tmp 13) (.tmp 72) rfl g (y.cells s') rfl rfl 42 (x.cells s) hA info_state rfl hone ?_))
          have HV := VarS.put hA hgo hS4 (.inl hgl) (Nat.le_refl _)
          replace HB := below_put (HB.trans (hd.mono HB.size)) hgo (y.cells s')
          generalize w4.setRow g (y.cells s') = W5 at HV HB ⊢
          clear hA hS4 hd hone KF HVV hgl hgo p0 p1 p2 p3 p4 p5 p6 p7 p8 p9 p10
          go_wp2
          go_ret
          exact ⟨rfl, HB⟩
      · have tf : (s.fin == 0) = false := by simpa using hfin
        have p9 : wr.cell? ⟨g, 9, none⟩ = some (.int .i64 s.fin) := HVV.out.cell (j := 9) rfl
        clear HVV
        have HVV := Lib.hid HV
        have FS2 := Lib.hid (F2.out.resolve_left (by decide)).2
        go_wp2
        go_loopw [16, 17, 18, 19] (fun i _ _ _ wr => ∃ (k : Nat) (x : SV) (s : LS), k ≤ n2 ∧ i = .int .i64 k ∧ VarS w wr g x s ∧ s.fin ≠ 0 ∧ Below w.heap.size w wr) (fun i _ _ _ _ => n2 - (intOf i).toNat)
        case atStart => exact ⟨0, x, s, by omega, rfl, HV, hfin, HB⟩
        case round =>
          clear HV HB hfin HVV
          obtain ⟨k, x, s, hk, rfl, HV, hfin, HB⟩ := hrel
          have HVV := Lib.hid HV
          by_cases hlt : k < n2
          · skip
            have hkl : k < qs.length := by have := HL2.out; omega
            obtain ⟨b, off, rfl, hc⟩ := (HQ.out.below HB).block (by omega)
            have hm := Lib.hid ((HQ.out.below HB).man k hkl)
            have RA := hc k hkl
            have hsl := Lib.hid (FS2.out.2 _ (List.getElem_mem hkl)).1
            obtain ⟨r, hr⟩ : ∃ r, r = qs[k] := ⟨_, rfl⟩
            rw [← hr] at RA hm hsl
            generalize us k = v at RA hm
            clear hc hr
            obtain ⟨f0, f1, f2, f3, f4, f5, f6, f7, f8⟩ := RA
            obtain ⟨P, hP⟩ : ∃ P, P = applyP s r := ⟨_, rfl⟩
            have HAP := Lib.hid (fun W (h : Below wr.heap.size wr W) => apply_v x s r v W (HVV.out.state.below h) (hm.out.below h) hsl.out)
            rw [← hP] at HAP
            have HP := Lib.hid hP
            clear hP
            have p0 : wr.cell? ⟨g, 0, none⟩ = some (.int .i64 s.n) := HVV.out.cell (j := 0) rfl
            have p1 : wr.cell? ⟨g, 1, none⟩ = some (.int .i64 s.ep) := HVV.out.cell (j := 1) rfl
            have p2 : wr.cell? ⟨g, 2, none⟩ = some (.slice x.A2 s.done.length x.c2) := HVV.out.cell (j := 2) rfl
            have p3 : wr.cell? ⟨g, 3, none⟩ = some (.slice x.A3 s.done.length x.c3) := HVV.out.cell (j := 3) rfl
            have p4 : wr.cell? ⟨g, 4, none⟩ = some (.slice x.A4 s.done.length x.c4) := HVV.out.cell (j := 4) rfl
            have p5 : wr.cell? ⟨g, 5, none⟩ = some (.slice x.A5 s.has.length x.c5) := HVV.out.cell (j := 5) rfl
            have p6 : wr.cell? ⟨g, 6, none⟩ = some (.slice x.A6 s.has.length x.c6) := HVV.out.cell (j := 6) rfl
            have p7 : wr.cell? ⟨g, 7, none⟩ = some (.slice x.A7 s.has.length x.c7) := HVV.out.cell (j := 7) rfl
            have p8 : wr.cell? ⟨g, 8, none⟩ = some (.slice x.A8 s.has.length x.c8) := HVV.out.cell (j := 8) rfl
            have p9 : wr.cell? ⟨g, 9, none⟩ = some (.int .i64 s.fin) := HVV.out.cell (j := 9) rfl
            have p10 : wr.cell? ⟨g, 10, none⟩ = some (.int .i64 s.er) := HVV.out.cell (j := 10) rfl
            clear HV
            go_upto_region 17 with fail
            go_cut [17, 18] from 84 to 93 (fun s17 s18 wx => ∃ (nb : Nat) (y : SV) (W9 : World), W9 = wx ∧ s17 = .pointer (some ⟨nb, 0, none⟩) ∧ s18 = .int .i64 P.2 ∧ VarS wr wx nb y P.1 ∧ Below wr.heap.size wr wx)
            case first =>
              have HS : Below wr.heap.size wr wr.drew := (Below.refl _ _).drew
              refine RegG.wp_region_g (fun W => Below wr.heap.size wr W) [5, 6] (by kernel_rfl) ?_
              generalize wr.drew = Wd at HS ⊢
              refine RegG.wpG.pure (v := ?_) 1 3 rfl (by kernel_rfl) (by decide) (fun _ _ _ h => h) ?_ rfl (fun _ => HS) ?_
              rotate_left
              · (intro w9; go_simp; first | done | with_reducible rfl)
              (try simp only [Act.put, List.setIfInBounds_toArray, List.set_cons_zero, List.set_cons_succ])
              refine RegG.wpG.pure (v := ?_) 2 3 rfl (by kernel_rfl) (by decide) (fun _ _ _ h => h) ?_ rfl (fun _ => HS) ?_
              rotate_left
              · (intro w9; go_simp; first | done | with_reducible rfl)
              (try simp only [Act.put, List.setIfInBounds_toArray, List.set_cons_zero, List.set_cons_succ])
              refine RegG.wpG.load (v := ?_) 0 6 rfl (by kernel_rfl) (by decide) (by decide) (fun _ _ _ h => h) ?_ rfl HS ?_
              rotate_left
              · (intro w9 hS9; have sp0 := cell_below hS9 p0; have sp1 := cell_below hS9 p1; have sp2 := cell_below hS9 p2; have sp3 := cell_below hS9 p3; have sp4 := cell_below hS9 p4; have sp5 := cell_below hS9 p5; have sp6 := cell_below hS9 p6; have sp7 := cell_below hS9 p7; have sp8 := cell_below hS9 p8; have sp9 := cell_below hS9 p9; have sp10 := cell_below hS9 p10; go_simp; first | done | with_reducible rfl)
              (try simp only [Act.put, List.setIfInBounds_toArray, List.set_cons_zero, List.set_cons_succ])
              refine RegG.wpG.pure (v := ?_) 3 4 rfl (by kernel_rfl) (by decide) (fun _ _ _ h => h) ?_ rfl (fun _ => HS) ?_
              rotate_left
              · (intro w9; go_simp; first | done | with_reducible rfl)
              (try simp only [Act.put, List.setIfInBounds_toArray, List.set_cons_zero, List.set_cons_succ])
              refine RegG.wpG.load (v := ?_) 4 5 rfl (by kernel_rfl) (by decide) (by decide) (fun _ _ _ h => h) ?_ rfl HS ?_
              rotate_left
              · (intro w9 hS9; have sf0 := cell_below hS9 f0; have sf1 := cell_below hS9 f1; have sf2 := cell_below hS9 f2; have sf3 := cell_below hS9 f3; have sf4 := cell_below hS9 f4; have sf5 := cell_below hS9 f5; have sf6 := cell_below hS9 f6; have sf7 := cell_below hS9 f7; have sf8 := cell_below hS9 f8; go_simp; first | done | with_reducible rfl)
              (try simp only [Act.put, List.setIfInBounds_toArray, List.set_cons_zero, List.set_cons_succ])
              refine RegG.wpG.two 5 10 (by kernel_rfl) rfl rfl rfl rfl (fun K hK => ?_) (fun K hK => ?_)
              · skip
                go_simp
                go_at_call 22
                (with_reducible refine (of_any r v _).mono ?_)
                rintro e w3 ⟨rfl, hd⟩
                have HS3 := HS.trans (hd.mono HS.size)
                clear hd
                refine hK.out _ _ (fun _ => HS3) ?_
                clear hK K
                (try simp only [Act.put, List.setIfInBounds_toArray, List.set_cons_zero, List.set_cons_succ])
                refine RegG.wpG.two 6 10 (by kernel_rfl) rfl rfl rfl rfl (fun K hK => ?_) (fun K hK => ?_)
                · skip
                  go_simp
                  go_at_call 21
                  (with_reducible refine (HAP.out _ HS3).mono ?_)
                  rintro e w4 ⟨y, rfl, hS4, hd⟩
                  have HS4 := HS3.trans (hd.mono HS3.size)
                  have hlow := HS3.size
                  clear hd
                  refine hK.out _ _ (fun h => absurd h (by decide)) ?_
                  clear hK K
                  (try simp only [Act.put, List.setIfInBounds_toArray, List.set_cons_zero, List.set_cons_succ])
                  refine RegG.wpG.pure (v := ?_) 7 8 rfl (by kernel_rfl) (by decide) (fun _ _ _ h => h) ?_ rfl (fun h => absurd h (by decide)) ?_
                  rotate_left
                  · (intro w9; go_simp; first | done | with_reducible rfl)
                  (try simp only [Act.put, List.setIfInBounds_toArray, List.set_cons_zero, List.set_cons_succ])
                  refine RegG.wpG.pure (v := ?_) 8 11 rfl (by kernel_rfl) (by decide) (fun _ _ _ h => h) ?_ rfl (fun h => absurd h (by decide)) ?_
                  rotate_left
                  · (intro w9; go_simp; first | done | with_reducible rfl)
                  (try simp only [Act.put, List.setIfInBounds_toArray, List.set_cons_zero, List.set_cons_succ])
                  refine RegG.wpG.pure (v := ?_) 9 12 rfl (by kernel_rfl) (by decide) (fun _ _ _ h => h) ?_ rfl (fun h => absurd h (by decide)) ?_
                  rotate_left
                  · (intro w9; go_simp; first | done | with_reducible rfl)
                  (try simp only [Act.put, List.setIfInBounds_toArray, List.set_cons_zero, List.set_cons_succ])
                  refine RegG.wpG.one 10 (by kernel_rfl) rfl rfl (fun K hK => ?_)
                  go_simp
                  have hnA := heap_alloc_new w4 (.cells #[.int .i64 0, .int .i64 0, .slice none 0 0, .slice none 0 0, .slice none 0 0, .slice none 0 0, .slice none 0 0, .slice none 0 0, .slice none 0 0, .int .i64 0, .int .i64 0] 42)
                  have hnz := World.size_alloc w4 (.cells #[.int .i64 0, .int .i64 0, .slice none 0 0, .slice none 0 0, .slice none 0 0, .slice none 0 0, .slice none 0 0, .slice none 0 0, .slice none 0 0, .int .i64 0, .int .i64 0] 42)
                  have hnB := (Below.refl w4.heap.size w4).alloc (Nat.le_refl _) (.cells #[.int .i64 0, .int .i64 0, .slice none 0 0, .slice none 0 0, .slice none 0 0, .slice none 0 0, .slice none 0 0, .slice none 0 0, .slice none 0 0, .int .i64 0, .int .i64 0] 42)
                  have HS5 := HS4.trans (hnB.mono HS4.size)
                  obtain ⟨nb, hnb⟩ : ∃ n, n = w4.heap.size := ⟨_, rfl⟩
                  have hnl : wr.heap.size ≤ nb := by rw [hnb]; exact HS4.size
                  have hS5 := StateB.below hS4 hnB
                  have hgb : nb < w3.heap.size ∨ w4.heap.size ≤ nb := .inr (by rw [hnb]; exact Nat.le_refl _)
                  rw [← hnb] at hnA hnz ⊢
                  clear hnb
                  generalize w4.alloc (.cells #[.int .i64 0, .int .i64 0, .slice none 0 0, .slice none 0 0, .slice none 0 0, .slice none 0 0, .slice none 0 0, .slice none 0 0, .slice none 0 0, .int .i64 0, .int .i64 0] 42) = wa at hnA hnz hnB HS5 hS5 ⊢
                  refine hK.out _ _ (fun h => absurd h (by decide)) ?_
                  clear hK K
                  (try simp only [Act.put, List.setIfInBounds_toArray, List.set_cons_zero, List.set_cons_succ])
                  have hhi : w4.heap.size ≤ wa.heap.size := hnB.size
                  refine RegG.wpG.one 11 (by kernel_rfl) rfl rfl (fun K hK => ?_)
                  refine wp_store_row 42 (.tmp 17) (.tmp 92) rfl nb (y.cells P.1) rfl rfl 42 #[.int .i64 0, .int .i64 0, .slice none 0 0, .slice none 0 0, .slice none 0 0, .slice none 0 0, .slice none 0 0, .slice none 0 0, .slice none 0 0, .int .i64 0, .int .i64 0] hnA info_state rfl (SV.one y P.1) ?_
                  refine hK.out _ _ (fun h => absurd h (by decide)) ?_
                  clear hK K
                  (try simp only [Act.put, List.setIfInBounds_toArray, List.set_cons_zero, List.set_cons_succ])
                  refine RegG.wpG.one 12 (by kernel_rfl) rfl rfl (fun K hK => ?_)
                  go_simp
                  refine hK.out _ _ (fun h => absurd h (by decide)) ?_
                  clear hK K
                  (try simp only [Act.put, List.setIfInBounds_toArray, List.set_cons_zero, List.set_cons_succ])
                  refine RegG.wpG.done (by kernel_rfl) ?_ _
                  go_wp2_with fail
                  go_meet
                  exact ⟨nb, y, _, rfl, rfl, rfl, VarS.put hnA hnl hS5 hgb hhi, below_put HS5 hnl _⟩
                · skip
                  go_simp
                  have hnA := heap_alloc_new w3 (.cells #[.int .i64 0, .int .i64 0, .slice none 0 0, .slice none 0 0, .slice none 0 0, .slice none 0 0, .slice none 0 0, .slice none 0 0, .slice none 0 0, .int .i64 0, .int .i64 0] 42)
                  have hnz := World.size_alloc w3 (.cells #[.int .i64 0, .int .i64 0, .slice none 0 0, .slice none 0 0, .slice none 0 0, .slice none 0 0, .slice none 0 0, .slice none 0 0, .slice none 0 0, .int .i64 0, .int .i64 0] 42)
                  have hnB := (Below.refl w3.heap.size w3).alloc (Nat.le_refl _) (.cells #[.int .i64 0, .int .i64 0, .slice none 0 0, .slice none 0 0, .slice none 0 0, .slice none 0 0, .slice none 0 0, .slice none 0 0, .slice none 0 0, .int .i64 0, .int .i64 0] 42)
                  have HS5 := HS3.trans (hnB.mono HS3.size)
                  obtain ⟨nb, hnb⟩ : ∃ n, n = w3.heap.size := ⟨_, rfl⟩
                  have hnl : wr.heap.size ≤ nb := by rw [hnb]; exact HS3.size
                  rw [← hnb] at hnA hnz ⊢
                  clear hnb
                  generalize w3.alloc (.cells #[.int .i64 0, .int .i64 0, .slice none 0 0, .slice none 0 0, .slice none 0 0, .slice none 0 0, .slice none 0 0, .slice none 0 0, .slice none 0 0, .int .i64 0, .int .i64 0] 42) = wa at hnA hnz hnB HS5 ⊢
                  refine hK.out _ _ (fun _ => HS5) ?_
                  clear hK K
                  (try simp only [Act.put, List.setIfInBounds_toArray, List.set_cons_zero, List.set_cons_succ])
                  refine RegG.wpG.one 6 (by kernel_rfl) rfl rfl (fun K hK => ?_)
                  go_simp
                  go_at_call 21
                  (with_reducible refine (HAP.out _ HS5).mono ?_)
                  rintro e w4 ⟨y, rfl, hS4, hd⟩
                  have HS6 := HS5.trans (hd.mono HS5.size)
                  have hlow := HS5.size
                  replace hnA := (hd.block _ (by omega)).trans hnA
                  have hS5 := hS4
                  have hgb : nb < wa.heap.size ∨ w4.heap.size ≤ nb := .inl (by omega)
                  have hhi := Nat.le_refl w4.heap.size
                  clear hd
                  refine hK.out _ _ (fun h => absurd h (by decide)) ?_
                  clear hK K
                  (try simp only [Act.put, List.setIfInBounds_toArray, List.set_cons_zero, List.set_cons_succ])
                  refine RegG.wpG.pure (v := ?_) 7 8 rfl (by kernel_rfl) (by decide) (fun _ _ _ h => h) ?_ rfl (fun h => absurd h (by decide)) ?_
                  rotate_left
                  · (intro w9; go_simp; first | done | with_reducible rfl)
                  (try simp only [Act.put, List.setIfInBounds_toArray, List.set_cons_zero, List.set_cons_succ])
                  refine RegG.wpG.pure (v := ?_) 8 11 rfl (by kernel_rfl) (by decide) (fun _ _ _ h => h) ?_ rfl (fun h => absurd h (by decide)) ?_
                  rotate_left
                  · (intro w9; go_simp; first | done | with_reducible rfl)
                  (try simp only [Act.put, List.setIfInBounds_toArray, List.set_cons_zero, List.set_cons_succ])
                  refine RegG.wpG.pure (v := ?_) 9 12 rfl (by kernel_rfl) (by decide) (fun _ _ _ h => h) ?_ rfl (fun h => absurd h (by decide)) ?_
                  rotate_left
                  · (intro w9; go_simp; first | done | with_reducible rfl)
                  (try simp only [Act.put, List.setIfInBounds_toArray, List.set_cons_zero, List.set_cons_succ])
                  refine RegG.wpG.one 11 (by kernel_rfl) rfl rfl (fun K hK => ?_)
                  refine wp_store_row 42 (.tmp 17) (.tmp 92) rfl nb (y.cells P.1) rfl rfl 42 #[.int .i64 0, .int .i64 0, .slice none 0 0, .slice none 0 0, .slice none 0 0, .slice none 0 0, .slice none 0 0, .slice none 0 0, .slice none 0 0, .int .i64 0, .int .i64 0] hnA info_state rfl (SV.one y P.1) ?_
                  refine hK.out _ _ (fun h => absurd h (by decide)) ?_
                  clear hK K
                  (try simp only [Act.put, List.setIfInBounds_toArray, List.set_cons_zero, List.set_cons_succ])
                  refine RegG.wpG.one 12 (by kernel_rfl) rfl rfl (fun K hK => ?_)
                  go_simp
                  refine hK.out _ _ (fun h => absurd h (by decide)) ?_
                  clear hK K
                  (try simp only [Act.put, List.setIfInBounds_toArray, List.set_cons_zero, List.set_cons_succ])
                  refine RegG.wpG.done (by kernel_rfl) ?_ _
                  go_wp2_with fail
                  go_meet
                  exact ⟨nb, y, _, rfl, rfl, rfl, VarS.put hnA hnl hS5 hgb hhi, below_put HS6 hnl _⟩
              · skip
                go_simp
                have hnA := heap_alloc_new Wd (.cells #[.int .i64 0, .int .i64 0, .slice none 0 0, .slice none 0 0, .slice none 0 0, .slice none 0 0, .slice none 0 0, .slice none 0 0, .slice none 0 0, .int .i64 0, .int .i64 0] 42)
                have hnz := World.size_alloc Wd (.cells #[.int .i64 0, .int .i64 0, .slice none 0 0, .slice none 0 0, .slice none 0 0, .slice none 0 0, .slice none 0 0, .slice none 0 0, .slice none 0 0, .int .i64 0, .int .i64 0] 42)
                have hnB := (Below.refl Wd.heap.size Wd).alloc (Nat.le_refl _) (.cells #[.int .i64 0, .int .i64 0, .slice none 0 0, .slice none 0 0, .slice none 0 0, .slice none 0 0, .slice none 0 0, .slice none 0 0, .slice none 0 0, .int .i64 0, .int .i64 0] 42)
                have HS0 := HS.trans (hnB.mono HS.size)
                obtain ⟨nb, hnb⟩ : ∃ n, n = Wd.heap.size := ⟨_, rfl⟩
                have hnl : wr.heap.size ≤ nb := by rw [hnb]; exact HS.size
                rw [← hnb] at hnA hnz ⊢
                clear hnb
                generalize Wd.alloc (.cells #[.int .i64 0, .int .i64 0, .slice none 0 0, .slice none 0 0, .slice none 0 0, .slice none 0 0, .slice none 0 0, .slice none 0 0, .slice none 0 0, .int .i64 0, .int .i64 0] 42) = wa at hnA hnz hnB HS0 ⊢
                refine hK.out _ _ (fun _ => HS0) ?_
                clear hK K
                (try simp only [Act.put, List.setIfInBounds_toArray, List.set_cons_zero, List.set_cons_succ])
                have HZ := HS
                replace HS := HS0
                refine RegG.wpG.one 5 (by kernel_rfl) rfl rfl (fun K hK => ?_)
                go_simp
                go_at_call 22
                (with_reducible refine (of_any r v _).mono ?_)
                rintro e w3 ⟨rfl, hd⟩
                have HS3 := HS.trans (hd.mono HS.size)
                replace hnA := (hd.block _ (by omega)).trans hnA
                have hnz3 := hd.size
                clear hd
                refine hK.out _ _ (fun _ => HS3) ?_
                clear hK K
                (try simp only [Act.put, List.setIfInBounds_toArray, List.set_cons_zero, List.set_cons_succ])
                refine RegG.wpG.one 6 (by kernel_rfl) rfl rfl (fun K hK => ?_)
                go_simp
                go_at_call 21
                (with_reducible refine (HAP.out _ HS3).mono ?_)
                rintro e w4 ⟨y, rfl, hS4, hd⟩
                have HS4 := HS3.trans (hd.mono HS3.size)
                have hlow := HS3.size
                replace hnA := (hd.block _ (by omega)).trans hnA
                have hS5 := hS4
                have hgb : nb < w3.heap.size ∨ w4.heap.size ≤ nb := .inl (by omega)
                have hhi := Nat.le_refl w4.heap.size
                clear hd
                refine hK.out _ _ (fun h => absurd h (by decide)) ?_
                clear hK K
                (try simp only [Act.put, List.setIfInBounds_toArray, List.set_cons_zero, List.set_cons_succ])
                refine RegG.wpG.pure (v := ?_) 7 8 rfl (by kernel_rfl) (by decide) (fun _ _ _ h => h) ?_ rfl (fun h => absurd h (by decide)) ?_
                rotate_left
                · (intro w9; go_simp; first | done | with_reducible rfl)
                (try simp only [Act.put, List.setIfInBounds_toArray, List.set_cons_zero, List.set_cons_succ])
                refine RegG.wpG.pure (v := ?_) 8 11 rfl (by kernel_rfl) (by decide) (fun _ _ _ h => h) ?_ rfl (fun h => absurd h (by decide)) ?_
                rotate_left
                · (intro w9; go_simp; first | done | with_reducible rfl)
                (try simp only [Act.put, List.setIfInBounds_toArray, List.set_cons_zero, List.set_cons_succ])
                refine RegG.wpG.pure (v := ?_) 9 12 rfl (by kernel_rfl) (by decide) (fun _ _ _ h => h) ?_ rfl (fun h => absurd h (by decide)) ?_
                rotate_left
                · (intro w9; go_simp; first | done | with_reducible rfl)
                (try simp only [Act.put, List.setIfInBounds_toArray, List.set_cons_zero, List.set_cons_succ])
                refine RegG.wpG.one 11 (by kernel_rfl) rfl rfl (fun K hK => ?_)
                refine wp_store_row 42 (.tmp 17) (.tmp 92) rfl nb (y.cells P.1) rfl rfl 42 #[.int .i64 0, .int .i64 0, .slice none 0 0, .slice none 0 0, .slice none 0 0, .slice none 0 0, .slice none 0 0, .slice none 0 0, .slice none 0 0, .int .i64 0, .int .i64 0] hnA info_state rfl (SV.one y P.1) ?_
                refine hK.out _ _ (fun h => absurd h (by decide)) ?_
                clear hK K
                (try simp only [Act.put, List.setIfInBounds_toArray, List.set_cons_zero, List.set_cons_succ])
                refine RegG.wpG.one 12 (by kernel_rfl) rfl rfl (fun K hK => ?_)
                go_simp
                refine hK.out _ _ (fun h => absurd h (by decide)) ?_
                clear hK K
                (try simp only [Act.put, List.setIfInBounds_toArray, List.set_cons_zero, List.set_cons_succ])
                refine RegG.wpG.done (by kernel_rfl) ?_ _
                go_wp2_with fail
                go_meet
                exact ⟨nb, y, _, rfl, rfl, rfl, VarS.put hnA hnl hS5 hgb hhi, below_put HS4 hnl _⟩
            case rest =>
              obtain ⟨nb, y, wx, rfl, rfl, rfl, HN, HS⟩ := hcut
              clear HAP hm hsl p0 p1 p2 p3 p4 p5 p6 p7 p8 p9 p10
              obtain ⟨e1, n3, hE, hle, hn0⟩ := ends_law r hfin
              obtain rfl : P = ({ s with ep := e1 }, n3) := HP.out.trans hE
              dsimp only at HN ⊢
              clear HP hE
              have HG := HVV.out.below HS
              replace f0 := cell_below HS f0
              have p1 : wx.cell? ⟨g, 1, none⟩ = some (.int .i64 s.ep) := HG.cell (j := 1) rfl
              have q1 : wx.cell? ⟨nb, 1, none⟩ = some (.int .i64 e1) := HN.cell (j := 1) rfl
              have zn : wx.frozen? ⟨nb, 1, none⟩ = false := Lib.frozen_of_heap HN.box 1
              have HE := Lib.hid hle
              have HB0 := Lib.hid HB
              have HN9 := Lib.hid HN
              have HF := Lib.hid hfin
              have te : decide (e1 < s.ep) = false := by simp; omega
              clear HB HG hle hfin HN
              by_cases hn : n3 = 0
              · subst hn
                have hk0 := hn0 rfl
                rw [hk0] at f0
                clear hn0 hk0
                go_upto_region 22 with fail
                have HN2 : VarS wr (wx.setCell ⟨nb, 1, none⟩ (.int .i64 s.ep)) nb y s := HN9.out.epoch s.ep
                have HS2 := HS.setCell (p := ⟨nb, 1, none⟩) HN9.out.lo (.int .i64 s.ep)
                generalize wx.setCell ⟨nb, 1, none⟩ (.int .i64 s.ep) = W6 at HN2 HS2 ⊢
                have HG2 := HVV.out.below HS2
                clear p1 q1 zn f0 f1 f2 f3 f4 f5 f6 f7 f8
                have p0 : W6.cell? ⟨g, 0, none⟩ = some (.int .i64 s.n) := HG2.cell (j := 0) rfl
                have p1 : W6.cell? ⟨g, 1, none⟩ = some (.int .i64 s.ep) := HG2.cell (j := 1) rfl
                have p2 : W6.cell? ⟨g, 2, none⟩ = some (.slice x.A2 s.done.length x.c2) := HG2.cell (j := 2) rfl
                have p3 : W6.cell? ⟨g, 3, none⟩ = some (.slice x.A3 s.done.length x.c3) := HG2.cell (j := 3) rfl
                have p4 : W6.cell? ⟨g, 4, none⟩ = some (.slice x.A4 s.done.length x.c4) := HG2.cell (j := 4) rfl
                have p5 : W6.cell? ⟨g, 5, none⟩ = some (.slice x.A5 s.has.length x.c5) := HG2.cell (j := 5) rfl
                have p6 : W6.cell? ⟨g, 6, none⟩ = some (.slice x.A6 s.has.length x.c6) := HG2.cell (j := 6) rfl
                have p7 : W6.cell? ⟨g, 7, none⟩ = some (.slice x.A7 s.has.length x.c7) := HG2.cell (j := 7) rfl
                have p8 : W6.cell? ⟨g, 8, none⟩ = some (.slice x.A8 s.has.length x.c8) := HG2.cell (j := 8) rfl
                have p9 : W6.cell? ⟨g, 9, none⟩ = some (.int .i64 s.fin) := HG2.cell (j := 9) rfl
                have p10 : W6.cell? ⟨g, 10, none⟩ = some (.int .i64 s.er) := HG2.cell (j := 10) rfl
                have q0 : W6.cell? ⟨nb, 0, none⟩ = some (.int .i64 s.n) := HN2.cell (j := 0) rfl
                have q1 : W6.cell? ⟨nb, 1, none⟩ = some (.int .i64 s.ep) := HN2.cell (j := 1) rfl
                have q2 : W6.cell? ⟨nb, 2, none⟩ = some (.slice y.A2 s.done.length y.c2) := HN2.cell (j := 2) rfl
                have q3 : W6.cell? ⟨nb, 3, none⟩ = some (.slice y.A3 s.done.length y.c3) := HN2.cell (j := 3) rfl
                have q4 : W6.cell? ⟨nb, 4, none⟩ = some (.slice y.A4 s.done.length y.c4) := HN2.cell (j := 4) rfl
                have q5 : W6.cell? ⟨nb, 5, none⟩ = some (.slice y.A5 s.has.length y.c5) := HN2.cell (j := 5) rfl
                have q6 : W6.cell? ⟨nb, 6, none⟩ = some (.slice y.A6 s.has.length y.c6) := HN2.cell (j := 6) rfl
                have q7 : W6.cell? ⟨nb, 7, none⟩ = some (.slice y.A7 s.has.length y.c7) := HN2.cell (j := 7) rfl
                have q8 : W6.cell? ⟨nb, 8, none⟩ = some (.slice y.A8 s.has.length y.c8) := HN2.cell (j := 8) rfl
                have q9 : W6.cell? ⟨nb, 9, none⟩ = some (.int .i64 s.fin) := HN2.cell (j := 9) rfl
                have q10 : W6.cell? ⟨nb, 10, none⟩ = some (.int .i64 s.er) := HN2.cell (j := 10) rfl
                have HGG := Lib.hid HG2
                have HNN := Lib.hid HN2
                clear HG2 HN2
                go_upto_region 24 with (go_at_call 25; (with_reducible refine (same_v y x s _ HNN.out.state HGG.out.state).mono ?_); rintro e w7 ⟨rfl, hd⟩; replace p1 := cell_below hd p1; have HG3 := Lib.hid (HGG.out.below hd); have HS3 := HS2.trans (hd.mono HS2.size); clear hd)
                have zg : w7.frozen? ⟨g, 1, none⟩ = false := Lib.frozen_of_heap HG3.out.box 1
                have HB3 := Lib.hid (((HB0.out.trans (HS3.mono HB0.out.size))).setCell (p := ⟨g, 1, none⟩) HG3.out.lo (.int .i64 e1))
                have HG4 := Lib.hid (HG3.out.epoch e1)
                clear p0 p2 p3 p4 p5 p6 p7 p8 p9 p10 q0 q1 q2 q3 q4 q5 q6 q7 q8 q9 q10
                go_wp2
                go_roundw
                case rel => exact ⟨k + 1, x, { s with ep := e1 }, by omega, by go_num, HG4.out, HF.out, HB3.out⟩
                case measure => simp [intOf]; omega
              · have tn : (((n3 : Nat) : Int) == 0) = false := by simp; omega
                clear hn0 hn
                go_upto_region 22 with fail
                have HN2 : VarS wr (wx.setCell ⟨nb, 1, none⟩ (.int .i64 s.ep)) nb y s := HN9.out.epoch s.ep
                have HS2 := HS.setCell (p := ⟨nb, 1, none⟩) HN9.out.lo (.int .i64 s.ep)
                generalize wx.setCell ⟨nb, 1, none⟩ (.int .i64 s.ep) = W6 at HN2 HS2 ⊢
                have HG2 := HVV.out.below HS2
                clear p1 q1 zn f0 f1 f2 f3 f4 f5 f6 f7 f8
                have p0 : W6.cell? ⟨g, 0, none⟩ = some (.int .i64 s.n) := HG2.cell (j := 0) rfl
                have p1 : W6.cell? ⟨g, 1, none⟩ = some (.int .i64 s.ep) := HG2.cell (j := 1) rfl
                have p2 : W6.cell? ⟨g, 2, none⟩ = some (.slice x.A2 s.done.length x.c2) := HG2.cell (j := 2) rfl
                have p3 : W6.cell? ⟨g, 3, none⟩ = some (.slice x.A3 s.done.length x.c3) := HG2.cell (j := 3) rfl
                have p4 : W6.cell? ⟨g, 4, none⟩ = some (.slice x.A4 s.done.length x.c4) := HG2.cell (j := 4) rfl
                have p5 : W6.cell? ⟨g, 5, none⟩ = some (.slice x.A5 s.has.length x.c5) := HG2.cell (j := 5) rfl
                have p6 : W6.cell? ⟨g, 6, none⟩ = some (.slice x.A6 s.has.length x.c6) := HG2.cell (j := 6) rfl
                have p7 : W6.cell? ⟨g, 7, none⟩ = some (.slice x.A7 s.has.length x.c7) := HG2.cell (j := 7) rfl
                have p8 : W6.cell? ⟨g, 8, none⟩ = some (.slice x.A8 s.has.length x.c8) := HG2.cell (j := 8) rfl
                have p9 : W6.cell? ⟨g, 9, none⟩ = some (.int .i64 s.fin) := HG2.cell (j := 9) rfl
                have p10 : W6.cell? ⟨g, 10, none⟩ = some (.int .i64 s.er) := HG2.cell (j := 10) rfl
                have q0 : W6.cell? ⟨nb, 0, none⟩ = some (.int .i64 s.n) := HN2.cell (j := 0) rfl
                have q1 : W6.cell? ⟨nb, 1, none⟩ = some (.int .i64 s.ep) := HN2.cell (j := 1) rfl
                have q2 : W6.cell? ⟨nb, 2, none⟩ = some (.slice y.A2 s.done.length y.c2) := HN2.cell (j := 2) rfl
                have q3 : W6.cell? ⟨nb, 3, none⟩ = some (.slice y.A3 s.done.length y.c3) := HN2.cell (j := 3) rfl
                have q4 : W6.cell? ⟨nb, 4, none⟩ = some (.slice y.A4 s.done.length y.c4) := HN2.cell (j := 4) rfl
                have q5 : W6.cell? ⟨nb, 5, none⟩ = some (.slice y.A5 s.has.length y.c5) := HN2.cell (j := 5) rfl
                have q6 : W6.cell? ⟨nb, 6, none⟩ = some (.slice y.A6 s.has.length y.c6) := HN2.cell (j := 6) rfl
                have q7 : W6.cell? ⟨nb, 7, none⟩ = some (.slice y.A7 s.has.length y.c7) := HN2.cell (j := 7) rfl
                have q8 : W6.cell? ⟨nb, 8, none⟩ = some (.slice y.A8 s.has.length y.c8) := HN2.cell (j := 8) rfl
                have q9 : W6.cell? ⟨nb, 9, none⟩ = some (.int .i64 s.fin) := HN2.cell (j := 9) rfl
                have q10 : W6.cell? ⟨nb, 10, none⟩ = some (.int .i64 s.er) := HN2.cell (j := 10) rfl
                have HGG := Lib.hid HG2
                have HNN := Lib.hid HN2
                clear HG2 HN2
                go_upto_region 24 with (go_at_call 25; (with_reducible refine (same_v y x s _ HNN.out.state HGG.out.state).mono ?_); rintro e w7 ⟨rfl, hd⟩; replace p1 := cell_below hd p1; have HG3 := Lib.hid (HGG.out.below hd); have HS3 := HS2.trans (hd.mono HS2.size); clear hd)
                have zg : w7.frozen? ⟨g, 1, none⟩ = false := Lib.frozen_of_heap HG3.out.box 1
                have HB3 := Lib.hid (((HB0.out.trans (HS3.mono HB0.out.size))).setCell (p := ⟨g, 1, none⟩) HG3.out.lo (.int .i64 e1))
                have HG4 := Lib.hid (HG3.out.epoch e1)
                clear p0 p2 p3 p4 p5 p6 p7 p8 p9 p10 q0 q1 q2 q3 q4 q5 q6 q7 q8 q9 q10
                go_wp2
                go_roundw
                case rel => exact ⟨k + 1, x, { s with ep := e1 }, by omega, by go_num, HG4.out, HF.out, HB3.out⟩
                case measure => simp [intOf]; omega
          · obtain rfl : k = n2 := by omega
            go_wp2
            go_ret
            exact ⟨rfl, HB⟩
end
end Go.Proofs.Ytmlemichkeomjaa.LedW
