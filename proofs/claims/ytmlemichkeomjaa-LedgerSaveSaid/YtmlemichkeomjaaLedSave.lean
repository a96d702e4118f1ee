/- stooklaw20.LedgerSave walked. -/
import Derived.Test.YtmlemichkeomjaaM15
import Derived.Deep.CutRange
set_option linter.unusedVariables false
set_option linter.unusedSimpArgs false
namespace Go.Proofs.Ytmlemichkeomjaa.LedW
open Go.RowKit Go.Proofs.Ytmlemichkeomjaa.Base Go.Proofs.Ytmlemichkeomjaa.MendW Go.Proofs.Ytmlemichkeomjaa.ManP Go.Proofs.Ytmlemichkeomjaa.ManW Go.Proofs.Ytmlemichkeomjaa.LedP Go.Proofs.Ytmlemichkeomjaa.JrnP Go.Proofs.Ytmlemichkeomjaa.JrnW
section
variable (t p n : Nat) (A : Option Addr) (n1 c1 : Nat) (rs : List LR) (vs : Nat → MV) (w : World)
set_option maxRecDepth 100000 in
set_option maxHeartbeats 4000000 in
theorem save_bad (hR : RecsV w A rs vs) (hl1 : rs.length = n1) (hn1 : n1 ≤ maxLen) (ht8 : t ≤ 255) (hp8 : p ≤ 255) (hn8 : n ≤ 255) (hg : ¬ ((1 ≤ (t : Int) ∧ (t : Int) ≤ 16) ∧ (1 ≤ (p : Int) ∧ (p : Int) ≤ 16) ∧ (1 ≤ (n : Int) ∧ (n : Int) ≤ 16))) :
    Calls Try.prog 10 #[.int .u8 (t : Nat), .int .u8 (p : Nat), .int .u8 (n : Nat), .slice A n1 c1] w fun e w' => e = .returned (.bool true) ∧ Below w.heap.size w w' := by
  have KS1 := Lib.hid (fun W (h : Below w.heap.size w W) => small20_any A n1 c1 rs vs W (hR.below h) hl1 hn1); have HR := Lib.hid hR; have HL1 := Lib.hid hl1; have hm1 : n1 ≤ 9223372036854775807 := by simpa [maxLen] using hn1
  have KN := Lib.hid (fun W => new_no t p n hg W)
  have HB := Below.refl w.heap.size w
  clear hR hl1 hn1 hg
  go_enter Try.func10, Try.ntmps10
  go_wp2_with (first | (go_at_call 16; (with_reducible refine (awake20_any _).mono ?_); rintro e w2 ⟨rfl, hd⟩; replace HB := HB.trans (hd.mono HB.size); clear hd) | (go_at_call 17; (with_reducible refine (KS1.out _ HB).mono ?_); rintro e w2 ⟨q1, rfl, hs1, hd⟩; replace HB := HB.trans (hd.mono HB.size); clear hd; have F1 := Lib.hid hs1; (rcases hs1 with rfl | ⟨rfl, hs1⟩)) | (go_at_call 18; (with_reducible refine (KN.out _).mono ?_); rintro e w3 ⟨rfl, hd⟩; replace HB := HB.trans (hd.mono HB.size); clear hd))
  · go_ret
    exact ⟨rfl, HB⟩
  · go_ret
    exact ⟨rfl, HB.alloc HB.size _⟩
set_option maxRecDepth 100000 in
set_option maxHeartbeats 16000000 in
theorem save_good (hR : RecsV w A rs vs) (hl1 : rs.length = n1) (hn1 : n1 ≤ maxLen) (ht : 1 ≤ t ∧ t ≤ 16) (hp : 1 ≤ p ∧ p ≤ 16) (hn : 1 ≤ n ∧ n ≤ 16) :
    Calls Try.prog 10 #[.int .u8 (t : Nat), .int .u8 (p : Nat), .int .u8 (n : Nat), .slice A n1 c1] w fun e w' => e = .returned (.bool true) ∧ Below w.heap.size w w' := by
  have KS1 := Lib.hid (fun W (h : Below w.heap.size w W) => small20_any A n1 c1 rs vs W (hR.below h) hl1 hn1); have HR := Lib.hid hR; have HL1 := Lib.hid hl1; have hm1 : n1 ≤ 9223372036854775807 := by simpa [maxLen] using hn1
  have KN := Lib.hid (fun W => new_v t p n ht hp hn W)
  have HB := Below.refl w.heap.size w
  have HA0 := Lib.hid (AccJ.start (t := t) (p := p) (n := n) ht.2 hp.2)
  have HS0 := Lib.hid (fun (s : LS) (h : LedP.Reach t p n s) => newS_st h)
  have KJ : ∀ W, Calls Try.prog 34 #[.string ⟨#[]⟩] W fun e w' => ∃ b, e = .returned (.pointer (some ⟨b, 0, none⟩)) ∧ JAt w' W.heap.size b [] ∧ Below W.heap.size W w' := fun W => by
    have h := jopen_any (str []) W (by rw [str_size]; simp)
    rw [str_list, recs_nil] at h
    exact h
  replace KJ := Lib.hid KJ
  have ht8 : t ≤ 255 := by omega
  have hp8 : p ≤ 255 := by omega
  have hn8 : n ≤ 255 := by omega
  clear hR hl1 hn1 ht hp hn
  generalize newS t p n = s0 at KN HA0 HS0
  go_enter Try.func10, Try.ntmps10
  go_upto_region 4 with (first | (go_at_call 16; (with_reducible refine (awake20_any _).mono ?_); rintro e w2 ⟨rfl, hd⟩; replace HB := HB.trans (hd.mono HB.size); clear hd) | (go_at_call 17; (with_reducible refine (KS1.out _ HB).mono ?_); rintro e w2 ⟨q1, rfl, hs1, hd⟩; replace HB := HB.trans (hd.mono HB.size); clear hd; have F1 := Lib.hid hs1; (rcases hs1 with rfl | ⟨rfl, hs1⟩)) | (go_at_call 18; (with_reducible refine (KN.out _).mono ?_); rintro e w3 ⟨x0, rfl, hS0, hd⟩; replace HB := HB.trans (hd.mono HB.size); clear hd))
  · go_ret
    exact ⟨rfl, HB⟩
  have hA := heap_alloc_new w3 (.cells #[.int .i64 s0.n, .int .i64 s0.ep, .slice x0.A2 s0.done.length x0.c2, .slice x0.A3 s0.done.length x0.c3, .slice x0.A4 s0.done.length x0.c4, .slice x0.A5 s0.has.length x0.c5, .slice x0.A6 s0.has.length x0.c6, .slice x0.A7 s0.has.length x0.c7, .slice x0.A8 s0.has.length x0.c8, .int .i64 s0.fin, .int .i64 s0.er] 42)
  have hb := (Below.refl w3.heap.size w3).alloc (Nat.le_refl _) (.cells #[.int .i64 s0.n, .int .i64 s0.ep, .slice x0.A2 s0.done.length x0.c2, .slice x0.A3 s0.done.length x0.c3, .slice x0.A4 s0.done.length x0.c4, .slice x0.A5 s0.has.length x0.c5, .slice x0.A6 s0.has.length x0.c6, .slice x0.A7 s0.has.length x0.c7, .slice x0.A8 s0.has.length x0.c8, .int .i64 s0.fin, .int .i64 s0.er] 42)
  have hz := World.size_alloc w3 (.cells #[.int .i64 s0.n, .int .i64 s0.ep, .slice x0.A2 s0.done.length x0.c2, .slice x0.A3 s0.done.length x0.c3, .slice x0.A4 s0.done.length x0.c4, .slice x0.A5 s0.has.length x0.c5, .slice x0.A6 s0.has.length x0.c6, .slice x0.A7 s0.has.length x0.c7, .slice x0.A8 s0.has.length x0.c8, .int .i64 s0.fin, .int .i64 s0.er] 42)
  have hS1 := StateB.below hS0 hb
  have hwg := HB.size
  replace HB := HB.trans (hb.mono HB.size)
  obtain ⟨g0, hg0⟩ : ∃ g, g = w3.heap.size := ⟨_, rfl⟩
  rw [← hg0] at hA hz hS1 hwg ⊢
  generalize w3.alloc (.cells #[.int .i64 s0.n, .int .i64 s0.ep, .slice x0.A2 s0.done.length x0.c2, .slice x0.A3 s0.done.length x0.c3, .slice x0.A4 s0.done.length x0.c4, .slice x0.A5 s0.has.length x0.c5, .slice x0.A6 s0.has.length x0.c6, .slice x0.A7 s0.has.length x0.c7, .slice x0.A8 s0.has.length x0.c8, .int .i64 s0.fin, .int .i64 s0.er] 42) = W0 at hA hS1 HB hz ⊢
  clear hS0 hb hg0
  obtain ⟨p0, p1, p2, p3, p4, p5, p6, p7, p8, p9, p10⟩ := cells11 hA
  have HZ := Lib.hid hz
  clear hz
  go_upto_region 7 with fail
  have hz := HZ.out
  have hA2 := heap_alloc_new W0 (.cells #[.int .i64 s0.n, .int .i64 s0.ep, .slice x0.A2 s0.done.length x0.c2, .slice x0.A3 s0.done.length x0.c3, .slice x0.A4 s0.done.length x0.c4, .slice x0.A5 s0.has.length x0.c5, .slice x0.A6 s0.has.length x0.c6, .slice x0.A7 s0.has.length x0.c7, .slice x0.A8 s0.has.length x0.c8, .int .i64 s0.fin, .int .i64 s0.er] 42)
  have hb := (Below.refl W0.heap.size W0).alloc (Nat.le_refl _) (.cells #[.int .i64 s0.n, .int .i64 s0.ep, .slice x0.A2 s0.done.length x0.c2, .slice x0.A3 s0.done.length x0.c3, .slice x0.A4 s0.done.length x0.c4, .slice x0.A5 s0.has.length x0.c5, .slice x0.A6 s0.has.length x0.c6, .slice x0.A7 s0.has.length x0.c7, .slice x0.A8 s0.has.length x0.c8, .int .i64 s0.fin, .int .i64 s0.er] 42)
  have hz1 := World.size_alloc W0 (.cells #[.int .i64 s0.n, .int .i64 s0.ep, .slice x0.A2 s0.done.length x0.c2, .slice x0.A3 s0.done.length x0.c3, .slice x0.A4 s0.done.length x0.c4, .slice x0.A5 s0.has.length x0.c5, .slice x0.A6 s0.has.length x0.c6, .slice x0.A7 s0.has.length x0.c7, .slice x0.A8 s0.has.length x0.c8, .int .i64 s0.fin, .int .i64 s0.er] 42)
  replace hA := (hb.block _ (by omega)).trans hA
  replace hS1 := StateB.below hS1 (hb.mono (by omega))
  replace HB := HB.trans (hb.mono HB.size)
  obtain ⟨g, hg⟩ : ∃ g, g = W0.heap.size := ⟨_, rfl⟩
  rw [← hg] at hA2 hz1 ⊢
  generalize W0.alloc (.cells #[.int .i64 s0.n, .int .i64 s0.ep, .slice x0.A2 s0.done.length x0.c2, .slice x0.A3 s0.done.length x0.c3, .slice x0.A4 s0.done.length x0.c4, .slice x0.A5 s0.has.length x0.c5, .slice x0.A6 s0.has.length x0.c6, .slice x0.A7 s0.has.length x0.c7, .slice x0.A8 s0.has.length x0.c8, .int .i64 s0.fin, .int .i64 s0.er] 42) = W1 at hA hA2 hS1 HB hz1 ⊢
  have hgg : g = g0 + 1 := by omega
  clear hb hz HZ hg p0 p1 p2 p3 p4 p5 p6 p7 p8 p9 p10
  have HZ1 := Lib.hid hz1
  have HGG := Lib.hid hgg
  clear hz1 hgg
  go_upto_region 8 with (go_at_call 34; (with_reducible refine (KJ.out _).mono ?_); rintro e w4 ⟨b, rfl, hJ, hd⟩)
  have hz1 := HZ1.out
  have hgg := HGG.out
  rw [hz1] at hJ
  have HF : w4.heap[g0]? = some (.cells #[.int .i64 s0.n, .int .i64 s0.ep, .slice x0.A2 s0.done.length x0.c2, .slice x0.A3 s0.done.length x0.c3, .slice x0.A4 s0.done.length x0.c4, .slice x0.A5 s0.has.length x0.c5, .slice x0.A6 s0.has.length x0.c6, .slice x0.A7 s0.has.length x0.c7, .slice x0.A8 s0.has.length x0.c8, .int .i64 s0.fin, .int .i64 s0.er] 42 (0, 0)) := (hd.block _ (by omega)).trans hA
  have HFS := StateB.below hS1 (hd.mono (by omega))
  have HVA := (hd.block _ (by omega)).trans hA2
  have HV : VarS w w4 g x0 s0 := ⟨HVA, ⟨_, _, HFS, .inr (by omega), by have := hd.size; omega⟩, by omega⟩
  replace HB := HB.trans (hd.mono HB.size)
  have hg4 : g < w4.heap.size := by have := hd.size; omega
  have HFF := Lib.hid HF
  have HFSS := Lib.hid HFS
  have HB4 := Lib.hid HB
  have HWG := Lib.hid (show w.heap.size ≤ g by omega)
  have HG4 := Lib.hid hg4
  have HHI := Lib.hid (show g0 ≤ g by omega)
  have HLT := Lib.hid (show g0 < g by omega)
  clear hA hA2 hS1 hd hz1 HZ1 hwg hgg HF HFS HVA hg4 HB
  obtain ⟨W4, rfl⟩ : ∃ W4, W4 = w4 := ⟨_, rfl⟩
  go_wp2
  go_loopw [13, 14, 15, 16] (fun d i _ _ wr => ∃ (k : Nat) (x : SV) (s : LS) (acc : List LR) (na : Nat), k ≤ n1 ∧ i = .int .i64 k ∧ d = .int .i64 na ∧ acc.length = na ∧ na ≤ k ∧ VarS w wr g x s ∧ JAt wr (g + 1) b (encs acc) ∧ AccJ s0 t p n s acc ∧ Below g W4 wr) (fun _ i _ _ _ => n1 - (intOf i).toNat)
  case atStart => exact ⟨0, x0, s0, [], 0, by omega, rfl, rfl, rfl, Nat.le_refl _, HV, hJ, HA0.out, Below.refl _ _⟩
  case round =>
    clear HV hJ
    obtain ⟨k, x, s, acc, na, hk, rfl, rfl, hna, hnk, HV, hJ, hAcc, HBg⟩ := hrel
    have HVV := Lib.hid HV
    have HJJ := Lib.hid hJ
    have HAC := Lib.hid hAcc
    have HNA := Lib.hid hna
    have HBG := Lib.hid HBg
    have HBW := Lib.hid (HB4.out.trans (HBg.mono HWG.out))
    have FS1 := Lib.hid (F1.out.resolve_left (by decide)).2
    have hn60 : n1 ≤ 60 := by have := FS1.out.1; have := HL1.out; omega
    clear hJ hAcc hna HBg
    by_cases hlt : k < n1
    · skip
      have hkl : k < rs.length := by have := HL1.out; omega
      obtain ⟨b0, off, rfl, hc⟩ := HR.out.block (by omega)
      have hm := Lib.hid ((HR.out.below HBW.out).man k hkl)
      have hmw := Lib.hid (HR.out.man k hkl)
      have RA := hc k hkl
      have hsl := Lib.hid (FS1.out.2 _ (List.getElem_mem hkl)).1
      have htx := Lib.hid (FS1.out.2 _ (List.getElem_mem hkl)).2
      obtain ⟨r, hr⟩ : ∃ r, r = rs[k] := ⟨_, rfl⟩
      rw [← hr] at RA hm hsl hmw htx
      generalize vs k = v at RA hm hmw
      clear hc hr
      have HRA := Lib.hid RA
      obtain ⟨f0, f1, f2, f3, f4, f5, f6, f7, f8⟩ := RA.below HBW.out
      clear RA
      obtain ⟨P, hP⟩ : ∃ P, P = applyP s r := ⟨_, rfl⟩
      have HAP := Lib.hid (fun W (h : Below wr.heap.size wr W) => apply_v x s r v W (HVV.out.state.below h) (hm.out.below h) hsl.out)
      rw [← hP] at HAP
      have HP := Lib.hid hP
      clear hP
      have p0 : wr.cell? ⟨g, 0, none⟩ = some (.int .i64 s.n) := HVV.out.cell (j := 0) rfl
      have p1 : wr.cell? ⟨g, 1, none⟩ = some (.int .i64 s.ep) := HVV.out.cell (j := 1) rfl
      have p2 : wr.cell? ⟨g, 2, none⟩ = some (.slice x.A2 s.done.length x.c2) := HVV.out.cell (j := 2) rfl
      have p3 : wr.cell? ⟨g, 3, none⟩ = some (.slice x.A3 s.done.length x.c3) := HVV.out.cell (j := 3) rfl
      have p4 : wr.cell? ⟨g, 4, none⟩ = some (.slice x.A4 s.done.length x.c4) := HVV.out.cell (j := 4) rfl
      have p5 : wr.cell? ⟨g, 5, none⟩ = some (.slice x.A5 s.has.length x.c5) := HVV.out.cell (j := 5) rfl
      have p6 : wr.cell? ⟨g, 6, none⟩ = some (.slice x.A6 s.has.length x.c6) := HVV.out.cell (j := 6) rfl
      have p7 : wr.cell? ⟨g, 7, none⟩ = some (.slice x.A7 s.has.length x.c7) := HVV.out.cell (j := 7) rfl
      have p8 : wr.cell? ⟨g, 8, none⟩ = some (.slice x.A8 s.has.length x.c8) := HVV.out.cell (j := 8) rfl
      have p9 : wr.cell? ⟨g, 9, none⟩ = some (.int .i64 s.fin) := HVV.out.cell (j := 9) rfl
      have p10 : wr.cell? ⟨g, 10, none⟩ = some (.int .i64 s.er) := HVV.out.cell (j := 10) rfl
      clear HV
      go_upto_region 12 with fail
      go_cut [15, 16] from 54 to 63 (fun s15 s16 wx => ∃ (nb : Nat) (y : SV) (W9 : World), W9 = wx ∧ s15 = .pointer (some ⟨nb, 0, none⟩) ∧ s16 = .int .i64 P.2 ∧ VarN wr wx nb y P.1 ∧ Below wr.heap.size wr wx)
      case first =>
        have HS : Below wr.heap.size wr wr.drew := (Below.refl _ _).drew
        refine RegG.wp_region_g (fun W => Below wr.heap.size wr W) [5, 6] (by kernel_rfl) ?_
        generalize wr.drew = Wd at HS ⊢
        refine RegG.wpG.pure (v := ?_) 1 3 rfl (by kernel_rfl) (by decide) (fun _ _ _ h => h) ?_ rfl (fun _ => HS) ?_
        rotate_left
        · (intro w9; go_simp; first | done | with_reducible rfl)
        (try simp only [Act.put, List.setIfInBounds_toArray, List.set_cons_zero, List.set_cons_succ])
        refine RegG.wpG.pure (v := ?_) 2 3 rfl (by kernel_rfl) (by decide) (fun _ _ _ h => h) ?_ rfl (fun _ => HS) ?_
        rotate_left
        · (intro w9; go_simp; first | done | with_reducible rfl)
        (try simp only [Act.put, List.setIfInBounds_toArray, List.set_cons_zero, List.set_cons_succ])
        refine RegG.wpG.load (v := ?_) 0 6 rfl (by kernel_rfl) (by decide) (by decide) (fun _ _ _ h => h) ?_ rfl HS ?_
        rotate_left
        · (intro w9 hS9; have sp0 := cell_below hS9 p0; have sp1 := cell_below hS9 p1; have sp2 := cell_below hS9 p2; have sp3 := cell_below hS9 p3; have sp4 := cell_below hS9 p4; have sp5 := cell_below hS9 p5; have sp6 := cell_below hS9 p6; have sp7 := cell_below hS9 p7; have sp8 := cell_below hS9 p8; have sp9 := cell_below hS9 p9; have sp10 := cell_below hS9 p10; go_simp; first | done | with_reducible rfl)
        (try simp only [Act.put, List.setIfInBounds_toArray, List.set_cons_zero, List.set_cons_succ])
        refine RegG.wpG.pure (v := ?_) 3 4 rfl (by kernel_rfl) (by decide) (fun _ _ _ h => h) ?_ rfl (fun _ => HS) ?_
        rotate_left
        · (intro w9; go_simp; first | done | with_reducible rfl)
        (try simp only [Act.put, List.setIfInBounds_toArray, List.set_cons_zero, List.set_cons_succ])
        refine RegG.wpG.load (v := ?_) 4 5 rfl (by kernel_rfl) (by decide) (by decide) (fun _ _ _ h => h) ?_ rfl HS ?_
        rotate_left
        · (intro w9 hS9; have sf0 := cell_below hS9 f0; have sf1 := cell_below hS9 f1; have sf2 := cell_below hS9 f2; have sf3 := cell_below hS9 f3; have sf4 := cell_below hS9 f4; have sf5 := cell_below hS9 f5; have sf6 := cell_below hS9 f6; have sf7 := cell_below hS9 f7; have sf8 := cell_below hS9 f8; go_simp; first | done | with_reducible rfl)
        (try simp only [Act.put, List.setIfInBounds_toArray, List.set_cons_zero, List.set_cons_succ])
        refine RegG.wpG.two 5 10 (by kernel_rfl) rfl rfl rfl rfl (fun K hK => ?_) (fun K hK => ?_)
        · skip
          go_simp
          go_at_call 22
          (with_reducible refine (of_any r v _).mono ?_)
          rintro e w3 ⟨rfl, hd⟩
          have HS3 := HS.trans (hd.mono HS.size)
          clear hd
          refine hK.out _ _ (fun _ => HS3) ?_
          clear hK K
          (try simp only [Act.put, List.setIfInBounds_toArray, List.set_cons_zero, List.set_cons_succ])
          refine RegG.wpG.two 6 10 (by kernel_rfl) rfl rfl rfl rfl (fun K hK => ?_) (fun K hK => ?_)
          · skip
            go_simp
            go_at_call 21
            (with_reducible refine (HAP.out _ HS3).mono ?_)
            rintro e w4 ⟨y, rfl, hS4, hd⟩
            have HS4 := HS3.trans (hd.mono HS3.size)
            have hlow := HS3.size
            clear hd
            refine hK.out _ _ (fun h => absurd h (by decide)) ?_
            clear hK K
            (try simp only [Act.put, List.setIfInBounds_toArray, List.set_cons_zero, List.set_cons_succ])
            refine RegG.wpG.pure (v := ?_) 7 8 rfl (by kernel_rfl) (by decide) (fun _ _ _ h => h) ?_ rfl (fun h => absurd h (by decide)) ?_
            rotate_left
            · (intro w9; go_simp; first | done | with_reducible rfl)
            (try simp only [Act.put, List.setIfInBounds_toArray, List.set_cons_zero, List.set_cons_succ])
            refine RegG.wpG.pure (v := ?_) 8 11 rfl (by kernel_rfl) (by decide) (fun _ _ _ h => h) ?_ rfl (fun h => absurd h (by decide)) ?_
            rotate_left
            · (intro w9; go_simp; first | done | with_reducible rfl)
            (try simp only [Act.put, List.setIfInBounds_toArray, List.set_cons_zero, List.set_cons_succ])
            refine RegG.wpG.pure (v := ?_) 9 12 rfl (by kernel_rfl) (by decide) (fun _ _ _ h => h) ?_ rfl (fun h => absurd h (by decide)) ?_
            rotate_left
            · (intro w9; go_simp; first | done | with_reducible rfl)
            (try simp only [Act.put, List.setIfInBounds_toArray, List.set_cons_zero, List.set_cons_succ])
            refine RegG.wpG.one 10 (by kernel_rfl) rfl rfl (fun K hK => ?_)
            go_simp
            have hnA := heap_alloc_new w4 (.cells #[.int .i64 0, .int .i64 0, .slice none 0 0, .slice none 0 0, .slice none 0 0, .slice none 0 0, .slice none 0 0, .slice none 0 0, .slice none 0 0, .int .i64 0, .int .i64 0] 42)
            have hnz := World.size_alloc w4 (.cells #[.int .i64 0, .int .i64 0, .slice none 0 0, .slice none 0 0, .slice none 0 0, .slice none 0 0, .slice none 0 0, .slice none 0 0, .slice none 0 0, .int .i64 0, .int .i64 0] 42)
            have hnB := (Below.refl w4.heap.size w4).alloc (Nat.le_refl _) (.cells #[.int .i64 0, .int .i64 0, .slice none 0 0, .slice none 0 0, .slice none 0 0, .slice none 0 0, .slice none 0 0, .slice none 0 0, .slice none 0 0, .int .i64 0, .int .i64 0] 42)
            have HS5 := HS4.trans (hnB.mono HS4.size)
            obtain ⟨nb, hnb⟩ : ∃ n, n = w4.heap.size := ⟨_, rfl⟩
            have hnl : wr.heap.size ≤ nb := by rw [hnb]; exact HS4.size
            have hS5 := StateB.below hS4 hnB
            have hgb : nb < w3.heap.size ∨ w4.heap.size ≤ nb := .inr (by rw [hnb]; exact Nat.le_refl _)
            rw [← hnb] at hnA hnz ⊢
            clear hnb
            generalize w4.alloc (.cells #[.int .i64 0, .int .i64 0, .slice none 0 0, .slice none 0 0, .slice none 0 0, .slice none 0 0, .slice none 0 0, .slice none 0 0, .slice none 0 0, .int .i64 0, .int .i64 0] 42) = wa at hnA hnz hnB HS5 hS5 ⊢
            refine hK.out _ _ (fun h => absurd h (by decide)) ?_
            clear hK K
            (try simp only [Act.put, List.setIfInBounds_toArray, List.set_cons_zero, List.set_cons_succ])
            have hhi : w4.heap.size ≤ wa.heap.size := hnB.size
            refine RegG.wpG.one 11 (by kernel_rfl) rfl rfl (fun K hK => ?_)
            refine wp_store_row 42 (.tmp 15) (.tmp 62) rfl nb (y.cells P.1) rfl rfl 42 #[.int .i64 0, .int .i64 0, .slice none 0 0, .slice none 0 0, .slice none 0 0, .slice none 0 0, .slice none 0 0, .slice none 0 0, .slice none 0 0, .int .i64 0, .int .i64 0] hnA info_state rfl (SV.one y P.1) ?_
            refine hK.out _ _ (fun h => absurd h (by decide)) ?_
            clear hK K
            (try simp only [Act.put, List.setIfInBounds_toArray, List.set_cons_zero, List.set_cons_succ])
            refine RegG.wpG.one 12 (by kernel_rfl) rfl rfl (fun K hK => ?_)
            go_simp
            refine hK.out _ _ (fun h => absurd h (by decide)) ?_
            clear hK K
            (try simp only [Act.put, List.setIfInBounds_toArray, List.set_cons_zero, List.set_cons_succ])
            refine RegG.wpG.done (by kernel_rfl) ?_ _
            go_wp2_with fail
            go_meet
            exact ⟨nb, y, _, rfl, rfl, rfl, VarN.put hnA hnl hS5 hlow hgb hhi, below_put HS5 hnl _⟩
          · skip
            go_simp
            have hnA := heap_alloc_new w3 (.cells #[.int .i64 0, .int .i64 0, .slice none 0 0, .slice none 0 0, .slice none 0 0, .slice none 0 0, .slice none 0 0, .slice none 0 0, .slice none 0 0, .int .i64 0, .int .i64 0] 42)
            have hnz := World.size_alloc w3 (.cells #[.int .i64 0, .int .i64 0, .slice none 0 0, .slice none 0 0, .slice none 0 0, .slice none 0 0, .slice none 0 0, .slice none 0 0, .slice none 0 0, .int .i64 0, .int .i64 0] 42)
            have hnB := (Below.refl w3.heap.size w3).alloc (Nat.le_refl _) (.cells #[.int .i64 0, .int .i64 0, .slice none 0 0, .slice none 0 0, .slice none 0 0, .slice none 0 0, .slice none 0 0, .slice none 0 0, .slice none 0 0, .int .i64 0, .int .i64 0] 42)
            have HS5 := HS3.trans (hnB.mono HS3.size)
            obtain ⟨nb, hnb⟩ : ∃ n, n = w3.heap.size := ⟨_, rfl⟩
            have hnl : wr.heap.size ≤ nb := by rw [hnb]; exact HS3.size
            rw [← hnb] at hnA hnz ⊢
            clear hnb
            generalize w3.alloc (.cells #[.int .i64 0, .int .i64 0, .slice none 0 0, .slice none 0 0, .slice none 0 0, .slice none 0 0, .slice none 0 0, .slice none 0 0, .slice none 0 0, .int .i64 0, .int .i64 0] 42) = wa at hnA hnz hnB HS5 ⊢
            refine hK.out _ _ (fun _ => HS5) ?_
            clear hK K
            (try simp only [Act.put, List.setIfInBounds_toArray, List.set_cons_zero, List.set_cons_succ])
            refine RegG.wpG.one 6 (by kernel_rfl) rfl rfl (fun K hK => ?_)
            go_simp
            go_at_call 21
            (with_reducible refine (HAP.out _ HS5).mono ?_)
            rintro e w4 ⟨y, rfl, hS4, hd⟩
            have HS6 := HS5.trans (hd.mono HS5.size)
            have hlow := HS5.size
            replace hnA := (hd.block _ (by omega)).trans hnA
            have hS5 := hS4
            have hgb : nb < wa.heap.size ∨ w4.heap.size ≤ nb := .inl (by omega)
            have hhi := Nat.le_refl w4.heap.size
            clear hd
            refine hK.out _ _ (fun h => absurd h (by decide)) ?_
            clear hK K
            (try simp only [Act.put, List.setIfInBounds_toArray, List.set_cons_zero, List.set_cons_succ])
            refine RegG.wpG.pure (v := ?_) 7 8 rfl (by kernel_rfl) (by decide) (fun _ _ _ h => h) ?_ rfl (fun h => absurd h (by decide)) ?_
            rotate_left
            · (intro w9; go_simp; first | done | with_reducible rfl)
            (try simp only [Act.put, List.setIfInBounds_toArray, List.set_cons_zero, List.set_cons_succ])
            refine RegG.wpG.pure (v := ?_) 8 11 rfl (by kernel_rfl) (by decide) (fun _ _ _ h => h) ?_ rfl (fun h => absurd h (by decide)) ?_
            rotate_left
            · (intro w9; go_simp; first | done | with_reducible rfl)
            (try simp only [Act.put, List.setIfInBounds_toArray, List.set_cons_zero, List.set_cons_succ])
            refine RegG.wpG.pure (v := ?_) 9 12 rfl (by kernel_rfl) (by decide) (fun _ _ _ h => h) ?_ rfl (fun h => absurd h (by decide)) ?_
            rotate_left
            · (intro w9; go_simp; first | done | with_reducible rfl)
            (try simp only [Act.put, List.setIfInBounds_toArray, List.set_cons_zero, List.set_cons_succ])
            refine RegG.wpG.one 11 (by kernel_rfl) rfl rfl (fun K hK => ?_)
            refine wp_store_row 42 (.tmp 15) (.tmp 62) rfl nb (y.cells P.1) rfl rfl 42 #[.int .i64 0, .int .i64 0, .slice none 0 0, .slice none 0 0, .slice none 0 0, .slice none 0 0, .slice none 0 0, .slice none 0 0, .slice none 0 0, .int .i64 0, .int .i64 0] hnA info_state rfl (SV.one y P.1) ?_
            refine hK.out _ _ (fun h => absurd h (by decide)) ?_
            clear hK K
            (try simp only [Act.put, List.setIfInBounds_toArray, List.set_cons_zero, List.set_cons_succ])
            refine RegG.wpG.one 12 (by kernel_rfl) rfl rfl (fun K hK => ?_)
            go_simp
            refine hK.out _ _ (fun h => absurd h (by decide)) ?_
            clear hK K
            (try simp only [Act.put, List.setIfInBounds_toArray, List.set_cons_zero, List.set_cons_succ])
            refine RegG.wpG.done (by kernel_rfl) ?_ _
            go_wp2_with fail
            go_meet
            exact ⟨nb, y, _, rfl, rfl, rfl, VarN.put hnA hnl hS5 hlow hgb hhi, below_put HS6 hnl _⟩
        · skip
          go_simp
          have hnA := heap_alloc_new Wd (.cells #[.int .i64 0, .int .i64 0, .slice none 0 0, .slice none 0 0, .slice none 0 0, .slice none 0 0, .slice none 0 0, .slice none 0 0, .slice none 0 0, .int .i64 0, .int .i64 0] 42)
          have hnz := World.size_alloc Wd (.cells #[.int .i64 0, .int .i64 0, .slice none 0 0, .slice none 0 0, .slice none 0 0, .slice none 0 0, .slice none 0 0, .slice none 0 0, .slice none 0 0, .int .i64 0, .int .i64 0] 42)
          have hnB := (Below.refl Wd.heap.size Wd).alloc (Nat.le_refl _) (.cells #[.int .i64 0, .int .i64 0, .slice none 0 0, .slice none 0 0, .slice none 0 0, .slice none 0 0, .slice none 0 0, .slice none 0 0, .slice none 0 0, .int .i64 0, .int .i64 0] 42)
          have HS0 := HS.trans (hnB.mono HS.size)
          obtain ⟨nb, hnb⟩ : ∃ n, n = Wd.heap.size := ⟨_, rfl⟩
          have hnl : wr.heap.size ≤ nb := by rw [hnb]; exact HS.size
          rw [← hnb] at hnA hnz ⊢
          clear hnb
          generalize Wd.alloc (.cells #[.int .i64 0, .int .i64 0, .slice none 0 0, .slice none 0 0, .slice none 0 0, .slice none 0 0, .slice none 0 0, .slice none 0 0, .slice none 0 0, .int .i64 0, .int .i64 0] 42) = wa at hnA hnz hnB HS0 ⊢
          refine hK.out _ _ (fun _ => HS0) ?_
          clear hK K
          (try simp only [Act.put, List.setIfInBounds_toArray, List.set_cons_zero, List.set_cons_succ])
          have HZ := HS
          replace HS := HS0
          refine RegG.wpG.one 5 (by kernel_rfl) rfl rfl (fun K hK => ?_)
          go_simp
          go_at_call 22
          (with_reducible refine (of_any r v _).mono ?_)
          rintro e w3 ⟨rfl, hd⟩
          have HS3 := HS.trans (hd.mono HS.size)
          replace hnA := (hd.block _ (by omega)).trans hnA
          have hnz3 := hd.size
          clear hd
          refine hK.out _ _ (fun _ => HS3) ?_
          clear hK K
          (try simp only [Act.put, List.setIfInBounds_toArray, List.set_cons_zero, List.set_cons_succ])
          refine RegG.wpG.one 6 (by kernel_rfl) rfl rfl (fun K hK => ?_)
          go_simp
          go_at_call 21
          (with_reducible refine (HAP.out _ HS3).mono ?_)
          rintro e w4 ⟨y, rfl, hS4, hd⟩
          have HS4 := HS3.trans (hd.mono HS3.size)
          have hlow := HS3.size
          replace hnA := (hd.block _ (by omega)).trans hnA
          have hS5 := hS4
          have hgb : nb < w3.heap.size ∨ w4.heap.size ≤ nb := .inl (by omega)
          have hhi := Nat.le_refl w4.heap.size
          clear hd
          refine hK.out _ _ (fun h => absurd h (by decide)) ?_
          clear hK K
          (try simp only [Act.put, List.setIfInBounds_toArray, List.set_cons_zero, List.set_cons_succ])
          refine RegG.wpG.pure (v := ?_) 7 8 rfl (by kernel_rfl) (by decide) (fun _ _ _ h => h) ?_ rfl (fun h => absurd h (by decide)) ?_
          rotate_left
          · (intro w9; go_simp; first | done | with_reducible rfl)
          (try simp only [Act.put, List.setIfInBounds_toArray, List.set_cons_zero, List.set_cons_succ])
          refine RegG.wpG.pure (v := ?_) 8 11 rfl (by kernel_rfl) (by decide) (fun _ _ _ h => h) ?_ rfl (fun h => absurd h (by decide)) ?_
          rotate_left
          · (intro w9; go_simp; first | done | with_reducible rfl)
          (try simp only [Act.put, List.setIfInBounds_toArray, List.set_cons_zero, List.set_cons_succ])
          refine RegG.wpG.pure (v := ?_) 9 12 rfl (by kernel_rfl) (by decide) (fun _ _ _ h => h) ?_ rfl (fun h => absurd h (by decide)) ?_
          rotate_left
          · (intro w9; go_simp; first | done | with_reducible rfl)
          (try simp only [Act.put, List.setIfInBounds_toArray, List.set_cons_zero, List.set_cons_succ])
          refine RegG.wpG.one 11 (by kernel_rfl) rfl rfl (fun K hK => ?_)
          refine wp_store_row 42 (.tmp 15) (.tmp 62) rfl nb (y.cells P.1) rfl rfl 42 #[.int .i64 0, .int .i64 0, .slice none 0 0, .slice none 0 0, .slice none 0 0, .slice none 0 0, .slice none 0 0, .slice none 0 0, .slice none 0 0, .int .i64 0, .int .i64 0] hnA info_state rfl (SV.one y P.1) ?_
          refine hK.out _ _ (fun h => absurd h (by decide)) ?_
          clear hK K
          (try simp only [Act.put, List.setIfInBounds_toArray, List.set_cons_zero, List.set_cons_succ])
          refine RegG.wpG.one 12 (by kernel_rfl) rfl rfl (fun K hK => ?_)
          go_simp
          refine hK.out _ _ (fun h => absurd h (by decide)) ?_
          clear hK K
          (try simp only [Act.put, List.setIfInBounds_toArray, List.set_cons_zero, List.set_cons_succ])
          refine RegG.wpG.done (by kernel_rfl) ?_ _
          go_wp2_with fail
          go_meet
          exact ⟨nb, y, _, rfl, rfl, rfl, VarN.put hnA hnl hS5 hlow hgb hhi, below_put HS4 hnl _⟩
      case rest =>
        obtain ⟨nb, y, wx, rfl, rfl, rfl, HN, HS⟩ := hcut
        clear HAP hm p0 p1 p2 p3 p4 p5 p6 p7 p8 p9 p10 f0 f1 f2 f3 f4 f5 f6 f7 f8
        obtain ⟨s', m9⟩ := P
        dsimp only at HN HP ⊢
        obtain ⟨q0, q1, q2, q3, q4, q5, q6, q7, q8, q9, q10⟩ := cells11 HN.box
        have hA := (HVV.out.below HS).box
        have hgr : g < wr.heap.size := HVV.out.lt
        obtain ⟨w5, hw5⟩ : ∃ w5, w5 = wx.setRow g (y.cells s') := ⟨_, rfl⟩
        have hlay := HN.lay hA hgr
        have hJ5 : JAt (wx.setRow g (y.cells s')) (g + 1) b (encs acc) := JAt.keepB (HJJ.out.below HS) fun q h1 h2 => setRow_other _ _ q _ (by omega)
        have hB5 : Below g W4 (wx.setRow g (y.cells s')) := (HBG.out.trans (HS.mono (by omega))).trans ⟨rfl, rfl, rfl, by simp, fun q hq => setRow_other wx _ q _ (by omega)⟩
        have hz5 : wr.heap.size ≤ (wx.setRow g (y.cells s')).heap.size := by simpa using HS.size
        have hb5 : (wx.setRow g (y.cells s')).heap[b]? = wr.heap[b]? := (setRow_other _ _ b _ (by have := HJJ.out.lo; omega)).trans (HS.block b HJJ.out.lt)
        rw [← hw5] at hlay hJ5 hB5 hz5 hb5
        obtain ⟨hbx, lo2, hi2, hst2, hlo2, hhi2⟩ := hlay
        have HBX := Lib.hid hbx
        have HST2 := Lib.hid hst2
        have HJ5 := Lib.hid hJ5
        have HB5 := Lib.hid hB5
        have HLO2 := Lib.hid hlo2
        have HHI2 := Lib.hid hhi2
        have HZ5 := Lib.hid hz5
        have HBJ5 := Lib.hid hb5
        have HW5 := Lib.hid hw5
        have HGR := Lib.hid hgr
        clear HN HS hbx hst2 hJ5 hB5 hlo2 hhi2 hz5 hb5 hw5 hgr
        go_upto_region 14 with (refine wpList_store_row rfl 42 (.tmp 11) (.tmp 64) rfl g (y.cells s') rfl rfl 42 (x.cells s) hA info_state rfl (SV.one y s') ?_)
        rw [← HW5.out]
        clear HW5 q0 q1 q2 q3 q4 q5 q6 q7 q8 q9 q10 hA
        have HBW5 := Lib.hid (HB4.out.trans (HB5.out.mono HWG.out))
        by_cases h0 : m9 = 0
        · have t0 : (((m9 : Nat) : Int) == 0) = true := by rw [h0]; rfl
          have hok : (applyP s r).2 = 0 := by have h1 := congrArg Prod.snd HP.out; dsimp only at h1; rw [← h1]; exact h0
          have hs' : s' = (applyP s r).1 := congrArg Prod.fst HP.out
          have HYES := Lib.hid (HAC.out.yes hok hsl.out htx.out hmw.out.man.i3.le)
          rw [← hs'] at HYES
          have hrg := did_range hok
          unfold badR at hrg
          have KB := Lib.hid (fun W (h : ManV W v r.m) => lbytes_any r v W h hsl.out (by omega) (by have := htx.out; omega))
          have hes := encR_le hsl.out (by have := htx.out; omega)
          have KA := Lib.hid (fun W (h : JAt W (g + 1) b (encs acc)) => append_ok (g + 1) b (encs acc) (str (encR r)) W W h (by rw [str_size]; have := htx.out; omega) (by rw [encs_length]; have := HNA.out; omega) (Below.refl _ _) (by have := h.lt; have := h.lo; omega))
          obtain ⟨f0, f1, f2, f3, f4, f5, f6, f7, f8⟩ := HRA.out.below HBW5.out
          clear h0 hok hs' hrg hes
          go_wp2_with (go_at_call 22; (with_reducible refine (of_any r v _).mono ?_))
          rintro e w6 ⟨rfl, hd6⟩
          have HD6 := Lib.hid hd6
          have HM6 := Lib.hid (hmw.out.below (HBW5.out.trans (hd6.mono HBW5.out.size)))
          clear hd6 f0 f1 f2 f3 f4 f5 f6 f7 f8
          go_wp2_with (go_at_call 36; (with_reducible refine (KB.out _ HM6.out).mono ?_))
          rintro e w7 ⟨rfl, hd7⟩
          have HD7 := Lib.hid (HD6.out.trans (hd7.mono HD6.out.size))
          have HJ7 := Lib.hid (HJ5.out.below HD7.out)
          clear hd7
          go_wp2_with (go_at_call 35; (with_reducible refine (KA.out _ HJ7.out).mono ?_))
          rintro e w8 ⟨rfl, hJ8, hB8, hz8, hk8⟩
          have hbl := HJJ.out.lt
          have h5 := HZ5.out
          have hgr := HGR.out
          have hlo2 := HLO2.out
          have hhi2 := HHI2.out
          have h7 := HD7.out.size
          have hkp := rows_keep HJJ.out ((HD7.out.block b (by omega)).trans HBJ5.out) hk8
          have HV8 := Lib.hid (show VarS w w8 g y s' from ⟨(hB8.block g (by omega)).trans ((HD7.out.block g (by omega)).trans HBX.out), ⟨lo2, hi2, StateB.keep (StateB.below HST2.out (HD7.out.mono hhi2)) (fun q h1 h2 => hkp q (by omega) (by omega)), .inl (by omega), by have := hB8.size; omega⟩, HWG.out⟩)
          have HJ8 := Lib.hid hJ8
          have HB8 := Lib.hid ((HB5.out.trans (HD7.out.mono (by omega))).trans (hB8.mono (by omega)))
          clear hJ8 hB8 hz8 hk8 hkp hbl h5 hgr hlo2 hhi2 h7
          go_wp2
          go_roundw
          case rel => exact ⟨k + 1, y, s', acc ++ [wire r], na + 1, by omega, by go_num, by go_num, by rw [List.length_append, HNA.out]; rfl, by omega, HV8.out, by rw [encs_snoc]; exact HJ8.out, HYES.out, HB8.out⟩
          case measure => simp [intOf]; omega
        · have t0 : (((m9 : Nat) : Int) == 0) = false := by simp; omega
          have hs' : s' = s := by
            have h1 := congrArg Prod.fst HP.out
            have h2 := congrArg Prod.snd HP.out
            dsimp only at h1 h2
            rw [h1]
            exact applyP_no (by rw [← h2]; exact h0)
          have HV5 := Lib.hid (show VarS w w5 g y s' from ⟨HBX.out, ⟨lo2, hi2, HST2.out, .inl (by have := HLO2.out; have := HGR.out; omega), HHI2.out⟩, HWG.out⟩)
          have HAC2 := Lib.hid (show AccJ s0 t p n s' acc from by rw [hs']; exact HAC.out)
          clear h0 hs'
          go_wp2
          go_roundw
          case rel => exact ⟨k + 1, y, s', acc, na, by omega, by go_num, rfl, HNA.out, by omega, HV5.out, HJ5.out, HAC2.out, HB5.out⟩
          case measure => simp [intOf]; omega
    · obtain rfl : k = n1 := by omega
      have hna60 : na ≤ 60 := by omega
      have hgl : g < wr.heap.size := HVV.out.lt
      have HGL := Lib.hid hgl
      have HG0 := Lib.hid (show g0 < wr.heap.size by have := HLT.out; omega)
      have HF := Lib.hid ((HBG.out.block g0 HLT.out).trans HFF.out)
      have HFS := Lib.hid (StateB.below HFSS.out (HBG.out.mono HHI.out))
      have htot := encs_total acc HAC.out.good HAC.out.text
      have hsmall := HJJ.out.small
      have hfl := frames_le (encs acc) hsmall
      rw [encs_length] at hfl
      have hacl := HNA.out
      have KBY := Lib.hid (jbytes_any (g + 1) b (encs acc) wr HJJ.out (by omega) (by rw [encs_length]; omega))
      have KRD : ∀ W, Calls Try.prog 37 #[.string (str (frames (lst (encs acc))))] W fun e w' => ∃ (A : Option Addr) (c : Nat) (z : Int), e = .returned (.tuple #[.slice A na c, .int .i64 z]) ∧ Strs w' A na (encs acc) ∧ Below W.heap.size W w' := fun W => by
        have h := JrnW.read_any (str (frames (lst (encs acc)))) W (by rw [str_size]; omega)
        rw [str_list, recs_all (lst (encs acc)) (fun l hl => by obtain ⟨x, hx, rfl⟩ := List.mem_map.1 hl; rw [list_size]; exact hsmall x hx), lst_back, lst_length, encs_length, hacl] at h
        refine h.mono ?_
        rintro e w' ⟨v, rfl, hO, hd⟩
        obtain ⟨A', c', rfl, hT⟩ := own_strs hO
        exact ⟨A', c', _, rfl, hT, hd⟩
      replace KRD := Lib.hid KRD
      have KP1 := Lib.hid (fun (A : Option Addr) (c : Nat) W (hb : Below wr.heap.size wr W) (hT : Strs W A na (encs acc)) => by
        have h := replay_any x0 s0 acc A na c _ g0 W (StateB.below HFS.out (hb.mono (by have := HG0.out; omega))) (by have := hb.size; have := HG0.out; omega) hT HAC.out.good (by omega)
        rw [show replayP s0 acc = (s, na) from by rw [← hacl]; exact HAC.out.goes] at h
        exact h)
      have KSV := Lib.hid (fun W (hb : Below wr.heap.size wr W) => save_any x.A2 x.A3 x.A4 x.A5 x.A6 x.A7 x.A8 x.c2 x.c3 x.c4 x.c5 x.c6 x.c7 x.c8 x.vs s W (HVV.out.state.below hb))
      have hreach := HAC.out.reach
      have hgs := save_goes hreach
      rw [← HS0.out s hreach] at hgs
      have hsl := save_len s hreach.ok.few hreach.ok.fewp
      have hst := HVV.out.state
      have hgood := good_save hreach (fun m hm => by
        obtain ⟨j, hj, rfl⟩ := List.mem_iff_getElem.1 hm
        exact (hst.m.man j hj).man.i3.le)
      have hsv : ∀ W w2 e, SavePost W s e w2 → ∃ (A : Option Addr) (c : Nat) (us : Nat → MV), e = .returned (.slice A (saveP s).length c) ∧ RecsV w2 A (saveP s) us ∧ Below W.heap.size W w2 := fun _ _ _ h => h
      generalize saveP s = L at hgs hsl hgood hsv
      have HGS := Lib.hid hgs
      have HSL := Lib.hid hsl
      have HGD := Lib.hid hgood
      have HSV := Lib.hid hsv
      clear htot hsmall hfl hacl hreach hgs hsl hst hgood hsv HV hgl hlt hk hnk
      obtain ⟨WL, rfl⟩ : ∃ WL, WL = wr := ⟨_, rfl⟩
      go_upto_region 18 with (first | (go_at_call 38; (with_reducible refine (KBY.out).mono ?_); rintro e w5 ⟨rfl, hd5⟩) | (go_at_call 37; (with_reducible refine (KRD.out _).mono ?_); rintro e w6 ⟨A6, c6, z6, rfl, hT6, hd6⟩))
      have HB6 := Lib.hid (hd5.trans (hd6.mono hd5.size))
      have HT6 := Lib.hid hT6
      clear hd5 hd6 hT6
      obtain ⟨p0, p1, p2, p3, p4, p5, p6, p7, p8, p9, p10⟩ := cells11 ((HB6.out.block g0 HG0.out).trans HF.out)
      go_upto_region 19 with (go_at_call 39; (with_reducible refine (KP1.out A6 c6 _ HB6.out HT6.out).mono ?_); rintro e w7 ⟨xa, rfl, hSa, hd7⟩)
      clear p0 p1 p2 p3 p4 p5 p6 p7 p8 p9 p10
      have hba := (Below.refl w7.heap.size w7).alloc (Nat.le_refl _) (.cells #[.int .i64 s.n, .int .i64 s.ep, .slice xa.A2 s.done.length xa.c2, .slice xa.A3 s.done.length xa.c3, .slice xa.A4 s.done.length xa.c4, .slice xa.A5 s.has.length xa.c5, .slice xa.A6 s.has.length xa.c6, .slice xa.A7 s.has.length xa.c7, .slice xa.A8 s.has.length xa.c8, .int .i64 s.fin, .int .i64 s.er] 42)
      have hva : VarS w (w7.alloc (.cells #[.int .i64 s.n, .int .i64 s.ep, .slice xa.A2 s.done.length xa.c2, .slice xa.A3 s.done.length xa.c3, .slice xa.A4 s.done.length xa.c4, .slice xa.A5 s.has.length xa.c5, .slice xa.A6 s.has.length xa.c6, .slice xa.A7 s.has.length xa.c7, .slice xa.A8 s.has.length xa.c8, .int .i64 s.fin, .int .i64 s.er] 42)) w7.heap.size xa s := VarS.new hSa (by have := HBW.out.size; have := HB6.out.size; have := hd7.size; omega)
      have HB8 := Lib.hid ((HB6.out.trans (hd7.mono HB6.out.size)).trans (hba.mono (by have := HB6.out.size; have := hd7.size; omega)))
      generalize w7.alloc (.cells #[.int .i64 s.n, .int .i64 s.ep, .slice xa.A2 s.done.length xa.c2, .slice xa.A3 s.done.length xa.c3, .slice xa.A4 s.done.length xa.c4, .slice xa.A5 s.has.length xa.c5, .slice xa.A6 s.has.length xa.c6, .slice xa.A7 s.has.length xa.c7, .slice xa.A8 s.has.length xa.c8, .int .i64 s.fin, .int .i64 s.er] 42) = w8 at hva HB8 ⊢
      generalize w7.heap.size = ga at hva ⊢
      have HVA := Lib.hid hva
      clear hba hva hSa hd7
      obtain ⟨p0, p1, p2, p3, p4, p5, p6, p7, p8, p9, p10⟩ := cells11 (HVV.out.below HB8.out).box
      go_upto_region 21 with (go_at_call 40; (with_reducible refine (KSV.out _ HB8.out).mono ?_); rintro e w9 hpo; obtain ⟨A9, c9, us, rfl, hR9, hd9⟩ := HSV.out _ _ _ hpo)
      clear p0 p1 p2 p3 p4 p5 p6 p7 p8 p9 p10
      have HB9 := Lib.hid (HB8.out.trans (hd9.mono HB8.out.size))
      have HVA9 := Lib.hid (HVA.out.below hd9)
      have HR9 := Lib.hid hR9
      clear hpo hR9 hd9
      obtain ⟨W9, rfl⟩ : ∃ W9, W9 = w9 := ⟨_, rfl⟩
      obtain ⟨nl, hnl⟩ : ∃ nl, nl = L.length := ⟨_, rfl⟩
      rw [← hnl]
      have HNL := Lib.hid hnl
      have hnl100 : nl ≤ 100 := by have := HSL.out; omega
      clear hnl
      go_wp2
      go_loopw [21, 23] (fun sv i wr => ∃ kq : Nat, kq ≤ nl ∧ i = .int .i64 kq ∧ wr.ownsRow W9.heap.size 9 1 sv kq (JrnW.sv (encs (L.take kq))) ∧ Below W9.heap.size W9 wr) (fun _ i _ => nl - (intOf i).toNat)
      case atStart => exact ⟨0, by omega, rfl, by rw [List.take_zero]; exact own_none _ _ _ _, Below.refl _ _⟩
      case round =>
        obtain ⟨kq, hkq, rfl, hO, hbq⟩ := hrel
        by_cases hlq : kq < nl
        · have hkl : kq < L.length := by have := HNL.out; omega
          obtain ⟨b9, o9, rfl, hc9⟩ := HR9.out.block (by omega)
          have hmq := Lib.hid ((HR9.out.man kq hkl).below hbq)
          have hRq := (hc9 kq hkl).below hbq
          have hgq := Lib.hid (HGD.out _ (List.getElem_mem hkl))
          have htk : encs (L.take (kq + 1)) = encs (L.take kq) ++ [str (encR L[kq])] := by unfold encs; rw [List.take_succ_eq_append_getElem hkl, List.map_append]; rfl
          have HTK := Lib.hid htk
          have HTL := Lib.hid (show (JrnW.sv (encs (L.take kq))).length = kq by rw [sv_length, encs_length, List.length_take]; omega)
          generalize L[kq] = rq at hmq hRq hgq HTK
          generalize us kq = vq at hmq hRq
          obtain ⟨f0, f1, f2, f3, f4, f5, f6, f7, f8⟩ := hRq
          have KBQ := Lib.hid (lbytes_any rq vq wr hmq.out hgq.out.slim ⟨hgq.out.k.1, hgq.out.n.1, hgq.out.e.1⟩ (by have := hgq.out.t; omega))
          have HOQ := Lib.hid hO
          have HBQ := Lib.hid hbq
          clear hc9 htk hkl hO hbq
          go_wp2_with (go_at_call 36; (with_reducible refine (KBQ.out).mono ?_))
          rintro e wq ⟨rfl, hdq⟩
          have hO := BuildW.own_below HOQ.out hdq
          have hB := HBQ.out.trans (hdq.mono HBQ.out.size)
          clear hdq f0 f1 f2 f3 f4 f5 f6 f7 f8
          go_wp2_with (at_builtin; refine app_one W9.heap.size rfl (.tmp 97) (.tmp 103) 40 9 (.string (str [])) 16 rfl Try.underlying40 info_str rfl (by omega) _ _ _ kq HTL.out rfl rfl rfl hO hB hB.size (by omega) ?_; intro v1 w3 HO1 HB1 hg1; have HOX := Lib.hid HO1; have HBX := Lib.hid HB1; clear HO1 HB1 hg1)
          go_roundw
          case rel => exact ⟨kq + 1, by omega, by go_num, by rw [HTK.out, sv_append]; exact HOX.out, HBX.out⟩
          case measure => simp [intOf]; omega
        · obtain rfl : kq = nl := by omega
          have eL : L.take kq = L := by rw [HNL.out, List.take_length]
          rw [eL] at hO
          obtain ⟨A8, c8, hu, hT8⟩ := own_strs (ss := encs L) hO
          have hu2 := hu
          subst hu2
          have HBA := Lib.hid (HB9.out.trans (hbq.mono HB9.out.size))
          have HVAA := Lib.hid (HVA9.out.below hbq)
          have KP2 := Lib.hid (show Calls Try.prog 39 #[.agg #[.int .i64 s0.n, .int .i64 s0.ep, .slice x0.A2 s0.done.length x0.c2, .slice x0.A3 s0.done.length x0.c3, .slice x0.A4 s0.done.length x0.c4, .slice x0.A5 s0.has.length x0.c5, .slice x0.A6 s0.has.length x0.c6, .slice x0.A7 s0.has.length x0.c7, .slice x0.A8 s0.has.length x0.c8, .int .i64 s0.fin, .int .i64 s0.er], .slice A8 kq c8] wr (ApplyV wr s kq) by
            have h := replay_any x0 s0 L A8 kq c8 _ g0 wr (StateB.below HFS.out (HBA.out.mono (by have := HG0.out; omega))) (by have := HBA.out.size; have := HG0.out; omega) hT8 HGD.out (by omega)
            rw [show replayP s0 L = (s, kq) from by rw [HNL.out]; exact HGS.out] at h
            exact h)
          clear eL hO hbq hT8 hlq hkq
          obtain ⟨p0, p1, p2, p3, p4, p5, p6, p7, p8, p9, p10⟩ := cells11 ((HBA.out.block g0 HG0.out).trans HF.out)
          go_upto_region 26 with (go_at_call 39; (with_reducible refine (KP2.out).mono ?_); rintro e w11 ⟨xb, rfl, hSb, hdb⟩)
          clear p0 p1 p2 p3 p4 p5 p6 p7 p8 p9 p10
          have hbb := (Below.refl w11.heap.size w11).alloc (Nat.le_refl _) (.cells #[.int .i64 s.n, .int .i64 s.ep, .slice xb.A2 s.done.length xb.c2, .slice xb.A3 s.done.length xb.c3, .slice xb.A4 s.done.length xb.c4, .slice xb.A5 s.has.length xb.c5, .slice xb.A6 s.has.length xb.c6, .slice xb.A7 s.has.length xb.c7, .slice xb.A8 s.has.length xb.c8, .int .i64 s.fin, .int .i64 s.er] 42)
          have hvb : VarS w (w11.alloc (.cells #[.int .i64 s.n, .int .i64 s.ep, .slice xb.A2 s.done.length xb.c2, .slice xb.A3 s.done.length xb.c3, .slice xb.A4 s.done.length xb.c4, .slice xb.A5 s.has.length xb.c5, .slice xb.A6 s.has.length xb.c6, .slice xb.A7 s.has.length xb.c7, .slice xb.A8 s.has.length xb.c8, .int .i64 s.fin, .int .i64 s.er] 42)) w11.heap.size xb s := VarS.new hSb (by have := HBW.out.size; have := HBA.out.size; have := hdb.size; omega)
          have HBB := Lib.hid ((HBA.out.trans (hdb.mono HBA.out.size)).trans (hbb.mono (by have := HBA.out.size; have := hdb.size; omega)))
          have HVC := Lib.hid ((HVAA.out.below hdb).below hbb)
          generalize w11.alloc (.cells #[.int .i64 s.n, .int .i64 s.ep, .slice xb.A2 s.done.length xb.c2, .slice xb.A3 s.done.length xb.c3, .slice xb.A4 s.done.length xb.c4, .slice xb.A5 s.has.length xb.c5, .slice xb.A6 s.has.length xb.c6, .slice xb.A7 s.has.length xb.c7, .slice xb.A8 s.has.length xb.c8, .int .i64 s.fin, .int .i64 s.er] 42) = w12 at hvb HBB HVC ⊢
          generalize w11.heap.size = gb at hvb ⊢
          have HVB := Lib.hid hvb
          clear hbb hvb hSb hdb
          have HVX := Lib.hid (HVV.out.below HBB.out)
          obtain ⟨a0, a1, a2, a3, a4, a5, a6, a7, a8, a9, a10⟩ := cells11 HVC.out.box
          obtain ⟨b0, b1, b2, b3, b4, b5, b6, b7, b8, b9, b10⟩ := cells11 HVB.out.box
          obtain ⟨p0, p1, p2, p3, p4, p5, p6, p7, p8, p9, p10⟩ := cells11 HVX.out.box
          have KSA := Lib.hid (same_v xa x s w12 HVC.out.state HVX.out.state)
          have KSB := Lib.hid (fun W (hb : Below w12.heap.size w12 W) => same_v xb x s W (HVB.out.state.below hb) (HVX.out.state.below hb))
          go_wp2_with (go_at_call 25; (with_reducible refine (KSA.out).mono ?_))
          rintro e w13 ⟨rfl, hd13⟩
          have HD13 := Lib.hid hd13
          obtain ⟨d0, d1, d2, d3, d4, d5, d6, d7, d8, d9, d10⟩ := cells11 (HVB.out.below hd13).box
          obtain ⟨e0, e1, e2, e3, e4, e5, e6, e7, e8, e9, e10⟩ := cells11 (HVX.out.below hd13).box
          clear hd13 a0 a1 a2 a3 a4 a5 a6 a7 a8 a9 a10 b0 b1 b2 b3 b4 b5 b6 b7 b8 b9 b10 p0 p1 p2 p3 p4 p5 p6 p7 p8 p9 p10
          go_wp2_with (go_at_call 25; (with_reducible refine (KSB.out _ HD13.out).mono ?_))
          rintro e w14 ⟨rfl, hd14⟩
          have HZ := HBW.out.trans (((HBB.out.trans (HD13.out.mono HBB.out.size)).trans (hd14.mono (by have := HBB.out.size; have := HD13.out.size; omega))).mono HBW.out.size)
          clear hd14
          go_wp2
          go_ret
          exact ⟨rfl, HZ⟩
end
end Go.Proofs.Ytmlemichkeomjaa.LedW
