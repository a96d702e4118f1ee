/- stooklaw20.LedgerOnce walked. -/
import Derived.Test.YtmlemichkeomjaaLedSt2
import Derived.Test.YtmlemichkeomjaaLedLaw2
import Derived.Deep.CutRange
set_option linter.unusedVariables false
set_option linter.unusedSimpArgs false
namespace Go.Proofs.Ytmlemichkeomjaa.LedW
open Go.RowKit Go.Proofs.Ytmlemichkeomjaa.Base Go.Proofs.Ytmlemichkeomjaa.MendW Go.Proofs.Ytmlemichkeomjaa.ManP Go.Proofs.Ytmlemichkeomjaa.ManW Go.Proofs.Ytmlemichkeomjaa.LedP
theorem bump_yes {s : LS} {r : LR} {cs : List Int} (h : (applyP s r).2 = 0) (hk : r.kind = 6) : bump s r cs = cs.set r.n.toNat (cs.getD r.n.toNat 0 + 1) := by unfold bump; rw [if_pos ⟨h, hk⟩]
theorem bump_no {s : LS} {r : LR} {cs : List Int} (h : ¬ ((applyP s r).2 = 0 ∧ r.kind = 6)) : bump s r cs = cs := by unfold bump; rw [if_neg h]
theorem onc_new (t p n : Nat) : Onc (newS t p n) (List.replicate p 0) := ⟨by simp [newS], by simp [newS], by simp [newS], fun q hq => .inl ⟨by simp only [newS, List.length_replicate] at hq; simp [List.getD_eq_getElem?_getD, hq], by simp only [newS, List.length_replicate] at hq; simp [newS, List.getD_eq_getElem?_getD, hq]⟩, fun q hq hc => by
  simp only [newS, List.length_replicate] at hq
  simp [newS, List.getD_eq_getElem?_getD, hq] at hc⟩
/-- The counters' block. -/
def Cnt (w : World) (b : Nat) (cs : List Int) : Prop := w.heap[b]? = some (.cells (zv cs).toArray 3 (0, 0))
theorem Cnt.lt {w : World} {b : Nat} {cs : List Int} (h : Cnt w b cs) : b < w.heap.size := (Array.getElem?_eq_some_iff.1 h).1
theorem Cnt.below {w w' : World} {b : Nat} {cs : List Int} (h : Cnt w b cs) (hb : Below w.heap.size w w') : Cnt w' b cs := (hb.block _ h.lt).trans h
theorem Cnt.cell {w : World} {b : Nat} {cs : List Int} (h : Cnt w b cs) {q : Nat} (hq : q < cs.length) : w.cell? ⟨b, q, none⟩ = some (.int .i64 (cs.getD q 0)) := by
  rw [cell_of_row _ _ _ _ _ _ h]
  simp [zv, hq, List.getD_eq_getElem?_getD]
theorem Cnt.free {w : World} {b : Nat} {cs : List Int} (h : Cnt w b cs) (q : Nat) : w.frozen? ⟨b, q, none⟩ = false := Lib.frozen_of_heap h q
theorem Cnt.put {w : World} {b : Nat} {cs : List Int} (h : Cnt w b cs) (q : Nat) (x : Int) : Cnt (w.setCell ⟨b, q, none⟩ (.int .i64 x)) b (cs.set q x) := by
  unfold Cnt World.setCell
  simp only [Array.getElem?_modify, if_true, show w.heap[b]? = _ from h, Option.map_some]
  simp [zv, List.map_set]
theorem Cnt.row {w : World} {b g : Nat} {cs : List Int} (h : Cnt w b cs) (hg : b ≠ g) (r : Array Value) : Cnt (w.setRow g r) b cs := (setRow_other w g b r hg).trans h
theorem get_b {l : List Bool} {q : Nat} (h : q < l.length) : l[q] = l.getD q false := by simp [List.getD_eq_getElem?_getD, h]
theorem get_s {l : List ByteArray} {q : Nat} (h : q < l.length) : l[q] = l.getD q ByteArray.empty := by simp [List.getD_eq_getElem?_getD, h]
section
variable (t p n : Nat) (A : Option Addr) (n1 c1 : Nat) (rs : List LR) (vs : Nat → MV) (w : World)
set_option maxRecDepth 100000 in
set_option maxHeartbeats 4000000 in
theorem once_bad (hR : RecsV w A rs vs) (hl1 : rs.length = n1) (hn1 : n1 ≤ maxLen) (ht8 : t ≤ 255) (hp8 : p ≤ 255) (hn8 : n ≤ 255) (hg : ¬ ((1 ≤ (t : Int) ∧ (t : Int) ≤ 16) ∧ (1 ≤ (p : Int) ∧ (p : Int) ≤ 16) ∧ (1 ≤ (n : Int) ∧ (n : Int) ≤ 16))) :
    Calls Try.prog 5 #[.int .u8 (t : Nat), .int .u8 (p : Nat), .int .u8 (n : Nat), .slice A n1 c1] w fun e w' => e = .returned (.bool true) ∧ Below w.heap.size w w' := by
  have KS1 := Lib.hid (fun W (h : Below w.heap.size w W) => small20_any A n1 c1 rs vs W (hR.below h) hl1 hn1); have HR := Lib.hid hR; have HL1 := Lib.hid hl1; have hm1 : n1 ≤ 9223372036854775807 := by simpa [maxLen] using hn1
  have KN := Lib.hid (fun W => new_no t p n hg W)
  have HB := Below.refl w.heap.size w
  have hmk := fun W => run_make_row' (P := Try.prog) 22 3 (.int .i64 0) 8 Try.underlying22 info_int rfl .i64 .i64 p (by omega) (by omega) W
  clear hR hl1 hn1 hg
  go_enter Try.func5, Try.ntmps5
  go_upto_region 5 with (first | (go_at_call 16; (with_reducible refine (awake20_any _).mono ?_); rintro e w2 ⟨rfl, hd⟩; replace HB := HB.trans (hd.mono HB.size); clear hd) | (go_at_call 17; (with_reducible refine (KS1.out _ HB).mono ?_); rintro e w2 ⟨q1, rfl, hs1, hd⟩; replace HB := HB.trans (hd.mono HB.size); clear hd; have F1 := Lib.hid hs1; (rcases hs1 with rfl | ⟨rfl, hs1⟩)) | (go_at_call 18; (with_reducible refine (KN.out _).mono ?_); rintro e w3 ⟨rfl, hd⟩; replace HB := HB.trans (hd.mono HB.size); clear hd))
  · go_ret
    exact ⟨rfl, HB⟩
  replace HB := HB.alloc HB.size (.cells #[.int .i64 0, .int .i64 0, .slice none 0 0, .slice none 0 0, .slice none 0 0, .slice none 0 0, .slice none 0 0, .slice none 0 0, .slice none 0 0, .int .i64 0, .int .i64 0] 42)
  replace HB := HB.alloc HB.size (.cells (madeCells #[.int .i64 0] p) 3)
  go_wp2
  go_loopw [12, 13, 14, 15] (fun i _ _ _ wr => i = .int .i64 0 ∧ Below w.heap.size w wr) (fun i _ _ _ _ => 0)
  case atStart => exact ⟨rfl, HB⟩
  case round =>
    clear HB
    obtain ⟨rfl, HB⟩ := hrel
    by_cases h0 : 0 < n1
    · have e0 : (0 : Int) < (n1 : Int) := by omega
      go_wp2
      go_ret
      exact ⟨rfl, HB⟩
    · obtain rfl : n1 = 0 := by omega
      go_wp2
      go_ret
      exact ⟨rfl, HB⟩
set_option maxRecDepth 100000 in
set_option maxHeartbeats 16000000 in
theorem once_good (hR : RecsV w A rs vs) (hl1 : rs.length = n1) (hn1 : n1 ≤ maxLen) (ht : 1 ≤ t ∧ t ≤ 16) (hp : 1 ≤ p ∧ p ≤ 16) (hn : 1 ≤ n ∧ n ≤ 16) :
    Calls Try.prog 5 #[.int .u8 (t : Nat), .int .u8 (p : Nat), .int .u8 (n : Nat), .slice A n1 c1] w fun e w' => e = .returned (.bool true) ∧ Below w.heap.size w w' := by
  have KS1 := Lib.hid (fun W (h : Below w.heap.size w W) => small20_any A n1 c1 rs vs W (hR.below h) hl1 hn1); have HR := Lib.hid hR; have HL1 := Lib.hid hl1; have hm1 : n1 ≤ 9223372036854775807 := by simpa [maxLen] using hn1
  have KN := Lib.hid (fun W => new_v t p n ht hp hn W)
  have HB := Below.refl w.heap.size w
  have HO0 := Lib.hid (onc_new t p n)
  have hsl0 : (newS t p n).has.length = p := by simp [newS]
  have hmk := fun W => run_make_row' (P := Try.prog) 22 3 (.int .i64 0) 8 Try.underlying22 info_int rfl .i64 .i64 p (by omega) (by omega) W
  have ht8 : t ≤ 255 := by omega
  have hp8 : p ≤ 255 := by omega
  have hn8 : n ≤ 255 := by omega
  clear hR hl1 hn1 ht hp hn
  generalize newS t p n = s0 at KN HO0 hsl0
  have HSL0 := Lib.hid hsl0
  clear hsl0
  go_enter Try.func5, Try.ntmps5
  go_upto_region 4 with (first | (go_at_call 16; (with_reducible refine (awake20_any _).mono ?_); rintro e w2 ⟨rfl, hd⟩; replace HB := HB.trans (hd.mono HB.size); clear hd) | (go_at_call 17; (with_reducible refine (KS1.out _ HB).mono ?_); rintro e w2 ⟨q1, rfl, hs1, hd⟩; replace HB := HB.trans (hd.mono HB.size); clear hd; have F1 := Lib.hid hs1; (rcases hs1 with rfl | ⟨rfl, hs1⟩)) | (go_at_call 18; (with_reducible refine (KN.out _).mono ?_); rintro e w3 ⟨x0, rfl, hS0, hd⟩; have hw2 := HB.size; replace HB := HB.trans (hd.mono HB.size); clear hd))
  · go_ret
    exact ⟨rfl, HB⟩
  have HV := VarT.new (w0 := w) hS0 HB.size
  replace HB := HB.alloc HB.size (.cells #[.int .i64 s0.n, .int .i64 s0.ep, .slice x0.A2 s0.done.length x0.c2, .slice x0.A3 s0.done.length x0.c3, .slice x0.A4 s0.done.length x0.c4, .slice x0.A5 s0.has.length x0.c5, .slice x0.A6 s0.has.length x0.c6, .slice x0.A7 s0.has.length x0.c7, .slice x0.A8 s0.has.length x0.c8, .int .i64 s0.fin, .int .i64 s0.er] 42)
  have hz := World.size_alloc w3 (.cells #[.int .i64 s0.n, .int .i64 s0.ep, .slice x0.A2 s0.done.length x0.c2, .slice x0.A3 s0.done.length x0.c3, .slice x0.A4 s0.done.length x0.c4, .slice x0.A5 s0.has.length x0.c5, .slice x0.A6 s0.has.length x0.c6, .slice x0.A7 s0.has.length x0.c7, .slice x0.A8 s0.has.length x0.c8, .int .i64 s0.fin, .int .i64 s0.er] 42)
  obtain ⟨g, hg⟩ : ∃ g, g = w3.heap.size := ⟨_, rfl⟩
  rw [← hg] at HV hz ⊢
  generalize w3.alloc (.cells #[.int .i64 s0.n, .int .i64 s0.ep, .slice x0.A2 s0.done.length x0.c2, .slice x0.A3 s0.done.length x0.c3, .slice x0.A4 s0.done.length x0.c4, .slice x0.A5 s0.has.length x0.c5, .slice x0.A6 s0.has.length x0.c6, .slice x0.A7 s0.has.length x0.c7, .slice x0.A8 s0.has.length x0.c8, .int .i64 s0.fin, .int .i64 s0.er] 42) = W0 at HV HB hz ⊢
  clear hS0 hw2 hg
  go_upto_region 5 with fail
  have hC : Cnt (W0.alloc (.cells (madeCells #[.int .i64 0] p) 3)) (g + 1) (List.replicate p 0) := by
    have h1 := heap_alloc_new W0 (.cells (madeCells #[.int .i64 0] p) 3)
    rw [hz, show madeCells #[Value.int .i64 0] p = (zv (List.replicate p 0)).toArray from Array.ext' (by rw [toList_madeCells_one]; simp [zv])] at h1
    rw [show madeCells #[Value.int .i64 0] p = (zv (List.replicate p 0)).toArray from Array.ext' (by rw [toList_madeCells_one]; simp [zv])]
    exact h1
  have hb := (Below.refl W0.heap.size W0).alloc (Nat.le_refl _) (.cells (madeCells #[.int .i64 0] p) 3)
  replace HV := HV.below hb
  replace HB := HB.trans (hb.mono HB.size)
  generalize W0.alloc (.cells (madeCells #[.int .i64 0] p) 3) = W1 at HV HB hC ⊢
  clear hb hz hmk
  go_wp2
  go_loopw [12, 13, 14, 15] (fun i _ _ _ wr => ∃ (k : Nat) (x : SV) (s : LS) (cs : List Int), k ≤ n1 ∧ i = .int .i64 k ∧ VarT w wr g x s ∧ Cnt wr (g + 1) cs ∧ Onc s cs ∧ s.has.length = p ∧ Below w.heap.size w wr) (fun i _ _ _ _ => n1 - (intOf i).toNat)
  case atStart => exact ⟨0, x0, s0, _, by omega, rfl, HV, hC, HO0.out, HSL0.out, HB⟩
  case round =>
    clear HV HB hC
    obtain ⟨k, x, s, cs, hk, rfl, HV, hC, hO, hsl, HB⟩ := hrel
    have HVV := Lib.hid HV
    have HCC := Lib.hid hC
    have HOO := Lib.hid hO
    have HLP := Lib.hid hsl
    clear hC hO hsl
    have FS1 := Lib.hid (F1.out.resolve_left (by decide)).2
    by_cases hlt : k < n1
    · skip
      have hkl : k < rs.length := by have := HL1.out; omega
      obtain ⟨b, off, rfl, hc⟩ := (HR.out.below HB).block (by omega)
      have hm := Lib.hid ((HR.out.below HB).man k hkl)
      have RA := hc k hkl
      have hsl := Lib.hid (FS1.out.2 _ (List.getElem_mem hkl)).1
      obtain ⟨r, hr⟩ : ∃ r, r = rs[k] := ⟨_, rfl⟩
      rw [← hr] at RA hm hsl
      generalize vs k = v at RA hm
      clear hc hr
      obtain ⟨f0, f1, f2, f3, f4, f5, f6, f7, f8⟩ := RA
      obtain ⟨P, hP⟩ : ∃ P, P = applyP s r := ⟨_, rfl⟩
      have HAP := Lib.hid (fun W (h : Below wr.heap.size wr W) => apply_v x s r v W (HVV.out.state.below h) (hm.out.below h) hsl.out)
      rw [← hP] at HAP
      have HP := Lib.hid hP
      have HLW := once_law r HOO.out
      obtain ⟨cs', hcs⟩ : ∃ c, c = bump s r cs := ⟨_, rfl⟩
      rw [← hP, ← hcs] at HLW
      replace HLW := Lib.hid HLW
      replace hcs := Lib.hid hcs
      clear hP
      have p0 : wr.cell? ⟨g, 0, none⟩ = some (.int .i64 s.n) := HVV.out.cell (j := 0) rfl
      have p1 : wr.cell? ⟨g, 1, none⟩ = some (.int .i64 s.ep) := HVV.out.cell (j := 1) rfl
      have p2 : wr.cell? ⟨g, 2, none⟩ = some (.slice x.A2 s.done.length x.c2) := HVV.out.cell (j := 2) rfl
      have p3 : wr.cell? ⟨g, 3, none⟩ = some (.slice x.A3 s.done.length x.c3) := HVV.out.cell (j := 3) rfl
      have p4 : wr.cell? ⟨g, 4, none⟩ = some (.slice x.A4 s.done.length x.c4) := HVV.out.cell (j := 4) rfl
      have p5 : wr.cell? ⟨g, 5, none⟩ = some (.slice x.A5 s.has.length x.c5) := HVV.out.cell (j := 5) rfl
      have p6 : wr.cell? ⟨g, 6, none⟩ = some (.slice x.A6 s.has.length x.c6) := HVV.out.cell (j := 6) rfl
      have p7 : wr.cell? ⟨g, 7, none⟩ = some (.slice x.A7 s.has.length x.c7) := HVV.out.cell (j := 7) rfl
      have p8 : wr.cell? ⟨g, 8, none⟩ = some (.slice x.A8 s.has.length x.c8) := HVV.out.cell (j := 8) rfl
      have p9 : wr.cell? ⟨g, 9, none⟩ = some (.int .i64 s.fin) := HVV.out.cell (j := 9) rfl
      have p10 : wr.cell? ⟨g, 10, none⟩ = some (.int .i64 s.er) := HVV.out.cell (j := 10) rfl
      clear HV
      go_upto_region 8 with fail
      go_cut [13, 14] from 47 to 56 (fun s13 s14 wx => ∃ (nb : Nat) (y : SV) (W9 : World), W9 = wx ∧ s13 = .pointer (some ⟨nb, 0, none⟩) ∧ s14 = .int .i64 P.2 ∧ VarN wr wx nb y P.1 ∧ Below wr.heap.size wr wx)
      case first =>
        have HS : Below wr.heap.size wr wr.drew := (Below.refl _ _).drew
        refine RegG.wp_region_g (fun W => Below wr.heap.size wr W) [5, 6] (by kernel_rfl) ?_
        generalize wr.drew = Wd at HS ⊢
        refine RegG.wpG.pure (v := ?_) 1 3 rfl (by kernel_rfl) (by decide) (fun _ _ _ h => h) ?_ rfl (fun _ => HS) ?_
        rotate_left
        · (intro w9; go_simp; first | done | with_reducible rfl)
        (try simp only [Act.put, List.setIfInBounds_toArray, List.set_cons_zero, List.set_cons_succ])
        refine RegG.wpG.pure (v := ?_) 2 3 rfl (by kernel_rfl) (by decide) (fun _ _ _ h => h) ?_ rfl (fun _ => HS) ?_
        rotate_left
        · (intro w9; go_simp; first | done | with_reducible rfl)
        (try simp only [Act.put, List.setIfInBounds_toArray, List.set_cons_zero, List.set_cons_succ])
        refine RegG.wpG.load (v := ?_) 0 6 rfl (by kernel_rfl) (by decide) (by decide) (fun _ _ _ h => h) ?_ rfl HS ?_
        rotate_left
        · (intro w9 hS9; have sp0 := cell_below hS9 p0; have sp1 := cell_below hS9 p1; have sp2 := cell_below hS9 p2; have sp3 := cell_below hS9 p3; have sp4 := cell_below hS9 p4; have sp5 := cell_below hS9 p5; have sp6 := cell_below hS9 p6; have sp7 := cell_below hS9 p7; have sp8 := cell_below hS9 p8; have sp9 := cell_below hS9 p9; have sp10 := cell_below hS9 p10; go_simp; first | done | with_reducible rfl)
        (try simp only [Act.put, List.setIfInBounds_toArray, List.set_cons_zero, List.set_cons_succ])
        refine RegG.wpG.pure (v := ?_) 3 4 rfl (by kernel_rfl) (by decide) (fun _ _ _ h => h) ?_ rfl (fun _ => HS) ?_
        rotate_left
        · (intro w9; go_simp; first | done | with_reducible rfl)
        (try simp only [Act.put, List.setIfInBounds_toArray, List.set_cons_zero, List.set_cons_succ])
        refine RegG.wpG.load (v := ?_) 4 5 rfl (by kernel_rfl) (by decide) (by decide) (fun _ _ _ h => h) ?_ rfl HS ?_
        rotate_left
        · (intro w9 hS9; have sf0 := cell_below hS9 f0; have sf1 := cell_below hS9 f1; have sf2 := cell_below hS9 f2; have sf3 := cell_below hS9 f3; have sf4 := cell_below hS9 f4; have sf5 := cell_below hS9 f5; have sf6 := cell_below hS9 f6; have sf7 := cell_below hS9 f7; have sf8 := cell_below hS9 f8; go_simp; first | done | with_reducible rfl)
        (try simp only [Act.put, List.setIfInBounds_toArray, List.set_cons_zero, List.set_cons_succ])
        refine RegG.wpG.two 5 10 (by kernel_rfl) rfl rfl rfl rfl (fun K hK => ?_) (fun K hK => ?_)
        · skip
          go_simp
          go_at_call 22
          (with_reducible refine (of_any r v _).mono ?_)
          rintro e w3 ⟨rfl, hd⟩
          have HS3 := HS.trans (hd.mono HS.size)
          clear hd
          refine hK.out _ _ (fun _ => HS3) ?_
          clear hK K
          (try simp only [Act.put, List.setIfInBounds_toArray, List.set_cons_zero, List.set_cons_succ])
          refine RegG.wpG.two 6 10 (by kernel_rfl) rfl rfl rfl rfl (fun K hK => ?_) (fun K hK => ?_)
          · skip
            go_simp
            go_at_call 21
            (with_reducible refine (HAP.out _ HS3).mono ?_)
            rintro e w4 ⟨y, rfl, hS4, hd⟩
            have HS4 := HS3.trans (hd.mono HS3.size)
            have hlow := HS3.size
            clear hd
            refine hK.out _ _ (fun h => absurd h (by decide)) ?_
            clear hK K
            (try simp only [Act.put, List.setIfInBounds_toArray, List.set_cons_zero, List.set_cons_succ])
            refine RegG.wpG.pure (v := ?_) 7 8 rfl (by kernel_rfl) (by decide) (fun _ _ _ h => h) ?_ rfl (fun h => absurd h (by decide)) ?_
            rotate_left
            · (intro w9; go_simp; first | done | with_reducible rfl)
            (try simp only [Act.put, List.setIfInBounds_toArray, List.set_cons_zero, List.set_cons_succ])
            refine RegG.wpG.pure (v := ?_) 8 11 rfl (by kernel_rfl) (by decide) (fun _ _ _ h => h) ?_ rfl (fun h => absurd h (by decide)) ?_
            rotate_left
            · (intro w9; go_simp; first | done | with_reducible rfl)
            (try simp only [Act.put, List.setIfInBounds_toArray, List.set_cons_zero, List.set_cons_succ])
            refine RegG.wpG.pure (v := ?_) 9 12 rfl (by kernel_rfl) (by decide) (fun _ _ _ h => h) ?_ rfl (fun h => absurd h (by decide)) ?_
            rotate_left
            · (intro w9; go_simp; first | done | with_reducible rfl)
            (try simp only [Act.put, List.setIfInBounds_toArray, List.set_cons_zero, List.set_cons_succ])
            refine RegG.wpG.one 10 (by kernel_rfl) rfl rfl (fun K hK => ?_)
            go_simp
            have hnA := heap_alloc_new w4 (.cells #[.int .i64 0, .int .i64 0, .slice none 0 0, .slice none 0 0, .slice none 0 0, .slice none 0 0, .slice none 0 0, .slice none 0 0, .slice none 0 0, .int .i64 0, .int .i64 0] 42)
            have hnz := World.size_alloc w4 (.cells #[.int .i64 0, .int .i64 0, .slice none 0 0, .slice none 0 0, .slice none 0 0, .slice none 0 0, .slice none 0 0, .slice none 0 0, .slice none 0 0, .int .i64 0, .int .i64 0] 42)
            have hnB := (Below.refl w4.heap.size w4).alloc (Nat.le_refl _) (.cells #[.int .i64 0, .int .i64 0, .slice none 0 0, .slice none 0 0, .slice none 0 0, .slice none 0 0, .slice none 0 0, .slice none 0 0, .slice none 0 0, .int .i64 0, .int .i64 0] 42)
            have HS5 := HS4.trans (hnB.mono HS4.size)
            obtain ⟨nb, hnb⟩ : ∃ n, n = w4.heap.size := ⟨_, rfl⟩
            have hnl : wr.heap.size ≤ nb := by rw [hnb]; exact HS4.size
            have hS5 := StateB.below hS4 hnB
            have hgb : nb < w3.heap.size ∨ w4.heap.size ≤ nb := .inr (by rw [hnb]; exact Nat.le_refl _)
            rw [← hnb] at hnA hnz ⊢
            clear hnb
            generalize w4.alloc (.cells #[.int .i64 0, .int .i64 0, .slice none 0 0, .slice none 0 0, .slice none 0 0, .slice none 0 0, .slice none 0 0, .slice none 0 0, .slice none 0 0, .int .i64 0, .int .i64 0] 42) = wa at hnA hnz hnB HS5 hS5 ⊢
            refine hK.out _ _ (fun h => absurd h (by decide)) ?_
            clear hK K
            (try simp only [Act.put, List.setIfInBounds_toArray, List.set_cons_zero, List.set_cons_succ])
            have hhi : w4.heap.size ≤ wa.heap.size := hnB.size
            refine RegG.wpG.one 11 (by kernel_rfl) rfl rfl (fun K hK => ?_)
            refine wp_store_row 42 (.tmp 13) (.tmp 55) rfl nb (y.cells P.1) rfl rfl 42 #[.int .i64 0, .int .i64 0, .slice none 0 0, .slice none 0 0, .slice none 0 0, .slice none 0 0, .slice none 0 0, .slice none 0 0, .slice none 0 0, .int .i64 0, .int .i64 0] hnA info_state rfl (SV.one y P.1) ?_
            refine hK.out _ _ (fun h => absurd h (by decide)) ?_
            clear hK K
            (try simp only [Act.put, List.setIfInBounds_toArray, List.set_cons_zero, List.set_cons_succ])
            refine RegG.wpG.one 12 (by kernel_rfl) rfl rfl (fun K hK => ?_)
            go_simp
            refine hK.out _ _ (fun h => absurd h (by decide)) ?_
            clear hK K
            (try simp only [Act.put, List.setIfInBounds_toArray, List.set_cons_zero, List.set_cons_succ])
            refine RegG.wpG.done (by kernel_rfl) ?_ _
            go_wp2_with fail
            go_meet
            exact ⟨nb, y, _, rfl, rfl, rfl, VarN.put hnA hnl hS5 hlow hgb hhi, below_put HS5 hnl _⟩
          · skip
            go_simp
            have hnA := heap_alloc_new w3 (.cells #[.int .i64 0, .int .i64 0, .slice none 0 0, .slice none 0 0, .slice none 0 0, .slice none 0 0, .slice none 0 0, .slice none 0 0, .slice none 0 0, .int .i64 0, .int .i64 0] 42)
            have hnz := World.size_alloc w3 (.cells #[.int .i64 0, .int .i64 0, .slice none 0 0, .slice none 0 0, .slice none 0 0, .slice none 0 0, .slice none 0 0, .slice none 0 0, .slice none 0 0, .int .i64 0, .int .i64 0] 42)
            have hnB := (Below.refl w3.heap.size w3).alloc (Nat.le_refl _) (.cells #[.int .i64 0, .int .i64 0, .slice none 0 0, .slice none 0 0, .slice none 0 0, .slice none 0 0, .slice none 0 0, .slice none 0 0, .slice none 0 0, .int .i64 0, .int .i64 0] 42)
            have HS5 := HS3.trans (hnB.mono HS3.size)
            obtain ⟨nb, hnb⟩ : ∃ n, n = w3.heap.size := ⟨_, rfl⟩
            have hnl : wr.heap.size ≤ nb := by rw [hnb]; exact HS3.size
            rw [← hnb] at hnA hnz ⊢
            clear hnb
            generalize w3.alloc (.cells #[.int .i64 0, .int .i64 0, .slice none 0 0, .slice none 0 0, .slice none 0 0, .slice none 0 0, .slice none 0 0, .slice none 0 0, .slice none 0 0, .int .i64 0, .int .i64 0] 42) = wa at hnA hnz hnB HS5 ⊢
            refine hK.out _ _ (fun _ => HS5) ?_
            clear hK K
            (try simp only [Act.put, List.setIfInBounds_toArray, List.set_cons_zero, List.set_cons_succ])
            refine RegG.wpG.one 6 (by kernel_rfl) rfl rfl (fun K hK => ?_)
            go_simp
            go_at_call 21
            (with_reducible refine (HAP.out _ HS5).mono ?_)
            rintro e w4 ⟨y, rfl, hS4, hd⟩
            have HS6 := HS5.trans (hd.mono HS5.size)
            have hlow := HS5.size
            replace hnA := (hd.block _ (by omega)).trans hnA
            have hS5 := hS4
            have hgb : nb < wa.heap.size ∨ w4.heap.size ≤ nb := .inl (by omega)
            have hhi := Nat.le_refl w4.heap.size
            clear hd
            refine hK.out _ _ (fun h => absurd h (by decide)) ?_
            clear hK K
            (try simp only [Act.put, List.setIfInBounds_toArray, List.set_cons_zero, List.set_cons_succ])
            refine RegG.wpG.pure (v := ?_) 7 8 rfl (by kernel_rfl) (by decide) (fun _ _ _ h => h) ?_ rfl (fun h => absurd h (by decide)) ?_
            rotate_left
            · (intro w9; go_simp; first | done | with_reducible rfl)
            (try simp only [Act.put, List.setIfInBounds_toArray, List.set_cons_zero, List.set_cons_succ])
            refine RegG.wpG.pure (v := ?_) 8 11 rfl (by kernel_rfl) (by decide) (fun _ _ _ h => h) ?_ rfl (fun h => absurd h (by decide)) ?_
            rotate_left
            · (intro w9; go_simp; first | done | with_reducible rfl)
            (try simp only [Act.put, List.setIfInBounds_toArray, List.set_cons_zero, List.set_cons_succ])
            refine RegG.wpG.pure (v := ?_) 9 12 rfl (by kernel_rfl) (by decide) (fun _ _ _ h => h) ?_ rfl (fun h => absurd h (by decide)) ?_
            rotate_left
            · (intro w9; go_simp; first | done | with_reducible rfl)
            (try simp only [Act.put, List.setIfInBounds_toArray, List.set_cons_zero, List.set_cons_succ])
            refine RegG.wpG.one 11 (by kernel_rfl) rfl rfl (fun K hK => ?_)
            refine wp_store_row 42 (.tmp 13) (.tmp 55) rfl nb (y.cells P.1) rfl rfl 42 #[.int .i64 0, .int .i64 0, .slice none 0 0, .slice none 0 0, .slice none 0 0, .slice none 0 0, .slice none 0 0, .slice none 0 0, .slice none 0 0, .int .i64 0, .int .i64 0] hnA info_state rfl (SV.one y P.1) ?_
            refine hK.out _ _ (fun h => absurd h (by decide)) ?_
            clear hK K
            (try simp only [Act.put, List.setIfInBounds_toArray, List.set_cons_zero, List.set_cons_succ])
            refine RegG.wpG.one 12 (by kernel_rfl) rfl rfl (fun K hK => ?_)
            go_simp
            refine hK.out _ _ (fun h => absurd h (by decide)) ?_
            clear hK K
            (try simp only [Act.put, List.setIfInBounds_toArray, List.set_cons_zero, List.set_cons_succ])
            refine RegG.wpG.done (by kernel_rfl) ?_ _
            go_wp2_with fail
            go_meet
            exact ⟨nb, y, _, rfl, rfl, rfl, VarN.put hnA hnl hS5 hlow hgb hhi, below_put HS6 hnl _⟩
        · skip
          go_simp
          have hnA := heap_alloc_new Wd (.cells #[.int .i64 0, .int .i64 0, .slice none 0 0, .slice none 0 0, .slice none 0 0, .slice none 0 0, .slice none 0 0, .slice none 0 0, .slice none 0 0, .int .i64 0, .int .i64 0] 42)
          have hnz := World.size_alloc Wd (.cells #[.int .i64 0, .int .i64 0, .slice none 0 0, .slice none 0 0, .slice none 0 0, .slice none 0 0, .slice none 0 0, .slice none 0 0, .slice none 0 0, .int .i64 0, .int .i64 0] 42)
          have hnB := (Below.refl Wd.heap.size Wd).alloc (Nat.le_refl _) (.cells #[.int .i64 0, .int .i64 0, .slice none 0 0, .slice none 0 0, .slice none 0 0, .slice none 0 0, .slice none 0 0, .slice none 0 0, .slice none 0 0, .int .i64 0, .int .i64 0] 42)
          have HS0 := HS.trans (hnB.mono HS.size)
          obtain ⟨nb, hnb⟩ : ∃ n, n = Wd.heap.size := ⟨_, rfl⟩
          have hnl : wr.heap.size ≤ nb := by rw [hnb]; exact HS.size
          rw [← hnb] at hnA hnz ⊢
          clear hnb
          generalize Wd.alloc (.cells #[.int .i64 0, .int .i64 0, .slice none 0 0, .slice none 0 0, .slice none 0 0, .slice none 0 0, .slice none 0 0, .slice none 0 0, .slice none 0 0, .int .i64 0, .int .i64 0] 42) = wa at hnA hnz hnB HS0 ⊢
          refine hK.out _ _ (fun _ => HS0) ?_
          clear hK K
          (try simp only [Act.put, List.setIfInBounds_toArray, List.set_cons_zero, List.set_cons_succ])
          have HZ := HS
          replace HS := HS0
          refine RegG.wpG.one 5 (by kernel_rfl) rfl rfl (fun K hK => ?_)
          go_simp
          go_at_call 22
          (with_reducible refine (of_any r v _).mono ?_)
          rintro e w3 ⟨rfl, hd⟩
          have HS3 := HS.trans (hd.mono HS.size)
          replace hnA := (hd.block _ (by omega)).trans hnA
          have hnz3 := hd.size
          clear hd
          refine hK.out _ _ (fun _ => HS3) ?_
          clear hK K
          (try simp only [Act.put, List.setIfInBounds_toArray, List.set_cons_zero, List.set_cons_succ])
          refine RegG.wpG.one 6 (by kernel_rfl) rfl rfl (fun K hK => ?_)
          go_simp
          go_at_call 21
          (with_reducible refine (HAP.out _ HS3).mono ?_)
          rintro e w4 ⟨y, rfl, hS4, hd⟩
          have HS4 := HS3.trans (hd.mono HS3.size)
          have hlow := HS3.size
          replace hnA := (hd.block _ (by omega)).trans hnA
          have hS5 := hS4
          have hgb : nb < w3.heap.size ∨ w4.heap.size ≤ nb := .inl (by omega)
          have hhi := Nat.le_refl w4.heap.size
          clear hd
          refine hK.out _ _ (fun h => absurd h (by decide)) ?_
          clear hK K
          (try simp only [Act.put, List.setIfInBounds_toArray, List.set_cons_zero, List.set_cons_succ])
          refine RegG.wpG.pure (v := ?_) 7 8 rfl (by kernel_rfl) (by decide) (fun _ _ _ h => h) ?_ rfl (fun h => absurd h (by decide)) ?_
          rotate_left
          · (intro w9; go_simp; first | done | with_reducible rfl)
          (try simp only [Act.put, List.setIfInBounds_toArray, List.set_cons_zero, List.set_cons_succ])
          refine RegG.wpG.pure (v := ?_) 8 11 rfl (by kernel_rfl) (by decide) (fun _ _ _ h => h) ?_ rfl (fun h => absurd h (by decide)) ?_
          rotate_left
          · (intro w9; go_simp; first | done | with_reducible rfl)
          (try simp only [Act.put, List.setIfInBounds_toArray, List.set_cons_zero, List.set_cons_succ])
          refine RegG.wpG.pure (v := ?_) 9 12 rfl (by kernel_rfl) (by decide) (fun _ _ _ h => h) ?_ rfl (fun h => absurd h (by decide)) ?_
          rotate_left
          · (intro w9; go_simp; first | done | with_reducible rfl)
          (try simp only [Act.put, List.setIfInBounds_toArray, List.set_cons_zero, List.set_cons_succ])
          refine RegG.wpG.one 11 (by kernel_rfl) rfl rfl (fun K hK => ?_)
          refine wp_store_row 42 (.tmp 13) (.tmp 55) rfl nb (y.cells P.1) rfl rfl 42 #[.int .i64 0, .int .i64 0, .slice none 0 0, .slice none 0 0, .slice none 0 0, .slice none 0 0, .slice none 0 0, .slice none 0 0, .slice none 0 0, .int .i64 0, .int .i64 0] hnA info_state rfl (SV.one y P.1) ?_
          refine hK.out _ _ (fun h => absurd h (by decide)) ?_
          clear hK K
          (try simp only [Act.put, List.setIfInBounds_toArray, List.set_cons_zero, List.set_cons_succ])
          refine RegG.wpG.one 12 (by kernel_rfl) rfl rfl (fun K hK => ?_)
          go_simp
          refine hK.out _ _ (fun h => absurd h (by decide)) ?_
          clear hK K
          (try simp only [Act.put, List.setIfInBounds_toArray, List.set_cons_zero, List.set_cons_succ])
          refine RegG.wpG.done (by kernel_rfl) ?_ _
          go_wp2_with fail
          go_meet
          exact ⟨nb, y, _, rfl, rfl, rfl, VarN.put hnA hnl hS5 hlow hgb hhi, below_put HS4 hnl _⟩
      case rest =>
        obtain ⟨nb, y, wx, rfl, rfl, rfl, HN, HS⟩ := hcut
        clear HAP hm hsl p0 p1 p2 p3 p4 p5 p6 p7 p8 p9 p10
        have HG := Lib.hid (HVV.out.below HS)
        have HC := Lib.hid (HCC.out.below HS)
        have hgs : g + 1 < wr.heap.size := HCC.out.lt
        have HNN := Lib.hid HN
        replace f0 := cell_below HS f0
        replace f1 := cell_below HS f1
        have HB2 := Lib.hid (HB.trans (HS.mono HB.size))
        clear HN HS HB f2 f3 f4 f5 f6 f7 f8
        obtain ⟨s', m9⟩ := P
        dsimp only at HNN HLW HP ⊢
        go_upto_region 9 with fail
        go_cut [66] from 57 to 65 (fun s66 wy => wx = wy ∧ ∃ bb : Bool, s66 = .bool bb ∧ (bb = true ↔ (m9 = 0 ∧ r.kind = 6)))
        case first =>
          by_cases hm0 : m9 = 0
          · subst hm0
            by_cases hk6 : r.kind = 6
            · have hk6b := hk6
              rw [hk6] at f0
              replace hk6b := Lib.hid hk6b
              clear hk6
              go_wp2
              go_meet
              exact ⟨rfl, true, rfl, by simp [hk6b.out]⟩
            · have tk : (r.kind == 6) = false := by simpa using hk6
              have HK := Lib.hid hk6
              clear hk6
              go_wp2
              go_meet
              exact ⟨rfl, false, rfl, by simp [HK.out]⟩
          · have tm : (((m9 : Nat) : Int) == 0) = false := by simp; omega
            have HM := Lib.hid hm0
            clear hm0
            go_wp2
            go_meet
            exact ⟨rfl, false, rfl, by simp [HM.out]⟩
        case rest =>
        obtain ⟨rfl, bb, rfl, hbb⟩ := hcut
        rename_i KK hKK
        refine hKK _ _ ?_
        skip
        go_cut [] from 66 to 76 (fun wy => ∃ W9 : World, W9 = wy ∧ VarN wr wy nb y s' ∧ VarT w wy g x s ∧ Cnt wy (g + 1) cs' ∧ Below w.heap.size w wy)
        case first =>
          cases bb with
          | true =>
            have hmk := hbb.1 rfl
            clear hbb
            skip
            obtain ⟨hm0, hk6⟩ := hmk
            obtain ⟨hn0, hnp⟩ := HLW.out.2.2.2 ⟨hm0, hk6⟩
            have hcs2 := hcs.out
            rw [bump_yes (by rw [← HP.out]; exact hm0) hk6] at hcs2
            obtain ⟨q, hq⟩ := Int.eq_ofNat_of_zero_le hn0
            rw [hq, Int.toNat_natCast] at hcs2
            rw [hq] at f1
            have hqp : q < p := by have := HLP.out; omega
            have hqc : q < cs.length := by have := HOO.out.len; have := HLP.out; omega
            have cc := HC.out.cell hqc
            have hcb : 0 ≤ cs.getD q 0 ∧ cs.getD q 0 ≤ 1 := by have := HOO.out.cnt q (by have := HLP.out; omega); omega
            have zc := HC.out.free q
            generalize hcv : cs.getD q 0 = c at cc hcb hcs2
            have HCS := Lib.hid hcs2
            subst hm0
            clear hcs hcs2 hn0 hnp hq hk6 hcv
            have HN3 := Lib.hid (HNN.out.old (b := g + 1) hgs q (.int .i64 (c + 1)))
            have HG3 := Lib.hid (HG.out.next q (.int .i64 (c + 1)))
            have HC3 := Lib.hid (HC.out.put q (c + 1))
            have HB3 := Lib.hid (HB2.out.setCell (p := ⟨g + 1, q, none⟩) (by have := HG.out.lo; show w.heap.size ≤ g + 1; omega) (.int .i64 (c + 1)))
            go_wp2
            go_meet
            exact ⟨_, rfl, HN3.out, HG3.out, by rw [HCS.out]; exact HC3.out, HB3.out⟩
          | false =>
            have hmk : ¬ (m9 = 0 ∧ r.kind = 6) := fun h => absurd (hbb.2 h) (by decide)
            have hcs2 := hcs.out
            rw [bump_no (by rw [← HP.out]; exact hmk)] at hcs2
            subst hcs2
            clear hmk hcs hbb
            go_wp2
            go_meet
            exact ⟨_, rfl, HNN.out, HG.out, HC.out, HB2.out⟩
        case rest =>
          clear f0 f1 HG HC HNN HB2 hbb
          obtain ⟨wy, rfl, HN, HG, HC, HB⟩ := hcut
          have HNN := Lib.hid HN
          have HGG := Lib.hid HG
          have HCC := Lib.hid HC
          have HBB := Lib.hid HB
          clear HN HG HC HB
          go_upto_region 11 with fail
          go_cut [84] from 77 to 83 (fun s84 wz => s84 = .bool false ∧ ∃ W9 : World, W9 = wz ∧ Below wy.heap.size wy wz)
          case first =>
            by_cases hm0 : m9 = 0
            · subst hm0
              go_wp2
              go_meet
              exact ⟨rfl, _, rfl, Below.refl _ _⟩
            · have tm : (((m9 : Nat) : Int) != 0) = true := by simp; omega
              have es : s' = s := by have h1 := applyP_no (s := s) (r := r) (by rw [← HP.out]; exact hm0); rw [← HP.out] at h1; exact h1
              have HN4 := HNN.out
              rw [es] at HN4
              have p0 : wy.cell? ⟨g, 0, none⟩ = some (.int .i64 s.n) := HGG.out.cell (j := 0) rfl
              have p1 : wy.cell? ⟨g, 1, none⟩ = some (.int .i64 s.ep) := HGG.out.cell (j := 1) rfl
              have p2 : wy.cell? ⟨g, 2, none⟩ = some (.slice x.A2 s.done.length x.c2) := HGG.out.cell (j := 2) rfl
              have p3 : wy.cell? ⟨g, 3, none⟩ = some (.slice x.A3 s.done.length x.c3) := HGG.out.cell (j := 3) rfl
              have p4 : wy.cell? ⟨g, 4, none⟩ = some (.slice x.A4 s.done.length x.c4) := HGG.out.cell (j := 4) rfl
              have p5 : wy.cell? ⟨g, 5, none⟩ = some (.slice x.A5 s.has.length x.c5) := HGG.out.cell (j := 5) rfl
              have p6 : wy.cell? ⟨g, 6, none⟩ = some (.slice x.A6 s.has.length x.c6) := HGG.out.cell (j := 6) rfl
              have p7 : wy.cell? ⟨g, 7, none⟩ = some (.slice x.A7 s.has.length x.c7) := HGG.out.cell (j := 7) rfl
              have p8 : wy.cell? ⟨g, 8, none⟩ = some (.slice x.A8 s.has.length x.c8) := HGG.out.cell (j := 8) rfl
              have p9 : wy.cell? ⟨g, 9, none⟩ = some (.int .i64 s.fin) := HGG.out.cell (j := 9) rfl
              have p10 : wy.cell? ⟨g, 10, none⟩ = some (.int .i64 s.er) := HGG.out.cell (j := 10) rfl
              have q0 : wy.cell? ⟨nb, 0, none⟩ = some (.int .i64 s.n) := HN4.cell (j := 0) rfl
              have q1 : wy.cell? ⟨nb, 1, none⟩ = some (.int .i64 s.ep) := HN4.cell (j := 1) rfl
              have q2 : wy.cell? ⟨nb, 2, none⟩ = some (.slice y.A2 s.done.length y.c2) := HN4.cell (j := 2) rfl
              have q3 : wy.cell? ⟨nb, 3, none⟩ = some (.slice y.A3 s.done.length y.c3) := HN4.cell (j := 3) rfl
              have q4 : wy.cell? ⟨nb, 4, none⟩ = some (.slice y.A4 s.done.length y.c4) := HN4.cell (j := 4) rfl
              have q5 : wy.cell? ⟨nb, 5, none⟩ = some (.slice y.A5 s.has.length y.c5) := HN4.cell (j := 5) rfl
              have q6 : wy.cell? ⟨nb, 6, none⟩ = some (.slice y.A6 s.has.length y.c6) := HN4.cell (j := 6) rfl
              have q7 : wy.cell? ⟨nb, 7, none⟩ = some (.slice y.A7 s.has.length y.c7) := HN4.cell (j := 7) rfl
              have q8 : wy.cell? ⟨nb, 8, none⟩ = some (.slice y.A8 s.has.length y.c8) := HN4.cell (j := 8) rfl
              have q9 : wy.cell? ⟨nb, 9, none⟩ = some (.int .i64 s.fin) := HN4.cell (j := 9) rfl
              have q10 : wy.cell? ⟨nb, 10, none⟩ = some (.int .i64 s.er) := HN4.cell (j := 10) rfl
              replace HN4 := Lib.hid HN4
              clear es hm0
              go_wp2_with (go_at_call 25; (with_reducible refine (same_v y x s _ HN4.out.state HGG.out.state).mono ?_); rintro e w7 ⟨rfl, hd⟩)
              go_meet
              exact ⟨rfl, _, rfl, hd⟩
          case rest =>
            obtain ⟨rfl, wz, rfl, hd⟩ := hcut
            have HN5 := Lib.hid (HNN.out.below hd)
            have HG5 := Lib.hid (HGG.out.below hd)
            have HC5 := Lib.hid (HCC.out.below hd)
            have HB5 := Lib.hid (HBB.out.trans (hd.mono HBB.out.size))
            clear hd HNN HGG HCC HBB
            have hsl := HLP.out
            have hsl2 := HLW.out.2.1
            go_wp2
            go_loopw [15] (fun i wq => ∃ q : Nat, q ≤ p ∧ i = .int .i64 q ∧ Below wz.heap.size wz wq) (fun i _ => p - (intOf i).toNat)
            case atStart => exact ⟨0, by omega, rfl, Below.refl _ _⟩
            case round =>
              obtain ⟨q, hq, rfl, hq9⟩ := hrel
              skip
              have HNq := Lib.hid (HN5.out.below hq9)
              have HGq := Lib.hid (HG5.out.below hq9)
              have HCq := Lib.hid (HC5.out.below hq9)
              have HBq := Lib.hid (HB5.out.trans (hq9.mono HB5.out.size))
              by_cases hqp : q < p
              · have L := HLW.out
                have i0 : (0 : Int) ≤ (q : Int) := by omega
                have i1 : (q : Int) < (s.has.length : Int) := by omega
                have i2 : (q : Int) < (s'.has.length : Int) := by omega
                have i3 : (q : Int) < (p : Int) := by omega
                have lx8 : q < s.com.length := by have := L.1.lc; have := HOO.out.lc; omega
                have ly8 : q < s'.com.length := by have := L.1.lc; omega
                have lx6 : q < s.res.length := by have := HOO.out.lr; omega
                have ly6 : q < s'.res.length := by have := L.1.lr; omega
                have ly5 : q < s'.has.length := by omega
                obtain ⟨bx8, ox8, ex8, kx8⟩ := HGq.out.state.c.block (by omega)
                obtain ⟨by8, oy8, ey8, ky8⟩ := HNq.out.state.c.block (by omega)
                obtain ⟨bx6, ox6, ex6, kx6⟩ := HGq.out.state.r.block (by omega)
                obtain ⟨by6, oy6, ey6, ky6⟩ := HNq.out.state.r.block (by omega)
                obtain ⟨by5, oy5, ey5, ky5⟩ := HNq.out.state.h.block (by omega)
                have ax8 := kx8 q lx8
                have ay8 := ky8 q ly8
                have ax6 := kx6 q lx6
                have ay6 := ky6 q ly6
                have ay5 := ky5 q ly5
                rw [get_b] at ax8 ay8 ay5
                rw [get_s] at ax6 ay6
                have ac := HCq.out.cell (q := q) (by have := L.1.len; omega)
                have px8 : _ = some (Value.slice x.A8 s.has.length x.c8) := HGq.out.cell (j := 8) rfl
                rw [ex8] at px8
                have px6 : _ = some (Value.slice x.A6 s.has.length x.c6) := HGq.out.cell (j := 6) rfl
                rw [ex6] at px6
                have py8 : _ = some (Value.slice y.A8 s'.has.length y.c8) := HNq.out.cell (j := 8) rfl
                rw [ey8] at py8
                have py6 : _ = some (Value.slice y.A6 s'.has.length y.c6) := HNq.out.cell (j := 6) rfl
                rw [ey6] at py6
                have py5 : _ = some (Value.slice y.A5 s'.has.length y.c5) := HNq.out.cell (j := 5) rfl
                rw [ey5] at py5
                have py9 : _ = some (Value.int .i64 s'.fin) := HNq.out.cell (j := 9) rfl
                have hcnt := L.1.cnt q (by omega)
                have hall := fun h => L.1.all q (by omega) h
                have hkeep := L.2.2.1 q (by omega)
                replace hall : s'.com.getD q false = true → s'.has.getD q false = true ∧ s'.fin ≤ 1 := fun h => ⟨(hall h).1 q (by omega), (hall h).2⟩
                have HQ9 := Lib.hid hq9
                clear kx8 ky8 kx6 ky6 ky5 ex8 ey8 ex6 ey6 ey5 L hq9
                generalize s.com.getD q false = C at ax8 hkeep
                generalize s'.com.getD q false = C' at ay8 hcnt hall hkeep
                generalize s'.has.getD q false = H' at ay5 hall
                generalize s.res.getD q ByteArray.empty = R at ax6 hkeep
                generalize s'.res.getD q ByteArray.empty = R' at ay6 hkeep
                generalize cs'.getD q 0 = cn at ac hcnt
                generalize s'.fin = fn at py9 hall
                cases C' with
                | true =>
                  obtain ⟨rfl, hfn⟩ := hall rfl
                  have hcn : cn = 1 := hcnt.elim (fun h => absurd h.2 (by decide)) (fun h => h.1)
                  subst hcn
                  have tf9 : decide (1 < fn) = false := by simp; omega
                  clear hcnt hall
                  cases C with
                  | true =>
                    obtain rfl := (hkeep rfl).2
                    have tr : (R'.toList == R'.toList) = true := by simp
                    clear hkeep
                    go_upto_region 16 with fail
                    go_quiet (fail)
                    go_wp2
                    go_roundw
                    case rel => exact ⟨q + 1, by omega, by go_num, below_drewN HQ9.out _⟩
                    case measure => simp [intOf]; omega
                  | false =>
                    clear hkeep
                    go_upto_region 16 with fail
                    go_quiet (fail)
                    go_wp2
                    go_roundw
                    case rel => exact ⟨q + 1, by omega, by go_num, below_drewN HQ9.out _⟩
                    case measure => simp [intOf]; omega
                | false =>
                  have hcn : cn = 0 := hcnt.elim (fun h => h.1) (fun h => absurd h.2 (by decide))
                  subst hcn
                  clear hcnt hall
                  cases C with
                  | true => exact absurd (hkeep rfl).1 (by decide)
                  | false =>
                    clear hkeep
                    go_upto_region 16 with fail
                    go_quiet (fail)
                    go_wp2
                    go_roundw
                    case rel => exact ⟨q + 1, by omega, by go_num, below_drewN HQ9.out _⟩
                    case measure => simp [intOf]; omega
              · obtain rfl : q = p := by omega
                have q0 : _ = some (Value.int .i64 s'.n) := HNq.out.cell (j := 0) rfl
                have q1 : _ = some (Value.int .i64 s'.ep) := HNq.out.cell (j := 1) rfl
                have q2 : _ = some (Value.slice y.A2 s'.done.length y.c2) := HNq.out.cell (j := 2) rfl
                have q3 : _ = some (Value.slice y.A3 s'.done.length y.c3) := HNq.out.cell (j := 3) rfl
                have q4 : _ = some (Value.slice y.A4 s'.done.length y.c4) := HNq.out.cell (j := 4) rfl
                have q5 : _ = some (Value.slice y.A5 s'.has.length y.c5) := HNq.out.cell (j := 5) rfl
                have q6 : _ = some (Value.slice y.A6 s'.has.length y.c6) := HNq.out.cell (j := 6) rfl
                have q7 : _ = some (Value.slice y.A7 s'.has.length y.c7) := HNq.out.cell (j := 7) rfl
                have q8 : _ = some (Value.slice y.A8 s'.has.length y.c8) := HNq.out.cell (j := 8) rfl
                have q9 : _ = some (Value.int .i64 s'.fin) := HNq.out.cell (j := 9) rfl
                have q10 : _ = some (Value.int .i64 s'.er) := HNq.out.cell (j := 10) rfl
                have hA := HGq.out.box
                have hone := SV.one y s'
                clear hq9 hsl hsl2
                go_wp2_with (refine wpList_store_row rfl 42 (.tmp 9) (.tmp 144) rfl g (y.cells s') rfl rfl 42 (x.cells s) hA info_state rfl hone ?_)
                go_roundw
                case rel => exact ⟨k + 1, y, s', cs', by omega, by go_num, VarN.over HNq.out hA HGq.out.lo hgs, Cnt.row HCq.out (by omega) _, HLW.out.1, HLW.out.2.1.trans HLP.out, below_put HBq.out HGq.out.lo _⟩
                case measure => simp [intOf]; omega
    · obtain rfl : k = n1 := by omega
      go_wp2
      go_ret
      exact ⟨rfl, HB⟩
end
end Go.Proofs.Ytmlemichkeomjaa.LedW
