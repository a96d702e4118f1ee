/- Texts of this claim in one. -/
import Derived.Test.YtmlemichkeomjaaRefWhy1
import Derived.Test.YtmlemichkeomjaaLedSt2
import Derived.Test.YtmlemichkeomjaaM12
import Derived.Deep.CutRange
/- stooklaw20.same of a state and its like. -/
set_option linter.unusedVariables false
set_option linter.unusedSimpArgs false
namespace Go.Proofs.Ytmlemichkeomjaa.LedW
open Go.RowKit Go.Proofs.Ytmlemichkeomjaa.Base Go.Proofs.Ytmlemichkeomjaa.MendW Go.Proofs.Ytmlemichkeomjaa.ManP Go.Proofs.Ytmlemichkeomjaa.ManW Go.Proofs.Ytmlemichkeomjaa.LedP
theorem same16_yes (m : Man) (v v' : MV) (w : World) (h : ManV w v m) (h' : ManV w v' m) (hs : Slim m) :
    Calls Try.prog 49 #[.agg #[.int .i64 m.task, .int .i64 m.att, .slice v.A2 m.sz.length v.c2, .slice v.A3 m.sm.length v.c3, .slice v.A4 m.hm.length v.c4], .agg #[.int .i64 m.task, .int .i64 m.att, .slice v'.A2 m.sz.length v'.c2, .slice v'.A3 m.sm.length v'.c3, .slice v'.A4 m.hm.length v'.c4]] w fun e w' => e = .returned (.bool true) ∧ Below w.heap.size w w' :=
  (same16_any m m v v' w h h' hs hs).mono fun e w' h => ⟨by rw [h.1, sameD_yes rfl], h.2⟩
set_option maxRecDepth 100000 in
set_option maxHeartbeats 8000000 in
theorem same20_any (x : SV) (y : RV) (s : LS) (w : World) (h : StW w x s) (hy : RefW w y s) :
    Calls Try.prog 20 #[.agg #[.int .i64 s.n, .int .i64 s.ep, .slice x.A2 s.done.length x.c2, .slice x.A3 s.done.length x.c3, .slice x.A4 s.done.length x.c4, .slice x.A5 s.has.length x.c5, .slice x.A6 s.has.length x.c6, .slice x.A7 s.has.length x.c7, .slice x.A8 s.has.length x.c8, .int .i64 s.fin, .int .i64 s.er], .agg #[.int .i64 s.n, .int .i64 s.ep, .int .i64 s.fin, .int .i64 s.er, .slice y.B s.done.length y.cb, .slice y.C s.has.length y.cc]] w fun e w' => e = .returned (.bool true) ∧ Below w.heap.size w w' := by
  have HX := Lib.hid h
  have HY := Lib.hid hy
  have fd := h.ok.few
  have fp := h.ok.fewp
  have y0 : (s.n != s.n) = false := by simp
  have y1 : (s.ep != s.ep) = false := by simp
  have y2 : (s.fin != s.fin) = false := by simp
  have y3 : (s.er != s.er) = false := by simp
  have y4 : (((s.done.length : Nat) : Int) != ((s.done.length : Nat) : Int)) = false := by simp
  have y5 : (((s.has.length : Nat) : Int) != ((s.has.length : Nat) : Int)) = false := by simp
  clear h hy
  go_enter Try.func20, Try.ntmps20
  go_upto_region 1 with fail
  have hA := heap_alloc_new w (.cells #[.int .i64 s.n, .int .i64 s.ep, .slice x.A2 s.done.length x.c2, .slice x.A3 s.done.length x.c3, .slice x.A4 s.done.length x.c4, .slice x.A5 s.has.length x.c5, .slice x.A6 s.has.length x.c6, .slice x.A7 s.has.length x.c7, .slice x.A8 s.has.length x.c8, .int .i64 s.fin, .int .i64 s.er] 42)
  have HB := (Below.refl w.heap.size w).alloc (Nat.le_refl _) (.cells #[.int .i64 s.n, .int .i64 s.ep, .slice x.A2 s.done.length x.c2, .slice x.A3 s.done.length x.c3, .slice x.A4 s.done.length x.c4, .slice x.A5 s.has.length x.c5, .slice x.A6 s.has.length x.c6, .slice x.A7 s.has.length x.c7, .slice x.A8 s.has.length x.c8, .int .i64 s.fin, .int .i64 s.er] 42)
  have hz := World.size_alloc w (.cells #[.int .i64 s.n, .int .i64 s.ep, .slice x.A2 s.done.length x.c2, .slice x.A3 s.done.length x.c3, .slice x.A4 s.done.length x.c4, .slice x.A5 s.has.length x.c5, .slice x.A6 s.has.length x.c6, .slice x.A7 s.has.length x.c7, .slice x.A8 s.has.length x.c8, .int .i64 s.fin, .int .i64 s.er] 42)
  generalize w.alloc (.cells #[.int .i64 s.n, .int .i64 s.ep, .slice x.A2 s.done.length x.c2, .slice x.A3 s.done.length x.c3, .slice x.A4 s.done.length x.c4, .slice x.A5 s.has.length x.c5, .slice x.A6 s.has.length x.c6, .slice x.A7 s.has.length x.c7, .slice x.A8 s.has.length x.c8, .int .i64 s.fin, .int .i64 s.er] 42) = W0 at hA HB hz ⊢
  have hA2 := heap_alloc_new W0 (.cells #[.int .i64 s.n, .int .i64 s.ep, .int .i64 s.fin, .int .i64 s.er, .slice y.B s.done.length y.cb, .slice y.C s.has.length y.cc] 48)
  have d1 := (Below.refl W0.heap.size W0).alloc (Nat.le_refl _) (.cells #[.int .i64 s.n, .int .i64 s.ep, .int .i64 s.fin, .int .i64 s.er, .slice y.B s.done.length y.cb, .slice y.C s.has.length y.cc] 48)
  generalize W0.alloc (.cells #[.int .i64 s.n, .int .i64 s.ep, .int .i64 s.fin, .int .i64 s.er, .slice y.B s.done.length y.cb, .slice y.C s.has.length y.cc] 48) = W at hA2 d1 ⊢
  replace hA := (d1.block _ (by omega)).trans hA
  replace HB := bt HB HB.size d1
  rw [hz] at hA2
  have p0 : W.cell? ⟨w.heap.size, 0, none⟩ = some (.int .i64 s.n) := by rw [cell_of_row _ _ _ _ _ _ hA]; rfl
  have p1 : W.cell? ⟨w.heap.size, 1, none⟩ = some (.int .i64 s.ep) := by rw [cell_of_row _ _ _ _ _ _ hA]; rfl
  have p2 : W.cell? ⟨w.heap.size, 2, none⟩ = some (.slice x.A2 s.done.length x.c2) := by rw [cell_of_row _ _ _ _ _ _ hA]; rfl
  have p3 : W.cell? ⟨w.heap.size, 3, none⟩ = some (.slice x.A3 s.done.length x.c3) := by rw [cell_of_row _ _ _ _ _ _ hA]; rfl
  have p4 : W.cell? ⟨w.heap.size, 4, none⟩ = some (.slice x.A4 s.done.length x.c4) := by rw [cell_of_row _ _ _ _ _ _ hA]; rfl
  have p5 : W.cell? ⟨w.heap.size, 5, none⟩ = some (.slice x.A5 s.has.length x.c5) := by rw [cell_of_row _ _ _ _ _ _ hA]; rfl
  have p6 : W.cell? ⟨w.heap.size, 6, none⟩ = some (.slice x.A6 s.has.length x.c6) := by rw [cell_of_row _ _ _ _ _ _ hA]; rfl
  have p7 : W.cell? ⟨w.heap.size, 7, none⟩ = some (.slice x.A7 s.has.length x.c7) := by rw [cell_of_row _ _ _ _ _ _ hA]; rfl
  have p8 : W.cell? ⟨w.heap.size, 8, none⟩ = some (.slice x.A8 s.has.length x.c8) := by rw [cell_of_row _ _ _ _ _ _ hA]; rfl
  have p9 : W.cell? ⟨w.heap.size, 9, none⟩ = some (.int .i64 s.fin) := by rw [cell_of_row _ _ _ _ _ _ hA]; rfl
  have p10 : W.cell? ⟨w.heap.size, 10, none⟩ = some (.int .i64 s.er) := by rw [cell_of_row _ _ _ _ _ _ hA]; rfl
  have q0 : W.cell? ⟨w.heap.size + 1, 0, none⟩ = some (.int .i64 s.n) := by rw [cell_of_row _ _ _ _ _ _ hA2]; rfl
  have q1 : W.cell? ⟨w.heap.size + 1, 1, none⟩ = some (.int .i64 s.ep) := by rw [cell_of_row _ _ _ _ _ _ hA2]; rfl
  have q2 : W.cell? ⟨w.heap.size + 1, 2, none⟩ = some (.int .i64 s.fin) := by rw [cell_of_row _ _ _ _ _ _ hA2]; rfl
  have q3 : W.cell? ⟨w.heap.size + 1, 3, none⟩ = some (.int .i64 s.er) := by rw [cell_of_row _ _ _ _ _ _ hA2]; rfl
  have q4 : W.cell? ⟨w.heap.size + 1, 4, none⟩ = some (.slice y.B s.done.length y.cb) := by rw [cell_of_row _ _ _ _ _ _ hA2]; rfl
  have q5 : W.cell? ⟨w.heap.size + 1, 5, none⟩ = some (.slice y.C s.has.length y.cc) := by rw [cell_of_row _ _ _ _ _ _ hA2]; rfl
  have HXW := Lib.hid (HX.out.below HB)
  have HYW := Lib.hid (HY.out.below HB)
  clear hA hA2 d1 hz
  go_wp2
  clear p0 p1 p9 p10 q0 q1 q2 q3
  go_loopw [5] (fun a wr => ∃ k : Nat, k ≤ s.done.length ∧ a = .int .i64 k ∧ Below w.heap.size w wr ∧ Below W.heap.size W wr) (fun a _ => s.done.length - (intOf a).toNat)
  case atStart => exact ⟨0, by omega, rfl, HB, Below.refl _ _⟩
  case round =>
    clear HB
    obtain ⟨k, hk, rfl, HB, hd⟩ := hrel
    have HD := Lib.hid hd
    have r2 := cell_below hd p2
    have r3 := cell_below hd p3
    have r4 := cell_below hd p4
    have s4 := cell_below hd q4
    have s5 := cell_below hd q5
    have hxw := HXW.out.below hd
    have hyw := HYW.out.below hd
    clear hd
    by_cases hlt : k < s.done.length
    · have i1 : (k : Int) < ((s.done.length : Nat) : Int) := by omega
      have lt : k < s.te.length := by rw [hxw.ok.lt]; exact hlt
      have lm : k < s.ms.length := by rw [hxw.ok.lm]; exact hlt
      obtain ⟨b2, o2, e2, c2⟩ := hxw.d.block (by omega)
      obtain ⟨b4, o4, e4, c4⟩ := hxw.t.block (by omega)
      obtain ⟨b3, o3, e3, m0, m1, m2, m3, m4⟩ := hxw.m.cells k lm
      obtain ⟨b, off, eB, g0, g1, g2, g3, g4, g5, g6⟩ := hyw.task hlt
      have h2 := c2 k hlt
      have h4 := c4 k lt
      rw [getD_b hlt] at g0
      rw [getD_i lt] at g6
      have em : s.ms.getD k noMan = s.ms[k] := by simp [List.getD_eq_getElem?_getD, lm]
      have hmy := hyw.man k hlt
      rw [em] at g1 g2 g3 g4 g5 hmy
      have hmx := hxw.m.man k lm
      have hsl := hxw.ok.slim _ (List.getElem_mem lm)
      rw [e2] at r2
      rw [e3] at r3
      rw [e4] at r4
      rw [eB] at s4
      clear c2 c4 e2 e3 e4 eB em p2 p3 p4 p5 p6 p7 p8 q4 q5 s5
      generalize s.done[k] = D at h2 g0
      generalize s.te[k] = E at h4 g6
      generalize s.ms[k] = m at m0 m1 m2 m3 m4 g1 g2 g3 g4 g5 hmy hmx hsl
      generalize x.vs k = v at m0 m1 m2 m3 m4 hmx
      generalize y.vs k = u at g3 g4 g5 hmy
      have HS := Lib.hid (fun W9 (hB : Below wr.heap.size wr W9) => same16_yes m v u W9 (hmx.below hB) (hmy.below hB) hsl)
      clear hxw hyw hmx hmy hsl
      have tD : (D != D) = false := by simp
      have tE : (E != E) = false := by simp
      go_upto_region 6 with fail
      replace r2 := regrown_cell r2
      replace r3 := regrown_cell r3
      replace r4 := regrown_cell r4
      replace s4 := regrown_cell s4
      replace m0 := regrown_cell m0
      replace m1 := regrown_cell m1
      replace m2 := regrown_cell m2
      replace m3 := regrown_cell m3
      replace m4 := regrown_cell m4
      replace g0 := regrown_cell g0
      replace g1 := regrown_cell g1
      replace g2 := regrown_cell g2
      replace g3 := regrown_cell g3
      replace g4 := regrown_cell g4
      replace g5 := regrown_cell g5
      replace g6 := regrown_cell g6
      replace h2 := regrown_cell h2
      replace h4 := regrown_cell h4
      (refine wp_region_quiet_below (by kernel_rfl) (by kernel_rfl) ?_; (repeat (go_big_quiet_step ((go_at_call 49; with_reducible exact Calls.regrown_of (HS.out _ (below_regrown _ _ _)))))); refine wpQuiet_nil ?_; intro wq hw'; have HQ := below_of_regrown hw'; clear hw')
      have HE := HB.trans (HQ.mono HB.size)
      have HE2 := HD.out.trans (HQ.mono HD.out.size)
      clear HQ HS r2 r3 r4 s4 m0 m1 m2 m3 m4 g0 g1 g2 g3 g4 g5 g6 h2 h4
      go_wp2
      go_roundw
      case rel => exact ⟨k + 1, by omega, by go_num, HE, HE2⟩
      case measure => simp [intOf]; omega
    · obtain rfl : k = s.done.length := by omega
      clear hxw hyw
      go_wp2
      clear r2 r3 r4 s4 s5
      go_loopw [6, 7] (fun a _ wr => ∃ k : Nat, k ≤ s.has.length ∧ a = .int .i64 k ∧ Below w.heap.size w wr ∧ Below W.heap.size W wr) (fun a _ _ => s.has.length - (intOf a).toNat)
      case atStart => exact ⟨0, by omega, rfl, HB, HD.out⟩
      case round =>
        clear HB HD
        obtain ⟨k, hk, rfl, HB, hd⟩ := hrel
        have HD := Lib.hid hd
        have r5 := cell_below hd p5
        have r6 := cell_below hd p6
        have r7 := cell_below hd p7
        have r8 := cell_below hd p8
        have s5 := cell_below hd q5
        have hxw := HXW.out.below hd
        have hyw := HYW.out.below hd
        clear hd
        by_cases hlt : k < s.has.length
        · have i1 : (k : Int) < ((s.has.length : Nat) : Int) := by omega
          have lr : k < s.res.length := by rw [hxw.ok.lr]; exact hlt
          have lp : k < s.pe.length := by rw [hxw.ok.lp]; exact hlt
          have lc : k < s.com.length := by rw [hxw.ok.lc]; exact hlt
          obtain ⟨b5, o5, e5, c5⟩ := hxw.h.block (by omega)
          obtain ⟨b6, o6, e6, c6⟩ := hxw.r.block (by omega)
          obtain ⟨b7, o7, e7, c7⟩ := hxw.p.block (by omega)
          obtain ⟨b8, o8, e8, c8⟩ := hxw.c.block (by omega)
          obtain ⟨b, off, eB, g0, g1, g2, g3⟩ := hyw.part hlt
          have h5 := c5 k hlt
          have h6 := c6 k lr
          have h7 := c7 k lp
          have h8 := c8 k lc
          rw [getD_b hlt] at g0
          rw [show s.res.getD k ByteArray.empty = s.res[k] from by simp [List.getD_eq_getElem?_getD, lr]] at g1
          rw [getD_i lp] at g2
          rw [getD_b lc] at g3
          rw [e5] at r5
          rw [e6] at r6
          rw [e7] at r7
          rw [e8] at r8
          rw [eB] at s5
          clear c5 c6 c7 c8 e5 e6 e7 e8 eB p2 p3 p4 p5 p6 p7 p8 q4 q5 hxw hyw
          generalize s.has[k] = H at h5 g0
          generalize s.res[k] = R at h6 g1
          generalize s.pe[k] = E at h7 g2
          generalize s.com[k] = C at h8 g3
          have tH : (H != H) = false := by simp
          have tE : (E != E) = false := by simp
          have tC : (C != C) = false := by simp
          have tR : (R.toList == R.toList) = true := by simp
          go_upto_region 12 with fail
          have hA := heap_alloc_new wr (.cells #[.bool H, .string R, .int .i64 E, .bool C] 108)
          have hd := (Below.refl wr.heap.size wr).alloc (Nat.le_refl _) (.cells #[.bool H, .string R, .int .i64 E, .bool C] 108)
          replace r5 := cell_below hd r5
          replace r6 := cell_below hd r6
          replace r7 := cell_below hd r7
          replace r8 := cell_below hd r8
          replace h5 := cell_below hd h5
          replace h6 := cell_below hd h6
          replace h7 := cell_below hd h7
          replace h8 := cell_below hd h8
          replace HB := HB.trans (hd.mono HB.size)
          replace HD := Lib.hid (HD.out.trans (hd.mono HD.out.size))
          obtain ⟨pb, hpb⟩ : ∃ n, n = wr.heap.size := ⟨_, rfl⟩
          rw [← hpb] at hA ⊢
          clear hd g0 g1 g2 g3 s5 hpb
          generalize wr.alloc (.cells #[.bool H, .string R, .int .i64 E, .bool C] 108) = wa at hA r5 r6 r7 r8 h5 h6 h7 h8 HB HD ⊢
          have z0 : wa.cell? ⟨pb, 0, none⟩ = some (.bool H) := by rw [cell_of_row _ _ _ _ _ _ hA]; rfl
          have z1 : wa.cell? ⟨pb, 1, none⟩ = some (.string R) := by rw [cell_of_row _ _ _ _ _ _ hA]; rfl
          have z2 : wa.cell? ⟨pb, 2, none⟩ = some (.int .i64 E) := by rw [cell_of_row _ _ _ _ _ _ hA]; rfl
          have z3 : wa.cell? ⟨pb, 3, none⟩ = some (.bool C) := by rw [cell_of_row _ _ _ _ _ _ hA]; rfl
          clear hA
          replace r5 := regrown_cell r5
          replace r6 := regrown_cell r6
          replace r7 := regrown_cell r7
          replace r8 := regrown_cell r8
          replace h5 := regrown_cell h5
          replace h6 := regrown_cell h6
          replace h7 := regrown_cell h7
          replace h8 := regrown_cell h8
          replace z0 := regrown_cell z0
          replace z1 := regrown_cell z1
          replace z2 := regrown_cell z2
          replace z3 := regrown_cell z3
          (refine wp_region_quiet_below (by kernel_rfl) (by kernel_rfl) ?_; (repeat (go_big_quiet_step (fail))); refine wpQuiet_nil ?_; intro wq hw'; have HQ := below_of_regrown hw'; clear hw')
          have HE := HB.trans (HQ.mono HB.size)
          have HE2 := HD.out.trans (HQ.mono HD.out.size)
          clear HQ r5 r6 r7 r8 h5 h6 h7 h8 z0 z1 z2 z3
          go_wp2
          go_roundw
          case rel => exact ⟨k + 1, by omega, by go_num, HE, HE2⟩
          case measure => simp [intOf]; omega
        · obtain rfl : k = s.has.length := by omega
          go_wp2
          go_ret
          exact ⟨rfl, HB⟩
end Go.Proofs.Ytmlemichkeomjaa.LedW

/- The program's state and the reference's, each in a block of its own. -/
set_option linter.unusedVariables false
set_option linter.unusedSimpArgs false
namespace Go.Proofs.Ytmlemichkeomjaa.LedW
open Go.RowKit Go.Proofs.Ytmlemichkeomjaa.Base Go.Proofs.Ytmlemichkeomjaa.MendW Go.Proofs.Ytmlemichkeomjaa.ManP Go.Proofs.Ytmlemichkeomjaa.ManW Go.Proofs.Ytmlemichkeomjaa.LedP
/-- The block g holds the state s, whose rows are neither there nor in the block gr. -/
structure VarU (w0 w : World) (g gr : Nat) (x : SV) (s : LS) : Prop where
  box : w.heap[g]? = some (.cells (x.cells s) 42 (0, 0))
  st : ∃ lo hi, StB lo hi w x s ∧ (gr < lo ∨ hi ≤ g) ∧ hi ≤ w.heap.size
  lo : w0.heap.size ≤ g
  le : g < gr
/-- The block gr holds the reference's state s, whose rows are neither there nor in the block g; its manifests lie below w0. -/
structure VarR (w0 w : World) (g gr : Nat) (y : RV) (s : LS) : Prop where
  box : w.heap[gr]? = some (.cells (y.cells s) 48 (0, 0))
  st : ∃ lo hi, RefC w0.heap.size lo hi w y s ∧ g < lo ∧ (gr < lo ∨ hi ≤ gr) ∧ hi ≤ w.heap.size
  lo : w0.heap.size ≤ g
  le : g < gr
section
variable {w0 w w' : World} {g gr : Nat} {x : SV} {y : RV} {s : LS}
theorem VarU.lt (h : VarU w0 w g gr x s) : g < w.heap.size := (Array.getElem?_eq_some_iff.1 h.box).1
theorem VarU.state (h : VarU w0 w g gr x s) : StW w x s := by
  obtain ⟨lo, hi, h1, _⟩ := h.st
  exact StateB.here h1
theorem VarU.below (h : VarU w0 w g gr x s) (hb : Below w.heap.size w w') : VarU w0 w' g gr x s := by
  obtain ⟨lo, hi, h1, h2, h3⟩ := h.st
  exact ⟨(hb.block _ h.lt).trans h.box, ⟨lo, hi, StateB.below h1 (hb.mono h3), h2, Nat.le_trans h3 hb.size⟩, h.lo, h.le⟩
theorem VarU.cell (h : VarU w0 w g gr x s) {j : Nat} {u : Value} (hu : (x.cells s)[j]? = some u) : w.cell? ⟨g, j, none⟩ = some u := by rw [cell_of_row _ _ _ _ _ _ h.box]; exact hu
/-- A store into the other's block. -/
theorem VarU.other (h : VarU w0 w g gr x s) (cs : Array Value) : VarU w0 (w.setRow gr cs) g gr x s := by
  obtain ⟨lo, hi, h1, h2, h3⟩ := h.st
  have := h.le
  exact ⟨(setRow_other _ _ g _ (by omega)).trans h.box, ⟨lo, hi, StateB.keep h1 fun k h4 h5 => setRow_other _ _ k _ (by omega), h2, by simpa using h3⟩, h.lo, h.le⟩
theorem VarR.lt (h : VarR w0 w g gr y s) : gr < w.heap.size := (Array.getElem?_eq_some_iff.1 h.box).1
theorem VarR.state (h : VarR w0 w g gr y s) : RefW w y s := by
  obtain ⟨lo, hi, h1, _⟩ := h.st
  exact h1.here
theorem VarR.below (h : VarR w0 w g gr y s) (hb : Below w.heap.size w w') : VarR w0 w' g gr y s := by
  obtain ⟨lo, hi, h1, h2, h3, h4⟩ := h.st
  exact ⟨(hb.block _ h.lt).trans h.box, ⟨lo, hi, h1.below hb (by have := h.lo; have := h.le; have := h.lt; omega) h4, h2, h3, Nat.le_trans h4 hb.size⟩, h.lo, h.le⟩
theorem VarR.cell (h : VarR w0 w g gr y s) {j : Nat} {u : Value} (hu : (y.cells s)[j]? = some u) : w.cell? ⟨gr, j, none⟩ = some u := by rw [cell_of_row _ _ _ _ _ _ h.box]; exact hu
/-- A store into the other's block. -/
theorem VarR.other (h : VarR w0 w g gr y s) (cs : Array Value) : VarR w0 (w.setRow g cs) g gr y s := by
  obtain ⟨lo, hi, h1, h2, h3, h4⟩ := h.st
  have := h.le
  have := h.lo
  exact ⟨(setRow_other _ _ gr _ (by omega)).trans h.box, ⟨lo, hi, h1.keep fun k hk => setRow_other _ _ k _ (by omega), h2, h3, by simpa using h4⟩, h.lo, h.le⟩
/-- Another state of the reference's laid into its block. -/
theorem VarR.put {lo hi : Nat} {cs : Array Value} {y' : RV} {s' : LS} (hb : w.heap[gr]? = some (.cells cs 48 (0, 0))) (hl : w0.heap.size ≤ g) (hg : g < gr) (hs : RefC w0.heap.size lo hi w y' s') (hlo : gr < lo) (hh : hi ≤ w.heap.size) : VarR w0 (w.setRow gr (y'.cells s')) g gr y' s' :=
  ⟨setRow_heap _ _ _ _ _ _ hb, ⟨lo, hi, hs.keep fun k hk => setRow_other _ _ k _ (by omega), by omega, .inl hlo, by simpa using hh⟩, hl, hg⟩
/-- The new state laid into the old one's block. -/
theorem VarN.overU {wa : World} (h : VarN wa w gr x s) {b c : Nat} {cs : Array Value} (hb : w.heap[b]? = some (.cells cs 42 (0, 0))) (hl : w0.heap.size ≤ b) (hbc : b < c) (hc : c < wa.heap.size) : VarU w0 (w.setRow b (x.cells s)) b c x s := by
  obtain ⟨lo, hi, h1, h2, h3, h4⟩ := h.st
  exact ⟨setRow_heap _ _ _ _ _ _ hb, ⟨lo, hi, StateB.keep h1 (fun k h5 h6 => setRow_other _ _ k _ (by omega)), .inl (by omega), by simpa using h4⟩, hl, hbc⟩
/-- The new state keeps where the reference's is laid anew. -/
theorem VarN.oldRow (h : VarN w0 w g x s) {b : Nat} (hb : b < w0.heap.size) (cs : Array Value) : VarN w0 (w.setRow b cs) g x s := by
  obtain ⟨lo, hi, h1, h2, h3, h4⟩ := h.st
  have := h.lo
  exact ⟨(setRow_other _ _ g _ (by omega)).trans h.box, ⟨lo, hi, StateB.keep h1 fun k h5 h6 => setRow_other _ _ k _ (by omega), h2, h3, by simpa using h4⟩, h.lo⟩
end
theorem newS_inv (t p n : Nat) : RInv (newS t p n) := ⟨fun a ha hd => by
  simp only [newS, List.length_replicate] at ha
  simp [newS, List.getD_eq_getElem?_getD, ha] at hd, fun a ha hd => by
  simp only [newS, List.length_replicate] at ha
  simp [newS, List.getD_eq_getElem?_getD, ha] at hd⟩
end Go.Proofs.Ytmlemichkeomjaa.LedW

/- stooklaw20.LedgerPlays walked. -/
set_option linter.unusedVariables false
set_option linter.unusedSimpArgs false
namespace Go.Proofs.Ytmlemichkeomjaa.LedW
open Go.RowKit Go.Proofs.Ytmlemichkeomjaa.Base Go.Proofs.Ytmlemichkeomjaa.MendW Go.Proofs.Ytmlemichkeomjaa.ManP Go.Proofs.Ytmlemichkeomjaa.ManW Go.Proofs.Ytmlemichkeomjaa.LedP
section
variable (A : Option Addr) (n1 c1 : Nat) (rs : List LR) (vs : Nat → MV) (w : World)
set_option maxRecDepth 100000 in
set_option maxHeartbeats 4000000 in
theorem plays_bad (t p n : Int) (hR : RecsV w A rs vs) (hl1 : rs.length = n1) (hn1 : n1 ≤ maxLen) (hg : ¬ ((1 ≤ t ∧ t ≤ 16) ∧ (1 ≤ p ∧ p ≤ 16) ∧ (1 ≤ n ∧ n ≤ 16))) :
    Calls Try.prog 4 #[.int .i64 t, .int .i64 p, .int .i64 n, .slice A n1 c1] w fun e w' => e = .returned (.bool true) ∧ Below w.heap.size w w' := by
  have KS1 := Lib.hid (fun W (h : Below w.heap.size w W) => small20_any A n1 c1 rs vs W (hR.below h) hl1 hn1); have HR := Lib.hid hR; have HL1 := Lib.hid hl1; have hm1 : n1 ≤ 9223372036854775807 := by simpa [maxLen] using hn1
  have KN := Lib.hid (fun W => new_no t p n hg W)
  have HB := Below.refl w.heap.size w
  clear hR hl1 hn1
  by_cases k0 : t < 1
  · have u0 : decide (t < 1) = true := by simpa using k0
    clear hg
    go_enter Try.func4, Try.ntmps4
    go_wp2_with (first | (go_at_call 16; (with_reducible refine (awake20_any _).mono ?_); rintro e w2 ⟨rfl, hd⟩; replace HB := HB.trans (hd.mono HB.size); clear hd) | (go_at_call 17; (with_reducible refine (KS1.out _ HB).mono ?_); rintro e w2 ⟨q1, rfl, hs1, hd⟩; replace HB := HB.trans (hd.mono HB.size); clear hd; have F1 := Lib.hid hs1; (rcases hs1 with rfl | ⟨rfl, hs1⟩)) | (go_at_call 18; (with_reducible refine (KN.out _).mono ?_); rintro e w3 ⟨rfl, hd⟩; replace HB := HB.trans (hd.mono HB.size); clear hd))
    all_goals go_ret
    all_goals first | exact ⟨rfl, HB⟩ | exact ⟨rfl, HB.alloc HB.size _⟩
  have u0 : decide (t < 1) = false := by simpa using k0
  by_cases k1 : 16 < t
  · have u1 : decide (16 < t) = true := by simpa using k1
    clear hg
    go_enter Try.func4, Try.ntmps4
    go_wp2_with (first | (go_at_call 16; (with_reducible refine (awake20_any _).mono ?_); rintro e w2 ⟨rfl, hd⟩; replace HB := HB.trans (hd.mono HB.size); clear hd) | (go_at_call 17; (with_reducible refine (KS1.out _ HB).mono ?_); rintro e w2 ⟨q1, rfl, hs1, hd⟩; replace HB := HB.trans (hd.mono HB.size); clear hd; have F1 := Lib.hid hs1; (rcases hs1 with rfl | ⟨rfl, hs1⟩)) | (go_at_call 18; (with_reducible refine (KN.out _).mono ?_); rintro e w3 ⟨rfl, hd⟩; replace HB := HB.trans (hd.mono HB.size); clear hd))
    all_goals go_ret
    all_goals first | exact ⟨rfl, HB⟩ | exact ⟨rfl, HB.alloc HB.size _⟩
  have u1 : decide (16 < t) = false := by simpa using k1
  by_cases k2 : p < 1
  · have u2 : decide (p < 1) = true := by simpa using k2
    clear hg
    go_enter Try.func4, Try.ntmps4
    go_wp2_with (first | (go_at_call 16; (with_reducible refine (awake20_any _).mono ?_); rintro e w2 ⟨rfl, hd⟩; replace HB := HB.trans (hd.mono HB.size); clear hd) | (go_at_call 17; (with_reducible refine (KS1.out _ HB).mono ?_); rintro e w2 ⟨q1, rfl, hs1, hd⟩; replace HB := HB.trans (hd.mono HB.size); clear hd; have F1 := Lib.hid hs1; (rcases hs1 with rfl | ⟨rfl, hs1⟩)) | (go_at_call 18; (with_reducible refine (KN.out _).mono ?_); rintro e w3 ⟨rfl, hd⟩; replace HB := HB.trans (hd.mono HB.size); clear hd))
    all_goals go_ret
    all_goals first | exact ⟨rfl, HB⟩ | exact ⟨rfl, HB.alloc HB.size _⟩
  have u2 : decide (p < 1) = false := by simpa using k2
  by_cases k3 : 16 < p
  · have u3 : decide (16 < p) = true := by simpa using k3
    clear hg
    go_enter Try.func4, Try.ntmps4
    go_wp2_with (first | (go_at_call 16; (with_reducible refine (awake20_any _).mono ?_); rintro e w2 ⟨rfl, hd⟩; replace HB := HB.trans (hd.mono HB.size); clear hd) | (go_at_call 17; (with_reducible refine (KS1.out _ HB).mono ?_); rintro e w2 ⟨q1, rfl, hs1, hd⟩; replace HB := HB.trans (hd.mono HB.size); clear hd; have F1 := Lib.hid hs1; (rcases hs1 with rfl | ⟨rfl, hs1⟩)) | (go_at_call 18; (with_reducible refine (KN.out _).mono ?_); rintro e w3 ⟨rfl, hd⟩; replace HB := HB.trans (hd.mono HB.size); clear hd))
    all_goals go_ret
    all_goals first | exact ⟨rfl, HB⟩ | exact ⟨rfl, HB.alloc HB.size _⟩
  have u3 : decide (16 < p) = false := by simpa using k3
  by_cases k4 : n < 1
  · have u4 : decide (n < 1) = true := by simpa using k4
    clear hg
    go_enter Try.func4, Try.ntmps4
    go_wp2_with (first | (go_at_call 16; (with_reducible refine (awake20_any _).mono ?_); rintro e w2 ⟨rfl, hd⟩; replace HB := HB.trans (hd.mono HB.size); clear hd) | (go_at_call 17; (with_reducible refine (KS1.out _ HB).mono ?_); rintro e w2 ⟨q1, rfl, hs1, hd⟩; replace HB := HB.trans (hd.mono HB.size); clear hd; have F1 := Lib.hid hs1; (rcases hs1 with rfl | ⟨rfl, hs1⟩)) | (go_at_call 18; (with_reducible refine (KN.out _).mono ?_); rintro e w3 ⟨rfl, hd⟩; replace HB := HB.trans (hd.mono HB.size); clear hd))
    all_goals go_ret
    all_goals first | exact ⟨rfl, HB⟩ | exact ⟨rfl, HB.alloc HB.size _⟩
  have u4 : decide (n < 1) = false := by simpa using k4
  by_cases k5 : 16 < n
  · have u5 : decide (16 < n) = true := by simpa using k5
    clear hg
    go_enter Try.func4, Try.ntmps4
    go_wp2_with (first | (go_at_call 16; (with_reducible refine (awake20_any _).mono ?_); rintro e w2 ⟨rfl, hd⟩; replace HB := HB.trans (hd.mono HB.size); clear hd) | (go_at_call 17; (with_reducible refine (KS1.out _ HB).mono ?_); rintro e w2 ⟨q1, rfl, hs1, hd⟩; replace HB := HB.trans (hd.mono HB.size); clear hd; have F1 := Lib.hid hs1; (rcases hs1 with rfl | ⟨rfl, hs1⟩)) | (go_at_call 18; (with_reducible refine (KN.out _).mono ?_); rintro e w3 ⟨rfl, hd⟩; replace HB := HB.trans (hd.mono HB.size); clear hd))
    all_goals go_ret
    all_goals first | exact ⟨rfl, HB⟩ | exact ⟨rfl, HB.alloc HB.size _⟩
  have u5 : decide (16 < n) = false := by simpa using k5
  exact absurd ⟨⟨by omega, by omega⟩, ⟨by omega, by omega⟩, by omega, by omega⟩ hg
set_option maxRecDepth 100000 in
set_option maxHeartbeats 16000000 in
theorem plays_good (t p n : Nat) (hR : RecsV w A rs vs) (hl1 : rs.length = n1) (hn1 : n1 ≤ maxLen) (ht : 1 ≤ t ∧ t ≤ 16) (hp : 1 ≤ p ∧ p ≤ 16) (hn : 1 ≤ n ∧ n ≤ 16) :
    Calls Try.prog 4 #[.int .i64 (t : Nat), .int .i64 (p : Nat), .int .i64 (n : Nat), .slice A n1 c1] w fun e w' => e = .returned (.bool true) ∧ Below w.heap.size w w' := by
  have KS1 := Lib.hid (fun W (h : Below w.heap.size w W) => small20_any A n1 c1 rs vs W (hR.below h) hl1 hn1); have HR := Lib.hid hR; have HL1 := Lib.hid hl1; have hm1 : n1 ≤ 9223372036854775807 := by simpa [maxLen] using hn1
  have KN := Lib.hid (fun W => new_v t p n ht hp hn W)
  have KRN := Lib.hid (fun W => ref_new w.heap.size t p n ht.2 hp.2 W)
  have HB := Below.refl w.heap.size w
  have HI0 := Lib.hid (newS_inv t p n)
  have HL0 := Lib.hid (show 0 < (newS t p n).done.length ∧ 0 < (newS t p n).has.length by simp [newS]; omega)
  have u0 : decide ((t : Int) < 1) = false := by simp; omega
  have u1 : decide (16 < (t : Int)) = false := by simp; omega
  have u2 : decide ((p : Int) < 1) = false := by simp; omega
  have u3 : decide (16 < (p : Int)) = false := by simp; omega
  have u4 : decide ((n : Int) < 1) = false := by simp; omega
  have u5 : decide (16 < (n : Int)) = false := by simp; omega
  clear hR hl1 hn1
  generalize newS t p n = s0 at KN KRN HI0 HL0
  go_enter Try.func4, Try.ntmps4
  go_upto_region 4 with (first | (go_at_call 16; (with_reducible refine (awake20_any _).mono ?_); rintro e w2 ⟨rfl, hd⟩; replace HB := HB.trans (hd.mono HB.size); clear hd) | (go_at_call 17; (with_reducible refine (KS1.out _ HB).mono ?_); rintro e w2 ⟨q1, rfl, hs1, hd⟩; replace HB := HB.trans (hd.mono HB.size); clear hd; have F1 := Lib.hid hs1; (rcases hs1 with rfl | ⟨rfl, hs1⟩)) | (go_at_call 18; (with_reducible refine (KN.out _).mono ?_); rintro e w3 ⟨x0, rfl, hS0, hd⟩; replace HB := HB.trans (hd.mono HB.size); clear hd))
  · go_ret
    exact ⟨rfl, HB⟩
  have hA := heap_alloc_new w3 (.cells #[.int .i64 s0.n, .int .i64 s0.ep, .slice x0.A2 s0.done.length x0.c2, .slice x0.A3 s0.done.length x0.c3, .slice x0.A4 s0.done.length x0.c4, .slice x0.A5 s0.has.length x0.c5, .slice x0.A6 s0.has.length x0.c6, .slice x0.A7 s0.has.length x0.c7, .slice x0.A8 s0.has.length x0.c8, .int .i64 s0.fin, .int .i64 s0.er] 42)
  have hb := (Below.refl w3.heap.size w3).alloc (Nat.le_refl _) (.cells #[.int .i64 s0.n, .int .i64 s0.ep, .slice x0.A2 s0.done.length x0.c2, .slice x0.A3 s0.done.length x0.c3, .slice x0.A4 s0.done.length x0.c4, .slice x0.A5 s0.has.length x0.c5, .slice x0.A6 s0.has.length x0.c6, .slice x0.A7 s0.has.length x0.c7, .slice x0.A8 s0.has.length x0.c8, .int .i64 s0.fin, .int .i64 s0.er] 42)
  have hz := World.size_alloc w3 (.cells #[.int .i64 s0.n, .int .i64 s0.ep, .slice x0.A2 s0.done.length x0.c2, .slice x0.A3 s0.done.length x0.c3, .slice x0.A4 s0.done.length x0.c4, .slice x0.A5 s0.has.length x0.c5, .slice x0.A6 s0.has.length x0.c6, .slice x0.A7 s0.has.length x0.c7, .slice x0.A8 s0.has.length x0.c8, .int .i64 s0.fin, .int .i64 s0.er] 42)
  have hS1 := StateB.below hS0 hb
  have hwg := HB.size
  replace HB := HB.trans (hb.mono HB.size)
  obtain ⟨g, hg⟩ : ∃ g, g = w3.heap.size := ⟨_, rfl⟩
  rw [← hg] at hA hz hS1 hwg ⊢
  generalize w3.alloc (.cells #[.int .i64 s0.n, .int .i64 s0.ep, .slice x0.A2 s0.done.length x0.c2, .slice x0.A3 s0.done.length x0.c3, .slice x0.A4 s0.done.length x0.c4, .slice x0.A5 s0.has.length x0.c5, .slice x0.A6 s0.has.length x0.c6, .slice x0.A7 s0.has.length x0.c7, .slice x0.A8 s0.has.length x0.c8, .int .i64 s0.fin, .int .i64 s0.er] 42) = W0 at hA hS1 HB hz ⊢
  clear hS0 hb hg
  have HZ := Lib.hid hz
  clear hz
  go_upto_region 7 with (go_at_call 19; (with_reducible refine (KRN.out _).mono ?_); rintro e w5 ⟨y0, rfl, hR0, hd⟩)
  have hz := HZ.out
  have hA2 := heap_alloc_new w5 (.cells #[.int .i64 s0.n, .int .i64 s0.ep, .int .i64 s0.fin, .int .i64 s0.er, .slice y0.B s0.done.length y0.cb, .slice y0.C s0.has.length y0.cc] 48)
  have hb := (Below.refl w5.heap.size w5).alloc (Nat.le_refl _) (.cells #[.int .i64 s0.n, .int .i64 s0.ep, .int .i64 s0.fin, .int .i64 s0.er, .slice y0.B s0.done.length y0.cb, .slice y0.C s0.has.length y0.cc] 48)
  have hz5 := World.size_alloc w5 (.cells #[.int .i64 s0.n, .int .i64 s0.ep, .int .i64 s0.fin, .int .i64 s0.er, .slice y0.B s0.done.length y0.cb, .slice y0.C s0.has.length y0.cc] 48)
  have hds := hd.size
  have hR1 := hR0.below hb (by omega) (Nat.le_refl _)
  replace hA := (hb.block _ (by omega)).trans ((hd.block _ (by omega)).trans hA)
  have hS2 := StateB.below (StateB.below hS1 (hd.mono (by omega))) (hb.mono (by omega))
  replace HB := (HB.trans (hd.mono HB.size)).trans (hb.mono (by omega))
  obtain ⟨gr, hgr⟩ : ∃ g, g = w5.heap.size := ⟨_, rfl⟩
  rw [← hgr] at hA2 hz5 hR1 ⊢
  generalize w5.alloc (.cells #[.int .i64 s0.n, .int .i64 s0.ep, .int .i64 s0.fin, .int .i64 s0.er, .slice y0.B s0.done.length y0.cb, .slice y0.C s0.has.length y0.cc] 48) = W6 at hA hA2 hS2 hR1 HB hz5 ⊢
  have HU : VarU w W6 g gr x0 s0 := ⟨hA, ⟨_, _, hS2, .inr (Nat.le_refl _), by omega⟩, hwg, by omega⟩
  have HV : VarR w W6 g gr y0 s0 := ⟨hA2, ⟨_, _, hR1, by omega, .inr (Nat.le_refl _), by omega⟩, hwg, by omega⟩
  clear hA hA2 hS1 hS2 hR0 hR1 hb hd hds hz hz5 hgr hwg HZ
  have HUU := Lib.hid HU
  have HVV := Lib.hid HV
  have p0 : W6.cell? ⟨g, 0, none⟩ = some (.int .i64 s0.n) := HU.cell (j := 0) rfl
  have p1 : W6.cell? ⟨g, 1, none⟩ = some (.int .i64 s0.ep) := HU.cell (j := 1) rfl
  have p2 : W6.cell? ⟨g, 2, none⟩ = some (.slice x0.A2 s0.done.length x0.c2) := HU.cell (j := 2) rfl
  have p3 : W6.cell? ⟨g, 3, none⟩ = some (.slice x0.A3 s0.done.length x0.c3) := HU.cell (j := 3) rfl
  have p4 : W6.cell? ⟨g, 4, none⟩ = some (.slice x0.A4 s0.done.length x0.c4) := HU.cell (j := 4) rfl
  have p5 : W6.cell? ⟨g, 5, none⟩ = some (.slice x0.A5 s0.has.length x0.c5) := HU.cell (j := 5) rfl
  have p6 : W6.cell? ⟨g, 6, none⟩ = some (.slice x0.A6 s0.has.length x0.c6) := HU.cell (j := 6) rfl
  have p7 : W6.cell? ⟨g, 7, none⟩ = some (.slice x0.A7 s0.has.length x0.c7) := HU.cell (j := 7) rfl
  have p8 : W6.cell? ⟨g, 8, none⟩ = some (.slice x0.A8 s0.has.length x0.c8) := HU.cell (j := 8) rfl
  have p9 : W6.cell? ⟨g, 9, none⟩ = some (.int .i64 s0.fin) := HU.cell (j := 9) rfl
  have p10 : W6.cell? ⟨g, 10, none⟩ = some (.int .i64 s0.er) := HU.cell (j := 10) rfl
  have q0 : W6.cell? ⟨gr, 0, none⟩ = some (.int .i64 s0.n) := HV.cell (j := 0) rfl
  have q1 : W6.cell? ⟨gr, 1, none⟩ = some (.int .i64 s0.ep) := HV.cell (j := 1) rfl
  have q2 : W6.cell? ⟨gr, 2, none⟩ = some (.int .i64 s0.fin) := HV.cell (j := 2) rfl
  have q3 : W6.cell? ⟨gr, 3, none⟩ = some (.int .i64 s0.er) := HV.cell (j := 3) rfl
  have q4 : W6.cell? ⟨gr, 4, none⟩ = some (.slice y0.B s0.done.length y0.cb) := HV.cell (j := 4) rfl
  have q5 : W6.cell? ⟨gr, 5, none⟩ = some (.slice y0.C s0.has.length y0.cc) := HV.cell (j := 5) rfl
  clear HU HV
  go_wp2_with (go_at_call 20; (with_reducible refine (same20_any x0 y0 s0 _ HUU.out.state HVV.out.state).mono ?_); rintro e w7 ⟨rfl, hd⟩)
  replace HB := HB.trans (hd.mono HB.size)
  have HU := HUU.out.below hd
  have HV := HVV.out.below hd
  clear hd HUU HVV p0 p1 p2 p3 p4 p5 p6 p7 p8 p9 p10 q0 q1 q2 q3 q4 q5
  go_loopw [12, 13, 14, 15] (fun i _ _ _ wr => ∃ (k : Nat) (x : SV) (y : RV) (s : LS), k ≤ n1 ∧ i = .int .i64 k ∧ VarU w wr g gr x s ∧ VarR w wr g gr y s ∧ RInv s ∧ (0 < s.done.length ∧ 0 < s.has.length) ∧ Below w.heap.size w wr) (fun i _ _ _ _ => n1 - (intOf i).toNat)
  case atStart => exact ⟨0, x0, y0, s0, by omega, rfl, HU, HV, HI0.out, HL0.out, HB⟩
  case round =>
    clear HU HV HB
    obtain ⟨k, x, y, s, hk, rfl, HU, HV, hI, hL, HB⟩ := hrel
    have HVV := Lib.hid HU
    have HRR := Lib.hid HV
    have HII := Lib.hid hI
    have HLL := Lib.hid hL
    have FS1 := Lib.hid (F1.out.resolve_left (by decide)).2
    clear hI hL HV
    by_cases hlt : k < n1
    · skip
      have hkl : k < rs.length := by have := HL1.out; omega
      obtain ⟨b, off, rfl, hc⟩ := (HR.out.below HB).block (by omega)
      have hm := Lib.hid ((HR.out.below HB).man k hkl)
      have hmw := Lib.hid (ManB.of (HR.out.man k hkl))
      have RA := hc k hkl
      have hsl := Lib.hid (FS1.out.2 _ (List.getElem_mem hkl)).1
      obtain ⟨r, hr⟩ : ∃ r, r = rs[k] := ⟨_, rfl⟩
      rw [← hr] at RA hm hsl hmw
      generalize vs k = v at RA hm hmw
      clear hc hr
      obtain ⟨f0, f1, f2, f3, f4, f5, f6, f7, f8⟩ := RA
      obtain ⟨P, hP⟩ : ∃ P, P = applyP s r := ⟨_, rfl⟩
      have HAP := Lib.hid (fun W (h : Below wr.heap.size wr W) => apply_v x s r v W (HVV.out.state.below h) (hm.out.below h) hsl.out)
      rw [← hP] at HAP
      have HP := Lib.hid hP
      clear hP
      have p0 : wr.cell? ⟨g, 0, none⟩ = some (.int .i64 s.n) := HVV.out.cell (j := 0) rfl
      have p1 : wr.cell? ⟨g, 1, none⟩ = some (.int .i64 s.ep) := HVV.out.cell (j := 1) rfl
      have p2 : wr.cell? ⟨g, 2, none⟩ = some (.slice x.A2 s.done.length x.c2) := HVV.out.cell (j := 2) rfl
      have p3 : wr.cell? ⟨g, 3, none⟩ = some (.slice x.A3 s.done.length x.c3) := HVV.out.cell (j := 3) rfl
      have p4 : wr.cell? ⟨g, 4, none⟩ = some (.slice x.A4 s.done.length x.c4) := HVV.out.cell (j := 4) rfl
      have p5 : wr.cell? ⟨g, 5, none⟩ = some (.slice x.A5 s.has.length x.c5) := HVV.out.cell (j := 5) rfl
      have p6 : wr.cell? ⟨g, 6, none⟩ = some (.slice x.A6 s.has.length x.c6) := HVV.out.cell (j := 6) rfl
      have p7 : wr.cell? ⟨g, 7, none⟩ = some (.slice x.A7 s.has.length x.c7) := HVV.out.cell (j := 7) rfl
      have p8 : wr.cell? ⟨g, 8, none⟩ = some (.slice x.A8 s.has.length x.c8) := HVV.out.cell (j := 8) rfl
      have p9 : wr.cell? ⟨g, 9, none⟩ = some (.int .i64 s.fin) := HVV.out.cell (j := 9) rfl
      have p10 : wr.cell? ⟨g, 10, none⟩ = some (.int .i64 s.er) := HVV.out.cell (j := 10) rfl
      clear HU
      go_upto_region 12 with fail
      go_cut [13, 14] from 75 to 84 (fun s13 s14 wx => ∃ (nb : Nat) (y' : SV) (W9 : World), W9 = wx ∧ s13 = .pointer (some ⟨nb, 0, none⟩) ∧ s14 = .int .i64 P.2 ∧ VarN wr wx nb y' P.1 ∧ Below wr.heap.size wr wx)
      case first =>
        have HS : Below wr.heap.size wr wr.drew := (Below.refl _ _).drew
        refine RegG.wp_region_g (fun W => Below wr.heap.size wr W) [5, 6] (by kernel_rfl) ?_
        generalize wr.drew = Wd at HS ⊢
        refine RegG.wpG.pure (v := ?_) 1 3 rfl (by kernel_rfl) (by decide) (fun _ _ _ h => h) ?_ rfl (fun _ => HS) ?_
        rotate_left
        · (intro w9; go_simp; first | done | with_reducible rfl)
        (try simp only [Act.put, List.setIfInBounds_toArray, List.set_cons_zero, List.set_cons_succ])
        refine RegG.wpG.pure (v := ?_) 2 3 rfl (by kernel_rfl) (by decide) (fun _ _ _ h => h) ?_ rfl (fun _ => HS) ?_
        rotate_left
        · (intro w9; go_simp; first | done | with_reducible rfl)
        (try simp only [Act.put, List.setIfInBounds_toArray, List.set_cons_zero, List.set_cons_succ])
        refine RegG.wpG.load (v := ?_) 0 6 rfl (by kernel_rfl) (by decide) (by decide) (fun _ _ _ h => h) ?_ rfl HS ?_
        rotate_left
        · (intro w9 hS9; have sp0 := cell_below hS9 p0; have sp1 := cell_below hS9 p1; have sp2 := cell_below hS9 p2; have sp3 := cell_below hS9 p3; have sp4 := cell_below hS9 p4; have sp5 := cell_below hS9 p5; have sp6 := cell_below hS9 p6; have sp7 := cell_below hS9 p7; have sp8 := cell_below hS9 p8; have sp9 := cell_below hS9 p9; have sp10 := cell_below hS9 p10; go_simp; first | done | with_reducible rfl)
        (try simp only [Act.put, List.setIfInBounds_toArray, List.set_cons_zero, List.set_cons_succ])
        refine RegG.wpG.pure (v := ?_) 3 4 rfl (by kernel_rfl) (by decide) (fun _ _ _ h => h) ?_ rfl (fun _ => HS) ?_
        rotate_left
        · (intro w9; go_simp; first | done | with_reducible rfl)
        (try simp only [Act.put, List.setIfInBounds_toArray, List.set_cons_zero, List.set_cons_succ])
        refine RegG.wpG.load (v := ?_) 4 5 rfl (by kernel_rfl) (by decide) (by decide) (fun _ _ _ h => h) ?_ rfl HS ?_
        rotate_left
        · (intro w9 hS9; have sf0 := cell_below hS9 f0; have sf1 := cell_below hS9 f1; have sf2 := cell_below hS9 f2; have sf3 := cell_below hS9 f3; have sf4 := cell_below hS9 f4; have sf5 := cell_below hS9 f5; have sf6 := cell_below hS9 f6; have sf7 := cell_below hS9 f7; have sf8 := cell_below hS9 f8; go_simp; first | done | with_reducible rfl)
        (try simp only [Act.put, List.setIfInBounds_toArray, List.set_cons_zero, List.set_cons_succ])
        refine RegG.wpG.two 5 10 (by kernel_rfl) rfl rfl rfl rfl (fun K hK => ?_) (fun K hK => ?_)
        · skip
          go_simp
          go_at_call 22
          (with_reducible refine (of_any r v _).mono ?_)
          rintro e w3 ⟨rfl, hd⟩
          have HS3 := HS.trans (hd.mono HS.size)
          clear hd
          refine hK.out _ _ (fun _ => HS3) ?_
          clear hK K
          (try simp only [Act.put, List.setIfInBounds_toArray, List.set_cons_zero, List.set_cons_succ])
          refine RegG.wpG.two 6 10 (by kernel_rfl) rfl rfl rfl rfl (fun K hK => ?_) (fun K hK => ?_)
          · skip
            go_simp
            go_at_call 21
            (with_reducible refine (HAP.out _ HS3).mono ?_)
            rintro e w4 ⟨y, rfl, hS4, hd⟩
            have HS4 := HS3.trans (hd.mono HS3.size)
            have hlow := HS3.size
            clear hd
            refine hK.out _ _ (fun h => absurd h (by decide)) ?_
            clear hK K
            (try simp only [Act.put, List.setIfInBounds_toArray, List.set_cons_zero, List.set_cons_succ])
            refine RegG.wpG.pure (v := ?_) 7 8 rfl (by kernel_rfl) (by decide) (fun _ _ _ h => h) ?_ rfl (fun h => absurd h (by decide)) ?_
            rotate_left
            · (intro w9; go_simp; first | done | with_reducible rfl)
            (try simp only [Act.put, List.setIfInBounds_toArray, List.set_cons_zero, List.set_cons_succ])
            refine RegG.wpG.pure (v := ?_) 8 11 rfl (by kernel_rfl) (by decide) (fun _ _ _ h => h) ?_ rfl (fun h => absurd h (by decide)) ?_
            rotate_left
            · (intro w9; go_simp; first | done | with_reducible rfl)
            (try simp only [Act.put, List.setIfInBounds_toArray, List.set_cons_zero, List.set_cons_succ])
            refine RegG.wpG.pure (v := ?_) 9 12 rfl (by kernel_rfl) (by decide) (fun _ _ _ h => h) ?_ rfl (fun h => absurd h (by decide)) ?_
            rotate_left
            · (intro w9; go_simp; first | done | with_reducible rfl)
            (try simp only [Act.put, List.setIfInBounds_toArray, List.set_cons_zero, List.set_cons_succ])
            refine RegG.wpG.one 10 (by kernel_rfl) rfl rfl (fun K hK => ?_)
            go_simp
            have hnA := heap_alloc_new w4 (.cells #[.int .i64 0, .int .i64 0, .slice none 0 0, .slice none 0 0, .slice none 0 0, .slice none 0 0, .slice none 0 0, .slice none 0 0, .slice none 0 0, .int .i64 0, .int .i64 0] 42)
            have hnz := World.size_alloc w4 (.cells #[.int .i64 0, .int .i64 0, .slice none 0 0, .slice none 0 0, .slice none 0 0, .slice none 0 0, .slice none 0 0, .slice none 0 0, .slice none 0 0, .int .i64 0, .int .i64 0] 42)
            have hnB := (Below.refl w4.heap.size w4).alloc (Nat.le_refl _) (.cells #[.int .i64 0, .int .i64 0, .slice none 0 0, .slice none 0 0, .slice none 0 0, .slice none 0 0, .slice none 0 0, .slice none 0 0, .slice none 0 0, .int .i64 0, .int .i64 0] 42)
            have HS5 := HS4.trans (hnB.mono HS4.size)
            obtain ⟨nb, hnb⟩ : ∃ n, n = w4.heap.size := ⟨_, rfl⟩
            have hnl : wr.heap.size ≤ nb := by rw [hnb]; exact HS4.size
            have hS5 := StateB.below hS4 hnB
            have hgb : nb < w3.heap.size ∨ w4.heap.size ≤ nb := .inr (by rw [hnb]; exact Nat.le_refl _)
            rw [← hnb] at hnA hnz ⊢
            clear hnb
            generalize w4.alloc (.cells #[.int .i64 0, .int .i64 0, .slice none 0 0, .slice none 0 0, .slice none 0 0, .slice none 0 0, .slice none 0 0, .slice none 0 0, .slice none 0 0, .int .i64 0, .int .i64 0] 42) = wa at hnA hnz hnB HS5 hS5 ⊢
            refine hK.out _ _ (fun h => absurd h (by decide)) ?_
            clear hK K
            (try simp only [Act.put, List.setIfInBounds_toArray, List.set_cons_zero, List.set_cons_succ])
            have hhi : w4.heap.size ≤ wa.heap.size := hnB.size
            refine RegG.wpG.one 11 (by kernel_rfl) rfl rfl (fun K hK => ?_)
            refine wp_store_row 42 (.tmp 13) (.tmp 83) rfl nb (y.cells P.1) rfl rfl 42 #[.int .i64 0, .int .i64 0, .slice none 0 0, .slice none 0 0, .slice none 0 0, .slice none 0 0, .slice none 0 0, .slice none 0 0, .slice none 0 0, .int .i64 0, .int .i64 0] hnA info_state rfl (SV.one y P.1) ?_
            refine hK.out _ _ (fun h => absurd h (by decide)) ?_
            clear hK K
            (try simp only [Act.put, List.setIfInBounds_toArray, List.set_cons_zero, List.set_cons_succ])
            refine RegG.wpG.one 12 (by kernel_rfl) rfl rfl (fun K hK => ?_)
            go_simp
            refine hK.out _ _ (fun h => absurd h (by decide)) ?_
            clear hK K
            (try simp only [Act.put, List.setIfInBounds_toArray, List.set_cons_zero, List.set_cons_succ])
            refine RegG.wpG.done (by kernel_rfl) ?_ _
            go_wp2_with fail
            go_meet
            exact ⟨nb, y, _, rfl, rfl, rfl, VarN.put hnA hnl hS5 hlow hgb hhi, below_put HS5 hnl _⟩
          · skip
            go_simp
            have hnA := heap_alloc_new w3 (.cells #[.int .i64 0, .int .i64 0, .slice none 0 0, .slice none 0 0, .slice none 0 0, .slice none 0 0, .slice none 0 0, .slice none 0 0, .slice none 0 0, .int .i64 0, .int .i64 0] 42)
            have hnz := World.size_alloc w3 (.cells #[.int .i64 0, .int .i64 0, .slice none 0 0, .slice none 0 0, .slice none 0 0, .slice none 0 0, .slice none 0 0, .slice none 0 0, .slice none 0 0, .int .i64 0, .int .i64 0] 42)
            have hnB := (Below.refl w3.heap.size w3).alloc (Nat.le_refl _) (.cells #[.int .i64 0, .int .i64 0, .slice none 0 0, .slice none 0 0, .slice none 0 0, .slice none 0 0, .slice none 0 0, .slice none 0 0, .slice none 0 0, .int .i64 0, .int .i64 0] 42)
            have HS5 := HS3.trans (hnB.mono HS3.size)
            obtain ⟨nb, hnb⟩ : ∃ n, n = w3.heap.size := ⟨_, rfl⟩
            have hnl : wr.heap.size ≤ nb := by rw [hnb]; exact HS3.size
            rw [← hnb] at hnA hnz ⊢
            clear hnb
            generalize w3.alloc (.cells #[.int .i64 0, .int .i64 0, .slice none 0 0, .slice none 0 0, .slice none 0 0, .slice none 0 0, .slice none 0 0, .slice none 0 0, .slice none 0 0, .int .i64 0, .int .i64 0] 42) = wa at hnA hnz hnB HS5 ⊢
            refine hK.out _ _ (fun _ => HS5) ?_
            clear hK K
            (try simp only [Act.put, List.setIfInBounds_toArray, List.set_cons_zero, List.set_cons_succ])
            refine RegG.wpG.one 6 (by kernel_rfl) rfl rfl (fun K hK => ?_)
            go_simp
            go_at_call 21
            (with_reducible refine (HAP.out _ HS5).mono ?_)
            rintro e w4 ⟨y, rfl, hS4, hd⟩
            have HS6 := HS5.trans (hd.mono HS5.size)
            have hlow := HS5.size
            replace hnA := (hd.block _ (by omega)).trans hnA
            have hS5 := hS4
            have hgb : nb < wa.heap.size ∨ w4.heap.size ≤ nb := .inl (by omega)
            have hhi := Nat.le_refl w4.heap.size
            clear hd
            refine hK.out _ _ (fun h => absurd h (by decide)) ?_
            clear hK K
            (try simp only [Act.put, List.setIfInBounds_toArray, List.set_cons_zero, List.set_cons_succ])
            refine RegG.wpG.pure (v := ?_) 7 8 rfl (by kernel_rfl) (by decide) (fun _ _ _ h => h) ?_ rfl (fun h => absurd h (by decide)) ?_
            rotate_left
            · (intro w9; go_simp; first | done | with_reducible rfl)
            (try simp only [Act.put, List.setIfInBounds_toArray, List.set_cons_zero, List.set_cons_succ])
            refine RegG.wpG.pure (v := ?_) 8 11 rfl (by kernel_rfl) (by decide) (fun _ _ _ h => h) ?_ rfl (fun h => absurd h (by decide)) ?_
            rotate_left
            · (intro w9; go_simp; first | done | with_reducible rfl)
            (try simp only [Act.put, List.setIfInBounds_toArray, List.set_cons_zero, List.set_cons_succ])
            refine RegG.wpG.pure (v := ?_) 9 12 rfl (by kernel_rfl) (by decide) (fun _ _ _ h => h) ?_ rfl (fun h => absurd h (by decide)) ?_
            rotate_left
            · (intro w9; go_simp; first | done | with_reducible rfl)
            (try simp only [Act.put, List.setIfInBounds_toArray, List.set_cons_zero, List.set_cons_succ])
            refine RegG.wpG.one 11 (by kernel_rfl) rfl rfl (fun K hK => ?_)
            refine wp_store_row 42 (.tmp 13) (.tmp 83) rfl nb (y.cells P.1) rfl rfl 42 #[.int .i64 0, .int .i64 0, .slice none 0 0, .slice none 0 0, .slice none 0 0, .slice none 0 0, .slice none 0 0, .slice none 0 0, .slice none 0 0, .int .i64 0, .int .i64 0] hnA info_state rfl (SV.one y P.1) ?_
            refine hK.out _ _ (fun h => absurd h (by decide)) ?_
            clear hK K
            (try simp only [Act.put, List.setIfInBounds_toArray, List.set_cons_zero, List.set_cons_succ])
            refine RegG.wpG.one 12 (by kernel_rfl) rfl rfl (fun K hK => ?_)
            go_simp
            refine hK.out _ _ (fun h => absurd h (by decide)) ?_
            clear hK K
            (try simp only [Act.put, List.setIfInBounds_toArray, List.set_cons_zero, List.set_cons_succ])
            refine RegG.wpG.done (by kernel_rfl) ?_ _
            go_wp2_with fail
            go_meet
            exact ⟨nb, y, _, rfl, rfl, rfl, VarN.put hnA hnl hS5 hlow hgb hhi, below_put HS6 hnl _⟩
        · skip
          go_simp
          have hnA := heap_alloc_new Wd (.cells #[.int .i64 0, .int .i64 0, .slice none 0 0, .slice none 0 0, .slice none 0 0, .slice none 0 0, .slice none 0 0, .slice none 0 0, .slice none 0 0, .int .i64 0, .int .i64 0] 42)
          have hnz := World.size_alloc Wd (.cells #[.int .i64 0, .int .i64 0, .slice none 0 0, .slice none 0 0, .slice none 0 0, .slice none 0 0, .slice none 0 0, .slice none 0 0, .slice none 0 0, .int .i64 0, .int .i64 0] 42)
          have hnB := (Below.refl Wd.heap.size Wd).alloc (Nat.le_refl _) (.cells #[.int .i64 0, .int .i64 0, .slice none 0 0, .slice none 0 0, .slice none 0 0, .slice none 0 0, .slice none 0 0, .slice none 0 0, .slice none 0 0, .int .i64 0, .int .i64 0] 42)
          have HS0 := HS.trans (hnB.mono HS.size)
          obtain ⟨nb, hnb⟩ : ∃ n, n = Wd.heap.size := ⟨_, rfl⟩
          have hnl : wr.heap.size ≤ nb := by rw [hnb]; exact HS.size
          rw [← hnb] at hnA hnz ⊢
          clear hnb
          generalize Wd.alloc (.cells #[.int .i64 0, .int .i64 0, .slice none 0 0, .slice none 0 0, .slice none 0 0, .slice none 0 0, .slice none 0 0, .slice none 0 0, .slice none 0 0, .int .i64 0, .int .i64 0] 42) = wa at hnA hnz hnB HS0 ⊢
          refine hK.out _ _ (fun _ => HS0) ?_
          clear hK K
          (try simp only [Act.put, List.setIfInBounds_toArray, List.set_cons_zero, List.set_cons_succ])
          have HZ := HS
          replace HS := HS0
          refine RegG.wpG.one 5 (by kernel_rfl) rfl rfl (fun K hK => ?_)
          go_simp
          go_at_call 22
          (with_reducible refine (of_any r v _).mono ?_)
          rintro e w3 ⟨rfl, hd⟩
          have HS3 := HS.trans (hd.mono HS.size)
          replace hnA := (hd.block _ (by omega)).trans hnA
          have hnz3 := hd.size
          clear hd
          refine hK.out _ _ (fun _ => HS3) ?_
          clear hK K
          (try simp only [Act.put, List.setIfInBounds_toArray, List.set_cons_zero, List.set_cons_succ])
          refine RegG.wpG.one 6 (by kernel_rfl) rfl rfl (fun K hK => ?_)
          go_simp
          go_at_call 21
          (with_reducible refine (HAP.out _ HS3).mono ?_)
          rintro e w4 ⟨y, rfl, hS4, hd⟩
          have HS4 := HS3.trans (hd.mono HS3.size)
          have hlow := HS3.size
          replace hnA := (hd.block _ (by omega)).trans hnA
          have hS5 := hS4
          have hgb : nb < w3.heap.size ∨ w4.heap.size ≤ nb := .inl (by omega)
          have hhi := Nat.le_refl w4.heap.size
          clear hd
          refine hK.out _ _ (fun h => absurd h (by decide)) ?_
          clear hK K
          (try simp only [Act.put, List.setIfInBounds_toArray, List.set_cons_zero, List.set_cons_succ])
          refine RegG.wpG.pure (v := ?_) 7 8 rfl (by kernel_rfl) (by decide) (fun _ _ _ h => h) ?_ rfl (fun h => absurd h (by decide)) ?_
          rotate_left
          · (intro w9; go_simp; first | done | with_reducible rfl)
          (try simp only [Act.put, List.setIfInBounds_toArray, List.set_cons_zero, List.set_cons_succ])
          refine RegG.wpG.pure (v := ?_) 8 11 rfl (by kernel_rfl) (by decide) (fun _ _ _ h => h) ?_ rfl (fun h => absurd h (by decide)) ?_
          rotate_left
          · (intro w9; go_simp; first | done | with_reducible rfl)
          (try simp only [Act.put, List.setIfInBounds_toArray, List.set_cons_zero, List.set_cons_succ])
          refine RegG.wpG.pure (v := ?_) 9 12 rfl (by kernel_rfl) (by decide) (fun _ _ _ h => h) ?_ rfl (fun h => absurd h (by decide)) ?_
          rotate_left
          · (intro w9; go_simp; first | done | with_reducible rfl)
          (try simp only [Act.put, List.setIfInBounds_toArray, List.set_cons_zero, List.set_cons_succ])
          refine RegG.wpG.one 11 (by kernel_rfl) rfl rfl (fun K hK => ?_)
          refine wp_store_row 42 (.tmp 13) (.tmp 83) rfl nb (y.cells P.1) rfl rfl 42 #[.int .i64 0, .int .i64 0, .slice none 0 0, .slice none 0 0, .slice none 0 0, .slice none 0 0, .slice none 0 0, .slice none 0 0, .slice none 0 0, .int .i64 0, .int .i64 0] hnA info_state rfl (SV.one y P.1) ?_
          refine hK.out _ _ (fun h => absurd h (by decide)) ?_
          clear hK K
          (try simp only [Act.put, List.setIfInBounds_toArray, List.set_cons_zero, List.set_cons_succ])
          refine RegG.wpG.one 12 (by kernel_rfl) rfl rfl (fun K hK => ?_)
          go_simp
          refine hK.out _ _ (fun h => absurd h (by decide)) ?_
          clear hK K
          (try simp only [Act.put, List.setIfInBounds_toArray, List.set_cons_zero, List.set_cons_succ])
          refine RegG.wpG.done (by kernel_rfl) ?_ _
          go_wp2_with fail
          go_meet
          exact ⟨nb, y, _, rfl, rfl, rfl, VarN.put hnA hnl hS5 hlow hgb hhi, below_put HS4 hnl _⟩
      case rest =>
        obtain ⟨nb, y', wx, rfl, rfl, rfl, HN, HS⟩ := hcut
        clear HAP p0 p1 p2 p3 p4 p5 p6 p7 p8 p9 p10
        replace f0 := cell_below HS f0
        replace f1 := cell_below HS f1
        replace f2 := cell_below HS f2
        replace f3 := cell_below HS f3
        replace f4 := cell_below HS f4
        replace f5 := cell_below HS f5
        replace f6 := cell_below HS f6
        replace f7 := cell_below HS f7
        replace f8 := cell_below HS f8
        have HG := Lib.hid (HVV.out.below HS)
        have HRX := Lib.hid (HRR.out.below HS)
        have hmx := Lib.hid (hm.out.below HS)
        have HNN := Lib.hid HN
        have HBX := Lib.hid (HB.trans (HS.mono HB.size))
        have q0 : wx.cell? ⟨gr, 0, none⟩ = some (.int .i64 s.n) := HRX.out.cell (j := 0) rfl
        have q1 : wx.cell? ⟨gr, 1, none⟩ = some (.int .i64 s.ep) := HRX.out.cell (j := 1) rfl
        have q2 : wx.cell? ⟨gr, 2, none⟩ = some (.int .i64 s.fin) := HRX.out.cell (j := 2) rfl
        have q3 : wx.cell? ⟨gr, 3, none⟩ = some (.int .i64 s.er) := HRX.out.cell (j := 3) rfl
        have q4 : wx.cell? ⟨gr, 4, none⟩ = some (.slice y.B s.done.length y.cb) := HRX.out.cell (j := 4) rfl
        have q5 : wx.cell? ⟨gr, 5, none⟩ = some (.slice y.C s.has.length y.cc) := HRX.out.cell (j := 5) rfl
        have HWY := Lib.hid (fun W (h : Below wx.heap.size wx W) => why_any y s r.kind r.n r.e r.text r.m v W (HRX.out.state.below h) (hmx.out.below h) hsl.out (fun a ha hd => (HII.out.task a ha hd).1))
        rw [show (⟨r.kind, r.n, r.e, r.text, r.m⟩ : LR) = r from rfl, ← HP.out] at HWY
        clear HN HS HB
        go_upto_region 13 with fail
        go_cut [15] from 85 to 90 (fun s15 wy => s15 = .int .i64 (P.2 : Nat) ∧ ∃ W9 : World, W9 = wy ∧ Below wx.heap.size wx wy)
        case first =>
          have HQ : Below wx.heap.size wx wx.drew := (Below.refl _ _).drew
          refine RegG.wp_region_g (fun W => Below wx.heap.size wx W) [5] (by kernel_rfl) ?_
          generalize wx.drew = Wd at HQ ⊢
          refine RegG.wpG.pure (v := ?_) 1 3 rfl (by kernel_rfl) (by decide) (fun _ _ _ h => h) ?_ rfl (fun _ => HQ) ?_
          rotate_left
          · (intro w9; go_simp; first | done | with_reducible rfl)
          (try simp only [Act.put, List.setIfInBounds_toArray, List.set_cons_zero, List.set_cons_succ])
          refine RegG.wpG.pure (v := ?_) 2 3 rfl (by kernel_rfl) (by decide) (fun _ _ _ h => h) ?_ rfl (fun _ => HQ) ?_
          rotate_left
          · (intro w9; go_simp; first | done | with_reducible rfl)
          (try simp only [Act.put, List.setIfInBounds_toArray, List.set_cons_zero, List.set_cons_succ])
          refine RegG.wpG.load (v := ?_) 0 5 rfl (by kernel_rfl) (by decide) (by decide) (fun _ _ _ h => h) ?_ rfl HQ ?_
          rotate_left
          · (intro w9 hS9; have sq0 := cell_below hS9 q0; have sq1 := cell_below hS9 q1; have sq2 := cell_below hS9 q2; have sq3 := cell_below hS9 q3; have sq4 := cell_below hS9 q4; have sq5 := cell_below hS9 q5; go_simp; first | done | with_reducible rfl)
          (try simp only [Act.put, List.setIfInBounds_toArray, List.set_cons_zero, List.set_cons_succ])
          refine RegG.wpG.pure (v := ?_) 3 4 rfl (by kernel_rfl) (by decide) (fun _ _ _ h => h) ?_ rfl (fun _ => HQ) ?_
          rotate_left
          · (intro w9; go_simp; first | done | with_reducible rfl)
          (try simp only [Act.put, List.setIfInBounds_toArray, List.set_cons_zero, List.set_cons_succ])
          refine RegG.wpG.load (v := ?_) 4 5 rfl (by kernel_rfl) (by decide) (by decide) (fun _ _ _ h => h) ?_ rfl HQ ?_
          rotate_left
          · (intro w9 hS9; have sf0 := cell_below hS9 f0; have sf1 := cell_below hS9 f1; have sf2 := cell_below hS9 f2; have sf3 := cell_below hS9 f3; have sf4 := cell_below hS9 f4; have sf5 := cell_below hS9 f5; have sf6 := cell_below hS9 f6; have sf7 := cell_below hS9 f7; have sf8 := cell_below hS9 f8; go_simp; first | done | with_reducible rfl)
          (try simp only [Act.put, List.setIfInBounds_toArray, List.set_cons_zero, List.set_cons_succ])
          refine RegG.wpG.one 5 (by kernel_rfl) rfl rfl (fun K hK => ?_)
          go_simp
          go_at_call 23
          (with_reducible refine (HWY.out _ HQ).mono ?_)
          rintro e w4 ⟨rfl, hd⟩
          have HQ4 := HQ.trans (hd.mono HQ.size)
          refine hK.out _ _ (fun h => absurd h (by decide)) ?_
          clear hK K
          (try simp only [Act.put, List.setIfInBounds_toArray, List.set_cons_zero, List.set_cons_succ])
          refine RegG.wpG.one 6 (by kernel_rfl) rfl rfl (fun K hK => ?_)
          go_simp
          refine hK.out _ _ (fun h => absurd h (by decide)) ?_
          clear hK K
          (try simp only [Act.put, List.setIfInBounds_toArray, List.set_cons_zero, List.set_cons_succ])
          refine RegG.wpG.done (by kernel_rfl) ?_ _
          go_wp2_with fail
          go_meet
          exact ⟨rfl, _, rfl, HQ4⟩
        case rest =>
          clear q0 q1 q2 q3 q4 q5 HWY
          obtain ⟨rfl, wy, rfl, hd⟩ := hcut
          replace f0 := cell_below hd f0
          replace f1 := cell_below hd f1
          replace f2 := cell_below hd f2
          replace f3 := cell_below hd f3
          replace f4 := cell_below hd f4
          replace f5 := cell_below hd f5
          replace f6 := cell_below hd f6
          replace f7 := cell_below hd f7
          replace f8 := cell_below hd f8
          have HNY := Lib.hid (HNN.out.below hd)
          have HGY := Lib.hid (HG.out.below hd)
          have HRY := Lib.hid (HRX.out.below hd)
          have HBY := Lib.hid (HBX.out.trans (hd.mono HBX.out.size))
          have hgr : gr < wr.heap.size := HRR.out.lt
          clear hd HNN HG HRX HBX hmx
          obtain ⟨s', m9⟩ := P
          dsimp only at HNY HP ⊢
          have tq : (((m9 : Nat) : Int) != ((m9 : Nat) : Int)) = false := by simp
          by_cases hm0 : m9 = 0
          · subst hm0
            have hdo := apply_do (s := s) (r := r) (by rw [← HP.out])
            rw [← HP.out] at hdo
            dsimp only at hdo
            have hok := Ok.apply (r := r) HGY.out.state.ok hsl.out
            rw [← HP.out] at hok
            dsimp only at hok
            have HIN := Lib.hid (hdo.inv HII.out HGY.out.state.ok.lm HGY.out.state.ok.lc)
            have HLN := Lib.hid (show 0 < s'.done.length ∧ 0 < s'.has.length from by have := HLL.out; cases hdo <;> simpa using this)
            obtain ⟨lo, hi, hRC, _, _, hhi⟩ := HRY.out.st
            have hws := HBY.out.size
            have HDO := Lib.hid (fun W (h : Below wy.heap.size wy W) => do_any w.heap.size lo hi y s s' r.kind r.n r.e r.text r.m v W (hRC.below h hws hhi) (Nat.le_trans hws h.size) (hmw.out.keep fun k hk => (HBY.out.trans (h.mono hws)).block k hk) HLL.out.1 HLL.out.2 HII.out hdo hok)
            have q0 : wy.cell? ⟨gr, 0, none⟩ = some (.int .i64 s.n) := HRY.out.cell (j := 0) rfl
            have q1 : wy.cell? ⟨gr, 1, none⟩ = some (.int .i64 s.ep) := HRY.out.cell (j := 1) rfl
            have q2 : wy.cell? ⟨gr, 2, none⟩ = some (.int .i64 s.fin) := HRY.out.cell (j := 2) rfl
            have q3 : wy.cell? ⟨gr, 3, none⟩ = some (.int .i64 s.er) := HRY.out.cell (j := 3) rfl
            have q4 : wy.cell? ⟨gr, 4, none⟩ = some (.slice y.B s.done.length y.cb) := HRY.out.cell (j := 4) rfl
            have q5 : wy.cell? ⟨gr, 5, none⟩ = some (.slice y.C s.has.length y.cc) := HRY.out.cell (j := 5) rfl
            clear hRC hhi hdo hok hws
            go_upto_region 17 with fail
            have HQ : Below wy.heap.size wy wy.drew := (Below.refl _ _).drew
            refine RegG.wp_region_g (fun W => Below wy.heap.size wy W) [5] (by kernel_rfl) ?_
            generalize wy.drew = Wd at HQ ⊢
            refine RegG.wpG.pure (v := ?_) 1 3 rfl (by kernel_rfl) (by decide) (fun _ _ _ h => h) ?_ rfl (fun _ => HQ) ?_
            rotate_left
            · (intro w9; go_simp; first | done | with_reducible rfl)
            (try simp only [Act.put, List.setIfInBounds_toArray, List.set_cons_zero, List.set_cons_succ])
            refine RegG.wpG.pure (v := ?_) 2 3 rfl (by kernel_rfl) (by decide) (fun _ _ _ h => h) ?_ rfl (fun _ => HQ) ?_
            rotate_left
            · (intro w9; go_simp; first | done | with_reducible rfl)
            (try simp only [Act.put, List.setIfInBounds_toArray, List.set_cons_zero, List.set_cons_succ])
            refine RegG.wpG.load (v := ?_) 0 5 rfl (by kernel_rfl) (by decide) (by decide) (fun _ _ _ h => h) ?_ rfl HQ ?_
            rotate_left
            · (intro w9 hS9; have sq0 := cell_below hS9 q0; have sq1 := cell_below hS9 q1; have sq2 := cell_below hS9 q2; have sq3 := cell_below hS9 q3; have sq4 := cell_below hS9 q4; have sq5 := cell_below hS9 q5; go_simp; first | done | with_reducible rfl)
            (try simp only [Act.put, List.setIfInBounds_toArray, List.set_cons_zero, List.set_cons_succ])
            refine RegG.wpG.pure (v := ?_) 3 4 rfl (by kernel_rfl) (by decide) (fun _ _ _ h => h) ?_ rfl (fun _ => HQ) ?_
            rotate_left
            · (intro w9; go_simp; first | done | with_reducible rfl)
            (try simp only [Act.put, List.setIfInBounds_toArray, List.set_cons_zero, List.set_cons_succ])
            refine RegG.wpG.load (v := ?_) 4 5 rfl (by kernel_rfl) (by decide) (by decide) (fun _ _ _ h => h) ?_ rfl HQ ?_
            rotate_left
            · (intro w9 hS9; have sf0 := cell_below hS9 f0; have sf1 := cell_below hS9 f1; have sf2 := cell_below hS9 f2; have sf3 := cell_below hS9 f3; have sf4 := cell_below hS9 f4; have sf5 := cell_below hS9 f5; have sf6 := cell_below hS9 f6; have sf7 := cell_below hS9 f7; have sf8 := cell_below hS9 f8; go_simp; first | done | with_reducible rfl)
            (try simp only [Act.put, List.setIfInBounds_toArray, List.set_cons_zero, List.set_cons_succ])
            refine RegG.wpG.one 5 (by kernel_rfl) rfl rfl (fun K hK => ?_)
            go_simp
            go_at_call 24
            (with_reducible refine (HDO.out _ HQ).mono ?_)
            rintro e w4 ⟨y1, rfl, hRC2, hd⟩
            have HQ4 := HQ.trans (hd.mono HQ.size)
            have hz4 := HQ.size
            clear hd
            refine hK.out _ _ (fun h => absurd h (by decide)) ?_
            clear hK K
            (try simp only [Act.put, List.setIfInBounds_toArray, List.set_cons_zero, List.set_cons_succ])
            refine RegG.wpG.one 6 (by kernel_rfl) rfl rfl (fun K hK => ?_)
            have hA := (HQ4.block _ HRY.out.lt).trans HRY.out.box
            refine wp_store_row 48 (.tmp 11) (.tmp 101) rfl gr (y1.cells s') rfl rfl 48 (y.cells s) hA info_ref rfl (RV.one y1 s') ?_
            refine hK.out _ _ (fun h => absurd h (by decide)) ?_
            clear hK K
            (try simp only [Act.put, List.setIfInBounds_toArray, List.set_cons_zero, List.set_cons_succ])
            refine RegG.wpG.done (by kernel_rfl) ?_ _
            have HVZ := Lib.hid (VarR.put (w0 := w) (g := g) hA HRY.out.lo HRY.out.le hRC2 (by have := HRY.out.lt; omega) (Nat.le_refl _))
            have HNZ := Lib.hid ((HNY.out.below HQ4).oldRow hgr (y1.cells s'))
            have HGZ := Lib.hid ((HGY.out.below HQ4).other (y1.cells s'))
            have HBZ := Lib.hid (below_put (HBY.out.trans (HQ4.mono HBY.out.size)) (Nat.le_trans HRY.out.lo (Nat.le_of_lt HRY.out.le)) (y1.cells s'))
            generalize w4.setRow gr (y1.cells s') = Wz at HVZ HNZ HGZ HBZ ⊢
            clear hA HQ HQ4 hRC2 hz4 HDO f0 f1 f2 f3 f4 f5 f6 f7 f8 q0 q1 q2 q3 q4 q5
            have p0 : Wz.cell? ⟨nb, 0, none⟩ = some (.int .i64 s'.n) := HNZ.out.cell (j := 0) rfl
            have p1 : Wz.cell? ⟨nb, 1, none⟩ = some (.int .i64 s'.ep) := HNZ.out.cell (j := 1) rfl
            have p2 : Wz.cell? ⟨nb, 2, none⟩ = some (.slice y'.A2 s'.done.length y'.c2) := HNZ.out.cell (j := 2) rfl
            have p3 : Wz.cell? ⟨nb, 3, none⟩ = some (.slice y'.A3 s'.done.length y'.c3) := HNZ.out.cell (j := 3) rfl
            have p4 : Wz.cell? ⟨nb, 4, none⟩ = some (.slice y'.A4 s'.done.length y'.c4) := HNZ.out.cell (j := 4) rfl
            have p5 : Wz.cell? ⟨nb, 5, none⟩ = some (.slice y'.A5 s'.has.length y'.c5) := HNZ.out.cell (j := 5) rfl
            have p6 : Wz.cell? ⟨nb, 6, none⟩ = some (.slice y'.A6 s'.has.length y'.c6) := HNZ.out.cell (j := 6) rfl
            have p7 : Wz.cell? ⟨nb, 7, none⟩ = some (.slice y'.A7 s'.has.length y'.c7) := HNZ.out.cell (j := 7) rfl
            have p8 : Wz.cell? ⟨nb, 8, none⟩ = some (.slice y'.A8 s'.has.length y'.c8) := HNZ.out.cell (j := 8) rfl
            have p9 : Wz.cell? ⟨nb, 9, none⟩ = some (.int .i64 s'.fin) := HNZ.out.cell (j := 9) rfl
            have p10 : Wz.cell? ⟨nb, 10, none⟩ = some (.int .i64 s'.er) := HNZ.out.cell (j := 10) rfl
            have q0 : Wz.cell? ⟨gr, 0, none⟩ = some (.int .i64 s'.n) := HVZ.out.cell (j := 0) rfl
            have q1 : Wz.cell? ⟨gr, 1, none⟩ = some (.int .i64 s'.ep) := HVZ.out.cell (j := 1) rfl
            have q2 : Wz.cell? ⟨gr, 2, none⟩ = some (.int .i64 s'.fin) := HVZ.out.cell (j := 2) rfl
            have q3 : Wz.cell? ⟨gr, 3, none⟩ = some (.int .i64 s'.er) := HVZ.out.cell (j := 3) rfl
            have q4 : Wz.cell? ⟨gr, 4, none⟩ = some (.slice y1.B s'.done.length y1.cb) := HVZ.out.cell (j := 4) rfl
            have q5 : Wz.cell? ⟨gr, 5, none⟩ = some (.slice y1.C s'.has.length y1.cc) := HVZ.out.cell (j := 5) rfl
            have hone := SV.one y' s'
            go_upto_region 20 with (go_at_call 20; (with_reducible refine (same20_any y' y1 s' _ HNZ.out.state HVZ.out.state).mono ?_); rintro e w8 ⟨rfl, hd⟩; replace p0 := cell_below hd p0; replace p1 := cell_below hd p1; replace p2 := cell_below hd p2; replace p3 := cell_below hd p3; replace p4 := cell_below hd p4; replace p5 := cell_below hd p5; replace p6 := cell_below hd p6; replace p7 := cell_below hd p7; replace p8 := cell_below hd p8; replace p9 := cell_below hd p9; replace p10 := cell_below hd p10)
            have HN8 := Lib.hid (HNZ.out.below hd)
            have HG8 := Lib.hid (HGZ.out.below hd)
            have HR8 := Lib.hid (HVZ.out.below hd)
            have HB8 := Lib.hid (HBZ.out.trans (hd.mono HBZ.out.size))
            have hA := HG8.out.box
            clear hd q0 q1 q2 q3 q4 q5
            go_wp2_with (refine wpList_store_row rfl 42 (.tmp 9) (.tmp 106) rfl g (y'.cells s') rfl rfl 42 (x.cells s) hA info_state rfl hone ?_)
            go_roundw
            case rel => exact ⟨k + 1, y', y1, s', by omega, by go_num, VarN.overU HN8.out hA HG8.out.lo HG8.out.le hgr, HR8.out.other _, HIN.out, HLN.out, below_put HB8.out HG8.out.lo _⟩
            case measure => simp [intOf]; omega
          · have es : s' = s := by have h1 := applyP_no (s := s) (r := r) (by rw [← HP.out]; exact hm0); rw [← HP.out] at h1; exact h1
            have tm : (((m9 : Nat) : Int) == 0) = false := by simp; omega
            subst es
            have HIN := HII
            have HLN := HLL
            clear hm0 f0 f1 f2 f3 f4 f5 f6 f7 f8
            have p0 : wy.cell? ⟨nb, 0, none⟩ = some (.int .i64 s'.n) := HNY.out.cell (j := 0) rfl
            have p1 : wy.cell? ⟨nb, 1, none⟩ = some (.int .i64 s'.ep) := HNY.out.cell (j := 1) rfl
            have p2 : wy.cell? ⟨nb, 2, none⟩ = some (.slice y'.A2 s'.done.length y'.c2) := HNY.out.cell (j := 2) rfl
            have p3 : wy.cell? ⟨nb, 3, none⟩ = some (.slice y'.A3 s'.done.length y'.c3) := HNY.out.cell (j := 3) rfl
            have p4 : wy.cell? ⟨nb, 4, none⟩ = some (.slice y'.A4 s'.done.length y'.c4) := HNY.out.cell (j := 4) rfl
            have p5 : wy.cell? ⟨nb, 5, none⟩ = some (.slice y'.A5 s'.has.length y'.c5) := HNY.out.cell (j := 5) rfl
            have p6 : wy.cell? ⟨nb, 6, none⟩ = some (.slice y'.A6 s'.has.length y'.c6) := HNY.out.cell (j := 6) rfl
            have p7 : wy.cell? ⟨nb, 7, none⟩ = some (.slice y'.A7 s'.has.length y'.c7) := HNY.out.cell (j := 7) rfl
            have p8 : wy.cell? ⟨nb, 8, none⟩ = some (.slice y'.A8 s'.has.length y'.c8) := HNY.out.cell (j := 8) rfl
            have p9 : wy.cell? ⟨nb, 9, none⟩ = some (.int .i64 s'.fin) := HNY.out.cell (j := 9) rfl
            have p10 : wy.cell? ⟨nb, 10, none⟩ = some (.int .i64 s'.er) := HNY.out.cell (j := 10) rfl
            have q0 : wy.cell? ⟨gr, 0, none⟩ = some (.int .i64 s'.n) := HRY.out.cell (j := 0) rfl
            have q1 : wy.cell? ⟨gr, 1, none⟩ = some (.int .i64 s'.ep) := HRY.out.cell (j := 1) rfl
            have q2 : wy.cell? ⟨gr, 2, none⟩ = some (.int .i64 s'.fin) := HRY.out.cell (j := 2) rfl
            have q3 : wy.cell? ⟨gr, 3, none⟩ = some (.int .i64 s'.er) := HRY.out.cell (j := 3) rfl
            have q4 : wy.cell? ⟨gr, 4, none⟩ = some (.slice y.B s'.done.length y.cb) := HRY.out.cell (j := 4) rfl
            have q5 : wy.cell? ⟨gr, 5, none⟩ = some (.slice y.C s'.has.length y.cc) := HRY.out.cell (j := 5) rfl
            have hone := SV.one y' s'
            go_upto_region 20 with (go_at_call 20; (with_reducible refine (same20_any y' y s' _ HNY.out.state HRY.out.state).mono ?_); rintro e w8 ⟨rfl, hd⟩; replace p0 := cell_below hd p0; replace p1 := cell_below hd p1; replace p2 := cell_below hd p2; replace p3 := cell_below hd p3; replace p4 := cell_below hd p4; replace p5 := cell_below hd p5; replace p6 := cell_below hd p6; replace p7 := cell_below hd p7; replace p8 := cell_below hd p8; replace p9 := cell_below hd p9; replace p10 := cell_below hd p10)
            have HN8 := Lib.hid (HNY.out.below hd)
            have HG8 := Lib.hid (HGY.out.below hd)
            have HR8 := Lib.hid (HRY.out.below hd)
            have HB8 := Lib.hid (HBY.out.trans (hd.mono HBY.out.size))
            have hA := HG8.out.box
            clear hd q0 q1 q2 q3 q4 q5
            go_wp2_with (refine wpList_store_row rfl 42 (.tmp 9) (.tmp 106) rfl g (y'.cells s') rfl rfl 42 (x.cells s') hA info_state rfl hone ?_)
            go_roundw
            case rel => exact ⟨k + 1, y', y, s', by omega, by go_num, VarN.overU HN8.out hA HG8.out.lo HG8.out.le hgr, HR8.out.other _, HIN.out, HLN.out, below_put HB8.out HG8.out.lo _⟩
            case measure => simp [intOf]; omega
    · obtain rfl : k = n1 := by omega
      go_wp2
      go_ret
      exact ⟨rfl, HB⟩
end
end Go.Proofs.Ytmlemichkeomjaa.LedW

/- stooklaw20.LedgerPlays, whole. -/
set_option linter.unusedVariables false
namespace Go.Proofs.Ytmlemichkeomjaa.LedW
open Go.RowKit Go.Proofs.Ytmlemichkeomjaa.Base Go.Proofs.Ytmlemichkeomjaa.MendW Go.Proofs.Ytmlemichkeomjaa.ManP Go.Proofs.Ytmlemichkeomjaa.ManW Go.Proofs.Ytmlemichkeomjaa.LedP
theorem plays_any (t p n : Int) (A : Option Addr) (n1 c1 : Nat) (rs : List LR) (vs : Nat → MV) (w : World) (hR : RecsV w A rs vs) (hl1 : rs.length = n1) (hn1 : n1 ≤ maxLen) :
    Calls Try.prog 4 #[.int .i64 t, .int .i64 p, .int .i64 n, .slice A n1 c1] w fun e w' => e = .returned (.bool true) ∧ Below w.heap.size w w' := by
  by_cases hg : (1 ≤ t ∧ t ≤ 16) ∧ (1 ≤ p ∧ p ≤ 16) ∧ (1 ≤ n ∧ n ≤ 16)
  · obtain ⟨a, rfl⟩ := Int.eq_ofNat_of_zero_le (show 0 ≤ t by omega)
    obtain ⟨b, rfl⟩ := Int.eq_ofNat_of_zero_le (show 0 ≤ p by omega)
    obtain ⟨c, rfl⟩ := Int.eq_ofNat_of_zero_le (show 0 ≤ n by omega)
    exact plays_good A n1 c1 rs vs w a b c hR hl1 hn1 (by omega) (by omega) (by omega)
  · exact plays_bad A n1 c1 rs vs w t p n hR hl1 hn1 hg
end Go.Proofs.Ytmlemichkeomjaa.LedW

