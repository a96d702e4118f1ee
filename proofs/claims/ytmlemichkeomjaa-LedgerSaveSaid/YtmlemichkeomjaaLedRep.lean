/- ledger.Replay walked. -/
import Derived.Test.YtmlemichkeomjaaM14
import Derived.Test.YtmlemichkeomjaaLedSt
set_option linter.unusedVariables false
set_option linter.unusedSimpArgs false
namespace Go.Proofs.Ytmlemichkeomjaa.LedW
open Go.RowKit Go.Proofs.Ytmlemichkeomjaa.Base Go.Proofs.Ytmlemichkeomjaa.MendW Go.Proofs.Ytmlemichkeomjaa.ManP Go.Proofs.Ytmlemichkeomjaa.ManW Go.Proofs.Ytmlemichkeomjaa.LedP
/-- Eleven cells. -/
theorem cells11 {W : World} {g : Nat} {T : TypeId} {x0 x1 x2 x3 x4 x5 x6 x7 x8 x9 x10 : Value} (h : W.heap[g]? = some (.cells #[x0, x1, x2, x3, x4, x5, x6, x7, x8, x9, x10] T (0, 0))) :
    W.cell? ⟨g, 0, none⟩ = some x0 ∧ W.cell? ⟨g, 1, none⟩ = some x1 ∧ W.cell? ⟨g, 2, none⟩ = some x2 ∧ W.cell? ⟨g, 3, none⟩ = some x3 ∧ W.cell? ⟨g, 4, none⟩ = some x4 ∧ W.cell? ⟨g, 5, none⟩ = some x5 ∧ W.cell? ⟨g, 6, none⟩ = some x6 ∧ W.cell? ⟨g, 7, none⟩ = some x7 ∧ W.cell? ⟨g, 8, none⟩ = some x8 ∧ W.cell? ⟨g, 9, none⟩ = some x9 ∧ W.cell? ⟨g, 10, none⟩ = some x10 :=
  ⟨by rw [cell_of_row _ _ _ _ _ _ h]; rfl, by rw [cell_of_row _ _ _ _ _ _ h]; rfl, by rw [cell_of_row _ _ _ _ _ _ h]; rfl, by rw [cell_of_row _ _ _ _ _ _ h]; rfl, by rw [cell_of_row _ _ _ _ _ _ h]; rfl, by rw [cell_of_row _ _ _ _ _ _ h]; rfl, by rw [cell_of_row _ _ _ _ _ _ h]; rfl, by rw [cell_of_row _ _ _ _ _ _ h]; rfl, by rw [cell_of_row _ _ _ _ _ _ h]; rfl, by rw [cell_of_row _ _ _ _ _ _ h]; rfl, by rw [cell_of_row _ _ _ _ _ _ h]; rfl⟩
def CopyV (w : World) (s : LS) (e : Ending) (w' : World) : Prop := ∃ x : SV, e = .returned (.agg #[.int .i64 s.n, .int .i64 s.ep, .slice x.A2 s.done.length x.c2, .slice x.A3 s.done.length x.c3, .slice x.A4 s.done.length x.c4, .slice x.A5 s.has.length x.c5, .slice x.A6 s.has.length x.c6, .slice x.A7 s.has.length x.c7, .slice x.A8 s.has.length x.c8, .int .i64 s.fin, .int .i64 s.er]) ∧ StB w.heap.size w'.heap.size w' x s ∧ Below w.heap.size w w'
theorem copied_v (x : SV) (s : LS) (w : World) (h : StW w x s) : Calls Try.prog 50 #[.agg #[.int .i64 s.n, .int .i64 s.ep, .slice x.A2 s.done.length x.c2, .slice x.A3 s.done.length x.c3, .slice x.A4 s.done.length x.c4, .slice x.A5 s.has.length x.c5, .slice x.A6 s.has.length x.c6, .slice x.A7 s.has.length x.c7, .slice x.A8 s.has.length x.c8, .int .i64 s.fin, .int .i64 s.er]] w (CopyV w s) :=
  (copied_any x.A2 x.A3 x.A4 x.A5 x.A6 x.A7 x.A8 x.c2 x.c3 x.c4 x.c5 x.c6 x.c7 x.c8 x.vs s w h).mono fun e w' ⟨F, v2, v3, v4, v5, v6, v7, v8, vs, he, hO, hb⟩ => by
    obtain ⟨A2, c2, A3, c3, A4, c4, A5, c5, A6, c6, A7, c7, A8, c8, rfl, rfl, rfl, rfl, rfl, rfl, rfl, hS⟩ := hO.readB
    exact ⟨⟨A2, c2, A3, c3, A4, c4, A5, c5, A6, c6, A7, c7, A8, c8, vs⟩, he, hS, hb⟩
/-- The loop's state: the variable's block, the result's block behind it. -/
structure RepJ (w wr : World) (x : SV) (s : LS) : Prop where
  var : VarS w wr w.heap.size x s
  res : wr.heap[w.heap.size + 1]? = some (.cells #[.int .i64 0, .int .i64 0, .slice none 0 0, .slice none 0 0, .slice none 0 0, .slice none 0 0, .slice none 0 0, .slice none 0 0, .slice none 0 0, .int .i64 0, .int .i64 0] 42 (0, 0))
  below : Below w.heap.size w wr
theorem RepJ.far {w wr w' : World} {x : SV} {s : LS} (h : RepJ w wr x s) (hb : Below wr.heap.size wr w') : RepJ w w' x s := by
  have h1 := (Array.getElem?_eq_some_iff.1 h.res).1
  exact ⟨h.var.below hb, (hb.block _ h1).trans h.res, h.below.trans (hb.mono h.below.size)⟩
theorem RepJ.put {w wr : World} {x y : SV} {s s' : LS} {lo hi : Nat} (h : RepJ w wr x s) (hs : StB lo hi wr y s') (hlo : w.heap.size + 1 < lo) (hhi : hi ≤ wr.heap.size) : RepJ w (wr.setRow w.heap.size (y.cells s')) y s' :=
  ⟨VarS.put h.var.box h.var.lo hs (.inl (by omega)) hhi, (setRow_other _ _ _ _ (by omega)).trans h.res, below_put h.below (Nat.le_refl _) _⟩
theorem rep_fin {w W : World} {lo hi : Nat} {x0 x : SV} {s : LS} {n : Nat} (h : RepJ w W x0 s) (hs : StB lo hi W x s) (hlo : w.heap.size + 1 < lo) (hhi : hi ≤ W.heap.size)
    (tmps : Array Value) (h4 : tmps.getD 4 undef = .pointer (some ⟨w.heap.size + 1, 0, none⟩)) (h5 : tmps.getD 5 undef = .int .i64 (n : Nat)) :
    bodyPost Try.prog Try.f39 (ApplyV w s n) .ret { tmps := tmps, defers := [] } (W.setRow (w.heap.size + 1) (x.cells s)) := by
  refine bodyPost_ret (results_cell_two rfl _ _ (w.heap.size + 1) 42 (x.cells s) (0, 0) _ h4 (setRow_heap _ _ _ (x.cells s) _ _ h.res) Try.underlying42 rfl info_state h5) rfl ?_
  refine ⟨x, rfl, ?_, h.below.trans ⟨rfl, rfl, rfl, by simp, fun q hq => setRow_other W _ q _ (by omega)⟩⟩
  exact StateB.mono (StateB.keep hs fun k h1 h2 => setRow_other _ _ k _ (by omega)) (by omega) (by simpa using hhi)
set_option maxRecDepth 100000 in
set_option maxHeartbeats 8000000 in
theorem replay_any (x : SV) (s : LS) (rs : List LR) (A : Option Addr) (n c lo hi : Nat) (w : World) (hst : StB lo hi w x s) (hhi : hi ≤ w.heap.size) (hT : Strs w A n (rs.map fun r => str (encR r))) (hg : ∀ r ∈ rs, GoodR r) (hn : n ≤ 1000000) :
    Calls Try.prog 39 #[.agg #[.int .i64 s.n, .int .i64 s.ep, .slice x.A2 s.done.length x.c2, .slice x.A3 s.done.length x.c3, .slice x.A4 s.done.length x.c4, .slice x.A5 s.has.length x.c5, .slice x.A6 s.has.length x.c6, .slice x.A7 s.has.length x.c7, .slice x.A8 s.has.length x.c8, .int .i64 s.fin, .int .i64 s.er], .slice A n c] w (ApplyV w (replayP s rs).1 (replayP s rs).2) := by
  have hlen : rs.length = n := by have := hT.len; simpa using this
  have HST := Lib.hid hst
  have HL := Lib.hid hlen
  have HGR := Lib.hid hg
  have HTT := Lib.hid hT
  clear hst hlen hg hT
  go_enter Try.func39, Try.ntmps39
  go_upto_region 2 with fail
  have HJ : RepJ w ((w.alloc (.cells #[.int .i64 s.n, .int .i64 s.ep, .slice x.A2 s.done.length x.c2, .slice x.A3 s.done.length x.c3, .slice x.A4 s.done.length x.c4, .slice x.A5 s.has.length x.c5, .slice x.A6 s.has.length x.c6, .slice x.A7 s.has.length x.c7, .slice x.A8 s.has.length x.c8, .int .i64 s.fin, .int .i64 s.er] 42)).alloc (.cells #[.int .i64 0, .int .i64 0, .slice none 0 0, .slice none 0 0, .slice none 0 0, .slice none 0 0, .slice none 0 0, .slice none 0 0, .slice none 0 0, .int .i64 0, .int .i64 0] 42)) x s := by
    have s1 : (w.alloc (.cells #[.int .i64 s.n, .int .i64 s.ep, .slice x.A2 s.done.length x.c2, .slice x.A3 s.done.length x.c3, .slice x.A4 s.done.length x.c4, .slice x.A5 s.has.length x.c5, .slice x.A6 s.has.length x.c6, .slice x.A7 s.has.length x.c7, .slice x.A8 s.has.length x.c8, .int .i64 s.fin, .int .i64 s.er] 42)).heap.size = w.heap.size + 1 := World.size_alloc _ _
    have h1 := heap_alloc_new w (.cells #[.int .i64 s.n, .int .i64 s.ep, .slice x.A2 s.done.length x.c2, .slice x.A3 s.done.length x.c3, .slice x.A4 s.done.length x.c4, .slice x.A5 s.has.length x.c5, .slice x.A6 s.has.length x.c6, .slice x.A7 s.has.length x.c7, .slice x.A8 s.has.length x.c8, .int .i64 s.fin, .int .i64 s.er] 42)
    have h2 := heap_alloc_new (w.alloc (.cells #[.int .i64 s.n, .int .i64 s.ep, .slice x.A2 s.done.length x.c2, .slice x.A3 s.done.length x.c3, .slice x.A4 s.done.length x.c4, .slice x.A5 s.has.length x.c5, .slice x.A6 s.has.length x.c6, .slice x.A7 s.has.length x.c7, .slice x.A8 s.has.length x.c8, .int .i64 s.fin, .int .i64 s.er] 42)) (.cells #[.int .i64 0, .int .i64 0, .slice none 0 0, .slice none 0 0, .slice none 0 0, .slice none 0 0, .slice none 0 0, .slice none 0 0, .slice none 0 0, .int .i64 0, .int .i64 0] 42)
    have b1 := (Below.refl w.heap.size w).alloc (Nat.le_refl _) (.cells #[.int .i64 s.n, .int .i64 s.ep, .slice x.A2 s.done.length x.c2, .slice x.A3 s.done.length x.c3, .slice x.A4 s.done.length x.c4, .slice x.A5 s.has.length x.c5, .slice x.A6 s.has.length x.c6, .slice x.A7 s.has.length x.c7, .slice x.A8 s.has.length x.c8, .int .i64 s.fin, .int .i64 s.er] 42)
    have b2 := (Below.refl (w.alloc (.cells #[.int .i64 s.n, .int .i64 s.ep, .slice x.A2 s.done.length x.c2, .slice x.A3 s.done.length x.c3, .slice x.A4 s.done.length x.c4, .slice x.A5 s.has.length x.c5, .slice x.A6 s.has.length x.c6, .slice x.A7 s.has.length x.c7, .slice x.A8 s.has.length x.c8, .int .i64 s.fin, .int .i64 s.er] 42)).heap.size (w.alloc (.cells #[.int .i64 s.n, .int .i64 s.ep, .slice x.A2 s.done.length x.c2, .slice x.A3 s.done.length x.c3, .slice x.A4 s.done.length x.c4, .slice x.A5 s.has.length x.c5, .slice x.A6 s.has.length x.c6, .slice x.A7 s.has.length x.c7, .slice x.A8 s.has.length x.c8, .int .i64 s.fin, .int .i64 s.er] 42))).alloc (Nat.le_refl _) (.cells #[.int .i64 0, .int .i64 0, .slice none 0 0, .slice none 0 0, .slice none 0 0, .slice none 0 0, .slice none 0 0, .slice none 0 0, .slice none 0 0, .int .i64 0, .int .i64 0] 42)
    rw [s1] at h2
    have b3 := bt b1 b1.size b2
    have hz : ((w.alloc (.cells #[.int .i64 s.n, .int .i64 s.ep, .slice x.A2 s.done.length x.c2, .slice x.A3 s.done.length x.c3, .slice x.A4 s.done.length x.c4, .slice x.A5 s.has.length x.c5, .slice x.A6 s.has.length x.c6, .slice x.A7 s.has.length x.c7, .slice x.A8 s.has.length x.c8, .int .i64 s.fin, .int .i64 s.er] 42)).alloc (.cells #[.int .i64 0, .int .i64 0, .slice none 0 0, .slice none 0 0, .slice none 0 0, .slice none 0 0, .slice none 0 0, .slice none 0 0, .slice none 0 0, .int .i64 0, .int .i64 0] 42)).heap.size = w.heap.size + 2 := by rw [World.size_alloc, s1]
    exact ⟨⟨(b2.block _ (by omega)).trans h1, ⟨lo, hi, StateB.below HST.out (b3.mono hhi), .inr hhi, by omega⟩, Nat.le_refl _⟩, h2, b3⟩
  generalize (w.alloc (.cells #[.int .i64 s.n, .int .i64 s.ep, .slice x.A2 s.done.length x.c2, .slice x.A3 s.done.length x.c3, .slice x.A4 s.done.length x.c4, .slice x.A5 s.has.length x.c5, .slice x.A6 s.has.length x.c6, .slice x.A7 s.has.length x.c7, .slice x.A8 s.has.length x.c8, .int .i64 s.fin, .int .i64 s.er] 42)).alloc (.cells #[.int .i64 0, .int .i64 0, .slice none 0 0, .slice none 0 0, .slice none 0 0, .slice none 0 0, .slice none 0 0, .slice none 0 0, .slice none 0 0, .int .i64 0, .int .i64 0] 42) = W at HJ ⊢
  go_wp2
  go_loopw [6, 14] (fun a i wr => ∃ (k : Nat) (y : SV) (q : LS) (m : Nat), k ≤ n ∧ i = .int .i64 k ∧ a = .int .i64 m ∧ m ≤ k ∧ replayP s (rs.take k) = (q, m) ∧ RepJ w wr y q) (fun _ i _ => n - (intOf i).toNat)
  case atStart => exact ⟨0, x, s, 0, by omega, rfl, rfl, Nat.le_refl _, by rw [List.take_zero]; rfl, HJ⟩
  case round =>
    clear HJ
    obtain ⟨k, y, q, m, hk, rfl, rfl, hm, hrp, HJ⟩ := hrel
    by_cases hlt : k < n
    · skip
      have hkl : k < rs.length := by have := HL.out; omega
      obtain ⟨tb, off, rfl, htc⟩ := HTT.out.block (by omega)
      have hcell := cell_below HJ.below (htc k (by simpa using hkl))
      rw [List.getElem_map] at hcell
      have htk : rs.take (k + 1) = rs.take k ++ [rs[k]] := List.take_succ_eq_append_getElem hkl
      have HG := Lib.hid (HGR.out _ (List.getElem_mem hkl))
      have hnx := replay_snoc (rs.take k) rs[k] s
      rw [← htk, hrp] at hnx
      dsimp only at hnx
      generalize rs[k] = r at hcell HG hnx
      obtain ⟨P, hP⟩ : ∃ P, P = applyP q r := ⟨_, rfl⟩
      rw [← hP] at hnx
      have HNX := Lib.hid hnx
      have HP := Lib.hid hP
      have HAP := Lib.hid (fun (v : MV) W (h : StW W y q) (hv : ManV W v r.m) => apply_v y q r v W h hv HG.out.slim)
      rw [← hP] at HAP
      clear htc htk hrp hnx hP
      have HJJ := Lib.hid HJ
      clear HJ
      go_upto_region 6 with (go_at_call 76; (with_reducible refine (lread_any r _ HG.out).mono ?_); rintro e w2 ⟨v, rfl, hM, hd⟩)
      have hN := heap_alloc_new w2 (.cells #[.int .i64 r.kind, .int .i64 r.n, .int .i64 r.e, .string r.text, .int .i64 r.m.task, .int .i64 r.m.att, .slice v.A2 r.m.sz.length v.c2, .slice v.A3 r.m.sm.length v.c3, .slice v.A4 r.m.hm.length v.c4] 53)
      have hb := (Below.refl w2.heap.size w2).alloc (Nat.le_refl _) (.cells #[.int .i64 r.kind, .int .i64 r.n, .int .i64 r.e, .string r.text, .int .i64 r.m.task, .int .i64 r.m.att, .slice v.A2 r.m.sz.length v.c2, .slice v.A3 r.m.sm.length v.c3, .slice v.A4 r.m.hm.length v.c4] 53)
      replace hM := hM.below hb
      have HJ := (HJJ.out.far hd).far hb
      generalize w2.alloc (.cells #[.int .i64 r.kind, .int .i64 r.n, .int .i64 r.e, .string r.text, .int .i64 r.m.task, .int .i64 r.m.att, .slice v.A2 r.m.sz.length v.c2, .slice v.A3 r.m.sm.length v.c3, .slice v.A4 r.m.hm.length v.c4] 53) = w3 at hN hM HJ ⊢
      generalize w2.heap.size = G at hN ⊢
      clear hb hd HJJ hcell
      obtain ⟨y0, y1, y2, y3, y4, y5, y6, y7, y8⟩ := cells9 hN
      obtain ⟨p0, p1, p2, p3, p4, p5, p6, p7, p8, p9, p10⟩ := cells11 HJ.var.box
      have HJJ := Lib.hid HJ
      have HMM := Lib.hid hM
      have HSW := Lib.hid HJ.var.state
      clear HJ hM hN
      go_upto_region 8 with (go_at_call 21; (with_reducible refine (HAP.out v _ HSW.out HMM.out).mono ?_); rintro e w4 ⟨y2, rfl, hS4, hd⟩)
      clear p0 p1 p2 p3 p4 p5 p6 p7 p8 p9 p10
      obtain ⟨s2, n2⟩ := P
      dsimp only at hS4 HNX ⊢
      have hN2 := heap_alloc_new w4 (.cells #[.int .i64 s2.n, .int .i64 s2.ep, .slice y2.A2 s2.done.length y2.c2, .slice y2.A3 s2.done.length y2.c3, .slice y2.A4 s2.done.length y2.c4, .slice y2.A5 s2.has.length y2.c5, .slice y2.A6 s2.has.length y2.c6, .slice y2.A7 s2.has.length y2.c7, .slice y2.A8 s2.has.length y2.c8, .int .i64 s2.fin, .int .i64 s2.er] 42)
      have hb := (Below.refl w4.heap.size w4).alloc (Nat.le_refl _) (.cells #[.int .i64 s2.n, .int .i64 s2.ep, .slice y2.A2 s2.done.length y2.c2, .slice y2.A3 s2.done.length y2.c3, .slice y2.A4 s2.done.length y2.c4, .slice y2.A5 s2.has.length y2.c5, .slice y2.A6 s2.has.length y2.c6, .slice y2.A7 s2.has.length y2.c7, .slice y2.A8 s2.has.length y2.c8, .int .i64 s2.fin, .int .i64 s2.er] 42)
      have HJ := (HJJ.out.far hd).far hb
      have hS5 := StateB.below hS4 hb
      have hlo := HJJ.out.below.size
      have hlo2 := (Array.getElem?_eq_some_iff.1 HJJ.out.res).1
      have hhi2 := hb.size
      generalize w4.alloc (.cells #[.int .i64 s2.n, .int .i64 s2.ep, .slice y2.A2 s2.done.length y2.c2, .slice y2.A3 s2.done.length y2.c3, .slice y2.A4 s2.done.length y2.c4, .slice y2.A5 s2.has.length y2.c5, .slice y2.A6 s2.has.length y2.c6, .slice y2.A7 s2.has.length y2.c7, .slice y2.A8 s2.has.length y2.c8, .int .i64 s2.fin, .int .i64 s2.er] 42) = w5 at hN2 HJ hS5 hhi2 ⊢
      generalize w4.heap.size = G2 at hN2 hS5 hhi2 ⊢
      clear hb hd HJJ hS4 HSW HMM HAP
      by_cases h0 : n2 = 0
      · have t0 : (((n2 : Nat) : Int) == 0) = true := by rw [h0]; rfl
        obtain ⟨p0, p1, p2, p3, p4, p5, p6, p7, p8, p9, p10⟩ := cells11 hN2
        have hA := HJ.var.box
        have HJJ := Lib.hid (HJ.put hS5 (by omega) hhi2)
        have h0h := Lib.hid h0
        clear HJ hN2 h0
        go_wp2_with (refine wpList_store_row rfl 42 (.tmp 2) (.tmp 33) rfl w.heap.size (y2.cells s2) rfl rfl 42 (y.cells q) hA info_state rfl (SV.one y2 s2) ?_)
        go_roundw
        case rel => exact ⟨k + 1, y2, s2, m + 1, by omega, by go_num, by go_num, by omega, by rw [HNX.out, if_pos h0h.out], HJJ.out⟩
        case measure => simp [intOf]; omega
      · have t0 : (((n2 : Nat) : Int) == 0) = false := by simp; omega
        have hP2 : s2 = q := by
          have h1 := congrArg Prod.fst HP.out
          have h2 := congrArg Prod.snd HP.out
          dsimp only at h1 h2
          rw [h1]
          exact applyP_no (by rw [← h2]; exact h0)
        have h0h := Lib.hid h0
        have HP2 := Lib.hid hP2
        have HJJ := Lib.hid HJ
        clear HJ hN2 h0 hP2
        go_wp2
        go_roundw
        case rel => exact ⟨k + 1, y, q, m, by omega, by go_num, rfl, by omega, by rw [HNX.out, if_neg h0h.out, Nat.add_zero, HP2.out], HJJ.out⟩
        case measure => simp [intOf]; omega
    · obtain rfl : k = n := by omega
      have e : rs.take k = rs := by rw [← HL.out, List.take_length]
      rw [e] at hrp
      have HRP := Lib.hid hrp
      have HJJ := Lib.hid HJ
      have HCP := Lib.hid (copied_v y q wr HJ.var.state)
      obtain ⟨p0, p1, p2, p3, p4, p5, p6, p7, p8, p9, p10⟩ := cells11 HJ.var.box
      have hsz := HJ.below.size
      have hsz2 := (Array.getElem?_eq_some_iff.1 HJ.res).1
      have hA := HJ.res
      clear HJ hrp e
      go_upto_region 11 with fail
      go_wp2_with (first | (go_at_call 50; (with_reducible refine (HCP.out).mono ?_); rintro e w2 ⟨z, rfl, hS2, hd⟩; have hA2 := heap_below hd hA) | (refine wpList_store_row rfl 42 (.tmp 4) (.tmp 38) rfl (w.heap.size + 1) (z.cells q) rfl rfl 42 #[.int .i64 0, .int .i64 0, .slice none 0 0, .slice none 0 0, .slice none 0 0, .slice none 0 0, .slice none 0 0, .slice none 0 0, .slice none 0 0, .int .i64 0, .int .i64 0] hA2 info_state rfl (SV.one z q) ?_))
      rw [HRP.out]
      refine rep_fin (s := q) (n := m) (HJJ.out.far hd) hS2 (by omega) (Nat.le_refl _) _ ?_ ?_ <;> rfl
end Go.Proofs.Ytmlemichkeomjaa.LedW
