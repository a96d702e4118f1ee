/- stooklaw20.awake walked. -/
import Derived.Test.YtmlemichkeomjaaLedA2
import Derived.Test.YtmlemichkeomjaaLedN3
import Derived.Test.YtmlemichkeomjaaLedRec
set_option linter.unusedVariables false
set_option linter.unusedSimpArgs false
namespace Go.Proofs.Ytmlemichkeomjaa.LedW
open Go.RowKit Go.Proofs.Ytmlemichkeomjaa.Base Go.Proofs.Ytmlemichkeomjaa.MendW Go.Proofs.Ytmlemichkeomjaa.ManP Go.Proofs.Ytmlemichkeomjaa.ManW Go.Proofs.Ytmlemichkeomjaa.LedP
def rec0 (k n e : Int) : LR := ⟨k, n, e, ByteArray.empty, noMan⟩
theorem apply_none (k n e : Int) (A2 A3 A4 A5 A6 A7 A8 : Option Addr) (c2 c3 c4 c5 c6 c7 c8 : Nat) (vs : Nat → MV) (s : LS) (w : World) (h : StateW w A2 A3 A4 A5 A6 A7 A8 vs s) :
    Calls Try.prog 21 #[.agg #[.int .i64 s.n, .int .i64 s.ep, .slice A2 s.done.length c2, .slice A3 s.done.length c3, .slice A4 s.done.length c4, .slice A5 s.has.length c5, .slice A6 s.has.length c6, .slice A7 s.has.length c7, .slice A8 s.has.length c8, .int .i64 s.fin, .int .i64 s.er], .agg #[.int .i64 k, .int .i64 n, .int .i64 e, .string ⟨#[]⟩, .int .i64 0, .int .i64 0, .slice none 0 0, .slice none 0 0, .slice none 0 0]] w (ApplyPost w (applyP s (rec0 k n e)).1 (applyP s (rec0 k n e)).2) :=
  apply_any A2 A3 A4 A5 A6 A7 A8 c2 c3 c4 c5 c6 c7 c8 vs s (rec0 k n e) noMV w h (ManV.no w) slim_no
theorem good_rec {k n e : Int} (hk : 0 ≤ k ∧ k ≤ 7) (hn : 0 ≤ n ∧ n ≤ 2147483647) (he : 0 ≤ e ∧ e ≤ 255) (t : ByteArray) (m : Man) : ¬ badR ⟨k, n, e, t, m⟩ := by
  unfold badR
  dsimp only
  omega
def aw1 : LS := ⟨1, 0, [false], [noMan], [0], [true], [ByteArray.empty], [0], [false], 0, 0⟩
def aw2 : LS := ⟨1, 0, [false], [noMan], [0], [true], [ByteArray.empty], [0], [true], 0, 0⟩
def aw3 : LS := ⟨1, 0, [false], [noMan], [0], [true], [ByteArray.empty], [0], [true], 1, 0⟩
theorem aw_a : applyP (newS 1 1 1) (rec0 4 0 0) = (aw1, 0) := by
  unfold applyP
  rw [if_neg (good_rec (by decide) (by decide) (by decide) _ _), if_neg (by decide), if_neg (by decide), if_neg (by decide)]
  rfl
theorem aw_b : applyP aw1 (rec0 6 0 0) = (aw2, 0) := by
  unfold applyP
  rw [if_neg (good_rec (by decide) (by decide) (by decide) _ _), if_neg (by decide), if_neg (by decide), if_neg (by decide)]
  rfl
theorem aw_c : applyP aw2 (rec0 6 0 0) = (aw2, 18) := by
  unfold applyP
  rw [if_neg (good_rec (by decide) (by decide) (by decide) _ _), if_neg (by decide), if_neg (by decide), if_neg (by decide)]
  rfl
theorem aw_d : applyP aw2 (rec0 7 1 0) = (aw3, 0) := by
  unfold applyP
  rw [if_neg (good_rec (by decide) (by decide) (by decide) _ _), if_neg (by decide), if_neg (by decide), if_neg (by decide)]
  rfl
theorem aw_e : applyP aw3 (rec0 6 0 0) = (aw3, 19) := by
  unfold applyP
  rw [if_neg (good_rec (by decide) (by decide) (by decide) _ _), if_neg (by decide), if_pos (by decide)]
set_option maxRecDepth 100000 in
set_option maxHeartbeats 4000000 in
theorem awake20_any (w : World) : Calls Try.prog 16 #[] w fun e w' => e = .returned (.bool true) ∧ Below w.heap.size w w' := by
  have K0 := Lib.hid (fun W : World => show Calls Try.prog 18 #[.int .i64 1, .int .i64 1, .int .i64 1] W (ApplyPost W (newS 1 1 1) 0) from new_ok 1 1 1 (by decide) (by decide) (by decide) W)
  have KA := Lib.hid (fun (A2 A3 A4 A5 A6 A7 A8 : Option Addr) (c2 c3 c4 c5 c6 c7 c8 : Nat) (vs : Nat → MV) (w : World) (h : StateW w A2 A3 A4 A5 A6 A7 A8 vs (newS 1 1 1)) => apply_none 4 0 0 A2 A3 A4 A5 A6 A7 A8 c2 c3 c4 c5 c6 c7 c8 vs (newS 1 1 1) w h)
  rw [aw_a] at KA
  have KB := Lib.hid (fun (A2 A3 A4 A5 A6 A7 A8 : Option Addr) (c2 c3 c4 c5 c6 c7 c8 : Nat) (vs : Nat → MV) (w : World) (h : StateW w A2 A3 A4 A5 A6 A7 A8 vs aw1) => apply_none 6 0 0 A2 A3 A4 A5 A6 A7 A8 c2 c3 c4 c5 c6 c7 c8 vs aw1 w h)
  rw [aw_b] at KB
  have KC := Lib.hid (fun (A2 A3 A4 A5 A6 A7 A8 : Option Addr) (c2 c3 c4 c5 c6 c7 c8 : Nat) (vs : Nat → MV) (w : World) (h : StateW w A2 A3 A4 A5 A6 A7 A8 vs aw2) => apply_none 6 0 0 A2 A3 A4 A5 A6 A7 A8 c2 c3 c4 c5 c6 c7 c8 vs aw2 w h)
  rw [aw_c] at KC
  have KD := Lib.hid (fun (A2 A3 A4 A5 A6 A7 A8 : Option Addr) (c2 c3 c4 c5 c6 c7 c8 : Nat) (vs : Nat → MV) (w : World) (h : StateW w A2 A3 A4 A5 A6 A7 A8 vs aw2) => apply_none 7 1 0 A2 A3 A4 A5 A6 A7 A8 c2 c3 c4 c5 c6 c7 c8 vs aw2 w h)
  rw [aw_d] at KD
  have KE := Lib.hid (fun (A2 A3 A4 A5 A6 A7 A8 : Option Addr) (c2 c3 c4 c5 c6 c7 c8 : Nat) (vs : Nat → MV) (w : World) (h : StateW w A2 A3 A4 A5 A6 A7 A8 vs aw3) => apply_none 6 0 0 A2 A3 A4 A5 A6 A7 A8 c2 c3 c4 c5 c6 c7 c8 vs aw3 w h)
  rw [aw_e] at KE
  dsimp only at KA KB KC KD KE
  generalize newS 1 1 1 = s0 at K0 KA
  generalize aw1 = s1 at KA KB
  generalize aw3 = s3 at KD KE
  generalize aw2 = s2 at KB KC KD
  go_enter Try.func16, Try.ntmps16
  go_upto_region 2 with (go_at_call 18; (with_reducible refine (K0.out _).mono ?_); rintro e w1 ⟨A2, c2, A3, c3, A4, c4, A5, c5, A6, c6, A7, c7, A8, c8, vs0, rfl, HS, hd⟩)
  have hA := heap_alloc_new w1 (.cells #[.int .i64 s0.n, .int .i64 s0.ep, .slice A2 s0.done.length c2, .slice A3 s0.done.length c3, .slice A4 s0.done.length c4, .slice A5 s0.has.length c5, .slice A6 s0.has.length c6, .slice A7 s0.has.length c7, .slice A8 s0.has.length c8, .int .i64 s0.fin, .int .i64 s0.er] 42)
  have HB := hd.alloc hd.size (.cells #[.int .i64 s0.n, .int .i64 s0.ep, .slice A2 s0.done.length c2, .slice A3 s0.done.length c3, .slice A4 s0.done.length c4, .slice A5 s0.has.length c5, .slice A6 s0.has.length c6, .slice A7 s0.has.length c7, .slice A8 s0.has.length c8, .int .i64 s0.fin, .int .i64 s0.er] 42)
  have hb := (Below.refl w1.heap.size w1).alloc (Nat.le_refl _) (.cells #[.int .i64 s0.n, .int .i64 s0.ep, .slice A2 s0.done.length c2, .slice A3 s0.done.length c3, .slice A4 s0.done.length c4, .slice A5 s0.has.length c5, .slice A6 s0.has.length c6, .slice A7 s0.has.length c7, .slice A8 s0.has.length c8, .int .i64 s0.fin, .int .i64 s0.er] 42)
  have hz := World.size_alloc w1 (.cells #[.int .i64 s0.n, .int .i64 s0.ep, .slice A2 s0.done.length c2, .slice A3 s0.done.length c3, .slice A4 s0.done.length c4, .slice A5 s0.has.length c5, .slice A6 s0.has.length c6, .slice A7 s0.has.length c7, .slice A8 s0.has.length c8, .int .i64 s0.fin, .int .i64 s0.er] 42)
  replace HS := HS.below hb
  obtain ⟨g, hg⟩ : ∃ g, g = w1.heap.size := ⟨_, rfl⟩
  have hgw : w.heap.size ≤ g := by rw [hg]; exact hd.size
  have HSZ := Lib.hid (show w1.heap.size ≤ (w1.alloc (.cells #[.int .i64 s0.n, .int .i64 s0.ep, .slice A2 s0.done.length c2, .slice A3 s0.done.length c3, .slice A4 s0.done.length c4, .slice A5 s0.has.length c5, .slice A6 s0.has.length c6, .slice A7 s0.has.length c7, .slice A8 s0.has.length c8, .int .i64 s0.fin, .int .i64 s0.er] 42)).heap.size by omega)
  rw [← hg] at hA HS hz HSZ ⊢
  generalize w1.alloc (.cells #[.int .i64 s0.n, .int .i64 s0.ep, .slice A2 s0.done.length c2, .slice A3 s0.done.length c3, .slice A4 s0.done.length c4, .slice A5 s0.has.length c5, .slice A6 s0.has.length c6, .slice A7 s0.has.length c7, .slice A8 s0.has.length c8, .int .i64 s0.fin, .int .i64 s0.er] 42) = W1 at hA HB HS hz HSZ ⊢
  clear hb hg hd
  have p0 : W1.cell? ⟨g, 0, none⟩ = some (.int .i64 s0.n) := by rw [cell_of_row _ _ _ _ _ _ hA]; rfl
  have p1 : W1.cell? ⟨g, 1, none⟩ = some (.int .i64 s0.ep) := by rw [cell_of_row _ _ _ _ _ _ hA]; rfl
  have p2 : W1.cell? ⟨g, 2, none⟩ = some (.slice A2 s0.done.length c2) := by rw [cell_of_row _ _ _ _ _ _ hA]; rfl
  have p3 : W1.cell? ⟨g, 3, none⟩ = some (.slice A3 s0.done.length c3) := by rw [cell_of_row _ _ _ _ _ _ hA]; rfl
  have p4 : W1.cell? ⟨g, 4, none⟩ = some (.slice A4 s0.done.length c4) := by rw [cell_of_row _ _ _ _ _ _ hA]; rfl
  have p5 : W1.cell? ⟨g, 5, none⟩ = some (.slice A5 s0.has.length c5) := by rw [cell_of_row _ _ _ _ _ _ hA]; rfl
  have p6 : W1.cell? ⟨g, 6, none⟩ = some (.slice A6 s0.has.length c6) := by rw [cell_of_row _ _ _ _ _ _ hA]; rfl
  have p7 : W1.cell? ⟨g, 7, none⟩ = some (.slice A7 s0.has.length c7) := by rw [cell_of_row _ _ _ _ _ _ hA]; rfl
  have p8 : W1.cell? ⟨g, 8, none⟩ = some (.slice A8 s0.has.length c8) := by rw [cell_of_row _ _ _ _ _ _ hA]; rfl
  have p9 : W1.cell? ⟨g, 9, none⟩ = some (.int .i64 s0.fin) := by rw [cell_of_row _ _ _ _ _ _ hA]; rfl
  have p10 : W1.cell? ⟨g, 10, none⟩ = some (.int .i64 s0.er) := by rw [cell_of_row _ _ _ _ _ _ hA]; rfl
  have HC := Lib.hid (KA.out A2 A3 A4 A5 A6 A7 A8 c2 c3 c4 c5 c6 c7 c8 vs0 _ HS.here)
  have hgz : g < W1.heap.size := by omega
  go_upto_region 3 with (first | ((go_at_call 21; (with_reducible refine (HC.out).mono ?_); rintro e w2 ⟨B2, d2, B3, d3, B4, d4, B5, d5, B6, d6, B7, d7, B8, d8, vs1, rfl, HT, hd⟩); clear HC; replace hA := (hd.block _ hgz).trans hA; have hone : (#[.int .i64 s1.n, .int .i64 s1.ep, .slice B2 s1.done.length d2, .slice B3 s1.done.length d3, .slice B4 s1.done.length d4, .slice B5 s1.has.length d5, .slice B6 s1.has.length d6, .slice B7 s1.has.length d7, .slice B8 s1.has.length d8, .int .i64 s1.fin, .int .i64 s1.er] : Array Value).all (·.oneCell') = true := by simp [Value.oneCell']) | (refine wpList_store_row rfl 42 (.tmp 1) (.tmp 18) rfl g #[.int .i64 s1.n, .int .i64 s1.ep, .slice B2 s1.done.length d2, .slice B3 s1.done.length d3, .slice B4 s1.done.length d4, .slice B5 s1.has.length d5, .slice B6 s1.has.length d6, .slice B7 s1.has.length d7, .slice B8 s1.has.length d8, .int .i64 s1.fin, .int .i64 s1.er] rfl rfl 42 #[.int .i64 s0.n, .int .i64 s0.ep, .slice A2 s0.done.length c2, .slice A3 s0.done.length c3, .slice A4 s0.done.length c4, .slice A5 s0.has.length c5, .slice A6 s0.has.length c6, .slice A7 s0.has.length c7, .slice A8 s0.has.length c8, .int .i64 s0.fin, .int .i64 s0.er] hA info_state rfl hone ?_))
  replace HS := HT.keep (w' := w2.setRow g #[.int .i64 s1.n, .int .i64 s1.ep, .slice B2 s1.done.length d2, .slice B3 s1.done.length d3, .slice B4 s1.done.length d4, .slice B5 s1.has.length d5, .slice B6 s1.has.length d6, .slice B7 s1.has.length d7, .slice B8 s1.has.length d8, .int .i64 s1.fin, .int .i64 s1.er]) (fun k hk _ => setRow_other _ _ k _ (by omega))
  replace hA := setRow_heap w2 g _ #[.int .i64 s1.n, .int .i64 s1.ep, .slice B2 s1.done.length d2, .slice B3 s1.done.length d3, .slice B4 s1.done.length d4, .slice B5 s1.has.length d5, .slice B6 s1.has.length d6, .slice B7 s1.has.length d7, .slice B8 s1.has.length d8, .int .i64 s1.fin, .int .i64 s1.er] _ _ hA
  replace HB := (HB.trans (hd.mono HB.size)).trans (⟨rfl, rfl, rfl, by simp, fun q hq => setRow_other w2 g q #[.int .i64 s1.n, .int .i64 s1.ep, .slice B2 s1.done.length d2, .slice B3 s1.done.length d3, .slice B4 s1.done.length d4, .slice B5 s1.has.length d5, .slice B6 s1.has.length d6, .slice B7 s1.has.length d7, .slice B8 s1.has.length d8, .int .i64 s1.fin, .int .i64 s1.er] (by omega)⟩ : Below w.heap.size w2 (w2.setRow g #[.int .i64 s1.n, .int .i64 s1.ep, .slice B2 s1.done.length d2, .slice B3 s1.done.length d3, .slice B4 s1.done.length d4, .slice B5 s1.has.length d5, .slice B6 s1.has.length d6, .slice B7 s1.has.length d7, .slice B8 s1.has.length d8, .int .i64 s1.fin, .int .i64 s1.er]))
  replace HSZ := Lib.hid (show w2.heap.size ≤ (w2.setRow g #[.int .i64 s1.n, .int .i64 s1.ep, .slice B2 s1.done.length d2, .slice B3 s1.done.length d3, .slice B4 s1.done.length d4, .slice B5 s1.has.length d5, .slice B6 s1.has.length d6, .slice B7 s1.has.length d7, .slice B8 s1.has.length d8, .int .i64 s1.fin, .int .i64 s1.er]).heap.size by simp)
  have hz2 : g < (w2.setRow g #[.int .i64 s1.n, .int .i64 s1.ep, .slice B2 s1.done.length d2, .slice B3 s1.done.length d3, .slice B4 s1.done.length d4, .slice B5 s1.has.length d5, .slice B6 s1.has.length d6, .slice B7 s1.has.length d7, .slice B8 s1.has.length d8, .int .i64 s1.fin, .int .i64 s1.er]).heap.size := by have := hd.size; simp; omega
  clear HT hd hone hgz p0 p1 p2 p3 p4 p5 p6 p7 p8 p9 p10
  generalize w2.setRow g #[.int .i64 s1.n, .int .i64 s1.ep, .slice B2 s1.done.length d2, .slice B3 s1.done.length d3, .slice B4 s1.done.length d4, .slice B5 s1.has.length d5, .slice B6 s1.has.length d6, .slice B7 s1.has.length d7, .slice B8 s1.has.length d8, .int .i64 s1.fin, .int .i64 s1.er] = W2 at HS hA HB hz2 HSZ ⊢
  clear hz
  have p0 : W2.cell? ⟨g, 0, none⟩ = some (.int .i64 s1.n) := by rw [cell_of_row _ _ _ _ _ _ hA]; rfl
  have p1 : W2.cell? ⟨g, 1, none⟩ = some (.int .i64 s1.ep) := by rw [cell_of_row _ _ _ _ _ _ hA]; rfl
  have p2 : W2.cell? ⟨g, 2, none⟩ = some (.slice B2 s1.done.length d2) := by rw [cell_of_row _ _ _ _ _ _ hA]; rfl
  have p3 : W2.cell? ⟨g, 3, none⟩ = some (.slice B3 s1.done.length d3) := by rw [cell_of_row _ _ _ _ _ _ hA]; rfl
  have p4 : W2.cell? ⟨g, 4, none⟩ = some (.slice B4 s1.done.length d4) := by rw [cell_of_row _ _ _ _ _ _ hA]; rfl
  have p5 : W2.cell? ⟨g, 5, none⟩ = some (.slice B5 s1.has.length d5) := by rw [cell_of_row _ _ _ _ _ _ hA]; rfl
  have p6 : W2.cell? ⟨g, 6, none⟩ = some (.slice B6 s1.has.length d6) := by rw [cell_of_row _ _ _ _ _ _ hA]; rfl
  have p7 : W2.cell? ⟨g, 7, none⟩ = some (.slice B7 s1.has.length d7) := by rw [cell_of_row _ _ _ _ _ _ hA]; rfl
  have p8 : W2.cell? ⟨g, 8, none⟩ = some (.slice B8 s1.has.length d8) := by rw [cell_of_row _ _ _ _ _ _ hA]; rfl
  have p9 : W2.cell? ⟨g, 9, none⟩ = some (.int .i64 s1.fin) := by rw [cell_of_row _ _ _ _ _ _ hA]; rfl
  have p10 : W2.cell? ⟨g, 10, none⟩ = some (.int .i64 s1.er) := by rw [cell_of_row _ _ _ _ _ _ hA]; rfl
  replace hz := hz2
  clear hz2
  have HC := Lib.hid (KB.out B2 B3 B4 B5 B6 B7 B8 d2 d3 d4 d5 d6 d7 d8 vs1 _ HS.here)
  have hgz : g < W2.heap.size := by omega
  go_upto_region 4 with (first | ((go_at_call 21; (with_reducible refine (HC.out).mono ?_); rintro e w3 ⟨C2, g2, C3, g3, C4, g4, C5, g5, C6, g6, C7, g7, C8, g8, vs2, rfl, HT, hd⟩); clear HC; replace hA := (hd.block _ hgz).trans hA; have hone : (#[.int .i64 s2.n, .int .i64 s2.ep, .slice C2 s2.done.length g2, .slice C3 s2.done.length g3, .slice C4 s2.done.length g4, .slice C5 s2.has.length g5, .slice C6 s2.has.length g6, .slice C7 s2.has.length g7, .slice C8 s2.has.length g8, .int .i64 s2.fin, .int .i64 s2.er] : Array Value).all (·.oneCell') = true := by simp [Value.oneCell']) | (refine wpList_store_row rfl 42 (.tmp 1) (.tmp 24) rfl g #[.int .i64 s2.n, .int .i64 s2.ep, .slice C2 s2.done.length g2, .slice C3 s2.done.length g3, .slice C4 s2.done.length g4, .slice C5 s2.has.length g5, .slice C6 s2.has.length g6, .slice C7 s2.has.length g7, .slice C8 s2.has.length g8, .int .i64 s2.fin, .int .i64 s2.er] rfl rfl 42 #[.int .i64 s1.n, .int .i64 s1.ep, .slice B2 s1.done.length d2, .slice B3 s1.done.length d3, .slice B4 s1.done.length d4, .slice B5 s1.has.length d5, .slice B6 s1.has.length d6, .slice B7 s1.has.length d7, .slice B8 s1.has.length d8, .int .i64 s1.fin, .int .i64 s1.er] hA info_state rfl hone ?_))
  replace HS := HT.keep (w' := w3.setRow g #[.int .i64 s2.n, .int .i64 s2.ep, .slice C2 s2.done.length g2, .slice C3 s2.done.length g3, .slice C4 s2.done.length g4, .slice C5 s2.has.length g5, .slice C6 s2.has.length g6, .slice C7 s2.has.length g7, .slice C8 s2.has.length g8, .int .i64 s2.fin, .int .i64 s2.er]) (fun k hk _ => setRow_other _ _ k _ (by omega))
  replace hA := setRow_heap w3 g _ #[.int .i64 s2.n, .int .i64 s2.ep, .slice C2 s2.done.length g2, .slice C3 s2.done.length g3, .slice C4 s2.done.length g4, .slice C5 s2.has.length g5, .slice C6 s2.has.length g6, .slice C7 s2.has.length g7, .slice C8 s2.has.length g8, .int .i64 s2.fin, .int .i64 s2.er] _ _ hA
  replace HB := (HB.trans (hd.mono HB.size)).trans (⟨rfl, rfl, rfl, by simp, fun q hq => setRow_other w3 g q #[.int .i64 s2.n, .int .i64 s2.ep, .slice C2 s2.done.length g2, .slice C3 s2.done.length g3, .slice C4 s2.done.length g4, .slice C5 s2.has.length g5, .slice C6 s2.has.length g6, .slice C7 s2.has.length g7, .slice C8 s2.has.length g8, .int .i64 s2.fin, .int .i64 s2.er] (by omega)⟩ : Below w.heap.size w3 (w3.setRow g #[.int .i64 s2.n, .int .i64 s2.ep, .slice C2 s2.done.length g2, .slice C3 s2.done.length g3, .slice C4 s2.done.length g4, .slice C5 s2.has.length g5, .slice C6 s2.has.length g6, .slice C7 s2.has.length g7, .slice C8 s2.has.length g8, .int .i64 s2.fin, .int .i64 s2.er]))
  replace HSZ := Lib.hid (show w3.heap.size ≤ (w3.setRow g #[.int .i64 s2.n, .int .i64 s2.ep, .slice C2 s2.done.length g2, .slice C3 s2.done.length g3, .slice C4 s2.done.length g4, .slice C5 s2.has.length g5, .slice C6 s2.has.length g6, .slice C7 s2.has.length g7, .slice C8 s2.has.length g8, .int .i64 s2.fin, .int .i64 s2.er]).heap.size by simp)
  have hz2 : g < (w3.setRow g #[.int .i64 s2.n, .int .i64 s2.ep, .slice C2 s2.done.length g2, .slice C3 s2.done.length g3, .slice C4 s2.done.length g4, .slice C5 s2.has.length g5, .slice C6 s2.has.length g6, .slice C7 s2.has.length g7, .slice C8 s2.has.length g8, .int .i64 s2.fin, .int .i64 s2.er]).heap.size := by have := hd.size; simp; omega
  clear HT hd hone hgz p0 p1 p2 p3 p4 p5 p6 p7 p8 p9 p10
  generalize w3.setRow g #[.int .i64 s2.n, .int .i64 s2.ep, .slice C2 s2.done.length g2, .slice C3 s2.done.length g3, .slice C4 s2.done.length g4, .slice C5 s2.has.length g5, .slice C6 s2.has.length g6, .slice C7 s2.has.length g7, .slice C8 s2.has.length g8, .int .i64 s2.fin, .int .i64 s2.er] = W3 at HS hA HB hz2 HSZ ⊢
  clear hz
  have p0 : W3.cell? ⟨g, 0, none⟩ = some (.int .i64 s2.n) := by rw [cell_of_row _ _ _ _ _ _ hA]; rfl
  have p1 : W3.cell? ⟨g, 1, none⟩ = some (.int .i64 s2.ep) := by rw [cell_of_row _ _ _ _ _ _ hA]; rfl
  have p2 : W3.cell? ⟨g, 2, none⟩ = some (.slice C2 s2.done.length g2) := by rw [cell_of_row _ _ _ _ _ _ hA]; rfl
  have p3 : W3.cell? ⟨g, 3, none⟩ = some (.slice C3 s2.done.length g3) := by rw [cell_of_row _ _ _ _ _ _ hA]; rfl
  have p4 : W3.cell? ⟨g, 4, none⟩ = some (.slice C4 s2.done.length g4) := by rw [cell_of_row _ _ _ _ _ _ hA]; rfl
  have p5 : W3.cell? ⟨g, 5, none⟩ = some (.slice C5 s2.has.length g5) := by rw [cell_of_row _ _ _ _ _ _ hA]; rfl
  have p6 : W3.cell? ⟨g, 6, none⟩ = some (.slice C6 s2.has.length g6) := by rw [cell_of_row _ _ _ _ _ _ hA]; rfl
  have p7 : W3.cell? ⟨g, 7, none⟩ = some (.slice C7 s2.has.length g7) := by rw [cell_of_row _ _ _ _ _ _ hA]; rfl
  have p8 : W3.cell? ⟨g, 8, none⟩ = some (.slice C8 s2.has.length g8) := by rw [cell_of_row _ _ _ _ _ _ hA]; rfl
  have p9 : W3.cell? ⟨g, 9, none⟩ = some (.int .i64 s2.fin) := by rw [cell_of_row _ _ _ _ _ _ hA]; rfl
  have p10 : W3.cell? ⟨g, 10, none⟩ = some (.int .i64 s2.er) := by rw [cell_of_row _ _ _ _ _ _ hA]; rfl
  replace hz := hz2
  clear hz2
  have HC := Lib.hid (KC.out C2 C3 C4 C5 C6 C7 C8 g2 g3 g4 g5 g6 g7 g8 vs2 _ HS.here)
  have hgz : g < W3.heap.size := by omega
  go_upto_region 5 with ((go_at_call 21; (with_reducible refine (HC.out).mono ?_); rintro e w4 ⟨D2, h2, D3, h3, D4, h4, D5, h5, D6, h6, D7, h7, D8, h8, vs3, rfl, HT, hd⟩); clear HC; replace hA := (hd.block _ hgz).trans hA; replace HS := HS.below (hd.mono HSZ.out); replace HB := HB.trans (hd.mono HB.size); have hz2 := hd.size; clear HT)
  have hb := (Below.refl w4.heap.size w4).alloc (Nat.le_refl _) (.cells #[.int .i64 s2.n, .int .i64 s2.ep, .slice D2 s2.done.length h2, .slice D3 s2.done.length h3, .slice D4 s2.done.length h4, .slice D5 s2.has.length h5, .slice D6 s2.has.length h6, .slice D7 s2.has.length h7, .slice D8 s2.has.length h8, .int .i64 s2.fin, .int .i64 s2.er] 42)
  have hz3 := World.size_alloc w4 (.cells #[.int .i64 s2.n, .int .i64 s2.ep, .slice D2 s2.done.length h2, .slice D3 s2.done.length h3, .slice D4 s2.done.length h4, .slice D5 s2.has.length h5, .slice D6 s2.has.length h6, .slice D7 s2.has.length h7, .slice D8 s2.has.length h8, .int .i64 s2.fin, .int .i64 s2.er] 42)
  replace HB := HB.trans (hb.mono HB.size)
  replace hA := (hb.block _ (by omega)).trans hA
  have HZ2 := Lib.hid (Nat.le_trans HSZ.out hd.size)
  replace HS := HS.below (hb.mono HZ2.out)
  replace HSZ := Lib.hid (Nat.le_trans HZ2.out hb.size)
  generalize w4.alloc (.cells #[.int .i64 s2.n, .int .i64 s2.ep, .slice D2 s2.done.length h2, .slice D3 s2.done.length h3, .slice D4 s2.done.length h4, .slice D5 s2.has.length h5, .slice D6 s2.has.length h6, .slice D7 s2.has.length h7, .slice D8 s2.has.length h8, .int .i64 s2.fin, .int .i64 s2.er] 42) = W4 at hA HB HS hz3 HSZ ⊢
  replace hz : g < W4.heap.size := by omega
  clear hb hd HZ2 hz3 hz2 hgz p0 p1 p2 p3 p4 p5 p6 p7 p8 p9 p10
  have p0 : W4.cell? ⟨g, 0, none⟩ = some (.int .i64 s2.n) := by rw [cell_of_row _ _ _ _ _ _ hA]; rfl
  have p1 : W4.cell? ⟨g, 1, none⟩ = some (.int .i64 s2.ep) := by rw [cell_of_row _ _ _ _ _ _ hA]; rfl
  have p2 : W4.cell? ⟨g, 2, none⟩ = some (.slice C2 s2.done.length g2) := by rw [cell_of_row _ _ _ _ _ _ hA]; rfl
  have p3 : W4.cell? ⟨g, 3, none⟩ = some (.slice C3 s2.done.length g3) := by rw [cell_of_row _ _ _ _ _ _ hA]; rfl
  have p4 : W4.cell? ⟨g, 4, none⟩ = some (.slice C4 s2.done.length g4) := by rw [cell_of_row _ _ _ _ _ _ hA]; rfl
  have p5 : W4.cell? ⟨g, 5, none⟩ = some (.slice C5 s2.has.length g5) := by rw [cell_of_row _ _ _ _ _ _ hA]; rfl
  have p6 : W4.cell? ⟨g, 6, none⟩ = some (.slice C6 s2.has.length g6) := by rw [cell_of_row _ _ _ _ _ _ hA]; rfl
  have p7 : W4.cell? ⟨g, 7, none⟩ = some (.slice C7 s2.has.length g7) := by rw [cell_of_row _ _ _ _ _ _ hA]; rfl
  have p8 : W4.cell? ⟨g, 8, none⟩ = some (.slice C8 s2.has.length g8) := by rw [cell_of_row _ _ _ _ _ _ hA]; rfl
  have p9 : W4.cell? ⟨g, 9, none⟩ = some (.int .i64 s2.fin) := by rw [cell_of_row _ _ _ _ _ _ hA]; rfl
  have p10 : W4.cell? ⟨g, 10, none⟩ = some (.int .i64 s2.er) := by rw [cell_of_row _ _ _ _ _ _ hA]; rfl
  have HC := Lib.hid (KD.out C2 C3 C4 C5 C6 C7 C8 g2 g3 g4 g5 g6 g7 g8 vs2 _ HS.here)
  have hgz : g < W4.heap.size := by omega
  go_upto_region 6 with (first | ((go_at_call 21; (with_reducible refine (HC.out).mono ?_); rintro e w5 ⟨E2, i2, E3, i3, E4, i4, E5, i5, E6, i6, E7, i7, E8, i8, vs4, rfl, HT, hd⟩); clear HC; replace hA := (hd.block _ hgz).trans hA; have hone : (#[.int .i64 s3.n, .int .i64 s3.ep, .slice E2 s3.done.length i2, .slice E3 s3.done.length i3, .slice E4 s3.done.length i4, .slice E5 s3.has.length i5, .slice E6 s3.has.length i6, .slice E7 s3.has.length i7, .slice E8 s3.has.length i8, .int .i64 s3.fin, .int .i64 s3.er] : Array Value).all (·.oneCell') = true := by simp [Value.oneCell']) | (refine wpList_store_row rfl 42 (.tmp 1) (.tmp 36) rfl g #[.int .i64 s3.n, .int .i64 s3.ep, .slice E2 s3.done.length i2, .slice E3 s3.done.length i3, .slice E4 s3.done.length i4, .slice E5 s3.has.length i5, .slice E6 s3.has.length i6, .slice E7 s3.has.length i7, .slice E8 s3.has.length i8, .int .i64 s3.fin, .int .i64 s3.er] rfl rfl 42 #[.int .i64 s2.n, .int .i64 s2.ep, .slice C2 s2.done.length g2, .slice C3 s2.done.length g3, .slice C4 s2.done.length g4, .slice C5 s2.has.length g5, .slice C6 s2.has.length g6, .slice C7 s2.has.length g7, .slice C8 s2.has.length g8, .int .i64 s2.fin, .int .i64 s2.er] hA info_state rfl hone ?_))
  replace HS := HT.keep (w' := w5.setRow g #[.int .i64 s3.n, .int .i64 s3.ep, .slice E2 s3.done.length i2, .slice E3 s3.done.length i3, .slice E4 s3.done.length i4, .slice E5 s3.has.length i5, .slice E6 s3.has.length i6, .slice E7 s3.has.length i7, .slice E8 s3.has.length i8, .int .i64 s3.fin, .int .i64 s3.er]) (fun k hk _ => setRow_other _ _ k _ (by omega))
  replace hA := setRow_heap w5 g _ #[.int .i64 s3.n, .int .i64 s3.ep, .slice E2 s3.done.length i2, .slice E3 s3.done.length i3, .slice E4 s3.done.length i4, .slice E5 s3.has.length i5, .slice E6 s3.has.length i6, .slice E7 s3.has.length i7, .slice E8 s3.has.length i8, .int .i64 s3.fin, .int .i64 s3.er] _ _ hA
  replace HB := (HB.trans (hd.mono HB.size)).trans (⟨rfl, rfl, rfl, by simp, fun q hq => setRow_other w5 g q #[.int .i64 s3.n, .int .i64 s3.ep, .slice E2 s3.done.length i2, .slice E3 s3.done.length i3, .slice E4 s3.done.length i4, .slice E5 s3.has.length i5, .slice E6 s3.has.length i6, .slice E7 s3.has.length i7, .slice E8 s3.has.length i8, .int .i64 s3.fin, .int .i64 s3.er] (by omega)⟩ : Below w.heap.size w5 (w5.setRow g #[.int .i64 s3.n, .int .i64 s3.ep, .slice E2 s3.done.length i2, .slice E3 s3.done.length i3, .slice E4 s3.done.length i4, .slice E5 s3.has.length i5, .slice E6 s3.has.length i6, .slice E7 s3.has.length i7, .slice E8 s3.has.length i8, .int .i64 s3.fin, .int .i64 s3.er]))
  replace HSZ := Lib.hid (show w5.heap.size ≤ (w5.setRow g #[.int .i64 s3.n, .int .i64 s3.ep, .slice E2 s3.done.length i2, .slice E3 s3.done.length i3, .slice E4 s3.done.length i4, .slice E5 s3.has.length i5, .slice E6 s3.has.length i6, .slice E7 s3.has.length i7, .slice E8 s3.has.length i8, .int .i64 s3.fin, .int .i64 s3.er]).heap.size by simp)
  have hz2 : g < (w5.setRow g #[.int .i64 s3.n, .int .i64 s3.ep, .slice E2 s3.done.length i2, .slice E3 s3.done.length i3, .slice E4 s3.done.length i4, .slice E5 s3.has.length i5, .slice E6 s3.has.length i6, .slice E7 s3.has.length i7, .slice E8 s3.has.length i8, .int .i64 s3.fin, .int .i64 s3.er]).heap.size := by have := hd.size; simp; omega
  clear HT hd hone hgz p0 p1 p2 p3 p4 p5 p6 p7 p8 p9 p10
  generalize w5.setRow g #[.int .i64 s3.n, .int .i64 s3.ep, .slice E2 s3.done.length i2, .slice E3 s3.done.length i3, .slice E4 s3.done.length i4, .slice E5 s3.has.length i5, .slice E6 s3.has.length i6, .slice E7 s3.has.length i7, .slice E8 s3.has.length i8, .int .i64 s3.fin, .int .i64 s3.er] = W5 at HS hA HB hz2 HSZ ⊢
  clear hz
  have p0 : W5.cell? ⟨g, 0, none⟩ = some (.int .i64 s3.n) := by rw [cell_of_row _ _ _ _ _ _ hA]; rfl
  have p1 : W5.cell? ⟨g, 1, none⟩ = some (.int .i64 s3.ep) := by rw [cell_of_row _ _ _ _ _ _ hA]; rfl
  have p2 : W5.cell? ⟨g, 2, none⟩ = some (.slice E2 s3.done.length i2) := by rw [cell_of_row _ _ _ _ _ _ hA]; rfl
  have p3 : W5.cell? ⟨g, 3, none⟩ = some (.slice E3 s3.done.length i3) := by rw [cell_of_row _ _ _ _ _ _ hA]; rfl
  have p4 : W5.cell? ⟨g, 4, none⟩ = some (.slice E4 s3.done.length i4) := by rw [cell_of_row _ _ _ _ _ _ hA]; rfl
  have p5 : W5.cell? ⟨g, 5, none⟩ = some (.slice E5 s3.has.length i5) := by rw [cell_of_row _ _ _ _ _ _ hA]; rfl
  have p6 : W5.cell? ⟨g, 6, none⟩ = some (.slice E6 s3.has.length i6) := by rw [cell_of_row _ _ _ _ _ _ hA]; rfl
  have p7 : W5.cell? ⟨g, 7, none⟩ = some (.slice E7 s3.has.length i7) := by rw [cell_of_row _ _ _ _ _ _ hA]; rfl
  have p8 : W5.cell? ⟨g, 8, none⟩ = some (.slice E8 s3.has.length i8) := by rw [cell_of_row _ _ _ _ _ _ hA]; rfl
  have p9 : W5.cell? ⟨g, 9, none⟩ = some (.int .i64 s3.fin) := by rw [cell_of_row _ _ _ _ _ _ hA]; rfl
  have p10 : W5.cell? ⟨g, 10, none⟩ = some (.int .i64 s3.er) := by rw [cell_of_row _ _ _ _ _ _ hA]; rfl
  replace hz := hz2
  clear hz2
  have HC := Lib.hid (KE.out E2 E3 E4 E5 E6 E7 E8 i2 i3 i4 i5 i6 i7 i8 vs4 _ HS.here)
  have hgz : g < W5.heap.size := by omega
  have hgz2 := hgz
  go_upto_region 7 with ((go_at_call 21; (with_reducible refine (HC.out).mono ?_); rintro e w6 ⟨G2, j2, G3, j3, G4, j4, G5, j5, G6, j6, G7, j7, G8, j8, vs5, rfl, HT, hd⟩); clear HC; replace HB := HB.trans (hd.mono HB.size); clear hd HT)
  replace HB := HB.alloc HB.size (.cells #[.int .i64 s3.n, .int .i64 s3.ep, .slice G2 s3.done.length j2, .slice G3 s3.done.length j3, .slice G4 s3.done.length j4, .slice G5 s3.has.length j5, .slice G6 s3.has.length j6, .slice G7 s3.has.length j7, .slice G8 s3.has.length j8, .int .i64 s3.fin, .int .i64 s3.er] 42)
  clear p0 p1 p2 p3 p4 p5 p6 p7 p8 p9 p10
  go_wp2
  go_ret
  exact ⟨rfl, HB⟩
end Go.Proofs.Ytmlemichkeomjaa.LedW
