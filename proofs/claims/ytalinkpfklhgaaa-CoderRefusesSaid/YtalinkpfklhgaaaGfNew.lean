/- gf.New lays the tables of powers and logs. -/
import Derived.Test.YtalinkpfklhgaaaProg
import Derived.Test.YtalinkpfklhgaaaGfPure
import Derived.Test.YtalinkpfklhgaaaBase
set_option linter.unusedVariables false
set_option linter.unusedSimpArgs false
namespace Go.Proofs.Ytalinkpfklhgaaa.GfW
open Go.RowKit Go.Proofs.Ytalinkpfklhgaaa.Base Go.Proofs.Ytalinkpfklhgaaa.GfP

theorem zero_cells : Try.zeroCells83 = (List.replicate 510 (Value.int .u8 0) ++ List.replicate 256 (Value.int .i64 0)).toArray := by kernel_rfl

/-- The tables in block b, once so many powers have been laid. -/
structure TabAt (w : World) (b i : Nat) : Prop where
  exp : ∀ j : Nat, j < 510 → w.cell? ⟨b, j, none⟩ = some (.int .u8 ((if j % 255 < i then pw j else 0 : Nat) : Int))
  log : ∀ x : Nat, x < 256 → w.cell? ⟨b, 510 + x, none⟩ = some (.int .i64 (logAt i x : Nat))
  free : ∀ j : Nat, w.frozen? ⟨b, j, none⟩ = false

theorem TabAt.step {w : World} {b i : Nat} (h : TabAt w b i) (hi : i < 255) :
    TabAt (((w.setCell ⟨b, i, none⟩ (.int .u8 (pw i : Nat))).setCell ⟨b, i + 255, none⟩ (.int .u8 (pw i : Nat))).setCell ⟨b, 510 + pw i, none⟩ (.int .i64 (i : Nat))).drew b (i + 1) := by
  have hp := pw_pos i
  have g1 := h.exp i (by omega)
  have g2 := h.exp (i + 255) (by omega)
  have g3 := h.log (pw i) (by omega)
  obtain ⟨u2, g2'⟩ : ∃ u, (w.setCell ⟨b, i, none⟩ (.int .u8 (pw i : Nat))).cell? ⟨b, i + 255, none⟩ = some u := ⟨_, by rw [cell_set g1, if_neg (by omega)]; exact g2⟩
  obtain ⟨u3, g3'⟩ : ∃ u, ((w.setCell ⟨b, i, none⟩ (.int .u8 (pw i : Nat))).setCell ⟨b, i + 255, none⟩ (.int .u8 (pw i : Nat))).cell? ⟨b, 510 + pw i, none⟩ = some u :=
    ⟨_, by rw [cell_set g2', if_neg (by omega), cell_set g1, if_neg (by omega)]; exact g3⟩
  refine ⟨fun j hj => ?_, fun x hx => ?_, fun j => ?_⟩
  · rw [cell_drew, cell_set g3', if_neg (by omega), cell_set g2', cell_set g1]
    by_cases e1 : j = i + 255
    · rw [if_pos e1, if_pos (by omega), pw_congr (n := i) (m := j) (by omega)]
    · rw [if_neg e1]
      by_cases e2 : j = i
      · rw [if_pos e2, if_pos (by omega), e2]
      · rw [if_neg e2, h.exp j hj]
        by_cases e3 : j % 255 < i
        · rw [if_pos e3, if_pos (by omega)]
        · rw [if_neg e3, if_neg (by omega)]
  · rw [cell_drew, cell_set g3', cell_set g2', cell_set g1]
    unfold logAt
    by_cases e : x = pw i
    · rw [if_pos (by omega), if_pos e]
    · rw [if_neg (by omega), if_neg (by omega), if_neg (by omega), if_neg e]
      exact h.log x hx
  · have := h.free j
    rw [frozen_drew, World.frozen?_setCell, World.frozen?_setCell, World.frozen?_setCell]
    exact this
theorem TabAt.start (w : World) : TabAt (w.alloc (.cells Try.zeroCells83 83)) w.heap.size 0 := by
  rw [zero_cells]
  have hh : ∀ j : Nat, (w.alloc (.cells (List.replicate 510 (Value.int .u8 0) ++ List.replicate 256 (Value.int .i64 0)).toArray 83)).cell? ⟨w.heap.size, j, none⟩ = (List.replicate 510 (Value.int .u8 0) ++ List.replicate 256 (Value.int .i64 0))[j]? := by
    intro j
    simp only [World.cell?]
    rw [heap_alloc_new]
    dsimp only
    rw [if_neg (by simp), List.getElem?_toArray]
  refine ⟨fun j hj => ?_, fun x hx => ?_, fun j => ?_⟩
  · rw [hh, List.getElem?_append_left (by rw [List.length_replicate]; exact hj), List.getElem?_replicate, if_pos hj, if_neg (by omega)]; rfl
  · rw [hh, List.getElem?_append_right (by rw [List.length_replicate]; omega), List.getElem?_replicate, List.length_replicate, if_pos (by omega)]; rfl
  · simp only [World.frozen?]
    rw [heap_alloc_new]
    simp
theorem dbl_big {x : Nat} (h : x ≤ 255) (hb : (255 : Int) < (x : Int) * 2) : bits BinOp.xor IntKind.i64 ((x : Int) * 2) 285 = (dbl x : Nat) := by
  have e : ((x : Int) * 2) = ((2 * x : Nat) : Int) := by omega
  rw [e]
  show bits BinOp.xor IntKind.i64 ((2 * x : Nat) : Int) ((285 : Nat) : Int) = _
  rw [i64_xor_nat _ _ (by omega) (by omega), dbl, if_pos (by omega)]
theorem dbl_small {x : Nat} (hb : (x : Int) * 2 ≤ (255 : Int)) : ((x : Int) * 2) = (dbl x : Nat) := by
  rw [dbl, if_neg (by omega)]; omega

set_option maxRecDepth 100000 in
set_option maxHeartbeats 400000 in
theorem new_any (w : World) :
    Calls Try.prog 20 #[] w fun e w' => e = .returned (.pointer (some ⟨w.heap.size, 0, none⟩)) ∧ TabAt w' w.heap.size 255 ∧ w.heap.size < w'.heap.size ∧ Below w.heap.size w w' := by
  go_enter Try.func20, Try.ntmps20
  go_wp2
  refine wp_scope_loop 0 (fun a' wr => ∃ (i : Nat) (u0 u4 u5 u6 u7 u8 u9 u10 u11 u12 u13 u14 u15 u16 u17 u18 u19 u20 u21 u22 u23 u24 u25 u26 u27 u28 u29 u30 u31 u32 u33 u34 u35 u36 u37 : Value), i ≤ 255 ∧ TabAt wr w.heap.size i ∧ wr.heap.size = w.heap.size + 1 ∧ Below w.heap.size w wr ∧ a' = { tmps := #[u0, .pointer (some ⟨w.heap.size, 0, none⟩), .int .i64 (pw i), .int .i64 i, u4, u5, u6, u7, u8, u9, u10, u11, u12, u13, u14, u15, u16, u17, u18, u19, u20, u21, u22, u23, u24, u25, u26, u27, u28, u29, u30, u31, u32, u33, u34, u35, u36, u37], defers := [] }) (fun a' _ => 255 - (intOf (a'.tmps.getD 3 undef)).toNat) rfl ?_ ?_
  · intro hloop
    go_wp2
    go_step3
    go_step
    go_step
    refine hloop _ _ ⟨0, _, _, _, _, _, _, _, _, _, _, _, _, _, _, _, _, _, _, _, _, _, _, _, _, _, _, _, _, _, _, _, _, _, _, _, by omega, TabAt.start w, by simp, (Below.refl _ _).alloc (Nat.le_refl _) _, rfl⟩
  · rintro a' wr ⟨i, u0, u4, u5, u6, u7, u8, u9, u10, u11, u12, u13, u14, u15, u16, u17, u18, u19, u20, u21, u22, u23, u24, u25, u26, u27, u28, u29, u30, u31, u32, u33, u34, u35, u36, u37, hi, HT, hz, HB, rfl⟩
    by_cases hlt : i < 255
    · have g1 := HT.exp i (by omega)
      have g2 := HT.exp (i + 255) (by omega)
      have f1 := HT.free i
      have f2 := HT.free (i + 255)
      have hp := pw_pos i
      have g3 := HT.log (pw i) (by omega)
      have f3 := HT.free (510 + pw i)
      have HS := HT.step hlt
      have HN : Below w.heap.size w (((wr.setCell ⟨w.heap.size, i, none⟩ (.int .u8 (pw i : Nat))).setCell ⟨w.heap.size, i + 255, none⟩ (.int .u8 (pw i : Nat))).setCell ⟨w.heap.size, 510 + pw i, none⟩ (.int .i64 (i : Nat))).drew :=
        (((HB.setCell (Nat.le_refl _) _).setCell (Nat.le_refl _) _).setCell (Nat.le_refl _) _).drew
      clear HT HB
      go_wp2
      go_region
      go_wp2
      · have hb : (255 : Int) < ((pw i : Nat) : Int) * 2 := by assumption
        go_step3
        rw [dbl_big hp.2 hb]
        refine ⟨rfl, ⟨i + 1, _, _, _, _, _, _, _, _, _, _, _, _, _, _, _, _, _, _, _, _, _, _, _, _, _, _, _, _, _, _, _, _, _, _, _, by omega, HS, by simpa using hz, HN, rfl⟩, ?_⟩
        simp [intOf]; omega
      · have hb : ((pw i : Nat) : Int) * 2 ≤ 255 := by assumption
        go_step3
        rw [dbl_small hb]
        refine ⟨rfl, ⟨i + 1, _, _, _, _, _, _, _, _, _, _, _, _, _, _, _, _, _, _, _, _, _, _, _, _, _, _, _, _, _, _, _, _, _, _, _, by omega, HS, by simpa using hz, HN, rfl⟩, ?_⟩
        simp [intOf]; omega
    · go_wp2
      simp only [Exit.jump]
      go_ret
      have : i = 255 := by omega
      subst this
      exact ⟨rfl, HT, by omega, HB⟩
end Go.Proofs.Ytalinkpfklhgaaa.GfW
