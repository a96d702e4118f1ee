/- A row of bytes of one's own: rows.scale walked. -/
import Derived.Test.YtalinkpfklhgaaaRowsW3
set_option linter.unusedVariables false
set_option linter.unusedSimpArgs false
namespace Go.Proofs.Ytalinkpfklhgaaa.RowsW
open Go.RowKit Go.Proofs.Ytalinkpfklhgaaa.Base Go.Proofs.Ytalinkpfklhgaaa.GfP Go.Proofs.Ytalinkpfklhgaaa.GfW Go.Proofs.Ytalinkpfklhgaaa.Lin

/-- Block b is a row of q bytes, f's. -/
structure RowAt (w : World) (b q : Nat) (f : Nat → F) : Prop where
  cell : ∀ j, j < q → w.cell? ⟨b, j, none⟩ = some (.int .u8 (((f j).v : Nat) : Int))
  free : ∀ j, w.frozen? ⟨b, j, none⟩ = false
  lt : b < w.heap.size
  blk : ∃ cur : Array Value, w.heap[b]? = some (.cells cur 5 (0, 0)) ∧ cur.size = q
theorem RowAt.below {w w' : World} {b q : Nat} {f : Nat → F} (h : RowAt w b q f) (hb : Below w.heap.size w w') : RowAt w' b q f :=
  ⟨fun j hj => cell_below hb (h.cell j hj), fun j => (hb.frozen (p := ⟨b, j, none⟩) h.lt).trans (h.free j), by have := h.lt; have := hb.size; omega, by obtain ⟨cur, h1, h2⟩ := h.blk; exact ⟨cur, (hb.block b h.lt).trans h1, h2⟩⟩
theorem RowAt.only {w w' : World} {b q lo hi : Nat} {f : Nat → F} (h : RowAt w b q f) (ho : Only lo hi w w') (hx : b < lo ∨ hi ≤ b) : RowAt w' b q f :=
  ⟨fun j hj => (ho.cell (p := ⟨b, j, none⟩) h.lt hx).trans (h.cell j hj), fun j => (ho.frozen (p := ⟨b, j, none⟩) h.lt hx).trans (h.free j), by have := h.lt; have := ho.size; omega, by obtain ⟨cur, h1, h2⟩ := h.blk; exact ⟨cur, (ho.block b h.lt hx).trans h1, h2⟩⟩
theorem RowAt.congr {w : World} {b q : Nat} {f g : Nat → F} (h : RowAt w b q f) (hg : ∀ j, j < q → f j = g j) : RowAt w b q g :=
  ⟨fun j hj => by rw [h.cell j hj, hg j hj], h.free, h.lt, h.blk⟩
theorem RowAt.set {w : World} {b q : Nat} {f : Nat → F} (h : RowAt w b q f) (k : Nat) (hk : k < q) (v : F) : RowAt (w.setCell ⟨b, k, none⟩ (.int .u8 ((v.v : Nat) : Int))) b q (fun j => if j = k then v else f j) := by
  refine ⟨fun j hj => ?_, fun j => ?_, ?_, ?_⟩
  · rw [cell_set (h.cell k hk)]
    by_cases e : j = k
    · subst e; simp
    · have := h.cell j hj
      simp [this, e, Ne.symm e]
  · rw [World.frozen?_setCell]; exact h.free j
  · simpa using h.lt
  · obtain ⟨cur, h1, h2⟩ := h.blk
    exact ⟨_, heap_setCell_same w b k cur _ _ h1, by simpa using h2⟩
theorem FieldIn.only {w w' : World} {b lo hi : Nat} (h : FieldIn w b) (ho : Only lo hi w w') (hx : b < lo ∨ hi ≤ b) : FieldIn w' b :=
  ⟨⟨fun j hj => (ho.cell (p := ⟨b, j, none⟩) h.lt hx).trans (h.tab.exp j hj), fun x hx2 => (ho.cell (p := ⟨b, 510 + x, none⟩) h.lt hx).trans (h.tab.log x hx2), fun j => (ho.frozen (p := ⟨b, j, none⟩) h.lt hx).trans (h.tab.free j)⟩, by have := h.lt; have := ho.size; omega⟩
set_option maxRecDepth 100000 in
set_option maxHeartbeats 1000000 in
theorem scale_any (fb b q c : Nat) (f : Nat → F) (y : F) (w : World) (hR : RowAt w b q f) (hF : FieldIn w fb) (hne : fb ≠ b) (hq : q ≤ 1000) (hy : y ≠ 0) :
    Calls Try.prog 60 #[.pointer (some ⟨fb, 0, none⟩), .slice (some ⟨b, 0, none⟩) q c, .int .u8 ((y.v : Nat) : Int)] w fun e w' => (∃ v, e = .returned v) ∧ RowAt w' b q (fun j => y.inv * f j) ∧ Only b (b + 1) w w' := by
  have hyl := y.le
  have hy0 := v_ne hy
  go_enter Try.func60, Try.ntmps60
  go_wp2
  go_loopw [9] (fun i wr => ∃ k : Nat, k ≤ q ∧ i = .int .i64 k ∧ RowAt wr b q (fun j => if j < k then y.inv * f j else f j) ∧ Only b (b + 1) w wr) (fun i _ => q - (intOf i).toNat)
  case atStart => exact ⟨0, by omega, rfl, hR.congr fun j hj => by simp, Only.refl _ _ _⟩
  case round =>
    obtain ⟨k, hk, rfl, HR, HO⟩ := hrel
    by_cases hlt : k < q
    · have hck := HR.cell k hlt
      have hfk := HR.free k
      rw [if_neg (Nat.lt_irrefl k)] at hck
      have hFr := FieldIn.only hF HO (by omega)
      have hxl := (f k).le
      obtain ⟨x, hx⟩ : ∃ x, x = (f k).v := ⟨_, rfl⟩
      rw [← hx] at hck hxl
      have HX := Lib.hid hx
      clear hx
      go_wp2_with (go_at_call 24; refine (div_any fb x y.v _ hxl hyl hFr).mono ?_; rintro e w2 ⟨rfl, hd⟩; have hck2 := cell_below hd.below hck; have hfk2 := (frozen_below hd.below hck).trans hfk)
      have hv : quo x y.v = (y.inv * f k).v := by
        rw [v_mul, HX.out, quo_eq (f k).le hyl hy0, GfP.mul_comm]
        rfl
      rw [hv]
      refine ⟨⟨k + 1, by omega, by go_num, ?_, ((HO.trans (Only.of_below hd.below)).setCell (p := ⟨b, k, none⟩) (Nat.le_refl _) (Nat.lt_succ_self b) _)⟩, by simp [intOf]; omega⟩
      refine ((HR.below hd.below).set k hlt (y.inv * f k)).congr fun j hj => ?_
      by_cases e : j = k
      · subst e; simp
      · rw [if_neg e]
        by_cases h : j < k
        · rw [if_pos h, if_pos (by omega)]
        · rw [if_neg h, if_neg (by omega)]
    · obtain rfl : k = q := by omega
      go_wp2
      go_end0
      exact ⟨⟨_, rfl⟩, HR.congr fun j hj => by rw [if_pos hj], HO⟩
end Go.Proofs.Ytalinkpfklhgaaa.RowsW
