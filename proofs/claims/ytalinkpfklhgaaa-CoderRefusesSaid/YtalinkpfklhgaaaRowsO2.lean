/- A row of bytes of one's own: rows.less walked. -/
import Derived.Test.YtalinkpfklhgaaaRowsO
set_option linter.unusedVariables false
set_option linter.unusedSimpArgs false
namespace Go.Proofs.Ytalinkpfklhgaaa.RowsW
open Go.RowKit Go.Proofs.Ytalinkpfklhgaaa.Base Go.Proofs.Ytalinkpfklhgaaa.GfP Go.Proofs.Ytalinkpfklhgaaa.GfW Go.Proofs.Ytalinkpfklhgaaa.Lin
theorem bt_drew' {wr w2 : World} (h : Below wr.drew.heap.size wr.drew w2) : Below wr.heap.size wr w2 := ((Below.refl wr.heap.size wr).drew).trans h
set_option maxRecDepth 100000 in
set_option maxHeartbeats 1000000 in
theorem less_any (fb b b2 q c c2 : Nat) (f g : Nat → F) (t : F) (w : World) (hR : RowAt w b q f) (hG : RowAt w b2 q g) (hF : FieldIn w fb) (hne : fb ≠ b) (hne2 : b2 ≠ b) (hq : q ≤ 1000) :
    Calls Try.prog 61 #[.pointer (some ⟨fb, 0, none⟩), .slice (some ⟨b, 0, none⟩) q c, .slice (some ⟨b2, 0, none⟩) q c2, .int .u8 ((t.v : Nat) : Int)] w fun e w' => (∃ v, e = .returned v) ∧ RowAt w' b q (fun j => f j + t * g j) ∧ Only b (b + 1) w w' := by
  have htl := t.le
  go_enter Try.func61, Try.ntmps61
  go_wp2
  go_loopw [11] (fun i wr => ∃ k : Nat, k ≤ q ∧ i = .int .i64 k ∧ RowAt wr b q (fun j => if j < k then f j + t * g j else f j) ∧ Only b (b + 1) w wr) (fun i _ => q - (intOf i).toNat)
  case atStart => exact ⟨0, by omega, rfl, hR.congr fun j hj => by simp, Only.refl _ _ _⟩
  case round =>
    obtain ⟨k, hk, rfl, HR, HO⟩ := hrel
    by_cases hlt : k < q
    · have hck := HR.cell k hlt
      have hfk := HR.free k
      rw [if_neg (Nat.lt_irrefl k)] at hck
      have hor : fb < b ∨ b + 1 ≤ fb := by omega
      have hor2 : b2 < b ∨ b + 1 ≤ b2 := by omega
      have hFr := FieldIn.only hF HO hor
      have HG := RowAt.only hG HO hor2
      have hgk := HG.cell k hlt
      have hxl := (f k).le
      have hyl := (g k).le
      obtain ⟨x, hx⟩ : ∃ x, x = (f k).v := ⟨_, rfl⟩
      obtain ⟨y, hy⟩ : ∃ y, y = (g k).v := ⟨_, rfl⟩
      rw [← hx] at hck hxl
      rw [← hy] at hgk hyl
      have HX := Lib.hid hx
      have HY := Lib.hid hy
      clear hx hy HG
      have hml := mul_le y t.v
      go_upto_region 3 with fail
      have d1 : wr.drew.cell? ⟨b, k, none⟩ = some (.int .u8 ((x : Nat) : Int)) := hck
      have d2 : wr.drew.frozen? ⟨b, k, none⟩ = false := hfk
      have d3 : wr.drew.cell? ⟨b2, k, none⟩ = some (.int .u8 ((y : Nat) : Int)) := hgk
      have d4 := FieldIn.below hFr ((Below.refl wr.heap.size wr).drew)
      clear hck hfk hgk
      go_region_with (first | (go_at_call 23; refine (mul_any fb y t.v _ hyl htl d4).mono ?_; rintro e w2 ⟨rfl, hd⟩; replace d2 := (frozen_below hd.below d1).trans d2; replace d1 := cell_below hd.below d1) | (go_at_call 22; refine (add_any x (mul y t.v) _ hxl hml).mono ?_; rintro e w3 ⟨rfl, rfl⟩))
      all_goals go_wp2
      all_goals (
        have hv : x ^^^ mul y t.v = (f k + t * g k).v := by
          rw [v_add, v_mul, HX.out, HY.out, GfP.mul_comm t.v]
        rw [hv]
        have hb0 : Below wr.heap.size wr w2 := bt_drew' hd.below
        refine ⟨⟨k + 1, by omega, by go_num, ?_, ((HO.trans (Only.of_below hb0)).setCell (p := ⟨b, k, none⟩) (Nat.le_refl _) (Nat.lt_succ_self b) _)⟩, by simp [intOf]; omega⟩
        refine ((HR.below hb0).set k hlt (f k + t * g k)).congr fun j hj => ?_
        by_cases e : j = k
        · subst e; simp
        · rw [if_neg e]
          by_cases h : j < k
          · rw [if_pos h, if_pos (by omega)]
          · rw [if_neg h, if_neg (by omega)])
    · obtain rfl : k = q := by omega
      go_wp2
      go_end0
      exact ⟨⟨_, rfl⟩, HR.congr fun j hj => by rw [if_pos hj], HO⟩
end Go.Proofs.Ytalinkpfklhgaaa.RowsW
