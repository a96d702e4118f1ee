/- What is refused, and the document's example. -/
import Derived.Test.YtalinkpfklhgaaaRowsRef
import Derived.Outline
set_option linter.unusedVariables false
set_option linter.unusedSimpArgs false
namespace Go.Proofs.Ytalinkpfklhgaaa.RowsW
open Go.RowKit Go.Proofs.Ytalinkpfklhgaaa.Base Go.Proofs.Ytalinkpfklhgaaa.GfP Go.Proofs.Ytalinkpfklhgaaa.GfW Go.Proofs.Ytalinkpfklhgaaa.GfR Go.Proofs.Ytalinkpfklhgaaa.Lin

set_option maxRecDepth 100000 in
set_option maxHeartbeats 1000000 in
theorem undo_no (A : Option Addr) (n c : Nat) (ls : List (List Nat)) (w : World) (hR : Base.Rows w A ls) (hl : ls.length = n) (hn : n ≤ 1000) (hw : wid ls ≤ 1000) (h : rightB ls = false ∨ wid ls ≠ n) :
    Calls Try.prog 37 #[.slice A n c] w fun e w' => e = .returned (.tuple #[.slice none 0 0, .int .i64 1]) ∧ Below w.heap.size w w' := by
  have HR := right_any A n c ls w hR hl hn hw
  by_cases hb : rightB ls = true
  · have hne : wid ls ≠ n := by rcases h with h | h; rw [h] at hb; cases hb; exact h
    have h0l : 0 < ls.length := by have := (right_iff ls).1 hb; omega
    rw [hb] at HR
    obtain ⟨b, off, rfl, hc⟩ := hR.block (by omega)
    obtain ⟨B0, c0, h0, hx⟩ := hc 0 h0l
    clear hx
    rw [Nat.add_zero, ← wid_of h0l] at h0
    generalize wid ls = q at *
    have HR := Lib.hid HR
    have z0 : (0 : Int) < n := by omega
    have e1 : (((n : Nat) : Int) != ((q : Nat) : Int)) = true := int_bne (by omega)
    clear hc hb h hR
    go_enter Try.func37, Try.ntmps37
    go_wp2
    go_step3
    go_wp2_with (go_at_call 46; (with_reducible refine (HR.out).mono ?_); rintro e w2 ⟨rfl, hd⟩; replace h0 := cell_below hd h0)
    rw [Exit.noGoto_ret]
    go_ret2
    exact ⟨rfl, hd⟩
  · have hb : rightB ls = false := by simpa using hb
    rw [hb] at HR
    have HR := Lib.hid HR
    clear hb h hR
    go_enter Try.func37, Try.ntmps37
    go_wp2
    go_step3
    go_wp2_with (go_at_call 46; (with_reducible refine (HR.out).mono ?_); rintro e w2 ⟨rfl, hd⟩)
    rw [Exit.noGoto_ret]
    go_ret2
    exact ⟨rfl, hd⟩
theorem mul_no (A A' : Option Addr) (n m c c' : Nat) (ls ms : List (List Nat)) (w : World) (hR : Base.Rows w A ls) (hR' : Base.Rows w A' ms) (hl : ls.length = n) (hl' : ms.length = m) (hn : n ≤ 1000) (hw : wid ls ≤ 1000) (hm : m ≤ 1000) (hw' : wid ms ≤ 1000)
    (h : rightB ls = false ∨ rightB ms = false ∨ wid ls ≠ m) :
    Calls Try.prog 43 #[.slice A n c, .slice A' m c'] w fun e w' => e = .returned (.tuple #[.slice none 0 0, .int .i64 1]) ∧ Below w.heap.size w w' := by
  have HR := right_any A n c ls w hR hl hn hw
  by_cases hb : rightB ls = true
  · have h0l : 0 < ls.length := by have := (right_iff ls).1 hb; omega
    obtain ⟨b, off, rfl, hc⟩ := hR.block (by omega)
    have HR2 := fun W (h9 : Base.Rows W A' ms) => right_any A' m c' ms W h9 hl' hm hw'
    rw [hb] at HR
    by_cases hb' : rightB ms = true
    · have hne : wid ls ≠ m := by rcases h with h | h | h; rw [h] at hb; cases hb; rw [h] at hb'; cases hb'; exact h
      rw [hb'] at HR2
      obtain ⟨B0, c0, h0, hx⟩ := hc 0 h0l
      clear hx
      rw [Nat.add_zero, ← wid_of h0l] at h0
      generalize wid ls = q at *
      have HR := Lib.hid HR
      have HR2 := Lib.hid HR2
      have z0 : (0 : Int) < n := by omega
      have e1 : (((q : Nat) : Int) != ((m : Nat) : Int)) = true := int_bne (by omega)
      clear hc hb h hb' hR
      go_enter Try.func43, Try.ntmps43
      go_wp2_with (first | (go_at_call 46; (with_reducible refine (HR.out).mono ?_); rintro e w2 ⟨rfl, hd⟩; replace h0 := cell_below hd h0; clear HR; have HBB := hd) | (go_at_call 46; (with_reducible refine (HR2.out _ (hR'.below HBB)).mono ?_); rintro e w3 ⟨rfl, hd3⟩; replace h0 := cell_below hd3 h0; replace HBB := bt HBB HBB.size hd3))
      go_ret2
      exact ⟨rfl, HBB⟩
    · have hb' : rightB ms = false := by simpa using hb'
      rw [hb'] at HR2
      have HR := Lib.hid HR
      have HR2 := Lib.hid HR2
      clear hc hb h hb' hR
      go_enter Try.func43, Try.ntmps43
      go_wp2_with (first | (go_at_call 46; (with_reducible refine (HR.out).mono ?_); rintro e w2 ⟨rfl, hd⟩; clear HR; have HBB := hd) | (go_at_call 46; (with_reducible refine (HR2.out _ (hR'.below HBB)).mono ?_); rintro e w3 ⟨rfl, hd3⟩; replace HBB := bt HBB HBB.size hd3))
      go_ret2
      exact ⟨rfl, HBB⟩
  · have hb : rightB ls = false := by simpa using hb
    rw [hb] at HR
    have HR := Lib.hid HR
    clear hb h hR
    go_enter Try.func43, Try.ntmps43
    go_wp2_with (go_at_call 46; (with_reducible refine (HR.out).mono ?_); rintro e w2 ⟨rfl, hd⟩)
    go_ret2
    exact ⟨rfl, hd⟩
theorem Mat.rows {w : World} {lo g n q : Nat} {bs : Nat → Nat} {A : M} (h : Mat w lo g n q bs A) : Base.Rows w (some ⟨g, 0, none⟩) (tab n q A) := by
  refine ⟨.inr ⟨g, 0, rfl, fun j hj => ?_⟩⟩
  have hj2 : j < n := by rw [tab_length] at hj; exact hj
  rw [tab_getElem, rw1_length, Nat.zero_add]
  refine ⟨_, _, h.top j hj2, rw1_le _ _, .inr ⟨bs j, 0, rfl, fun i hi => ?_⟩⟩
  rw [rw1_length] at hi
  rw [rw1_get _ hi, Nat.zero_add]
  exact (h.row j hj2).cell i hi
theorem isone_tab (A : Option Addr) (n c : Nat) (X : M) (w : World) (hR : Base.Rows w A (tab n n X)) (hn : n ≤ 1000) (hX : Eqv n n X dl) :
    Calls Try.prog 44 #[.slice A n c] w fun e w' => e = .returned (.bool true) ∧ w = w' := by
  refine isone_yes A n c (tab n n X) w hR (tab_length _ _ _) hn (fun i hi => by rw [tab_getElem, rw1_length]; exact hn) (fun i hi j hj => ?_)
  rw [tab_getElem] at hj ⊢
  rw [rw1_length] at hj
  rw [tab_length] at hi
  rw [rw1_get _ hj, hX i hi j hj]
  unfold dl
  split <;> rfl
theorem undo_free (b off n c : Nat) (ls : List (List Nat)) (w : World) (hR : Base.Rows w (some ⟨b, off, none⟩) ls) (hl : ls.length = n) (hr : rightB ls = true) (hw : wid ls = n) (hF : Free n (fn ls)) :
    Calls Try.prog 37 #[.slice (some ⟨b, off, none⟩) n c] w fun e w' => ∃ g cap bs O, e = .returned (.tuple #[.slice (some ⟨g, 0, none⟩) n cap, .int .i64 0]) ∧ n ≤ cap ∧ Mat w' w.heap.size g n n bs O ∧ (Eqv n n (mm n O (fn ls)) dl ∧ Eqv n n (mm n (fn ls) O) dl) ∧ Below w.heap.size w w' := by
  refine (undo_ok b off n c ls w hR hl hr hw).mono ?_
  rintro e w' ⟨⟨_, g, cap, bs, O, h1, h2, h3, h4, h5⟩ | ⟨h1, _⟩, hb⟩
  · exact ⟨g, cap, bs, O, h1, h2, h3, ⟨h4, h5⟩, hb⟩
  · exact absurd hF h1
theorem mm_fn_tab (r n q : Nat) (A O : M) : Eqv r q (mm n A (fn (tab n q O))) (mm n A O) := fun i _ j hj => mm_congr (fun _ _ => rfl) (fun k hk => fn_tab O hk hj)
theorem mm_tab_fn (n m q : Nat) (A B : M) : Eqv n q (mm m (fn (tab n m A)) B) (mm m A B) := fun i hi j _ => mm_congr (fun k hk => fn_tab A hi hk) (fun _ _ => rfl)
def exL : List (List Nat) := [[1, 1], [1, 2]]
theorem two_eqv {A B : M} (h : A 0 0 = B 0 0 ∧ A 0 1 = B 0 1 ∧ A 1 0 = B 1 0 ∧ A 1 1 = B 1 1) : Eqv 2 2 A B := by
  intro i hi j hj
  obtain ⟨h1, h2, h3, h4⟩ := h
  have h5 : i = 0 ∨ i = 1 := by omega
  have h6 : j = 0 ∨ j = 1 := by omega
  rcases h5 with rfl | rfl <;> rcases h6 with rfl | rfl <;> assumption
theorem exL_free : Free 2 (fn exL) := free_of_left (B := fn [[245, 244], [244, 244]]) (two_eqv (by decide +kernel))
theorem exL_rows (w : World) : Base.Rows (((w.alloc (.cells #[.int .u8 1, .int .u8 1] 5)).alloc (.cells #[.int .u8 1, .int .u8 2] 5)).alloc (.cells #[.slice (some ⟨w.heap.size, 0, none⟩) 2 2, .slice (some ⟨w.heap.size + 1, 0, none⟩) 2 2] 29)) (some ⟨w.heap.size + 1 + 1, 0, none⟩) exL := by
  have h1 := heap_alloc_new w (.cells #[.int .u8 1, .int .u8 1] 5)
  have h2 := heap_alloc_new (w.alloc (.cells #[.int .u8 1, .int .u8 1] 5)) (.cells #[.int .u8 1, .int .u8 2] 5)
  have h3 := heap_alloc_new ((w.alloc (.cells #[.int .u8 1, .int .u8 1] 5)).alloc (.cells #[.int .u8 1, .int .u8 2] 5)) (.cells #[.slice (some ⟨w.heap.size, 0, none⟩) 2 2, .slice (some ⟨w.heap.size + 1, 0, none⟩) 2 2] 29)
  rw [World.size_alloc] at h2
  rw [World.size_alloc, World.size_alloc] at h3
  have g1 := (Below.heap_alloc ((w.alloc (.cells #[.int .u8 1, .int .u8 1] 5)).alloc (.cells #[.int .u8 1, .int .u8 2] 5)) (.cells #[.slice (some ⟨w.heap.size, 0, none⟩) 2 2, .slice (some ⟨w.heap.size + 1, 0, none⟩) 2 2] 29) w.heap.size (by simp; omega)).trans ((Below.heap_alloc (w.alloc (.cells #[.int .u8 1, .int .u8 1] 5)) (.cells #[.int .u8 1, .int .u8 2] 5) w.heap.size (by simp)).trans h1)
  have g2 := (Below.heap_alloc ((w.alloc (.cells #[.int .u8 1, .int .u8 1] 5)).alloc (.cells #[.int .u8 1, .int .u8 2] 5)) (.cells #[.slice (some ⟨w.heap.size, 0, none⟩) 2 2, .slice (some ⟨w.heap.size + 1, 0, none⟩) 2 2] 29) (w.heap.size + 1) (by simp)).trans h2
  refine ⟨.inr ⟨w.heap.size + 1 + 1, 0, rfl, fun j hj => ?_⟩⟩
  have hj2 : j = 0 ∨ j = 1 := by have : exL.length = 2 := rfl; omega
  rcases hj2 with rfl | rfl
  · refine ⟨some ⟨w.heap.size, 0, none⟩, 2, by rw [cell_of_row _ _ _ _ _ _ h3]; rfl, show ∀ x, x ∈ [1, 1] → x ≤ 255 by decide, .inr ⟨w.heap.size, 0, rfl, fun i hi => ?_⟩⟩
    have hi2 : i = 0 ∨ i = 1 := by have : exL[0].length = 2 := rfl; omega
    rcases hi2 with rfl | rfl <;> (rw [cell_of_row _ _ _ _ _ _ g1]; rfl)
  · refine ⟨some ⟨w.heap.size + 1, 0, none⟩, 2, by rw [cell_of_row _ _ _ _ _ _ h3]; rfl, show ∀ x, x ∈ [1, 2] → x ≤ 255 by decide, .inr ⟨w.heap.size + 1, 0, rfl, fun i hi => ?_⟩⟩
    have hi2 : i = 0 ∨ i = 1 := by have : exL[1].length = 2 := rfl; omega
    rcases hi2 with rfl | rfl <;> (rw [cell_of_row _ _ _ _ _ _ g2]; rfl)
set_option maxRecDepth 100000 in
theorem awake_any (w : World) : Calls Try.prog 34 #[] w fun e w' => e = .returned (.bool true) ∧ Below w.heap.size w w' := by
  have HX := Lib.hid (exL_rows w)
  have hb0 : Below w.heap.size w (((w.alloc (.cells #[.int .u8 1, .int .u8 1] 5)).alloc (.cells #[.int .u8 1, .int .u8 2] 5)).alloc (.cells #[.slice (some ⟨w.heap.size, 0, none⟩) 2 2, .slice (some ⟨w.heap.size + 1, 0, none⟩) 2 2] 29)) :=
    (((Below.refl _ _).alloc (Nat.le_refl _) _).alloc (by simp) _).alloc (by simp; omega) _
  go_enter Try.func34, Try.ntmps34
  go_wp2_with fail
  generalize hwx : ((w.alloc (.cells #[.int .u8 1, .int .u8 1] 5)).alloc (.cells #[.int .u8 1, .int .u8 2] 5)).alloc (.cells #[.slice (some ⟨w.heap.size, 0, none⟩) 2 2, .slice (some ⟨w.heap.size + 1, 0, none⟩) 2 2] 29) = wx at HX hb0 ⊢
  clear hwx
  with_reducible refine (undo_free _ 0 2 2 exL _ HX.out rfl (by decide) (by decide) exL_free).mono ?_
  rintro e w2 ⟨g, cap, bs, O, rfl, hcap, hM, hO, hd2⟩
  have HO := Lib.hid hO
  have hR2 := hM.rows
  have hRa := HX.out.below hd2
  have HB2 := bt hb0 hb0.size hd2
  have HM := Lib.hid (rmul_rows _ _ 2 2 2 cap 2 exL (tab 2 2 O) w2 hRa hR2 rfl (tab_length _ _ _) (by omega) (by omega) (by omega) (by omega) (by omega) (fun i h => by
    have h5 : i = 0 ∨ i = 1 := by have : exL.length = 2 := rfl; omega
    rcases h5 with rfl | rfl <;> rfl) (fun i h => by rw [tab_getElem, rw1_length]))
  clear hM hO hd2 hR2 hRa HX hb0
  go_wp2_with (first | (go_at_call 47; (with_reducible refine (HM.out).mono ?_); rintro e w3 ⟨A2, c2, rfl, hR3, hd3⟩; have HB3 := bt HB2 HB2.size hd3) | (go_at_call 44; (with_reducible refine (isone_tab _ _ _ _ _ hR3 (by omega) ?_).mono ?_); rotate_left; rintro e w4 ⟨rfl, rfl⟩; rotate_left))
  · exact (mm_fn_tab 2 2 2 (fn exL) O).trans HO.out.2
  · go_ret
    exact ⟨rfl, HB3⟩
end Go.Proofs.Ytalinkpfklhgaaa.RowsW
