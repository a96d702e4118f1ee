/- Texts of this claim in one. -/
import Derived.Test.YtmlemichkeomjaaRowsUndo
import Derived.Outline
import Derived.Test.YtmlemichkeomjaaM1
import Derived.SliceStrings
/- stookref02.Mul walked. -/
set_option linter.unusedVariables false
set_option linter.unusedSimpArgs false
namespace Go.Proofs.Ytmlemichkeomjaa.RowsW
open Go.RowKit Go.Proofs.Ytmlemichkeomjaa.Base Go.Proofs.Ytmlemichkeomjaa.GfP Go.Proofs.Ytmlemichkeomjaa.GfW Go.Proofs.Ytmlemichkeomjaa.GfR Go.Proofs.Ytmlemichkeomjaa.Lin

theorem lv_rw1_succ (j : Nat) (f : Nat → F) : lv (rw1 (j + 1) f) = lv (rw1 j f) ++ [.int .u8 (((f j).v : Nat) : Int)] := by
  unfold rw1 lv
  rw [List.range_succ]
  simp
theorem tab_succ (k p : Nat) (P : M) : tab (k + 1) p P = tab k p P ++ [rw1 p (P k)] := by
  unfold tab
  rw [List.range_succ]
  simp
theorem sm_xor (k : Nat) (f : Nat → F) : (sm (k + 1) f).v = (sm k f).v ^^^ (f k).v := rfl
end Go.Proofs.Ytmlemichkeomjaa.RowsW

/- What is refused, and the document's example. -/
set_option linter.unusedVariables false
set_option linter.unusedSimpArgs false
namespace Go.Proofs.Ytmlemichkeomjaa.RowsW
open Go.RowKit Go.Proofs.Ytmlemichkeomjaa.Base Go.Proofs.Ytmlemichkeomjaa.GfP Go.Proofs.Ytmlemichkeomjaa.GfW Go.Proofs.Ytmlemichkeomjaa.GfR Go.Proofs.Ytmlemichkeomjaa.Lin

set_option maxRecDepth 100000 in
set_option maxHeartbeats 1000000 in
theorem undo_no (A : Option Addr) (n c : Nat) (ls : List (List Nat)) (w : World) (hR : Base.Rows w A ls) (hl : ls.length = n) (hn : n ≤ 1000) (hw : wid ls ≤ 1000) (h : rightB ls = false ∨ wid ls ≠ n) :
    Calls Try.prog 61 #[.slice A n c] w fun e w' => e = .returned (.tuple #[.slice none 0 0, .int .i64 1]) ∧ Below w.heap.size w w' := by
  have HR := right_any A n c ls w hR hl hn hw
  by_cases hb : rightB ls = true
  · have hne : wid ls ≠ n := by rcases h with h | h; rw [h] at hb; cases hb; exact h
    have h0l : 0 < ls.length := by have := (right_iff ls).1 hb; omega
    rw [hb] at HR
    obtain ⟨b, off, rfl, hc⟩ := hR.block (by omega)
    obtain ⟨B0, c0, h0, hx⟩ := hc 0 h0l
    clear hx
    rw [Nat.add_zero, ← wid_of h0l] at h0
    generalize wid ls = q at *
    have HR := Lib.hid HR
    have z0 : (0 : Int) < n := by omega
    have e1 : (((n : Nat) : Int) != ((q : Nat) : Int)) = true := int_bne (by omega)
    clear hc hb h hR
    go_enter Try.func61, Try.ntmps61
    go_wp2
    go_step3
    go_wp2_with (go_at_call 94; (with_reducible refine (HR.out).mono ?_); rintro e w2 ⟨rfl, hd⟩; replace h0 := cell_below hd h0)
    rw [Exit.noGoto_ret]
    go_ret2
    exact ⟨rfl, hd⟩
  · have hb : rightB ls = false := by simpa using hb
    rw [hb] at HR
    have HR := Lib.hid HR
    clear hb h hR
    go_enter Try.func61, Try.ntmps61
    go_wp2
    go_step3
    go_wp2_with (go_at_call 94; (with_reducible refine (HR.out).mono ?_); rintro e w2 ⟨rfl, hd⟩)
    rw [Exit.noGoto_ret]
    go_ret2
    exact ⟨rfl, hd⟩
theorem mul_no (A A' : Option Addr) (n m c c' : Nat) (ls ms : List (List Nat)) (w : World) (hR : Base.Rows w A ls) (hR' : Base.Rows w A' ms) (hl : ls.length = n) (hl' : ms.length = m) (hn : n ≤ 1000) (hw : wid ls ≤ 1000) (hm : m ≤ 1000) (hw' : wid ms ≤ 1000)
    (h : rightB ls = false ∨ rightB ms = false ∨ wid ls ≠ m) :
    Calls Try.prog 62 #[.slice A n c, .slice A' m c'] w fun e w' => e = .returned (.tuple #[.slice none 0 0, .int .i64 1]) ∧ Below w.heap.size w w' := by
  have HR := right_any A n c ls w hR hl hn hw
  by_cases hb : rightB ls = true
  · have h0l : 0 < ls.length := by have := (right_iff ls).1 hb; omega
    obtain ⟨b, off, rfl, hc⟩ := hR.block (by omega)
    have HR2 := fun W (h9 : Base.Rows W A' ms) => right_any A' m c' ms W h9 hl' hm hw'
    rw [hb] at HR
    by_cases hb' : rightB ms = true
    · have hne : wid ls ≠ m := by rcases h with h | h | h; rw [h] at hb; cases hb; rw [h] at hb'; cases hb'; exact h
      rw [hb'] at HR2
      obtain ⟨B0, c0, h0, hx⟩ := hc 0 h0l
      clear hx
      rw [Nat.add_zero, ← wid_of h0l] at h0
      generalize wid ls = q at *
      have HR := Lib.hid HR
      have HR2 := Lib.hid HR2
      have z0 : (0 : Int) < n := by omega
      have e1 : (((q : Nat) : Int) != ((m : Nat) : Int)) = true := int_bne (by omega)
      clear hc hb h hb' hR
      go_enter Try.func62, Try.ntmps62
      go_wp2_with (first | (go_at_call 94; (with_reducible refine (HR.out).mono ?_); rintro e w2 ⟨rfl, hd⟩; replace h0 := cell_below hd h0; clear HR; have HBB := hd) | (go_at_call 94; (with_reducible refine (HR2.out _ (hR'.below HBB)).mono ?_); rintro e w3 ⟨rfl, hd3⟩; replace h0 := cell_below hd3 h0; replace HBB := bt HBB HBB.size hd3))
      go_ret2
      exact ⟨rfl, HBB⟩
    · have hb' : rightB ms = false := by simpa using hb'
      rw [hb'] at HR2
      have HR := Lib.hid HR
      have HR2 := Lib.hid HR2
      clear hc hb h hb' hR
      go_enter Try.func62, Try.ntmps62
      go_wp2_with (first | (go_at_call 94; (with_reducible refine (HR.out).mono ?_); rintro e w2 ⟨rfl, hd⟩; clear HR; have HBB := hd) | (go_at_call 94; (with_reducible refine (HR2.out _ (hR'.below HBB)).mono ?_); rintro e w3 ⟨rfl, hd3⟩; replace HBB := bt HBB HBB.size hd3))
      go_ret2
      exact ⟨rfl, HBB⟩
  · have hb : rightB ls = false := by simpa using hb
    rw [hb] at HR
    have HR := Lib.hid HR
    clear hb h hR
    go_enter Try.func62, Try.ntmps62
    go_wp2_with (go_at_call 94; (with_reducible refine (HR.out).mono ?_); rintro e w2 ⟨rfl, hd⟩)
    go_ret2
    exact ⟨rfl, hd⟩
theorem Mat.rows {w : World} {lo g n q : Nat} {bs : Nat → Nat} {A : M} (h : Mat w lo g n q bs A) : Base.Rows w (some ⟨g, 0, none⟩) (tab n q A) := by
  refine ⟨.inr ⟨g, 0, rfl, fun j hj => ?_⟩⟩
  have hj2 : j < n := by rw [tab_length] at hj; exact hj
  rw [tab_getElem, rw1_length, Nat.zero_add]
  refine ⟨_, _, h.top j hj2, rw1_le _ _, .inr ⟨bs j, 0, rfl, fun i hi => ?_⟩⟩
  rw [rw1_length] at hi
  rw [rw1_get _ hi, Nat.zero_add]
  exact (h.row j hj2).cell i hi
theorem undo_free (b off n c : Nat) (ls : List (List Nat)) (w : World) (hR : Base.Rows w (some ⟨b, off, none⟩) ls) (hl : ls.length = n) (hr : rightB ls = true) (hw : wid ls = n) (hF : Free n (fn ls)) :
    Calls Try.prog 61 #[.slice (some ⟨b, off, none⟩) n c] w fun e w' => ∃ g cap bs O, e = .returned (.tuple #[.slice (some ⟨g, 0, none⟩) n cap, .int .i64 0]) ∧ n ≤ cap ∧ Mat w' w.heap.size g n n bs O ∧ (Eqv n n (mm n O (fn ls)) dl ∧ Eqv n n (mm n (fn ls) O) dl) ∧ Below w.heap.size w w' := by
  refine (undo_ok b off n c ls w hR hl hr hw).mono ?_
  rintro e w' ⟨⟨_, g, cap, bs, O, h1, h2, h3, h4, h5⟩ | ⟨h1, _⟩, hb⟩
  · exact ⟨g, cap, bs, O, h1, h2, h3, ⟨h4, h5⟩, hb⟩
  · exact absurd hF h1
theorem mm_fn_tab (r n q : Nat) (A O : M) : Eqv r q (mm n A (fn (tab n q O))) (mm n A O) := fun i _ j hj => mm_congr (fun _ _ => rfl) (fun k hk => fn_tab O hk hj)
theorem mm_tab_fn (n m q : Nat) (A B : M) : Eqv n q (mm m (fn (tab n m A)) B) (mm m A B) := fun i hi j _ => mm_congr (fun k hk => fn_tab A hi hk) (fun _ _ => rfl)
def exL : List (List Nat) := [[1, 1], [1, 2]]
theorem two_eqv {A B : M} (h : A 0 0 = B 0 0 ∧ A 0 1 = B 0 1 ∧ A 1 0 = B 1 0 ∧ A 1 1 = B 1 1) : Eqv 2 2 A B := by
  intro i hi j hj
  obtain ⟨h1, h2, h3, h4⟩ := h
  have h5 : i = 0 ∨ i = 1 := by omega
  have h6 : j = 0 ∨ j = 1 := by omega
  rcases h5 with rfl | rfl <;> rcases h6 with rfl | rfl <;> assumption
theorem exL_free : Free 2 (fn exL) := free_of_left (B := fn [[245, 244], [244, 244]]) (two_eqv (by decide +kernel))
theorem exL_rows (w : World) : Base.Rows (((w.alloc (.cells #[.int .u8 1, .int .u8 1] 5)).alloc (.cells #[.int .u8 1, .int .u8 2] 5)).alloc (.cells #[.slice (some ⟨w.heap.size, 0, none⟩) 2 2, .slice (some ⟨w.heap.size + 1, 0, none⟩) 2 2] 70)) (some ⟨w.heap.size + 1 + 1, 0, none⟩) exL := by
  have h1 := heap_alloc_new w (.cells #[.int .u8 1, .int .u8 1] 5)
  have h2 := heap_alloc_new (w.alloc (.cells #[.int .u8 1, .int .u8 1] 5)) (.cells #[.int .u8 1, .int .u8 2] 5)
  have h3 := heap_alloc_new ((w.alloc (.cells #[.int .u8 1, .int .u8 1] 5)).alloc (.cells #[.int .u8 1, .int .u8 2] 5)) (.cells #[.slice (some ⟨w.heap.size, 0, none⟩) 2 2, .slice (some ⟨w.heap.size + 1, 0, none⟩) 2 2] 70)
  rw [World.size_alloc] at h2
  rw [World.size_alloc, World.size_alloc] at h3
  have g1 := (Below.heap_alloc ((w.alloc (.cells #[.int .u8 1, .int .u8 1] 5)).alloc (.cells #[.int .u8 1, .int .u8 2] 5)) (.cells #[.slice (some ⟨w.heap.size, 0, none⟩) 2 2, .slice (some ⟨w.heap.size + 1, 0, none⟩) 2 2] 70) w.heap.size (by simp; omega)).trans ((Below.heap_alloc (w.alloc (.cells #[.int .u8 1, .int .u8 1] 5)) (.cells #[.int .u8 1, .int .u8 2] 5) w.heap.size (by simp)).trans h1)
  have g2 := (Below.heap_alloc ((w.alloc (.cells #[.int .u8 1, .int .u8 1] 5)).alloc (.cells #[.int .u8 1, .int .u8 2] 5)) (.cells #[.slice (some ⟨w.heap.size, 0, none⟩) 2 2, .slice (some ⟨w.heap.size + 1, 0, none⟩) 2 2] 70) (w.heap.size + 1) (by simp)).trans h2
  refine ⟨.inr ⟨w.heap.size + 1 + 1, 0, rfl, fun j hj => ?_⟩⟩
  have hj2 : j = 0 ∨ j = 1 := by have : exL.length = 2 := rfl; omega
  rcases hj2 with rfl | rfl
  · refine ⟨some ⟨w.heap.size, 0, none⟩, 2, by rw [cell_of_row _ _ _ _ _ _ h3]; rfl, show ∀ x, x ∈ [1, 1] → x ≤ 255 by decide, .inr ⟨w.heap.size, 0, rfl, fun i hi => ?_⟩⟩
    have hi2 : i = 0 ∨ i = 1 := by have : exL[0].length = 2 := rfl; omega
    rcases hi2 with rfl | rfl <;> (rw [cell_of_row _ _ _ _ _ _ g1]; rfl)
  · refine ⟨some ⟨w.heap.size + 1, 0, none⟩, 2, by rw [cell_of_row _ _ _ _ _ _ h3]; rfl, show ∀ x, x ∈ [1, 2] → x ≤ 255 by decide, .inr ⟨w.heap.size + 1, 0, rfl, fun i hi => ?_⟩⟩
    have hi2 : i = 0 ∨ i = 1 := by have : exL[1].length = 2 := rfl; omega
    rcases hi2 with rfl | rfl <;> (rw [cell_of_row _ _ _ _ _ _ g2]; rfl)
end Go.Proofs.Ytmlemichkeomjaa.RowsW

/- The law RowsUndo walked. -/
set_option linter.unusedVariables false
set_option linter.unusedSimpArgs false
namespace Go.Proofs.Ytmlemichkeomjaa.RowsW
open Go.RowKit Go.Proofs.Ytmlemichkeomjaa.Base Go.Proofs.Ytmlemichkeomjaa.GfP Go.Proofs.Ytmlemichkeomjaa.GfW Go.Proofs.Ytmlemichkeomjaa.GfR Go.Proofs.Ytmlemichkeomjaa.Lin

theorem fewR_wid {ls : List (List Nat)} (h : fewR ls = true) : wid ls ≤ 40 := by
  have h2 := (fewR_yes h).2
  unfold wid
  rw [List.getD_eq_getElem?_getD]
  cases h3 : ls[0]? with
  | none => simp
  | some r =>
    obtain ⟨h4, h5⟩ := List.getElem?_eq_some_iff.1 h3
    have := h2 0 h4
    rw [h5] at this
    simpa using this
theorem undo_sing (b off n c : Nat) (ls : List (List Nat)) (w : World) (hR : Base.Rows w (some ⟨b, off, none⟩) ls) (hl : ls.length = n) (hr : rightB ls = true) (hw : wid ls = n) (hF : ¬ Free n (fn ls)) :
    Calls Try.prog 61 #[.slice (some ⟨b, off, none⟩) n c] w fun e w' => e = .returned (.tuple #[.slice none 0 0, .int .i64 4]) ∧ Below w.heap.size w w' := by
  refine (undo_ok b off n c ls w hR hl hr hw).mono ?_
  rintro e w' ⟨⟨h1, _⟩ | ⟨_, h1⟩, hb⟩
  · exact absurd h1 hF
  · exact ⟨h1, hb⟩
/-- A product of rows, read. -/
theorem mul_rows (A A' : Option Addr) (n m c c' p : Nat) (ls ms : List (List Nat)) (w : World) (hR : Base.Rows w A ls) (hR' : Base.Rows w A' ms) (hl : ls.length = n) (hl' : ms.length = m) (hr : rightB ls = true) (hr' : rightB ms = true) (hw : wid ls = m) (hp : wid ms = p) :
    Calls Try.prog 62 #[.slice A n c, .slice A' m c'] w fun e w' => ∃ g cap, e = .returned (.tuple #[.slice (some ⟨g, 0, none⟩) n cap, .int .i64 0]) ∧ n ≤ cap ∧ Base.Rows w' (some ⟨g, 0, none⟩) (tab n p (mm m (fn ls) (fn ms))) ∧ Below w.heap.size w w' :=
  (mul_ok A A' n m c c' p ls ms w hR hR' hl hl' hr hr' hw hp).mono fun e w' ⟨g, cap, bs, h1, h2, h3, h4⟩ => ⟨g, cap, h1, h2, h3.rows, h4⟩
theorem undo_rows (b off n c : Nat) (ls : List (List Nat)) (w : World) (hR : Base.Rows w (some ⟨b, off, none⟩) ls) (hl : ls.length = n) (hr : rightB ls = true) (hw : wid ls = n) (hF : Free n (fn ls)) :
    Calls Try.prog 61 #[.slice (some ⟨b, off, none⟩) n c] w fun e w' => ∃ g cap O, e = .returned (.tuple #[.slice (some ⟨g, 0, none⟩) n cap, .int .i64 0]) ∧ n ≤ cap ∧ Base.Rows w' (some ⟨g, 0, none⟩) (tab n n O) ∧ (Eqv n n (mm n O (fn ls)) dl ∧ Eqv n n (mm n (fn ls) O) dl) ∧ Below w.heap.size w w' :=
  (undo_free b off n c ls w hR hl hr hw hF).mono fun e w' ⟨g, cap, bs, O, h1, h2, h3, h4, h5⟩ => ⟨g, cap, O, h1, h2, h3.rows, h4, h5⟩
end Go.Proofs.Ytmlemichkeomjaa.RowsW

/- The law RowsTwice walked. -/
set_option linter.unusedVariables false
set_option linter.unusedSimpArgs false
namespace Go.Proofs.Ytmlemichkeomjaa.RowsW
open Go.RowKit Go.Proofs.Ytmlemichkeomjaa.Base Go.Proofs.Ytmlemichkeomjaa.GfP Go.Proofs.Ytmlemichkeomjaa.GfW Go.Proofs.Ytmlemichkeomjaa.GfR Go.Proofs.Ytmlemichkeomjaa.Lin

theorem undo_bad (A : Option Addr) (n c : Nat) (ls : List (List Nat)) (w : World) (hR : Base.Rows w A ls) (hl : ls.length = n) (hf : fewR ls = true) (h : ¬ (rightB ls = true ∧ wid ls = n ∧ Free n (fn ls))) :
    Calls Try.prog 61 #[.slice A n c] w fun e w' => ∃ er : Int, e = .returned (.tuple #[.slice none 0 0, .int .i64 er]) ∧ (er != 0) = true ∧ (er == 0) = false ∧ Below w.heap.size w w' := by
  have hq := fewR_wid hf
  have hn := (fewR_yes hf).1
  by_cases hr : rightB ls = true ∧ wid ls = n
  · obtain ⟨b, off, rfl, hc⟩ := hR.block (by have := (right_iff ls).1 hr.1; omega)
    refine (undo_sing b off n c ls w hR hl hr.1 hr.2 (fun hF => h ⟨hr.1, hr.2, hF⟩)).mono ?_
    rintro e w' ⟨rfl, hb⟩
    exact ⟨4, rfl, rfl, rfl, hb⟩
  · refine (undo_no A n c ls w hR hl (by omega) (by omega) ?_).mono ?_
    · by_cases hr2 : rightB ls = true
      · exact .inr fun h => hr ⟨hr2, h⟩
      · exact .inl (by simpa using hr2)
    · rintro e w' ⟨rfl, hb⟩
      exact ⟨1, rfl, rfl, rfl, hb⟩
theorem one_rows (n : Nat) (w : World) (h1 : 1 ≤ n) (h2 : n ≤ 32) :
    Calls Try.prog 96 #[.int .i64 (n : Nat)] w fun e w' => ∃ g cap, e = .returned (.tuple #[.slice (some ⟨g, 0, none⟩) n cap, .bool true]) ∧ n ≤ cap ∧ Base.Rows w' (some ⟨g, 0, none⟩) (tab n n dl) ∧ Below w.heap.size w w' :=
  (one_any n w h1 h2).mono fun e w' ⟨g, cap, bs, a, b, c, d⟩ => ⟨g, cap, a, b, c.rows, d⟩
theorem free_dl (n : Nat) : Free n dl := free_of_left (B := dl) fun i hi j hj => mm_one_left dl j hi
theorem free_tab {n : Nat} {X : M} (h : Free n X) : Free n (fn (tab n n X)) := free_congr (fn_tab_eqv n n X).symm h
theorem undo_one (b n c : Nat) (w : World) (hR : Base.Rows w (some ⟨b, 0, none⟩) (tab n n dl)) (h1 : 1 ≤ n) (h2 : n ≤ 32) :
    Calls Try.prog 61 #[.slice (some ⟨b, 0, none⟩) n c] w fun e w' => ∃ g cap, e = .returned (.tuple #[.slice (some ⟨g, 0, none⟩) n cap, .int .i64 0]) ∧ n ≤ cap ∧ Base.Rows w' (some ⟨g, 0, none⟩) (tab n n dl) ∧ Below w.heap.size w w' := by
  refine (undo_rows b 0 n c _ w hR (tab_length _ _ _) (right_tab dl h1 h2 h1 h2) (wid_tab n dl (by omega)) (free_tab (free_dl n))).mono ?_
  rintro e w' ⟨g, cap, O, rfl, h3, h4, h5, h6⟩
  refine ⟨g, cap, rfl, h3, ?_, h6⟩
  have : Eqv n n O dl := fun i hi j hj => by
    rw [← h5.1 i hi j hj]
    rw [mm_congr (A := O) (A' := O) (B := fn (tab n n dl)) (B' := dl) (fun _ _ => rfl) (fun k hk => fn_tab dl hk hj), mm_one_right O i hj]
  rwa [tab_congr this] at h4
theorem undo_back (b n c : Nat) (ls : List (List Nat)) (O : M) (w : World) (hR : Base.Rows w (some ⟨b, 0, none⟩) (tab n n O)) (hE : Eqv n n (mm n O (fn ls)) dl ∧ Eqv n n (mm n (fn ls) O) dl) (h1 : 1 ≤ n) (h2 : n ≤ 32) (hrc : Rect n n ls) :
    Calls Try.prog 61 #[.slice (some ⟨b, 0, none⟩) n c] w fun e w' => ∃ g cap, e = .returned (.tuple #[.slice (some ⟨g, 0, none⟩) n cap, .int .i64 0]) ∧ n ≤ cap ∧ Base.Rows w' (some ⟨g, 0, none⟩) ls ∧ Below w.heap.size w w' := by
  refine (undo_rows b 0 n c _ w hR (tab_length _ _ _) (right_tab O h1 h2 h1 h2) (wid_tab n O (by omega)) (free_tab (free_of_left hE.2))).mono ?_
  rintro e w' ⟨g, cap, C, rfl, h3, h4, h5, h6⟩
  refine ⟨g, cap, rfl, h3, ?_, h6⟩
  have : Eqv n n C (fn ls) := left_uniq (B := O) ((mm_fn_tab n n n C O).symm.trans h5.1) hE.1
  rw [tab_congr this, hrc.tab_eq] at h4
  exact h4
end Go.Proofs.Ytmlemichkeomjaa.RowsW

/- The law RowsBrackets walked. -/
set_option linter.unusedVariables false
set_option linter.unusedSimpArgs false
namespace Go.Proofs.Ytmlemichkeomjaa.RowsW
open Go.RowKit Go.Proofs.Ytmlemichkeomjaa.Base Go.Proofs.Ytmlemichkeomjaa.GfP Go.Proofs.Ytmlemichkeomjaa.GfW Go.Proofs.Ytmlemichkeomjaa.GfR Go.Proofs.Ytmlemichkeomjaa.Lin

/-- A product, right or refused. -/
theorem mul_some (A A' : Option Addr) (n m c c' : Nat) (ls ms : List (List Nat)) (w : World) (hR : Base.Rows w A ls) (hR' : Base.Rows w A' ms) (hl : ls.length = n) (hl' : ms.length = m) (hf : fewR ls = true) (hf' : fewR ms = true) :
    Calls Try.prog 62 #[.slice A n c, .slice A' m c'] w fun e w' => ∃ v er, e = .returned (.tuple #[v, .int .i64 er]) ∧ Below w.heap.size w w' := by
  by_cases h : rightB ls = true ∧ rightB ms = true ∧ wid ls = m
  · exact (mul_rows A A' n m c c' _ ls ms w hR hR' hl hl' h.1 h.2.1 h.2.2 rfl).mono fun e w' ⟨g, cap, h1, _, _, h2⟩ => ⟨_, _, h1, h2⟩
  · have h1 := fewR_wid hf
    have h2 := fewR_wid hf'
    have h3 := (fewR_yes hf).1
    have h4 := (fewR_yes hf').1
    refine (mul_no A A' n m c c' ls ms w hR hR' hl hl' (by omega) (by omega) (by omega) (by omega) ?_).mono fun e w' ⟨h1, h2⟩ => ⟨_, _, h1, h2⟩
    by_cases a : rightB ls = true
    · by_cases b : rightB ms = true
      · exact .inr (.inr fun h9 => h ⟨a, b, h9⟩)
      · exact .inr (.inl (by simpa using b))
    · exact .inl (by simpa using a)
theorem mul_bad (A A' : Option Addr) (n m c c' : Nat) (ls ms : List (List Nat)) (w : World) (hR : Base.Rows w A ls) (hR' : Base.Rows w A' ms) (hl : ls.length = n) (hl' : ms.length = m) (hf : fewR ls = true) (hf' : fewR ms = true) (h : ¬ (rightB ls = true ∧ rightB ms = true ∧ wid ls = m)) :
    Calls Try.prog 62 #[.slice A n c, .slice A' m c'] w fun e w' => e = .returned (.tuple #[.slice none 0 0, .int .i64 1]) ∧ Below w.heap.size w w' := by
  have h1 := fewR_wid hf
  have h2 := fewR_wid hf'
  have h3 := (fewR_yes hf).1
  have h4 := (fewR_yes hf').1
  refine (mul_no A A' n m c c' ls ms w hR hR' hl hl' (by omega) (by omega) (by omega) (by omega) ?_)
  by_cases a : rightB ls = true
  · by_cases b : rightB ms = true
    · exact .inr (.inr fun h9 => h ⟨a, b, h9⟩)
    · exact .inr (.inl (by simpa using b))
  · exact .inl (by simpa using a)
section
variable (A B C : Option Addr) (n m p c1 c2 c3 : Nat) (la lb lc : List (List Nat)) (w : World)
end
end Go.Proofs.Ytmlemichkeomjaa.RowsW

/- The law RowsPicks walked. -/
set_option linter.unusedVariables false
set_option linter.unusedSimpArgs false
namespace Go.Proofs.Ytmlemichkeomjaa.RowsW
open Go.RowKit Go.Proofs.Ytmlemichkeomjaa.Base Go.Proofs.Ytmlemichkeomjaa.GfP Go.Proofs.Ytmlemichkeomjaa.GfW Go.Proofs.Ytmlemichkeomjaa.GfR Go.Proofs.Ytmlemichkeomjaa.Lin

/-- The rows that are wanted, so far: slices of what came in. -/
structure Wanted (w0 w : World) (d : Value) (vs : List Value) (ms : List (List Nat)) : Prop where
  own : w.ownsRow w0.heap.size 70 1 d ms.length vs
  row : ∀ i (h : i < ms.length), ∃ B c, vs[i]? = some (.slice B ms[i].length c) ∧ Row1 w0 B ms[i]
  below : Below w0.heap.size w0 w
theorem Wanted.start (w : World) : Wanted w w (.slice none 0 0) [] [] := ⟨World.ownsRow_nil _ _ _ _, fun i h => by simp at h, Below.refl _ _⟩
theorem Wanted.step {w0 w w1 : World} {d d1 : Value} {vs : List Value} {ms : List (List Nat)} {l : List Nat} {B : Option Addr} {c : Nat} (h : Wanted w0 w d vs ms) (hr : Row1 w0 B l)
    (ho : w1.ownsRow w0.heap.size 70 1 d1 (ms.length + 1) (vs ++ [.slice B l.length c])) (hB : Below w0.heap.size w0 w1) : Wanted w0 w1 d1 (vs ++ [.slice B l.length c]) (ms ++ [l]) := by
  have hvl : vs.length = ms.length := by have := h.own.1; omega
  refine ⟨by simpa using ho, fun i hi => ?_, hB⟩
  by_cases e : i < ms.length
  · obtain ⟨B', c', hu, hr'⟩ := h.row i e
    rw [List.getElem_append_left e]
    exact ⟨B', c', by rw [List.getElem?_append_left (by omega)]; exact hu, hr'⟩
  · obtain rfl : i = ms.length := by rw [List.length_append, List.length_singleton] at hi; omega
    rw [List.getElem_append_right (Nat.le_refl _)]
    simp only [Nat.sub_self, List.getElem_cons_zero]
    exact ⟨B, c, by rw [← hvl]; simp, hr⟩
theorem Wanted.rows {w0 w : World} {d : Value} {vs : List Value} {ms : List (List Nat)} {k : Nat} (h : Wanted w0 w d vs ms) (hk : ms.length = k) : ∃ A c, d = .slice A k c ∧ Base.Rows w A ms := by
  subst hk
  rcases h.own.2 with ⟨rfl, h0⟩ | ⟨g, cap, cur, rfl, hb, hg, hc, _⟩
  · have : ms = [] := List.eq_nil_of_length_eq_zero h0
    subst this
    exact ⟨none, 0, rfl, Base.Rows.nil _ _⟩
  · refine ⟨_, cap, rfl, ⟨Or.inr ⟨g, 0, rfl, fun j hj => ?_⟩⟩⟩
    obtain ⟨A, c, hv, hr⟩ := h.row j hj
    have hcl := h.own.cells (g := g) rfl j _ hv
    have ha : (⟨g, 0, none⟩ : Addr).add j = ⟨g, 0 + j, none⟩ := by unfold Addr.add; split <;> simp_all
    rw [ha] at hcl
    exact ⟨A, c, hcl, hr.below h.below⟩
section
variable (A A2 : Option Addr) (n c m c2 : Nat) (ls : List (List Nat)) (l : List Int) (w : World)
theorem pickL_le {ls : List (List Nat)} {l : List Int} {q : Nat} (h : ∀ i (hi : i < ls.length), ls[i].length ≤ q) : ∀ i (hi : i < (pickL ls l).length), (pickL ls l)[i].length ≤ q := by
  intro i hi
  obtain ⟨x, _, hx⟩ := List.mem_map.1 (List.getElem_mem hi)
  rw [← hx, List.getD_eq_getElem?_getD]
  cases h9 : ls[x.toNat]? with
  | none => simp
  | some r =>
    obtain ⟨h4, h5⟩ := List.getElem?_eq_some_iff.1 h9
    have := h _ h4
    rw [h5] at this
    simpa using this
theorem pick_bad (hR : Base.Rows w A ls) (hI : Ints w A2 l) (hl : ls.length = n) (hl2 : l.length = m) (hr : rightB ls = true) (h1 : 1 ≤ m) (h2 : m ≤ 32) (hbd : ¬ ∀ i (h : i < l.length), 0 ≤ l[i] ∧ l[i] < n) :
    Calls Try.prog 59 #[.slice A n c, .slice A2 m c2] w fun e w' => e = .returned (.tuple #[.slice none 0 0, .int .i64 1]) ∧ Below w.heap.size w w' := by
  refine (pick_any A A2 n c m c2 ls l w hR hI hl hl2 hr h1 h2 _ rfl).mono ?_
  rintro e w' ⟨⟨_, h⟩ | ⟨h, _⟩, hb⟩
  · exact ⟨h, hb⟩
  · exact absurd h hbd
theorem pick_good (hR : Base.Rows w A ls) (hI : Ints w A2 l) (hl : ls.length = n) (hl2 : l.length = m) (hr : rightB ls = true) (h1 : 1 ≤ m) (h2 : m ≤ 32) (hbd : ∀ i (h : i < l.length), 0 ≤ l[i] ∧ l[i] < n) :
    Calls Try.prog 59 #[.slice A n c, .slice A2 m c2] w fun e w' => ∃ A' c', e = .returned (.tuple #[.slice A' m c', .int .i64 0]) ∧ Base.Rows w' A' (pickL ls l) ∧ Below w.heap.size w w' := by
  refine (pick_any A A2 n c m c2 ls l w hR hI hl hl2 hr h1 h2 _ rfl).mono ?_
  rintro e w' ⟨⟨⟨i, h, h3⟩, _⟩ | ⟨_, A', c', h3, _, h4⟩, hb⟩
  · exact absurd (hbd i h) h3
  · exact ⟨A', c', h3, h4, hb⟩
end
end Go.Proofs.Ytmlemichkeomjaa.RowsW

/- The law RowsPowers walked. -/
set_option linter.unusedVariables false
set_option linter.unusedSimpArgs false
namespace Go.Proofs.Ytmlemichkeomjaa.RowsW
open Go.RowKit Go.Proofs.Ytmlemichkeomjaa.Base Go.Proofs.Ytmlemichkeomjaa.GfP Go.Proofs.Ytmlemichkeomjaa.GfW Go.Proofs.Ytmlemichkeomjaa.GfR Go.Proofs.Ytmlemichkeomjaa.Lin

theorem powers_rows (n q : Nat) (w : World) (h1 : 1 ≤ n) (h2 : n ≤ 32) (h3 : 1 ≤ q) (h4 : q ≤ 32) :
    Calls Try.prog 58 #[.int .i64 (n : Nat), .int .i64 (q : Nat)] w fun e w' => ∃ g cap, e = .returned (.tuple #[.slice (some ⟨g, 0, none⟩) n cap, .bool true]) ∧ n ≤ cap ∧ Base.Rows w' (some ⟨g, 0, none⟩) (tab n q powT) ∧ Below w.heap.size w w' :=
  (powers_ok n q w h1 h2 h3 h4).mono fun e w' ⟨g, cap, bs, a, b, c, d⟩ => ⟨g, cap, a, b, c.rows, d⟩
/-- Rows of powers of those numbers. -/
def powL (l : List Int) : M := fun i j => pwr (toF ((l.getD i 0).toNat)) j
theorem powL_pick (n k : Nat) (l : List Int) (h : ∀ i (h : i < l.length), 0 ≤ l[i] ∧ l[i] < n) : pickL (tab n k powT) l = tab l.length k (powL l) := by
  apply List.ext_getElem
  · rw [pickL_length, tab_length]
  · intro i h1 h2
    have hi : i < l.length := by rw [pickL_length] at h1; exact h1
    have hr := h i hi
    have e1 : (pickL (tab n k powT) l)[i] = (tab n k powT).getD (l[i].toNat) [] := by simp [pickL]
    rw [e1, tab_get k powT (by omega), tab_getElem]
    refine rw1_congr fun j hj => ?_
    unfold powT powL
    rw [List.getD_eq_getElem?_getD, List.getElem?_eq_getElem hi, Option.getD_some]
theorem powL_free (l : List Int) (n : Nat) (hn : n ≤ 32) (h : ∀ i (h : i < l.length), 0 ≤ l[i] ∧ l[i] < n) (hd : ∀ i (h : i < l.length), ∀ j (hj : j < i), l[i] ≠ l[j]'(by omega)) : Free l.length (powL l) := by
  refine powers_free l.length (fun i => toF ((l.getD i 0).toNat)) fun i hi j hj e => ?_
  have hjl : j < l.length := by omega
  have h1 := h i hi
  have h2 := h j hjl
  apply hd i hi j hj
  have e2 := congrArg F.v e
  simp only [List.getD_eq_getElem?_getD, List.getElem?_eq_getElem hi, List.getElem?_eq_getElem hjl, Option.getD_some] at e2
  rw [toF_v (by omega), toF_v (by omega)] at e2
  omega
section
variable (A : Option Addr) (m c n k : Nat) (l : List Int) (w : World)
theorem u8int (x : Nat) (h : x ≤ 255) : IntKind.i64.wrap ((x : Nat) : Int) = ((x : Nat) : Int) := by rw [IntKind.wrap_i64]; omega
end
end Go.Proofs.Ytmlemichkeomjaa.RowsW

/- A slice of strings that is only read. -/
set_option linter.unusedVariables false
set_option linter.unusedSimpArgs false
namespace Go.Proofs.Ytmlemichkeomjaa.Base
open Go.RowKit Go.ChangeShapes

/-- The strings of a slice. -/
structure Strs (w : World) (A : Option Addr) (n : Nat) (ss : List ByteArray) : Prop where
  len : ss.length = n
  at_ : n = 0 ∨ ∃ b off, A = some ⟨b, off, none⟩ ∧ ∀ j (h : j < ss.length), w.cell? ⟨b, off + j, none⟩ = some (.string ss[j])
theorem Strs.below {w w' : World} {A : Option Addr} {n : Nat} {ss : List ByteArray} (h : Strs w A n ss) (hb : Below w.heap.size w w') : Strs w' A n ss := by
  refine ⟨h.len, ?_⟩
  rcases h.at_ with h1 | ⟨b, off, e, hc⟩
  · exact .inl h1
  · exact .inr ⟨b, off, e, fun j hj => cell_below hb (hc j hj)⟩
theorem Strs.nil (w : World) (A : Option Addr) : Strs w A 0 [] := ⟨rfl, .inl rfl⟩
/-- Where it lies. -/
theorem Strs.block {w : World} {A : Option Addr} {n : Nat} {ss : List ByteArray} (h : Strs w A n ss) (h0 : n ≠ 0) : ∃ b off, A = some ⟨b, off, none⟩ ∧ ∀ j (h : j < ss.length), w.cell? ⟨b, off + j, none⟩ = some (.string ss[j]) := by
  rcases h.at_ with h1 | h1
  · exact absurd h1 h0
  · exact h1
/-- So many bytes at most. -/
def total : List ByteArray → Nat
  | [] => 0
  | s :: l => s.size + total l
theorem total_append (l m : List ByteArray) : total (l ++ m) = total l + total m := by
  induction l with
  | nil => show total m = 0 + total m; omega
  | cons s l ih => show s.size + total (l ++ m) = s.size + total l + total m; omega
theorem total_get {l : List ByteArray} {j : Nat} (h : j < l.length) : l[j].size ≤ total l := by
  induction l generalizing j with
  | nil => simp at h
  | cons s l ih =>
    cases j with
    | zero => show s.size ≤ s.size + total l; omega
    | succ j =>
      have hj : j < l.length := by simpa using h
      have := ih hj
      show l[j].size ≤ s.size + total l
      omega
theorem take_snoc_list {α : Type} (l : List α) (k : Nat) (h : k < l.length) : l.take (k + 1) = l.take k ++ [l[k]] := List.take_succ_eq_append_getElem h
theorem total_take_le (l : List ByteArray) (k : Nat) : total (l.take k) ≤ total l := by
  have := total_append (l.take k) (l.drop k)
  rw [List.take_append_drop] at this
  omega
end Go.Proofs.Ytmlemichkeomjaa.Base

