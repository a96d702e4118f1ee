/- The law RowsUndo walked. -/
import Derived.Test.YtalinkpfklhgaaaRowsAwake
set_option linter.unusedVariables false
set_option linter.unusedSimpArgs false
namespace Go.Proofs.Ytalinkpfklhgaaa.RowsW
open Go.RowKit Go.Proofs.Ytalinkpfklhgaaa.Base Go.Proofs.Ytalinkpfklhgaaa.GfP Go.Proofs.Ytalinkpfklhgaaa.GfW Go.Proofs.Ytalinkpfklhgaaa.GfR Go.Proofs.Ytalinkpfklhgaaa.Lin

theorem fewR_wid {ls : List (List Nat)} (h : fewR ls = true) : wid ls ≤ 40 := by
  have h2 := (fewR_yes h).2
  unfold wid
  rw [List.getD_eq_getElem?_getD]
  cases h3 : ls[0]? with
  | none => simp
  | some r =>
    obtain ⟨h4, h5⟩ := List.getElem?_eq_some_iff.1 h3
    have := h2 0 h4
    rw [h5] at this
    simpa using this
theorem undo_sing (b off n c : Nat) (ls : List (List Nat)) (w : World) (hR : Base.Rows w (some ⟨b, off, none⟩) ls) (hl : ls.length = n) (hr : rightB ls = true) (hw : wid ls = n) (hF : ¬ Free n (fn ls)) :
    Calls Try.prog 37 #[.slice (some ⟨b, off, none⟩) n c] w fun e w' => e = .returned (.tuple #[.slice none 0 0, .int .i64 4]) ∧ Below w.heap.size w w' := by
  refine (undo_ok b off n c ls w hR hl hr hw).mono ?_
  rintro e w' ⟨⟨h1, _⟩ | ⟨_, h1⟩, hb⟩
  · exact absurd h1 hF
  · exact ⟨h1, hb⟩
set_option maxRecDepth 100000 in
set_option maxHeartbeats 1000000 in
theorem lawundo_far (A : Option Addr) (n c : Nat) (ls : List (List Nat)) (w : World) (hR : Base.Rows w A ls) (hl : ls.length = n) (hf : fewR ls = false) :
    Calls Try.prog 12 #[.slice A n c] w fun e w' => e = .returned (.bool true) ∧ Below w.heap.size w w' := by
  have HB : Below w.heap.size w w := Below.refl _ _
  have HF := Lib.hid (fun W (h : Base.Rows W A ls) => few_any A n c ls W h hl)
  rw [hf] at HF
  clear hf
  go_enter Try.func12, Try.ntmps12
  go_wp2_with (first | (go_at_call 34; (with_reducible refine (awake_any _).mono ?_); rintro e w2 ⟨rfl, hd⟩; replace HB := bt HB HB.size hd; clear hd) | (go_at_call 35; (with_reducible refine (HF.out _ (hR.below HB)).mono ?_); rintro e w2 ⟨rfl, rfl⟩))
  go_ret
  exact ⟨rfl, HB⟩
theorem lawundo_no (A : Option Addr) (n c : Nat) (ls : List (List Nat)) (w : World) (hR : Base.Rows w A ls) (hl : ls.length = n) (hf : fewR ls = true) (h : rightB ls = false ∨ wid ls ≠ n) :
    Calls Try.prog 12 #[.slice A n c] w fun e w' => e = .returned (.bool true) ∧ Below w.heap.size w w' := by
  have HB : Below w.heap.size w w := Below.refl _ _
  have hq := fewR_wid hf
  have hn := (fewR_yes hf).1
  have HF := Lib.hid (fun W (h : Base.Rows W A ls) => few_any A n c ls W h hl)
  rw [hf] at HF
  have HU := Lib.hid (fun W (h9 : Base.Rows W A ls) => undo_no A n c ls W h9 hl (by omega) (by omega) h)
  clear hf h hq hn
  go_enter Try.func12, Try.ntmps12
  go_wp2_with (first | (go_at_call 34; (with_reducible refine (awake_any _).mono ?_); rintro e w2 ⟨rfl, hd⟩; replace HB := bt HB HB.size hd; clear hd) | (go_at_call 35; (with_reducible refine (HF.out _ (hR.below HB)).mono ?_); rintro e w2 ⟨rfl, rfl⟩) | (go_at_call 37; (with_reducible refine (HU.out _ (hR.below HB)).mono ?_); rintro e w2 ⟨rfl, hd⟩; replace HB := bt HB HB.size hd; clear hd))
  go_ret
  exact ⟨rfl, HB⟩
theorem lawundo_sing (A : Option Addr) (n c : Nat) (ls : List (List Nat)) (w : World) (hR : Base.Rows w A ls) (hl : ls.length = n) (hf : fewR ls = true) (hr : rightB ls = true) (hw : wid ls = n) (hF : ¬ Free n (fn ls)) :
    Calls Try.prog 12 #[.slice A n c] w fun e w' => e = .returned (.bool true) ∧ Below w.heap.size w w' := by
  have HB : Below w.heap.size w w := Below.refl _ _
  obtain ⟨b, off, rfl, hc⟩ := hR.block (by have := (right_iff ls).1 hr; omega)
  have HFW := Lib.hid (fun W (h : Base.Rows W (some ⟨b, off, none⟩) ls) => few_any (some ⟨b, off, none⟩) n c ls W h hl)
  rw [hf] at HFW
  have HU := Lib.hid (fun W (h9 : Base.Rows W (some ⟨b, off, none⟩) ls) => undo_sing b off n c ls W h9 hl hr hw hF)
  clear hf hr hw hF hc
  go_enter Try.func12, Try.ntmps12
  go_wp2_with (first | (go_at_call 34; (with_reducible refine (awake_any _).mono ?_); rintro e w2 ⟨rfl, hd⟩; replace HB := bt HB HB.size hd; clear hd) | (go_at_call 35; (with_reducible refine (HFW.out _ (hR.below HB)).mono ?_); rintro e w2 ⟨rfl, rfl⟩) | (go_at_call 37; (with_reducible refine (HU.out _ (hR.below HB)).mono ?_); rintro e w2 ⟨rfl, hd⟩; replace HB := bt HB HB.size hd; clear hd))
  go_ret
  exact ⟨rfl, HB⟩
/-- A product of rows, read. -/
theorem mul_rows (A A' : Option Addr) (n m c c' p : Nat) (ls ms : List (List Nat)) (w : World) (hR : Base.Rows w A ls) (hR' : Base.Rows w A' ms) (hl : ls.length = n) (hl' : ms.length = m) (hr : rightB ls = true) (hr' : rightB ms = true) (hw : wid ls = m) (hp : wid ms = p) :
    Calls Try.prog 43 #[.slice A n c, .slice A' m c'] w fun e w' => ∃ g cap, e = .returned (.tuple #[.slice (some ⟨g, 0, none⟩) n cap, .int .i64 0]) ∧ n ≤ cap ∧ Base.Rows w' (some ⟨g, 0, none⟩) (tab n p (mm m (fn ls) (fn ms))) ∧ Below w.heap.size w w' :=
  (mul_ok A A' n m c c' p ls ms w hR hR' hl hl' hr hr' hw hp).mono fun e w' ⟨g, cap, bs, h1, h2, h3, h4⟩ => ⟨g, cap, h1, h2, h3.rows, h4⟩
theorem undo_rows (b off n c : Nat) (ls : List (List Nat)) (w : World) (hR : Base.Rows w (some ⟨b, off, none⟩) ls) (hl : ls.length = n) (hr : rightB ls = true) (hw : wid ls = n) (hF : Free n (fn ls)) :
    Calls Try.prog 37 #[.slice (some ⟨b, off, none⟩) n c] w fun e w' => ∃ g cap O, e = .returned (.tuple #[.slice (some ⟨g, 0, none⟩) n cap, .int .i64 0]) ∧ n ≤ cap ∧ Base.Rows w' (some ⟨g, 0, none⟩) (tab n n O) ∧ (Eqv n n (mm n O (fn ls)) dl ∧ Eqv n n (mm n (fn ls) O) dl) ∧ Below w.heap.size w w' :=
  (undo_free b off n c ls w hR hl hr hw hF).mono fun e w' ⟨g, cap, bs, O, h1, h2, h3, h4, h5⟩ => ⟨g, cap, O, h1, h2, h3.rows, h4, h5⟩
set_option maxRecDepth 100000 in
set_option maxHeartbeats 1000000 in
theorem lawundo_yes (A : Option Addr) (n c : Nat) (ls : List (List Nat)) (w : World) (hR : Base.Rows w A ls) (hl : ls.length = n) (hf : fewR ls = true) (hr : rightB ls = true) (hw : wid ls = n) (hF : Free n (fn ls)) :
    Calls Try.prog 12 #[.slice A n c] w fun e w' => e = .returned (.bool true) ∧ Below w.heap.size w w' := by
  have HB : Below w.heap.size w w := Below.refl _ _
  have hri := (right_iff ls).1 hr
  have hn0 : 0 < n := by omega
  have hn1 : n ≤ 32 := by omega
  have h1n : 1 ≤ n := hn0
  clear hri
  obtain ⟨b, off, rfl, hc⟩ := hR.block (by omega)
  have HFW := Lib.hid (fun W (h : Base.Rows W (some ⟨b, off, none⟩) ls) => few_any (some ⟨b, off, none⟩) n c ls W h hl)
  rw [hf] at HFW
  have HU := Lib.hid (fun W (h9 : Base.Rows W (some ⟨b, off, none⟩) ls) => undo_rows b off n c ls W h9 hl hr hw hF)
  have HM1 := Lib.hid (fun W A' c' O (h9 : Base.Rows W (some ⟨b, off, none⟩) ls) (h8 : Base.Rows W A' (tab n n O)) => mul_rows (some ⟨b, off, none⟩) A' n n c c' n ls (tab n n O) W h9 h8 hl (tab_length _ _ _) hr (right_tab O h1n hn1 h1n hn1) hw (wid_tab n O hn0))
  have HM2 := Lib.hid (fun W A' c' O (h9 : Base.Rows W (some ⟨b, off, none⟩) ls) (h8 : Base.Rows W A' (tab n n O)) => mul_rows A' (some ⟨b, off, none⟩) n n c' c n (tab n n O) ls W h8 h9 (tab_length _ _ _) hl (right_tab O h1n hn1 h1n hn1) hr (wid_tab n O hn0) hw)
  have HI := Lib.hid (fun W A' c' X (h9 : Base.Rows W A' (tab n n X)) (h8 : Eqv n n X dl) => isone_tab A' n c' X W h9 (by omega) h8)
  clear hf hr hw hF hc hl
  go_enter Try.func12, Try.ntmps12
  go_wp2_with (first | (go_at_call 34; (with_reducible refine (awake_any _).mono ?_); rintro e w2 ⟨rfl, hd⟩; replace HB := bt HB HB.size hd; clear hd) | (go_at_call 35; (with_reducible refine (HFW.out _ (hR.below HB)).mono ?_); rintro e w2 ⟨rfl, rfl⟩) | (go_at_call 37; (with_reducible refine (HU.out _ (hR.below HB)).mono ?_); rintro e w2 ⟨g, cap, O, rfl, hcap, hO, hE, hd⟩; replace HB := bt HB HB.size hd; clear hd; have HE := Lib.hid hE; clear hE) | (go_at_call 43; (with_reducible refine (HM1.out _ _ _ _ (hR.below HB) hO).mono ?_); rintro e w3 ⟨g3, cap3, rfl, hcap3, hX, hd⟩; replace HB := bt HB HB.size hd; replace hO := hO.below hd; clear hd) | (go_at_call 43; (with_reducible refine (HM2.out _ _ _ _ (hR.below HB) hO).mono ?_); rintro e w4 ⟨g4, cap4, rfl, hcap4, hY, hd⟩; replace HB := bt HB HB.size hd; replace hX := hX.below hd; clear hd) | (go_at_call 44; (with_reducible refine (HI.out _ _ _ _ hX ((mm_fn_tab n n n (fn ls) O).trans HE.out.2)).mono ?_); rintro e w5 ⟨rfl, rfl⟩) | (go_at_call 44; (with_reducible refine (HI.out _ _ _ _ hY ((mm_tab_fn n n n O (fn ls)).trans HE.out.1)).mono ?_); rintro e w5 ⟨rfl, rfl⟩))
  go_ret
  exact ⟨rfl, HB⟩
theorem lawundo (A : Option Addr) (n c : Nat) (ls : List (List Nat)) (w : World) (hR : Base.Rows w A ls) (hl : ls.length = n) :
    Calls Try.prog 12 #[.slice A n c] w fun e w' => e = .returned (.bool true) ∧ Below w.heap.size w w' := by
  by_cases hf : fewR ls = true
  · by_cases hr : rightB ls = true ∧ wid ls = n
    · by_cases hF : Free n (fn ls)
      · exact lawundo_yes A n c ls w hR hl hf hr.1 hr.2 hF
      · exact lawundo_sing A n c ls w hR hl hf hr.1 hr.2 hF
    · refine lawundo_no A n c ls w hR hl hf ?_
      by_cases hr2 : rightB ls = true
      · exact .inr fun h => hr ⟨hr2, h⟩
      · exact .inl (by simpa using hr2)
  · exact lawundo_far A n c ls w hR hl (by simpa using hf)
end Go.Proofs.Ytalinkpfklhgaaa.RowsW
