/- The law RowsTwice walked. -/
import Derived.Test.YtalinkpfklhgaaaRowsLaw1
set_option linter.unusedVariables false
set_option linter.unusedSimpArgs false
namespace Go.Proofs.Ytalinkpfklhgaaa.RowsW
open Go.RowKit Go.Proofs.Ytalinkpfklhgaaa.Base Go.Proofs.Ytalinkpfklhgaaa.GfP Go.Proofs.Ytalinkpfklhgaaa.GfW Go.Proofs.Ytalinkpfklhgaaa.GfR Go.Proofs.Ytalinkpfklhgaaa.Lin

theorem undo_bad (A : Option Addr) (n c : Nat) (ls : List (List Nat)) (w : World) (hR : Base.Rows w A ls) (hl : ls.length = n) (hf : fewR ls = true) (h : ¬ (rightB ls = true ∧ wid ls = n ∧ Free n (fn ls))) :
    Calls Try.prog 37 #[.slice A n c] w fun e w' => ∃ er : Int, e = .returned (.tuple #[.slice none 0 0, .int .i64 er]) ∧ (er != 0) = true ∧ (er == 0) = false ∧ Below w.heap.size w w' := by
  have hq := fewR_wid hf
  have hn := (fewR_yes hf).1
  by_cases hr : rightB ls = true ∧ wid ls = n
  · obtain ⟨b, off, rfl, hc⟩ := hR.block (by have := (right_iff ls).1 hr.1; omega)
    refine (undo_sing b off n c ls w hR hl hr.1 hr.2 (fun hF => h ⟨hr.1, hr.2, hF⟩)).mono ?_
    rintro e w' ⟨rfl, hb⟩
    exact ⟨4, rfl, rfl, rfl, hb⟩
  · refine (undo_no A n c ls w hR hl (by omega) (by omega) ?_).mono ?_
    · by_cases hr2 : rightB ls = true
      · exact .inr fun h => hr ⟨hr2, h⟩
      · exact .inl (by simpa using hr2)
    · rintro e w' ⟨rfl, hb⟩
      exact ⟨1, rfl, rfl, rfl, hb⟩
theorem one_rows (n : Nat) (w : World) (h1 : 1 ≤ n) (h2 : n ≤ 32) :
    Calls Try.prog 40 #[.int .i64 (n : Nat)] w fun e w' => ∃ g cap, e = .returned (.tuple #[.slice (some ⟨g, 0, none⟩) n cap, .bool true]) ∧ n ≤ cap ∧ Base.Rows w' (some ⟨g, 0, none⟩) (tab n n dl) ∧ Below w.heap.size w w' :=
  (one_any n w h1 h2).mono fun e w' ⟨g, cap, bs, a, b, c, d⟩ => ⟨g, cap, a, b, c.rows, d⟩
theorem free_dl (n : Nat) : Free n dl := free_of_left (B := dl) fun i hi j hj => mm_one_left dl j hi
theorem free_tab {n : Nat} {X : M} (h : Free n X) : Free n (fn (tab n n X)) := free_congr (fn_tab_eqv n n X).symm h
theorem undo_one (b n c : Nat) (w : World) (hR : Base.Rows w (some ⟨b, 0, none⟩) (tab n n dl)) (h1 : 1 ≤ n) (h2 : n ≤ 32) :
    Calls Try.prog 37 #[.slice (some ⟨b, 0, none⟩) n c] w fun e w' => ∃ g cap, e = .returned (.tuple #[.slice (some ⟨g, 0, none⟩) n cap, .int .i64 0]) ∧ n ≤ cap ∧ Base.Rows w' (some ⟨g, 0, none⟩) (tab n n dl) ∧ Below w.heap.size w w' := by
  refine (undo_rows b 0 n c _ w hR (tab_length _ _ _) (right_tab dl h1 h2 h1 h2) (wid_tab n dl (by omega)) (free_tab (free_dl n))).mono ?_
  rintro e w' ⟨g, cap, O, rfl, h3, h4, h5, h6⟩
  refine ⟨g, cap, rfl, h3, ?_, h6⟩
  have : Eqv n n O dl := fun i hi j hj => by
    rw [← h5.1 i hi j hj]
    rw [mm_congr (A := O) (A' := O) (B := fn (tab n n dl)) (B' := dl) (fun _ _ => rfl) (fun k hk => fn_tab dl hk hj), mm_one_right O i hj]
  rwa [tab_congr this] at h4
theorem equal_tab (A A' : Option Addr) (n q c c' : Nat) (X : M) (w : World) (hR : Base.Rows w A (tab n q X)) (hR' : Base.Rows w A' (tab n q X)) (hn : n ≤ 1000) (hq : q ≤ 1000) :
    Calls Try.prog 41 #[.slice A n c, .slice A' n c'] w fun e w' => e = .returned (.bool true) ∧ Below w.heap.size w w' :=
  equal_yes A A' n c c' _ w hR hR' (tab_length _ _ _) hn (fun i hi => by rw [tab_getElem, rw1_length]; exact hq)
theorem undo_back (b n c : Nat) (ls : List (List Nat)) (O : M) (w : World) (hR : Base.Rows w (some ⟨b, 0, none⟩) (tab n n O)) (hE : Eqv n n (mm n O (fn ls)) dl ∧ Eqv n n (mm n (fn ls) O) dl) (h1 : 1 ≤ n) (h2 : n ≤ 32) (hrc : Rect n n ls) :
    Calls Try.prog 37 #[.slice (some ⟨b, 0, none⟩) n c] w fun e w' => ∃ g cap, e = .returned (.tuple #[.slice (some ⟨g, 0, none⟩) n cap, .int .i64 0]) ∧ n ≤ cap ∧ Base.Rows w' (some ⟨g, 0, none⟩) ls ∧ Below w.heap.size w w' := by
  refine (undo_rows b 0 n c _ w hR (tab_length _ _ _) (right_tab O h1 h2 h1 h2) (wid_tab n O (by omega)) (free_tab (free_of_left hE.2))).mono ?_
  rintro e w' ⟨g, cap, C, rfl, h3, h4, h5, h6⟩
  refine ⟨g, cap, rfl, h3, ?_, h6⟩
  have : Eqv n n C (fn ls) := left_uniq (B := O) ((mm_fn_tab n n n C O).symm.trans h5.1) hE.1
  rw [tab_congr this, hrc.tab_eq] at h4
  exact h4
set_option maxRecDepth 100000 in
set_option maxHeartbeats 1000000 in
theorem lawtwice_far (A : Option Addr) (n c x : Nat) (ls : List (List Nat)) (w : World) (hR : Base.Rows w A ls) (hl : ls.length = n) (hf : fewR ls = false) :
    Calls Try.prog 10 #[.slice A n c, .int .u8 (x : Nat)] w fun e w' => e = .returned (.bool true) ∧ Below w.heap.size w w' := by
  have HB : Below w.heap.size w w := Below.refl _ _
  have HFW := Lib.hid (fun W (h : Base.Rows W A ls) => few_any A n c ls W h hl)
  rw [hf] at HFW
  clear hf
  go_enter Try.func10, Try.ntmps10
  go_wp2_with (first | (go_at_call 34; (with_reducible refine (awake_any _).mono ?_); rintro e w2 ⟨rfl, hd⟩; replace HB := bt HB HB.size hd; clear hd) | (go_at_call 35; (with_reducible refine (HFW.out _ (hR.below HB)).mono ?_); rintro e w2 ⟨rfl, rfl⟩))
  go_ret
  exact ⟨rfl, HB⟩
set_option maxRecDepth 100000 in
set_option maxHeartbeats 1000000 in
theorem lawtwice_bad (A : Option Addr) (n c x : Nat) (ls : List (List Nat)) (w : World) (hR : Base.Rows w A ls) (hl : ls.length = n) (hx : x ≤ 255) (hf : fewR ls = true) (h : ¬ (rightB ls = true ∧ wid ls = n ∧ Free n (fn ls))) :
    Calls Try.prog 10 #[.slice A n c, .int .u8 (x : Nat)] w fun e w' => e = .returned (.bool true) ∧ Below w.heap.size w w' := by
  have HB : Below w.heap.size w w := Below.refl _ _
  have HFW := Lib.hid (fun W (h : Base.Rows W A ls) => few_any A n c ls W h hl)
  rw [hf] at HFW
  have HU := Lib.hid (fun W (h9 : Base.Rows W A ls) => undo_bad A n c ls W h9 hl hf h)
  clear hf h
  by_cases h1 : 1 ≤ x ∧ x ≤ 32
  · have HON := Lib.hid (fun W => one_rows x W h1.1 h1.2)
    have HU1 := Lib.hid (fun W b c (h9 : Base.Rows W (some ⟨b, 0, none⟩) (tab x x dl)) => undo_one b x c W h9 h1.1 h1.2)
    have HE1 := Lib.hid (fun W A A' c c' (h9 : Base.Rows W A (tab x x dl)) (h8 : Base.Rows W A' (tab x x dl)) => equal_tab A A' x x c c' dl W h9 h8 (by omega) (by omega))
    clear h1
    go_enter Try.func10, Try.ntmps10
    go_wp2_with (first | (go_at_call 34; (with_reducible refine (awake_any _).mono ?_); rintro e w2 ⟨rfl, hd⟩; replace HB := bt HB HB.size hd; clear hd) | (go_at_call 35; (with_reducible refine (HFW.out _ (hR.below HB)).mono ?_); rintro e w2 ⟨rfl, rfl⟩) | (go_at_call 40; (with_reducible refine (HON.out _).mono ?_); rintro e w3 ⟨g1, cap1, rfl, hcap1, hO1, hd⟩; replace HB := bt HB HB.size hd; clear hd) | (go_at_call 37; (with_reducible refine (HU1.out _ _ _ hO1).mono ?_); rintro e w4 ⟨g2, cap2, rfl, hcap2, hO2, hd⟩; replace HB := bt HB HB.size hd; replace hO1 := hO1.below hd; clear hd) | (go_at_call 41; (with_reducible refine (HE1.out _ _ _ _ _ hO2 hO1).mono ?_); rintro e w5 ⟨rfl, hd⟩; replace HB := bt HB HB.size hd; clear hd) | (go_at_call 37; (with_reducible refine (HU.out _ (hR.below HB)).mono ?_); rintro e w6 ⟨er, rfl, her, her2, hd⟩; replace HB := bt HB HB.size hd; clear hd))
    go_ret
    exact ⟨rfl, HB⟩
  · have HON := Lib.hid (fun W => one_no x W (by omega))
    clear h1
    go_enter Try.func10, Try.ntmps10
    go_wp2_with (first | (go_at_call 34; (with_reducible refine (awake_any _).mono ?_); rintro e w2 ⟨rfl, hd⟩; replace HB := bt HB HB.size hd; clear hd) | (go_at_call 35; (with_reducible refine (HFW.out _ (hR.below HB)).mono ?_); rintro e w2 ⟨rfl, rfl⟩) | (go_at_call 40; (with_reducible refine (HON.out _).mono ?_); rintro e w3 ⟨rfl, rfl⟩) | (go_at_call 37; (with_reducible refine (HU.out _ (hR.below HB)).mono ?_); rintro e w6 ⟨er, rfl, her, her2, hd⟩; replace HB := bt HB HB.size hd; clear hd))
    go_ret
    exact ⟨rfl, HB⟩
set_option maxRecDepth 100000 in
set_option maxHeartbeats 1000000 in
theorem lawtwice_yes (A : Option Addr) (n c x : Nat) (ls : List (List Nat)) (w : World) (hR : Base.Rows w A ls) (hl : ls.length = n) (hx : x ≤ 255) (hf : fewR ls = true) (hr : rightB ls = true) (hw : wid ls = n) (hF : Free n (fn ls)) :
    Calls Try.prog 10 #[.slice A n c, .int .u8 (x : Nat)] w fun e w' => e = .returned (.bool true) ∧ Below w.heap.size w w' := by
  have HB : Below w.heap.size w w := Below.refl _ _
  have hri := (right_iff ls).1 hr
  have hn1 : n ≤ 32 := by omega
  have h1n : 1 ≤ n := by omega
  have hrc := right_rect hr hR.le
  rw [hl, hw] at hrc
  have hq40 := (fewR_yes hf).2
  clear hri
  obtain ⟨b, off, rfl, hc⟩ := hR.block (by omega)
  have HFW := Lib.hid (fun W (h : Base.Rows W (some ⟨b, off, none⟩) ls) => few_any (some ⟨b, off, none⟩) n c ls W h hl)
  rw [hf] at HFW
  have HU := Lib.hid (fun W (h9 : Base.Rows W (some ⟨b, off, none⟩) ls) => undo_rows b off n c ls W h9 hl hr hw hF)
  have HU2 := Lib.hid (fun W b c O (h9 : Base.Rows W (some ⟨b, 0, none⟩) (tab n n O)) (h8 : Eqv n n (mm n O (fn ls)) dl ∧ Eqv n n (mm n (fn ls) O) dl) => undo_back b n c ls O W h9 h8 h1n hn1 hrc)
  have HEQ := Lib.hid (fun W A' c' (h9 : Base.Rows W (some ⟨b, off, none⟩) ls) (h8 : Base.Rows W A' ls) => equal_yes (some ⟨b, off, none⟩) A' n c c' ls W h9 h8 hl (by omega) (fun i hi => Nat.le_trans (hq40 i hi) (by omega)))
  clear hf hr hw hF hc hl hrc hq40
  by_cases h1 : 1 ≤ x ∧ x ≤ 32
  · have HON := Lib.hid (fun W => one_rows x W h1.1 h1.2)
    have HU1 := Lib.hid (fun W b c (h9 : Base.Rows W (some ⟨b, 0, none⟩) (tab x x dl)) => undo_one b x c W h9 h1.1 h1.2)
    have HE1 := Lib.hid (fun W A A' c c' (h9 : Base.Rows W A (tab x x dl)) (h8 : Base.Rows W A' (tab x x dl)) => equal_tab A A' x x c c' dl W h9 h8 (by omega) (by omega))
    clear h1
    go_enter Try.func10, Try.ntmps10
    go_wp2_with (first | (go_at_call 34; (with_reducible refine (awake_any _).mono ?_); rintro e w2 ⟨rfl, hd⟩; replace HB := bt HB HB.size hd; clear hd) | (go_at_call 35; (with_reducible refine (HFW.out _ (hR.below HB)).mono ?_); rintro e w2 ⟨rfl, rfl⟩) | (go_at_call 40; (with_reducible refine (HON.out _).mono ?_); rintro e w3 ⟨g1, cap1, rfl, hcap1, hO1, hd⟩; replace HB := bt HB HB.size hd; clear hd) | (go_at_call 37; (with_reducible refine (HU1.out _ _ _ hO1).mono ?_); rintro e w4 ⟨g2, cap2, rfl, hcap2, hO2, hd⟩; replace HB := bt HB HB.size hd; replace hO1 := hO1.below hd; clear hd) | (go_at_call 41; (with_reducible refine (HE1.out _ _ _ _ _ hO2 hO1).mono ?_); rintro e w5 ⟨rfl, hd⟩; replace HB := bt HB HB.size hd; clear hd) | (go_at_call 37; (with_reducible refine (HU.out _ (hR.below HB)).mono ?_); rintro e w6 ⟨g6, cap6, O, rfl, hcap6, hO, hE, hd⟩; replace HB := bt HB HB.size hd; clear hd; have HE := Lib.hid hE; clear hE) | (go_at_call 37; (with_reducible refine (HU2.out _ _ _ _ hO HE.out).mono ?_); rintro e w7 ⟨g7, cap7, rfl, hcap7, hC, hd⟩; replace HB := bt HB HB.size hd; clear hd) | (go_at_call 41; (with_reducible refine (HEQ.out _ _ _ (hR.below HB) hC).mono ?_); rintro e w8 ⟨rfl, hd⟩; replace HB := bt HB HB.size hd; clear hd))
    go_ret
    exact ⟨rfl, HB⟩
  · have HON := Lib.hid (fun W => one_no x W (by omega))
    clear h1
    go_enter Try.func10, Try.ntmps10
    go_wp2_with (first | (go_at_call 34; (with_reducible refine (awake_any _).mono ?_); rintro e w2 ⟨rfl, hd⟩; replace HB := bt HB HB.size hd; clear hd) | (go_at_call 35; (with_reducible refine (HFW.out _ (hR.below HB)).mono ?_); rintro e w2 ⟨rfl, rfl⟩) | (go_at_call 40; (with_reducible refine (HON.out _).mono ?_); rintro e w3 ⟨rfl, rfl⟩) | (go_at_call 37; (with_reducible refine (HU.out _ (hR.below HB)).mono ?_); rintro e w6 ⟨g6, cap6, O, rfl, hcap6, hO, hE, hd⟩; replace HB := bt HB HB.size hd; clear hd; have HE := Lib.hid hE; clear hE) | (go_at_call 37; (with_reducible refine (HU2.out _ _ _ _ hO HE.out).mono ?_); rintro e w7 ⟨g7, cap7, rfl, hcap7, hC, hd⟩; replace HB := bt HB HB.size hd; clear hd) | (go_at_call 41; (with_reducible refine (HEQ.out _ _ _ (hR.below HB) hC).mono ?_); rintro e w8 ⟨rfl, hd⟩; replace HB := bt HB HB.size hd; clear hd))
    go_ret
    exact ⟨rfl, HB⟩
theorem lawtwice (A : Option Addr) (n c x : Nat) (ls : List (List Nat)) (w : World) (hR : Base.Rows w A ls) (hl : ls.length = n) (hx : x ≤ 255) :
    Calls Try.prog 10 #[.slice A n c, .int .u8 (x : Nat)] w fun e w' => e = .returned (.bool true) ∧ Below w.heap.size w w' := by
  by_cases hf : fewR ls = true
  · by_cases hr : rightB ls = true ∧ wid ls = n ∧ Free n (fn ls)
    · exact lawtwice_yes A n c x ls w hR hl hx hf hr.1 hr.2.1 hr.2.2
    · exact lawtwice_bad A n c x ls w hR hl hx hf hr
  · exact lawtwice_far A n c x ls w hR hl (by simpa using hf)
end Go.Proofs.Ytalinkpfklhgaaa.RowsW
