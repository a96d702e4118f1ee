/- The law RowsSing walked. -/
import Derived.Test.YtalinkpfklhgaaaRowsRank2
set_option linter.unusedVariables false
set_option linter.unusedSimpArgs false
namespace Go.Proofs.Ytalinkpfklhgaaa.RowsW
open Go.RowKit Go.Proofs.Ytalinkpfklhgaaa.Base Go.Proofs.Ytalinkpfklhgaaa.GfP Go.Proofs.Ytalinkpfklhgaaa.GfW Go.Proofs.Ytalinkpfklhgaaa.GfR Go.Proofs.Ytalinkpfklhgaaa.Lin

theorem rank_free (A : Option Addr) (n c : Nat) (ls : List (List Nat)) (w : World) (hR : Base.Rows w A ls) (hl : ls.length = n) (h0 : 0 < n) (hn : n ≤ 1000) (hq : ∀ i (h : i < ls.length), ls[i].length = n) (hF : Free n (fn ls)) :
    Calls Try.prog 39 #[.slice A n c] w fun e w' => e = .returned (.int .i64 (n : Nat)) ∧ Below w.heap.size w w' := by
  refine (rank_any A n c ls w hR hl h0 hn hq).mono ?_
  rintro e w' ⟨⟨k, h1, ⟨rfl, _⟩ | ⟨_, h2⟩⟩, hb⟩
  · exact ⟨h1, hb⟩
  · exact absurd hF h2
theorem rank_sing (A : Option Addr) (n c : Nat) (ls : List (List Nat)) (w : World) (hR : Base.Rows w A ls) (hl : ls.length = n) (h0 : 0 < n) (hn : n ≤ 1000) (hq : ∀ i (h : i < ls.length), ls[i].length = n) (hF : ¬ Free n (fn ls)) :
    Calls Try.prog 39 #[.slice A n c] w fun e w' => ∃ k : Nat, e = .returned (.int .i64 (k : Nat)) ∧ (((k : Nat) : Int) == ((n : Nat) : Int)) = false ∧ Below w.heap.size w w' := by
  refine (rank_any A n c ls w hR hl h0 hn hq).mono ?_
  rintro e w' ⟨⟨k, h1, ⟨_, h2⟩ | ⟨h2, _⟩⟩, hb⟩
  · exact absurd h2 hF
  · exact ⟨k, h1, int_ne (by omega), hb⟩
theorem undo_freeE (b off n c : Nat) (ls : List (List Nat)) (w : World) (hR : Base.Rows w (some ⟨b, off, none⟩) ls) (hl : ls.length = n) (hr : rightB ls = true) (hw : wid ls = n) (hF : Free n (fn ls)) :
    Calls Try.prog 37 #[.slice (some ⟨b, off, none⟩) n c] w fun e w' => ∃ v, e = .returned (.tuple #[v, .int .i64 0]) ∧ Below w.heap.size w w' :=
  (undo_rows b off n c ls w hR hl hr hw hF).mono fun e w' ⟨g, cap, O, h1, _, _, _, h2⟩ => ⟨_, h1, h2⟩
section
variable (A : Option Addr) (n c : Nat) (ls : List (List Nat)) (w : World)
set_option maxRecDepth 100000 in
set_option maxHeartbeats 1000000 in
theorem lawsing_far (hR : Base.Rows w A ls) (hl : ls.length = n) (hf : fewR ls = false) :
    Calls Try.prog 9 #[.slice A n c] w fun e w' => e = .returned (.bool true) ∧ Below w.heap.size w w' := by
  have HB : Below w.heap.size w w := Below.refl _ _
  have HFW := Lib.hid (fun W (h : Base.Rows W A ls) => few_any A n c ls W h hl)
  rw [hf] at HFW
  clear hf
  go_enter Try.func9, Try.ntmps9
  go_wp2_with (first | (go_at_call 34; (with_reducible refine (awake_any _).mono ?_); rintro e w2 ⟨rfl, hd⟩; (try replace g2 := cell_below hd g2); replace HB := bt HB HB.size hd; clear hd) | (go_at_call 35; (with_reducible refine (HFW.out _ (hR.below HB)).mono ?_); rintro e w2 ⟨rfl, rfl⟩))
  go_ret
  exact ⟨rfl, HB⟩
set_option maxRecDepth 100000 in
set_option maxHeartbeats 1000000 in
theorem lawsing_far2 (hR : Base.Rows w A ls) (hl : ls.length = n) (hf : fewR ls = true) (hs : smallR ls = false) :
    Calls Try.prog 9 #[.slice A n c] w fun e w' => e = .returned (.bool true) ∧ Below w.heap.size w w' := by
  have HB : Below w.heap.size w w := Below.refl _ _
  have HFW := Lib.hid (fun W (h : Base.Rows W A ls) => few_any A n c ls W h hl)
  rw [hf] at HFW
  have HSM := Lib.hid (fun W (h : Base.Rows W A ls) => small_any A n c ls W h hl hf)
  rw [hs] at HSM
  clear hf hs
  go_enter Try.func9, Try.ntmps9
  go_wp2_with (first | (go_at_call 34; (with_reducible refine (awake_any _).mono ?_); rintro e w2 ⟨rfl, hd⟩; (try replace g2 := cell_below hd g2); replace HB := bt HB HB.size hd; clear hd) | (go_at_call 35; (with_reducible refine (HFW.out _ (hR.below HB)).mono ?_); rintro e w2 ⟨rfl, rfl⟩) | (go_at_call 36; (with_reducible refine (HSM.out _ (hR.below HB)).mono ?_); rintro e w2 ⟨rfl, rfl⟩))
  go_ret
  exact ⟨rfl, HB⟩
set_option maxRecDepth 100000 in
set_option maxHeartbeats 1000000 in
theorem lawsing_no (hR : Base.Rows w A ls) (hl : ls.length = n) (hf : fewR ls = true) (hs : smallR ls = true) (hr : rightB ls = false) :
    Calls Try.prog 9 #[.slice A n c] w fun e w' => e = .returned (.bool true) ∧ Below w.heap.size w w' := by
  have HB : Below w.heap.size w w := Below.refl _ _
  have hn := (fewR_yes hf).1
  have hq := fewR_wid hf
  have HFW := Lib.hid (fun W (h : Base.Rows W A ls) => few_any A n c ls W h hl)
  rw [hf] at HFW
  have HSM := Lib.hid (fun W (h : Base.Rows W A ls) => small_any A n c ls W h hl hf)
  rw [hs] at HSM
  have HRR := Lib.hid (fun W (h : Base.Rows W A ls) => rright A n c ls W h hl (by omega))
  rw [hr] at HRR
  have HU := Lib.hid (fun W (h : Base.Rows W A ls) => undo_no A n c ls W h hl (by omega) (by omega) (.inl hr))
  clear hf hs hr hn hq
  go_enter Try.func9, Try.ntmps9
  go_wp2_with (first | (go_at_call 34; (with_reducible refine (awake_any _).mono ?_); rintro e w2 ⟨rfl, hd⟩; (try replace g2 := cell_below hd g2); replace HB := bt HB HB.size hd; clear hd) | (go_at_call 35; (with_reducible refine (HFW.out _ (hR.below HB)).mono ?_); rintro e w2 ⟨rfl, rfl⟩) | (go_at_call 36; (with_reducible refine (HSM.out _ (hR.below HB)).mono ?_); rintro e w2 ⟨rfl, rfl⟩) | (go_at_call 38; (with_reducible refine (HRR.out _ (hR.below HB)).mono ?_); rintro e w2 ⟨rfl, hd⟩; (try replace g2 := cell_below hd g2); replace HB := bt HB HB.size hd; clear hd) | (go_at_call 37; (with_reducible refine (HU.out _ (hR.below HB)).mono ?_); rintro e w2 ⟨rfl, hd⟩; (try replace g2 := cell_below hd g2); replace HB := bt HB HB.size hd; clear hd))
  go_ret
  exact ⟨rfl, HB⟩
set_option maxRecDepth 100000 in
set_option maxHeartbeats 1000000 in
theorem lawsing_wide (hR : Base.Rows w A ls) (hl : ls.length = n) (hf : fewR ls = true) (hs : smallR ls = true) (hr : rightB ls = true) (q : Nat) (hw : wid ls = q) (hne : q ≠ n) :
    Calls Try.prog 9 #[.slice A n c] w fun e w' => e = .returned (.bool true) ∧ Below w.heap.size w w' := by
  have HB : Below w.heap.size w w := Below.refl _ _
  have hn := (fewR_yes hf).1
  have hq := fewR_wid hf
  have h0l := ((right_iff ls).1 hr).1
  obtain ⟨b, off, rfl, hc⟩ := hR.block (by omega)
  obtain ⟨B0, c0, g2, hx⟩ := hc 0 (by omega)
  clear hx
  rw [Nat.add_zero, ← wid_of (by omega), hw] at g2
  have HFW := Lib.hid (fun W (h : Base.Rows W (some ⟨b, off, none⟩) ls) => few_any (some ⟨b, off, none⟩) n c ls W h hl)
  rw [hf] at HFW
  have HSM := Lib.hid (fun W (h : Base.Rows W (some ⟨b, off, none⟩) ls) => small_any (some ⟨b, off, none⟩) n c ls W h hl hf)
  rw [hs] at HSM
  have HRR := Lib.hid (fun W (h : Base.Rows W (some ⟨b, off, none⟩) ls) => rright (some ⟨b, off, none⟩) n c ls W h hl (by omega))
  rw [hr] at HRR
  have HU := Lib.hid (fun W (h : Base.Rows W (some ⟨b, off, none⟩) ls) => undo_no (some ⟨b, off, none⟩) n c ls W h hl (by omega) (by omega) (.inr (by rw [hw]; exact hne)))
  have z0 : (0 : Int) < n := by omega
  have e1 : (((n : Nat) : Int) != ((q : Nat) : Int)) = true := int_bne (by omega)
  clear hf hs hr hn hq hc hw
  go_enter Try.func9, Try.ntmps9
  go_wp2_with (first | (go_at_call 34; (with_reducible refine (awake_any _).mono ?_); rintro e w2 ⟨rfl, hd⟩; (try replace g2 := cell_below hd g2); replace HB := bt HB HB.size hd; clear hd) | (go_at_call 35; (with_reducible refine (HFW.out _ (hR.below HB)).mono ?_); rintro e w2 ⟨rfl, rfl⟩) | (go_at_call 36; (with_reducible refine (HSM.out _ (hR.below HB)).mono ?_); rintro e w2 ⟨rfl, rfl⟩) | (go_at_call 38; (with_reducible refine (HRR.out _ (hR.below HB)).mono ?_); rintro e w2 ⟨rfl, hd⟩; (try replace g2 := cell_below hd g2); replace HB := bt HB HB.size hd; clear hd) | (go_at_call 37; (with_reducible refine (HU.out _ (hR.below HB)).mono ?_); rintro e w2 ⟨rfl, hd⟩; (try replace g2 := cell_below hd g2); replace HB := bt HB HB.size hd; clear hd))
  go_ret
  exact ⟨rfl, HB⟩
set_option maxRecDepth 100000 in
set_option maxHeartbeats 1000000 in
theorem lawsing_sq (hR : Base.Rows w A ls) (hl : ls.length = n) (hf : fewR ls = true) (hs : smallR ls = true) (hr : rightB ls = true) (hw : wid ls = n) :
    Calls Try.prog 9 #[.slice A n c] w fun e w' => e = .returned (.bool true) ∧ Below w.heap.size w w' := by
  have HB : Below w.heap.size w w := Below.refl _ _
  have hn := (fewR_yes hf).1
  have hn' : n ≤ 40 := by omega
  have h0l := ((right_iff ls).1 hr).1
  have h5 := ((right_iff ls).1 hr).2.2.2.2
  have hq5 : ∀ i (h : i < ls.length), ls[i].length = n := fun i h => (h5 i h).trans hw
  obtain ⟨b, off, rfl, hc⟩ := hR.block (by omega)
  obtain ⟨B0, c0, g2, hx⟩ := hc 0 (by omega)
  clear hx
  rw [Nat.add_zero, ← wid_of (by omega), hw] at g2
  have HFW := Lib.hid (fun W (h : Base.Rows W (some ⟨b, off, none⟩) ls) => few_any (some ⟨b, off, none⟩) n c ls W h hl)
  rw [hf] at HFW
  have HSM := Lib.hid (fun W (h : Base.Rows W (some ⟨b, off, none⟩) ls) => small_any (some ⟨b, off, none⟩) n c ls W h hl hf)
  rw [hs] at HSM
  have HRR := Lib.hid (fun W (h : Base.Rows W (some ⟨b, off, none⟩) ls) => rright (some ⟨b, off, none⟩) n c ls W h hl (by omega))
  rw [hr] at HRR
  have z0 : (0 : Int) < n := by omega
  have e1 : (((n : Nat) : Int) != ((n : Nat) : Int)) = false := int_beq rfl
  have e2 : (((n : Nat) : Int) == ((n : Nat) : Int)) = true := int_eq rfl
  by_cases hF : Free n (fn ls)
  · have HU := Lib.hid (fun W (h : Base.Rows W (some ⟨b, off, none⟩) ls) => undo_freeE b off n c ls W h hl hr hw hF)
    have HK := Lib.hid (fun W (h : Base.Rows W (some ⟨b, off, none⟩) ls) => rank_free (some ⟨b, off, none⟩) n c ls W h hl (by omega) (by omega) hq5 hF)
    clear hf hs hr hn hc hw h5 hq5 hF
    go_enter Try.func9, Try.ntmps9
    go_wp2_with (first | (go_at_call 34; (with_reducible refine (awake_any _).mono ?_); rintro e w2 ⟨rfl, hd⟩; (try replace g2 := cell_below hd g2); replace HB := bt HB HB.size hd; clear hd) | (go_at_call 35; (with_reducible refine (HFW.out _ (hR.below HB)).mono ?_); rintro e w2 ⟨rfl, rfl⟩) | (go_at_call 36; (with_reducible refine (HSM.out _ (hR.below HB)).mono ?_); rintro e w2 ⟨rfl, rfl⟩) | (go_at_call 38; (with_reducible refine (HRR.out _ (hR.below HB)).mono ?_); rintro e w2 ⟨rfl, hd⟩; (try replace g2 := cell_below hd g2); replace HB := bt HB HB.size hd; clear hd) | (go_at_call 37; (with_reducible refine (HU.out _ (hR.below HB)).mono ?_); rintro e w2 ⟨v, rfl, hd⟩; (try replace g2 := cell_below hd g2); replace HB := bt HB HB.size hd; clear hd) | (go_at_call 39; (with_reducible refine (HK.out _ (hR.below HB)).mono ?_); rintro e w2 ⟨rfl, hd⟩; (try replace g2 := cell_below hd g2); replace HB := bt HB HB.size hd; clear hd))
    go_ret
    exact ⟨rfl, HB⟩
  · have HU := Lib.hid (fun W (h : Base.Rows W (some ⟨b, off, none⟩) ls) => undo_sing b off n c ls W h hl hr hw hF)
    have HK := Lib.hid (fun W (h : Base.Rows W (some ⟨b, off, none⟩) ls) => rank_sing (some ⟨b, off, none⟩) n c ls W h hl (by omega) (by omega) hq5 hF)
    clear hf hs hr hn hc hw h5 hq5 hF
    go_enter Try.func9, Try.ntmps9
    go_wp2_with (first | (go_at_call 34; (with_reducible refine (awake_any _).mono ?_); rintro e w2 ⟨rfl, hd⟩; (try replace g2 := cell_below hd g2); replace HB := bt HB HB.size hd; clear hd) | (go_at_call 35; (with_reducible refine (HFW.out _ (hR.below HB)).mono ?_); rintro e w2 ⟨rfl, rfl⟩) | (go_at_call 36; (with_reducible refine (HSM.out _ (hR.below HB)).mono ?_); rintro e w2 ⟨rfl, rfl⟩) | (go_at_call 38; (with_reducible refine (HRR.out _ (hR.below HB)).mono ?_); rintro e w2 ⟨rfl, hd⟩; (try replace g2 := cell_below hd g2); replace HB := bt HB HB.size hd; clear hd) | (go_at_call 37; (with_reducible refine (HU.out _ (hR.below HB)).mono ?_); rintro e w2 ⟨rfl, hd⟩; (try replace g2 := cell_below hd g2); replace HB := bt HB HB.size hd; clear hd) | (go_at_call 39; (with_reducible refine (HK.out _ (hR.below HB)).mono ?_); rintro e w2 ⟨k, rfl, hkn, hd⟩; (try replace g2 := cell_below hd g2); replace HB := bt HB HB.size hd; clear hd))
    go_ret
    exact ⟨rfl, HB⟩
theorem lawsing (hR : Base.Rows w A ls) (hl : ls.length = n) :
    Calls Try.prog 9 #[.slice A n c] w fun e w' => e = .returned (.bool true) ∧ Below w.heap.size w w' := by
  by_cases hf : fewR ls = true
  · by_cases hs : smallR ls = true
    · by_cases hr : rightB ls = true
      · by_cases hw : wid ls = n
        · exact lawsing_sq A n c ls w hR hl hf hs hr hw
        · exact lawsing_wide A n c ls w hR hl hf hs hr _ rfl hw
      · exact lawsing_no A n c ls w hR hl hf hs (by simpa using hr)
    · exact lawsing_far2 A n c ls w hR hl hf (by simpa using hs)
  · exact lawsing_far A n c ls w hR hl (by simpa using hf)
end
end Go.Proofs.Ytalinkpfklhgaaa.RowsW
