/- The law RowsPicks walked. -/
import Derived.Test.YtalinkpfklhgaaaRowsLaw3
set_option linter.unusedVariables false
set_option linter.unusedSimpArgs false
namespace Go.Proofs.Ytalinkpfklhgaaa.RowsW
open Go.RowKit Go.Proofs.Ytalinkpfklhgaaa.Base Go.Proofs.Ytalinkpfklhgaaa.GfP Go.Proofs.Ytalinkpfklhgaaa.GfW Go.Proofs.Ytalinkpfklhgaaa.GfR Go.Proofs.Ytalinkpfklhgaaa.Lin

/-- The rows that are wanted, so far: slices of what came in. -/
structure Wanted (w0 w : World) (d : Value) (vs : List Value) (ms : List (List Nat)) : Prop where
  own : w.ownsRow w0.heap.size 29 1 d ms.length vs
  row : ∀ i (h : i < ms.length), ∃ B c, vs[i]? = some (.slice B ms[i].length c) ∧ Row1 w0 B ms[i]
  below : Below w0.heap.size w0 w
theorem Wanted.start (w : World) : Wanted w w (.slice none 0 0) [] [] := ⟨World.ownsRow_nil _ _ _ _, fun i h => by simp at h, Below.refl _ _⟩
theorem Wanted.step {w0 w w1 : World} {d d1 : Value} {vs : List Value} {ms : List (List Nat)} {l : List Nat} {B : Option Addr} {c : Nat} (h : Wanted w0 w d vs ms) (hr : Row1 w0 B l)
    (ho : w1.ownsRow w0.heap.size 29 1 d1 (ms.length + 1) (vs ++ [.slice B l.length c])) (hB : Below w0.heap.size w0 w1) : Wanted w0 w1 d1 (vs ++ [.slice B l.length c]) (ms ++ [l]) := by
  have hvl : vs.length = ms.length := by have := h.own.1; omega
  refine ⟨by simpa using ho, fun i hi => ?_, hB⟩
  by_cases e : i < ms.length
  · obtain ⟨B', c', hu, hr'⟩ := h.row i e
    rw [List.getElem_append_left e]
    exact ⟨B', c', by rw [List.getElem?_append_left (by omega)]; exact hu, hr'⟩
  · obtain rfl : i = ms.length := by rw [List.length_append, List.length_singleton] at hi; omega
    rw [List.getElem_append_right (Nat.le_refl _)]
    simp only [Nat.sub_self, List.getElem_cons_zero]
    exact ⟨B, c, by rw [← hvl]; simp, hr⟩
theorem Wanted.rows {w0 w : World} {d : Value} {vs : List Value} {ms : List (List Nat)} {k : Nat} (h : Wanted w0 w d vs ms) (hk : ms.length = k) : ∃ A c, d = .slice A k c ∧ Base.Rows w A ms := by
  subst hk
  rcases h.own.2 with ⟨rfl, h0⟩ | ⟨g, cap, cur, rfl, hb, hg, hc, _⟩
  · have : ms = [] := List.eq_nil_of_length_eq_zero h0
    subst this
    exact ⟨none, 0, rfl, Base.Rows.nil _ _⟩
  · refine ⟨_, cap, rfl, ⟨Or.inr ⟨g, 0, rfl, fun j hj => ?_⟩⟩⟩
    obtain ⟨A, c, hv, hr⟩ := h.row j hj
    have hcl := h.own.cells (g := g) rfl j _ hv
    have ha : (⟨g, 0, none⟩ : Addr).add j = ⟨g, 0 + j, none⟩ := by unfold Addr.add; split <;> simp_all
    rw [ha] at hcl
    exact ⟨A, c, hcl, hr.below h.below⟩
section
variable (A A2 : Option Addr) (n c m c2 : Nat) (ls : List (List Nat)) (l : List Int) (w : World)
set_option maxRecDepth 100000 in
set_option maxHeartbeats 1000000 in
theorem lawpick_far (hR : Base.Rows w A ls) (hl : ls.length = n) (h : fewR ls = false ∨ 60 < m) (hm : m ≤ 9223372036854775807) :
    Calls Try.prog 11 #[.slice A n c, .slice A2 m c2] w fun e w' => e = .returned (.bool true) ∧ Below w.heap.size w w' := by
  have HB : Below w.heap.size w w := Below.refl _ _
  have HFW := fun W (h : Base.Rows W A ls) => few_any A n c ls W h hl
  by_cases hf : fewR ls = true
  · have h6 : 60 < m := h.resolve_left (by rw [hf]; simp)
    have e6 : decide ((60 : Int) < m) = true := by simp; omega
    rw [hf] at HFW
    have HFW := Lib.hid HFW
    clear hf h
    go_enter Try.func11, Try.ntmps11
    go_wp2_with (first | (go_at_call 34; (with_reducible refine (awake_any _).mono ?_); rintro e w2 ⟨rfl, hd⟩; replace HB := bt HB HB.size hd; clear hd) | (go_at_call 35; (with_reducible refine (HFW.out _ (hR.below HB)).mono ?_); rintro e w2 ⟨rfl, rfl⟩))
    go_ret
    exact ⟨rfl, HB⟩
  · have hf : fewR ls = false := by simpa using hf
    rw [hf] at HFW
    have HFW := Lib.hid HFW
    clear hf h
    go_enter Try.func11, Try.ntmps11
    go_wp2_with (first | (go_at_call 34; (with_reducible refine (awake_any _).mono ?_); rintro e w2 ⟨rfl, hd⟩; replace HB := bt HB HB.size hd; clear hd) | (go_at_call 35; (with_reducible refine (HFW.out _ (hR.below HB)).mono ?_); rintro e w2 ⟨rfl, rfl⟩))
    go_ret
    exact ⟨rfl, HB⟩
set_option maxRecDepth 100000 in
set_option maxHeartbeats 1000000 in
theorem lawpick_no (hR : Base.Rows w A ls) (hl : ls.length = n) (hf : fewR ls = true) (hm : m ≤ 60) (h : rightB ls = false ∨ ¬ (1 ≤ m ∧ m ≤ 32)) :
    Calls Try.prog 11 #[.slice A n c, .slice A2 m c2] w fun e w' => e = .returned (.bool true) ∧ Below w.heap.size w w' := by
  have HB : Below w.heap.size w w := Below.refl _ _
  have hn := (fewR_yes hf).1
  have hq := fewR_wid hf
  have HFW := Lib.hid (fun W (h : Base.Rows W A ls) => few_any A n c ls W h hl)
  rw [hf] at HFW
  have e6 : decide ((60 : Int) < m) = false := by simp; omega
  have HRR := fun W (h : Base.Rows W A ls) => rright A n c ls W h hl (by omega)
  have HP := Lib.hid (fun W (h9 : Base.Rows W A ls) => pick_no A A2 n c m c2 ls W h9 hl (by omega) (by omega) (by omega) h)
  generalize rightB ls = B at h HRR
  clear hf hn hq
  cases B with
  | false =>
    have HRR := Lib.hid HRR
    clear h
    go_enter Try.func11, Try.ntmps11
    go_wp2_with (first | (go_at_call 34; (with_reducible refine (awake_any _).mono ?_); rintro e w2 ⟨rfl, hd⟩; replace HB := bt HB HB.size hd; clear hd) | (go_at_call 35; (with_reducible refine (HFW.out _ (hR.below HB)).mono ?_); rintro e w2 ⟨rfl, rfl⟩) | (go_at_call 38; (with_reducible refine (HRR.out _ (hR.below HB)).mono ?_); rintro e w0 ⟨rfl, hd⟩; (try replace hP := hP.below hd); replace HB := bt HB HB.size hd; clear hd) | (go_at_call 42; (with_reducible refine (HP.out _ (hR.below HB)).mono ?_); rintro e w2 ⟨rfl, hd⟩; replace HB := bt HB HB.size hd; clear hd))
    go_ret
    exact ⟨rfl, HB⟩
  | true =>
    have h2 : ¬ (1 ≤ m ∧ m ≤ 32) := by simpa using h
    have HRR := Lib.hid HRR
    clear h
    by_cases h3 : m < 1
    · have e7 : decide ((m : Int) < 1) = true := by simp; omega
      obtain rfl : m = 0 := by omega
      clear h2
      go_enter Try.func11, Try.ntmps11
      go_wp2_with (first | (go_at_call 34; (with_reducible refine (awake_any _).mono ?_); rintro e w2 ⟨rfl, hd⟩; replace HB := bt HB HB.size hd; clear hd) | (go_at_call 35; (with_reducible refine (HFW.out _ (hR.below HB)).mono ?_); rintro e w2 ⟨rfl, rfl⟩) | (go_at_call 38; (with_reducible refine (HRR.out _ (hR.below HB)).mono ?_); rintro e w0 ⟨rfl, hd⟩; (try replace hP := hP.below hd); replace HB := bt HB HB.size hd; clear hd) | (go_at_call 42; (with_reducible refine (HP.out _ (hR.below HB)).mono ?_); rintro e w2 ⟨rfl, hd⟩; replace HB := bt HB HB.size hd; clear hd))
      go_ret
      exact ⟨rfl, HB⟩
    · have e7 : decide ((m : Int) < 1) = false := by simp; omega
      have e8 : decide ((32 : Int) < m) = true := by simp; omega
      clear h2
      go_enter Try.func11, Try.ntmps11
      go_wp2_with (first | (go_at_call 34; (with_reducible refine (awake_any _).mono ?_); rintro e w2 ⟨rfl, hd⟩; replace HB := bt HB HB.size hd; clear hd) | (go_at_call 35; (with_reducible refine (HFW.out _ (hR.below HB)).mono ?_); rintro e w2 ⟨rfl, rfl⟩) | (go_at_call 38; (with_reducible refine (HRR.out _ (hR.below HB)).mono ?_); rintro e w0 ⟨rfl, hd⟩; (try replace hP := hP.below hd); replace HB := bt HB HB.size hd; clear hd) | (go_at_call 42; (with_reducible refine (HP.out _ (hR.below HB)).mono ?_); rintro e w2 ⟨rfl, hd⟩; replace HB := bt HB HB.size hd; clear hd))
      go_ret
      exact ⟨rfl, HB⟩
theorem pickL_le {ls : List (List Nat)} {l : List Int} {q : Nat} (h : ∀ i (hi : i < ls.length), ls[i].length ≤ q) : ∀ i (hi : i < (pickL ls l).length), (pickL ls l)[i].length ≤ q := by
  intro i hi
  obtain ⟨x, _, hx⟩ := List.mem_map.1 (List.getElem_mem hi)
  rw [← hx, List.getD_eq_getElem?_getD]
  cases h9 : ls[x.toNat]? with
  | none => simp
  | some r =>
    obtain ⟨h4, h5⟩ := List.getElem?_eq_some_iff.1 h9
    have := h _ h4
    rw [h5] at this
    simpa using this
theorem pick_bad (hR : Base.Rows w A ls) (hI : Ints w A2 l) (hl : ls.length = n) (hl2 : l.length = m) (hr : rightB ls = true) (h1 : 1 ≤ m) (h2 : m ≤ 32) (hbd : ¬ ∀ i (h : i < l.length), 0 ≤ l[i] ∧ l[i] < n) :
    Calls Try.prog 42 #[.slice A n c, .slice A2 m c2] w fun e w' => e = .returned (.tuple #[.slice none 0 0, .int .i64 1]) ∧ Below w.heap.size w w' := by
  refine (pick_any A A2 n c m c2 ls l w hR hI hl hl2 hr h1 h2 _ rfl).mono ?_
  rintro e w' ⟨⟨_, h⟩ | ⟨h, _⟩, hb⟩
  · exact ⟨h, hb⟩
  · exact absurd h hbd
theorem pick_good (hR : Base.Rows w A ls) (hI : Ints w A2 l) (hl : ls.length = n) (hl2 : l.length = m) (hr : rightB ls = true) (h1 : 1 ≤ m) (h2 : m ≤ 32) (hbd : ∀ i (h : i < l.length), 0 ≤ l[i] ∧ l[i] < n) :
    Calls Try.prog 42 #[.slice A n c, .slice A2 m c2] w fun e w' => ∃ A' c', e = .returned (.tuple #[.slice A' m c', .int .i64 0]) ∧ Base.Rows w' A' (pickL ls l) ∧ Below w.heap.size w w' := by
  refine (pick_any A A2 n c m c2 ls l w hR hI hl hl2 hr h1 h2 _ rfl).mono ?_
  rintro e w' ⟨⟨⟨i, h, h3⟩, _⟩ | ⟨_, A', c', h3, _, h4⟩, hb⟩
  · exact absurd (hbd i h) h3
  · exact ⟨A', c', h3, h4, hb⟩
set_option maxRecDepth 100000 in
set_option maxHeartbeats 1000000 in
theorem lawpick_bad (hR : Base.Rows w A ls) (hI : Ints w A2 l) (hl : ls.length = n) (hl2 : l.length = m) (hf : fewR ls = true) (hr : rightB ls = true) (h1 : 1 ≤ m) (h2 : m ≤ 32) (hbd : ¬ ∀ i (h : i < l.length), 0 ≤ l[i] ∧ l[i] < n) :
    Calls Try.prog 11 #[.slice A n c, .slice A2 m c2] w fun e w' => e = .returned (.bool true) ∧ Below w.heap.size w w' := by
  have HB : Below w.heap.size w w := Below.refl _ _
  have hn := (fewR_yes hf).1
  have hq40 := (fewR_yes hf).2
  have hn' : n ≤ 40 := by omega
  have HFW := Lib.hid (fun W (h : Base.Rows W A ls) => few_any A n c ls W h hl)
  rw [hf] at HFW
  have e6 : decide ((60 : Int) < m) = false := by simp; omega
  have e7 : decide ((m : Int) < 1) = false := by simp; omega
  have e8 : decide ((32 : Int) < m) = false := by simp; omega
  have HRR := Lib.hid (fun W (h : Base.Rows W A ls) => rright A n c ls W h hl (by omega))
  rw [hr] at HRR
  have HP := Lib.hid (fun W (h9 : Base.Rows W A ls) (h8 : Ints W A2 l) => pick_bad A A2 n c m c2 ls l W h9 h8 hl hl2 hr h1 h2 hbd)
  have HE := Lib.hid (fun W A A' c c' (h9 : Base.Rows W A (pickL ls l)) (h8 : Base.Rows W A' (pickL ls l)) => equal_yes A A' m c c' _ W h9 h8 (by rw [pickL_length]; exact hl2) (by omega) (fun i hi => pickL_le (q := 1000) (fun i hi => Nat.le_trans (hq40 i hi) (by omega)) i hi))
  have HBD := Lib.hid hbd
  have HL := Lib.hid hl
  clear hf hr hn hq40 hbd
  go_enter Try.func11, Try.ntmps11
  go_wp2_with (first | (go_at_call 34; (with_reducible refine (awake_any _).mono ?_); rintro e w2 ⟨rfl, hd⟩; replace HB := bt HB HB.size hd; clear hd) | (go_at_call 35; (with_reducible refine (HFW.out _ (hR.below HB)).mono ?_); rintro e w2 ⟨rfl, rfl⟩) | (go_at_call 38; (with_reducible refine (HRR.out _ (hR.below HB)).mono ?_); rintro e w0 ⟨rfl, hd⟩; (try replace hP := hP.below hd); replace HB := bt HB HB.size hd; clear hd) | (go_at_call 42; (with_reducible refine (HP.out _ (hR.below HB) (hI.below HB)).mono ?_); rintro e w2 ⟨rfl, hd⟩; replace HB := bt HB HB.size hd; clear hd))
  go_loopw [7, 8] (fun d i wr => ∃ (k : Nat) (vs : List Value), k ≤ m ∧ i = .int .i64 k ∧ Wanted w0 wr d vs (pickL ls (l.take k)) ∧ ∀ j (hj : j < l.length), j < k → 0 ≤ l[j] ∧ l[j] < n) (fun _ i _ => m - (intOf i).toNat)
  case atStart => exact ⟨0, [], by omega, rfl, Wanted.start _, fun j _ h => by omega⟩
  case round =>
    obtain ⟨k, vs, hk, rfl, HW, hall⟩ := hrel
    have HA := Lib.hid hall
    clear hall
    by_cases hlt : k < m
    · have hkl : k < l.length := by omega
      have HB2 := bt HB HB.size HW.below
      obtain ⟨ib, io, rfl, hci⟩ := (hI.below HB2).block (by omega)
      have hx := hci k hkl
      clear hci
      obtain ⟨x, hxe⟩ : ∃ x, x = l[k] := ⟨_, rfl⟩
      rw [← hxe] at hx
      have hxr := hI.le l[k] (List.getElem_mem hkl)
      rw [← hxe] at hxr
      have HX := Lib.hid hxe
      clear hxe
      by_cases hx0 : x < 0
      · have hx0' : decide (x < 0) = true := by simp [hx0]
        go_wp2
        go_ret
        exact ⟨rfl, HB2⟩
      have hx0' : decide (x < 0) = false := by simp; omega
      by_cases hxn : (n : Int) ≤ x
      · have hxn' : decide ((n : Int) ≤ x) = true := by simp [hxn]
        go_wp2
        go_ret
        exact ⟨rfl, HB2⟩
      have hxn' : decide ((n : Int) ≤ x) = false := by simp; omega
      obtain ⟨i, hi⟩ := Int.eq_ofNat_of_zero_le (show 0 ≤ x by omega)
      subst hi
      have hin : i < n := by omega
      have hil : i < ls.length := by have := HL.out; omega
      obtain ⟨b, off, rfl, hc⟩ := (hR.below HB).block (by have := HL.out; omega)
      obtain ⟨B1, cc1, hcell0, hrow⟩ := hc i hil
      clear hc
      have hcell := cell_below HW.below hcell0
      have HT := Lib.hid (pickL_take ls l k i hkl HX.out.symm hil)
      have hlen : (pickL ls (l.take k)).length = k := by rw [pickL_length, List.length_take]; omega
      have HO1 := HW.own
      rw [hlen] at HO1
      have HB3 := HW.below
      have hvl : vs.length = k := by have := HO1.1; omega
      have HLEN := Lib.hid hlen
      clear hx0 hxn hlen hcell0
      go_wp2_with (at_builtin; refine app_one w0.heap.size rfl (.tmp 75) (.tmp 83) 40 29 (.slice none 0 0) 24 rfl Try.underlying40 info_row rfl (by omega) _ vs _ k hvl rfl rfl rfl HO1 HB3 HB3.size (by omega) ?_; intro v1 w1 HO2 HB4 hg2)
      go_roundw
      case rel =>
        rw [← HLEN.out] at HO2
        have HW2 := HW.step hrow HO2 HB4
        rw [← HT.out] at HW2
        refine ⟨k + 1, _, by omega, by go_num, HW2, fun j hj hjk => ?_⟩
        rcases Nat.lt_or_ge j k with h | h
        · exact HA.out j hj h
        · obtain rfl : j = k := by omega
          rw [← HX.out]
          omega
      case measure => simp [intOf]; omega
    · obtain rfl : k = m := by omega
      exact absurd (fun i (h : i < l.length) => HA.out i h (by omega)) HBD.out
set_option maxRecDepth 100000 in
set_option maxHeartbeats 1000000 in
theorem lawpick_good (hR : Base.Rows w A ls) (hI : Ints w A2 l) (hl : ls.length = n) (hl2 : l.length = m) (hf : fewR ls = true) (hr : rightB ls = true) (h1 : 1 ≤ m) (h2 : m ≤ 32) (hbd : ∀ i (h : i < l.length), 0 ≤ l[i] ∧ l[i] < n) :
    Calls Try.prog 11 #[.slice A n c, .slice A2 m c2] w fun e w' => e = .returned (.bool true) ∧ Below w.heap.size w w' := by
  have HB : Below w.heap.size w w := Below.refl _ _
  have hn := (fewR_yes hf).1
  have hq40 := (fewR_yes hf).2
  have hn' : n ≤ 40 := by omega
  have HFW := Lib.hid (fun W (h : Base.Rows W A ls) => few_any A n c ls W h hl)
  rw [hf] at HFW
  have e6 : decide ((60 : Int) < m) = false := by simp; omega
  have e7 : decide ((m : Int) < 1) = false := by simp; omega
  have e8 : decide ((32 : Int) < m) = false := by simp; omega
  have HRR := Lib.hid (fun W (h : Base.Rows W A ls) => rright A n c ls W h hl (by omega))
  rw [hr] at HRR
  have HP := Lib.hid (fun W (h9 : Base.Rows W A ls) (h8 : Ints W A2 l) => pick_good A A2 n c m c2 ls l W h9 h8 hl hl2 hr h1 h2 hbd)
  have HE := Lib.hid (fun W A A' c c' (h9 : Base.Rows W A (pickL ls l)) (h8 : Base.Rows W A' (pickL ls l)) => equal_yes A A' m c c' _ W h9 h8 (by rw [pickL_length]; exact hl2) (by omega) (fun i hi => pickL_le (q := 1000) (fun i hi => Nat.le_trans (hq40 i hi) (by omega)) i hi))
  have HBD := Lib.hid hbd
  have HL := Lib.hid hl
  clear hf hr hn hq40 hbd
  go_enter Try.func11, Try.ntmps11
  go_wp2_with (first | (go_at_call 34; (with_reducible refine (awake_any _).mono ?_); rintro e w2 ⟨rfl, hd⟩; replace HB := bt HB HB.size hd; clear hd) | (go_at_call 35; (with_reducible refine (HFW.out _ (hR.below HB)).mono ?_); rintro e w2 ⟨rfl, rfl⟩) | (go_at_call 38; (with_reducible refine (HRR.out _ (hR.below HB)).mono ?_); rintro e w0 ⟨rfl, hd⟩; (try replace hP := hP.below hd); replace HB := bt HB HB.size hd; clear hd) | (go_at_call 42; (with_reducible refine (HP.out _ (hR.below HB) (hI.below HB)).mono ?_); rintro e w2 ⟨A6, c6, rfl, hP, hd⟩; replace HB := bt HB HB.size hd; clear hd))
  go_loopw [7, 8] (fun d i wr => ∃ (k : Nat) (vs : List Value), k ≤ m ∧ i = .int .i64 k ∧ Wanted w0 wr d vs (pickL ls (l.take k)) ∧ ∀ j (hj : j < l.length), j < k → 0 ≤ l[j] ∧ l[j] < n) (fun _ i _ => m - (intOf i).toNat)
  case atStart => exact ⟨0, [], by omega, rfl, Wanted.start _, fun j _ h => by omega⟩
  case round =>
    obtain ⟨k, vs, hk, rfl, HW, hall⟩ := hrel
    have HA := Lib.hid hall
    clear hall
    by_cases hlt : k < m
    · have hkl : k < l.length := by omega
      have HB2 := bt HB HB.size HW.below
      obtain ⟨ib, io, rfl, hci⟩ := (hI.below HB2).block (by omega)
      have hx := hci k hkl
      clear hci
      obtain ⟨x, hxe⟩ : ∃ x, x = l[k] := ⟨_, rfl⟩
      rw [← hxe] at hx
      have hxr := hI.le l[k] (List.getElem_mem hkl)
      rw [← hxe] at hxr
      have HX := Lib.hid hxe
      clear hxe
      by_cases hx0 : x < 0
      · have hx0' : decide (x < 0) = true := by simp [hx0]
        exact absurd (HBD.out k hkl) (by rw [← HX.out]; omega)
      have hx0' : decide (x < 0) = false := by simp; omega
      by_cases hxn : (n : Int) ≤ x
      · have hxn' : decide ((n : Int) ≤ x) = true := by simp [hxn]
        exact absurd (HBD.out k hkl) (by rw [← HX.out]; omega)
      have hxn' : decide ((n : Int) ≤ x) = false := by simp; omega
      obtain ⟨i, hi⟩ := Int.eq_ofNat_of_zero_le (show 0 ≤ x by omega)
      subst hi
      have hin : i < n := by omega
      have hil : i < ls.length := by have := HL.out; omega
      obtain ⟨b, off, rfl, hc⟩ := (hR.below HB).block (by have := HL.out; omega)
      obtain ⟨B1, cc1, hcell0, hrow⟩ := hc i hil
      clear hc
      have hcell := cell_below HW.below hcell0
      have HT := Lib.hid (pickL_take ls l k i hkl HX.out.symm hil)
      have hlen : (pickL ls (l.take k)).length = k := by rw [pickL_length, List.length_take]; omega
      have HO1 := HW.own
      rw [hlen] at HO1
      have HB3 := HW.below
      have hvl : vs.length = k := by have := HO1.1; omega
      have HLEN := Lib.hid hlen
      clear hx0 hxn hlen hcell0
      go_wp2_with (at_builtin; refine app_one w0.heap.size rfl (.tmp 75) (.tmp 83) 40 29 (.slice none 0 0) 24 rfl Try.underlying40 info_row rfl (by omega) _ vs _ k hvl rfl rfl rfl HO1 HB3 HB3.size (by omega) ?_; intro v1 w1 HO2 HB4 hg2)
      go_roundw
      case rel =>
        rw [← HLEN.out] at HO2
        have HW2 := HW.step hrow HO2 HB4
        rw [← HT.out] at HW2
        refine ⟨k + 1, _, by omega, by go_num, HW2, fun j hj hjk => ?_⟩
        rcases Nat.lt_or_ge j k with h | h
        · exact HA.out j hj h
        · obtain rfl : j = k := by omega
          rw [← HX.out]
          omega
      case measure => simp [intOf]; omega
    · obtain rfl : k = m := by omega
      have HT : l.take k = l := List.take_of_length_le (by omega)
      rw [HT] at HW
      obtain ⟨A', c', rfl, h4⟩ := HW.rows (k := k) (by rw [pickL_length]; omega)
      replace hP := hP.below HW.below
      go_wp2_with (go_at_call 41; (with_reducible refine (HE.out _ _ _ _ _ hP h4).mono ?_); rintro e w8 ⟨rfl, hd⟩)
      go_ret
      exact ⟨rfl, bt (bt HB HB.size HW.below) (bt HB HB.size HW.below).size hd⟩
theorem lawpick (hR : Base.Rows w A ls) (hI : Ints w A2 l) (hl : ls.length = n) (hl2 : l.length = m) (hm : m ≤ 9223372036854775807) :
    Calls Try.prog 11 #[.slice A n c, .slice A2 m c2] w fun e w' => e = .returned (.bool true) ∧ Below w.heap.size w w' := by
  by_cases hf : fewR ls = true ∧ m ≤ 60
  · by_cases hr : rightB ls = true ∧ 1 ≤ m ∧ m ≤ 32
    · by_cases hb : ∀ i (h : i < l.length), 0 ≤ l[i] ∧ l[i] < n
      · exact lawpick_good A A2 n c m c2 ls l w hR hI hl hl2 hf.1 hr.1 hr.2.1 hr.2.2 hb
      · exact lawpick_bad A A2 n c m c2 ls l w hR hI hl hl2 hf.1 hr.1 hr.2.1 hr.2.2 hb
    · refine lawpick_no A A2 n c m c2 ls w hR hl hf.1 hf.2 ?_
      by_cases hr2 : rightB ls = true
      · exact .inr fun h => hr ⟨hr2, h⟩
      · exact .inl (by simpa using hr2)
  · refine lawpick_far A A2 n c m c2 ls w hR hl ?_ hm
    by_cases hf2 : fewR ls = true
    · exact .inr (by have : ¬ m ≤ 60 := fun h => hf ⟨hf2, h⟩; omega)
    · exact .inl (by simpa using hf2)
end
end Go.Proofs.Ytalinkpfklhgaaa.RowsW
