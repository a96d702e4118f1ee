/- slices.Clone of a row and rows.Pick walked. -/
import Derived.Test.YtalinkpfklhgaaaRowsPow
import Derived.WalkSpells
import Derived.Outline
set_option linter.unusedVariables false
set_option linter.unusedSimpArgs false
namespace Go.Proofs.Ytalinkpfklhgaaa.RowsW
open Go.RowKit Go.Proofs.Ytalinkpfklhgaaa.Base Go.Proofs.Ytalinkpfklhgaaa.GfP Go.Proofs.Ytalinkpfklhgaaa.GfW Go.Proofs.Ytalinkpfklhgaaa.Lin

/-- Bytes as values. -/
def lv (l : List Nat) : List Value := l.map fun x => Value.int .u8 ((x : Nat) : Int)
theorem lv_length (l : List Nat) : (lv l).length = l.length := by simp [lv]
theorem own_grown {w w' : World} {base e size n : Nat} {v : Value} {xs : List Value} {row : Option Nat} (h : w.ownsRow base e size v n xs) (hg : w.grownBy w' row) (hne : v.ownBlock = none ∨ v.ownBlock ≠ row) : w'.ownsRow base e size v n xs := by
  obtain ⟨hl, h0 | ⟨g, cap, cur, rfl, hb, hh, r⟩⟩ := h
  · exact ⟨hl, .inl h0⟩
  · have hlt : g < w.heap.size := by
      rcases Nat.lt_or_ge g w.heap.size with h1 | h1
      · exact h1
      · rw [Array.getElem?_eq_none h1] at hh; cases hh
    refine ⟨hl, .inr ⟨g, cap, cur, rfl, hb, (hg.block g hlt ?_).trans hh, r⟩⟩
    rcases hne with h1 | h1
    · simp [Value.ownBlock] at h1
    · exact h1
theorem own_ne_own {w : World} {b1 b2 e1 e2 s1 s2 n1 n2 : Nat} {v1 v2 : Value} {x1 x2 : List Value} (h1 : w.ownsRow b1 e1 s1 v1 n1 x1) (h2 : w.ownsRow b2 e2 s2 v2 n2 x2) (he : e1 ≠ e2) : v1.ownBlock = none ∨ v1.ownBlock ≠ v2.ownBlock := by
  rcases h1.2 with ⟨rfl, _⟩ | ⟨g, cap, cur, rfl, _, hg, _⟩
  · exact .inl rfl
  · right
    rcases h2.2 with ⟨rfl, _⟩ | ⟨g2, cap2, cur2, rfl, _, hg2, _⟩
    · simp [Value.ownBlock]
    · intro e
      obtain rfl : g = g2 := by simpa [Value.ownBlock] using e
      rw [hg] at hg2
      simp at hg2
      exact he hg2.2
theorem own_alloc {w : World} {base e size n : Nat} {v : Value} {xs : List Value} (h : w.ownsRow base e size v n xs) (o : Obj) : (w.alloc o).ownsRow base e size v n xs := h.alloc o
theorem own_below {w w' : World} {base e size n : Nat} {v : Value} {xs : List Value} (h : w.ownsRow base e size v n xs) (hb : Below w.heap.size w w') : w'.ownsRow base e size v n xs := by
  obtain ⟨hl, h0 | ⟨g, cap, cur, rfl, h1, hh, r⟩⟩ := h
  · exact ⟨hl, .inl h0⟩
  · have hlt : g < w.heap.size := by
      rcases Nat.lt_or_ge g w.heap.size with h1 | h1
      · exact h1
      · rw [Array.getElem?_eq_none h1] at hh; cases hh
    exact ⟨hl, .inr ⟨g, cap, cur, rfl, h1, (hb.block g hlt).trans hh, r⟩⟩
theorem own_row1 {w : World} {base e n : Nat} {v : Value} {l : List Nat} (h : w.ownsRow base e 1 v n (lv l)) (hle : ∀ x, x ∈ l → x ≤ 255) : ∃ A c, v = .slice A n c ∧ l.length = n ∧ Row1 w A l := by
  have hl : l.length = n := by have := h.1; rw [lv_length] at this; omega
  rcases h.2 with ⟨rfl, h0⟩ | ⟨g, cap, cur, rfl, hb, hg, _⟩
  · have : l = [] := List.eq_nil_of_length_eq_zero (by omega)
    subst this
    exact ⟨none, 0, by rw [h0], hl, Row1.nil _ _⟩
  · refine ⟨_, cap, rfl, hl, hle, Or.inr ⟨g, 0, rfl, fun i hi => ?_⟩⟩
    have hc := h.cells (g := g) rfl i (.int .u8 ((l.getD i 0 : Nat) : Int)) (by simp [lv, hi])
    have ha : (⟨g, 0, none⟩ : Addr).add i = ⟨g, 0 + i, none⟩ := by unfold Addr.add; split <;> simp_all
    rw [ha] at hc
    exact hc
theorem row1_news {w : World} {b off : Nat} {l : List Nat} (h : ∀ j, j < l.length → w.cell? ⟨b, off + j, none⟩ = some (.int .u8 ((l.getD j 0 : Nat) : Int))) : ∀ j u, (lv l)[j]? = some u → w.cell? ((⟨b, off, none⟩ : Addr).add j) = some u := by
  intro j u hj
  have hjl : j < l.length := by
    rcases Nat.lt_or_ge j l.length with h' | h'
    · exact h'
    · rw [List.getElem?_eq_none (by rw [lv_length]; exact h')] at hj; cases hj
  rw [show (⟨b, off, none⟩ : Addr).add j = ⟨b, off + j, none⟩ by cases j <;> simp [Addr.add], h j hjl]
  rw [← hj]
  simp [lv, hjl]
theorem lv_one (l : List Nat) : ∀ u ∈ lv l, u.oneCell' = true := fun u hu => by
  obtain ⟨x, _, rfl⟩ := List.mem_map.1 hu
  rfl
theorem own_form {w : World} {base e size n : Nat} {v : Value} {xs : List Value} (h : w.ownsRow base e size v n xs) (h0 : 0 < n) : ∃ g cap, v = .slice (some ⟨g, 0, none⟩) n cap := by
  rcases h.2 with ⟨_, h1⟩ | ⟨g, cap, cur, rfl, _⟩
  · omega
  · exact ⟨g, cap, rfl⟩
set_option maxRecDepth 100000 in
set_option maxHeartbeats 1000000 in
theorem clone_any (A : Option Addr) (n c : Nat) (l : List Nat) (w : World) (hR : Row1 w A l) (hl : l.length = n) (h0 : 0 < n) (hn : n ≤ 1000000) :
    Calls Try.prog 63 #[.slice A n c] w fun e w' => ∃ g cp, e = .returned (.slice (some ⟨g, 0, none⟩) n cp) ∧ w'.ownsRow w.heap.size 5 1 (.slice (some ⟨g, 0, none⟩) n cp) n (lv l) ∧ Below w.heap.size w w' := by
  obtain ⟨b, off, rfl, hc⟩ := hR.block (by omega)
  have hE := fun W => Lib.run_eql_slice_nil (P := Try.prog) W 29 5 (some ⟨b, off, none⟩) n c 0 0 Try.underlying29
  obtain ⟨i0, hi, hzz⟩ := Option.map_eq_some_iff.1 info_byte
  simp only [Prod.mk.injEq] at hzz
  obtain ⟨hz0, hz1, hz2⟩ := hzz
  have HO : (w.alloc (.cells #[] 5)).ownsRow w.heap.size 5 1 (.slice (some ⟨w.heap.size, 0, none⟩) 0 0) 0 [] := World.ownsRow_made w #[] 0 (Nat.le_refl _) (by unfold maxLen; omega) rfl
  have HN := Lib.hid (row1_news (w := w.alloc (.cells #[] 5)) (fun j hj => cell_alloc (hc j hj) _))
  clear hc hR
  go_enter Try.func63, Try.ntmps63
  go_wp2_with (at_builtin; refine wpList_append_own_at _ rfl (.tmp 5) (.tmp 6) 29 rfl w.heap.size 5 i0 (.int .u8 0) 1 1 Try.underlying29 hi hz0 hz1 hz2 rfl (by omega) (.slice (some ⟨w.heap.size, 0, none⟩) 0 0) 0 [] rfl HO ⟨b, off, none⟩ n c (lv l) rfl (by rw [lv_length]; omega) HN.out (lv_one l) (by simp only [maxLen]; omega) (by omega) (by simp) ?_; intro v1 w1 HO2 hg2 _ _)
  rw [Nat.zero_add, List.nil_append] at HO2
  obtain ⟨g, cp, rfl⟩ := own_form HO2 h0
  go_ret
  exact ⟨g, cp, rfl, HO2, ((Below.refl _ _).alloc (Nat.le_refl _) _).grown hg2 (by simp) (own_lo HO)⟩

theorem own_mono {w : World} {base base' e size n : Nat} {v : Value} {xs : List Value} (h : w.ownsRow base e size v n xs) (hb : base' ≤ base) : w.ownsRow base' e size v n xs :=
  ⟨h.1, h.2.imp id fun ⟨g, cap, cur, hv, hg, r⟩ => ⟨g, cap, cur, hv, Nat.le_trans hb hg, r⟩⟩
/-- What has been picked so far. -/
structure Picked (w0 w : World) (d : Value) (vs : List Value) (ms : List (List Nat)) : Prop where
  own : w.ownsRow w0.heap.size 29 1 d ms.length vs
  row : ∀ i (h : i < ms.length), ∃ v, vs[i]? = some v ∧ w.ownsRow 0 5 1 v ms[i].length (lv ms[i])
  le : ∀ i (h : i < ms.length), ∀ x, x ∈ ms[i] → x ≤ 255
  below : Below w0.heap.size w0 w
theorem Picked.start (w : World) : Picked w w (.slice none 0 0) [] [] := ⟨World.ownsRow_nil _ _ _ _, fun i h => by simp at h, fun i h => by simp at h, Below.refl _ _⟩
theorem Picked.step {w0 w W w1 : World} {d d1 v : Value} {vs : List Value} {ms : List (List Nat)} {l : List Nat} (h : Picked w0 w d vs ms) (hb : Below w.heap.size w W) (hv : W.ownsRow w.heap.size 5 1 v l.length (lv l)) (hle : ∀ x, x ∈ l → x ≤ 255)
    (ho : w1.ownsRow w0.heap.size 29 1 d1 (ms.length + 1) (vs ++ [v])) (hB : Below w0.heap.size w0 w1) (hg : W.grownBy w1 d.ownBlock) : Picked w0 w1 d1 (vs ++ [v]) (ms ++ [l]) := by
  have hvl : vs.length = ms.length := by have := h.own.1; omega
  refine ⟨by simpa using ho, fun i hi => ?_, fun i hi => ?_, hB⟩
  · by_cases e : i < ms.length
    · obtain ⟨u, hu, hou⟩ := h.row i e
      refine ⟨u, by rw [List.getElem?_append_left (by omega)]; exact hu, ?_⟩
      rw [List.getElem_append_left e]
      exact own_grown (own_below hou hb) hg (own_ne_own (own_below hou hb) (own_below h.own hb) (by decide))
    · obtain rfl : i = ms.length := by rw [List.length_append, List.length_singleton] at hi; omega
      refine ⟨v, by rw [← hvl]; simp, ?_⟩
      rw [List.getElem_append_right (Nat.le_refl _)]
      simp only [Nat.sub_self, List.getElem_cons_zero]
      exact own_mono (own_grown hv hg (own_ne_own hv (own_below h.own hb) (by decide))) (Nat.zero_le _)
  · by_cases e : i < ms.length
    · rw [List.getElem_append_left e]; exact h.le i e
    · obtain rfl : i = ms.length := by rw [List.length_append, List.length_singleton] at hi; omega
      rw [List.getElem_append_right (Nat.le_refl _)]
      simpa using hle
theorem Picked.rows {w0 w : World} {d : Value} {vs : List Value} {ms : List (List Nat)} (h : Picked w0 w d vs ms) : ∃ A c, d = .slice A ms.length c ∧ ms.length ≤ c ∧ Base.Rows w A ms := by
  rcases h.own.2 with ⟨rfl, h0⟩ | ⟨g, cap, cur, rfl, hb, hg, hc, _⟩
  · have : ms = [] := List.eq_nil_of_length_eq_zero h0
    subst this
    exact ⟨none, 0, rfl, Nat.le_refl _, Base.Rows.nil _ _⟩
  · refine ⟨_, cap, rfl, hc, ⟨Or.inr ⟨g, 0, rfl, fun j hj => ?_⟩⟩⟩
    obtain ⟨v, hv, hov⟩ := h.row j hj
    obtain ⟨A, c, rfl, _, hr⟩ := own_row1 hov (h.le j hj)
    have hcl := h.own.cells (g := g) rfl j _ hv
    have ha : (⟨g, 0, none⟩ : Addr).add j = ⟨g, 0 + j, none⟩ := by unfold Addr.add; split <;> simp_all
    rw [ha] at hcl
    exact ⟨A, c, hcl, hr⟩
theorem Picked.rows' {w0 w : World} {d : Value} {vs : List Value} {ms : List (List Nat)} {k : Nat} (h : Picked w0 w d vs ms) (hk : ms.length = k) : ∃ A c, d = .slice A k c ∧ k ≤ c ∧ Base.Rows w A ms := by
  subst hk
  exact h.rows
/-- The rows of those numbers. -/
def pickL (ls : List (List Nat)) (l : List Int) : List (List Nat) := l.map fun n => ls.getD n.toNat []
theorem pickL_length (ls : List (List Nat)) (l : List Int) : (pickL ls l).length = l.length := by simp [pickL]
theorem pickL_take (ls : List (List Nat)) (l : List Int) (k m : Nat) (h : k < l.length) (e : l[k] = (m : Int)) (hm : m < ls.length) : pickL ls (l.take (k + 1)) = pickL ls (l.take k) ++ [ls[m]] := by
  unfold pickL
  rw [List.take_succ_eq_append_getElem h, List.map_append, List.map_cons, List.map_nil, e]
  simp [List.getD_eq_getElem?_getD, List.getElem?_eq_getElem hm]
theorem pick_no (A A2 : Option Addr) (n c m c2 : Nat) (ls : List (List Nat)) (w : World) (hR : Base.Rows w A ls) (hl : ls.length = n) (hn : n ≤ 1000) (hw : wid ls ≤ 1000) (hm : m ≤ 1000000) (h : rightB ls = false ∨ ¬ (1 ≤ m ∧ m ≤ 32)) :
    Calls Try.prog 42 #[.slice A n c, .slice A2 m c2] w fun e w' => e = .returned (.tuple #[.slice none 0 0, .int .i64 1]) ∧ Below w.heap.size w w' := by
  obtain ⟨B, hB⟩ : ∃ B, rightB ls = B := ⟨_, rfl⟩
  have HR := right_any A n c ls w hR hl hn hw
  rw [hB] at h HR
  have HR := Lib.hid HR
  clear hB hR
  cases B with
  | false =>
    clear h
    go_enter Try.func42, Try.ntmps42
    go_wp2_with (go_at_call 46; (with_reducible refine (HR.out).mono ?_); rintro e w2 ⟨rfl, hd⟩)
    go_ret2
    exact ⟨rfl, hd⟩
  | true =>
    have hm2 : ¬ (1 ≤ m ∧ m ≤ 32) := by simpa using h
    have HF := Lib.hid (fun W => fits_no m W (by omega))
    clear h hm2
    go_enter Try.func42, Try.ntmps42
    go_wp2_with (first | (go_at_call 46; (with_reducible refine (HR.out).mono ?_); rintro e w2 ⟨rfl, hd⟩) | (go_at_call 62; (with_reducible refine (HF.out _).mono ?_); rintro e w3 ⟨rfl, rfl⟩))
    go_ret2
    exact ⟨rfl, hd⟩
def PickPost (w : World) (ls : List (List Nat)) (l : List Int) (n m : Nat) (e : Ending) (w' : World) : Prop :=
  (((∃ i, ∃ h : i < l.length, ¬ (0 ≤ l[i] ∧ l[i] < n)) ∧ e = .returned (.tuple #[.slice none 0 0, .int .i64 1])) ∨ ((∀ i (h : i < l.length), 0 ≤ l[i] ∧ l[i] < n) ∧ ∃ A' c', e = .returned (.tuple #[.slice A' m c', .int .i64 0]) ∧ m ≤ c' ∧ Base.Rows w' A' (pickL ls l))) ∧ Below w.heap.size w w'
set_option maxRecDepth 100000 in
set_option maxHeartbeats 1000000 in
theorem pick_any (A A2 : Option Addr) (n c m c2 : Nat) (ls : List (List Nat)) (l : List Int) (w : World) (hR : Base.Rows w A ls) (hI : Ints w A2 l) (hl : ls.length = n) (hl2 : l.length = m) (hr : rightB ls = true) (h1 : 1 ≤ m) (h2 : m ≤ 32) (q : Nat) (hw : wid ls = q) :
    Calls Try.prog 42 #[.slice A n c, .slice A2 m c2] w (PickPost w ls l n m) := by
  obtain ⟨q1, q2, q3, q4, q5⟩ := (right_iff ls).1 hr
  rw [hl] at q1 q2
  rw [hw] at q3 q4
  have HR := right_any A n c ls w hR hl (by omega) (by omega)
  rw [hr] at HR
  have HR := Lib.hid HR
  have HF := Lib.hid (fun W => fits_yes m W (by omega) (by omega))
  have HQ := Lib.hid (fun i (hi : i < ls.length) => (q5 i hi).trans hw)
  have HL := Lib.hid hl
  have HLE := Lib.hid hR.le
  clear q5 hw hr
  go_enter Try.func42, Try.ntmps42
  go_wp2_with (first | (go_at_call 46; (with_reducible refine (HR.out).mono ?_); rintro e w2 ⟨rfl, hd2⟩) | (go_at_call 62; (with_reducible refine (HF.out _).mono ?_); rintro e w3 ⟨rfl, rfl⟩))
  have HS : Picked w2 w2 (.slice none 0 0) [] [] := Picked.start w2
  go_loopw [6, 8, 20] (fun d _ i wr => ∃ (k : Nat) (vs : List Value), k ≤ m ∧ i = .int .i64 k ∧ Picked w2 wr d vs (pickL ls (l.take k)) ∧ ∀ j (hj : j < l.length), j < k → 0 ≤ l[j] ∧ l[j] < n) (fun _ _ i _ => m - (intOf i).toNat)
  case atStart => exact ⟨0, [], by omega, rfl, HS, fun j _ h => by omega⟩
  case round =>
    obtain ⟨k, vs, hk, rfl, HP, hall⟩ := hrel
    have HA := Lib.hid hall
    clear hall
    by_cases hlt : k < m
    · have hkl : k < l.length := by omega
      have HB := bt hd2 hd2.size HP.below
      obtain ⟨ib, io, rfl, hci⟩ := (hI.below HB).block (by omega)
      have hx := hci k hkl
      have hxr := hI.le l[k] (List.getElem_mem hkl)
      clear hci
      obtain ⟨x, hxe⟩ : ∃ x, x = l[k] := ⟨_, rfl⟩
      rw [← hxe] at hx hxr
      have HX := Lib.hid hxe
      clear hxe
      by_cases hx0 : x < 0
      · have hx0' : decide (x < 0) = true := by simp [hx0]
        go_wp2
        go_ret2
        unfold PickPost
        exact ⟨.inl ⟨⟨k, hkl, by rw [← HX.out]; omega⟩, rfl⟩, HB⟩
      · have hx0' : decide (x < 0) = false := by simp; omega
        by_cases hxn : (n : Int) ≤ x
        · have hxn' : decide ((n : Int) ≤ x) = true := by simp [hxn]
          go_wp2
          go_ret2
          unfold PickPost
          exact ⟨.inl ⟨⟨k, hkl, by rw [← HX.out]; omega⟩, rfl⟩, HB⟩
        · have hxn' : decide ((n : Int) ≤ x) = false := by simp; omega
          obtain ⟨i, hi⟩ := Int.eq_ofNat_of_zero_le (show 0 ≤ x by omega)
          subst hi
          have hin : i < n := by omega
          have hil : i < ls.length := by have := HL.out; omega
          obtain ⟨b, off, rfl, hc⟩ := (hR.below HB).block (by have := HL.out; omega)
          obtain ⟨B1, c1, hcell, hrow⟩ := hc i hil
          clear hc
          have hq := HQ.out i hil
          rw [hq] at hcell
          have HCL := Lib.hid (clone_any B1 q c1 ls[i] wr hrow hq (by omega) (by omega))
          rw [← hq] at HCL
          have HT := Lib.hid (pickL_take ls l k i hkl HX.out.symm hil)
          have HQI := Lib.hid hq
          have hlen : (pickL ls (l.take k)).length = k := by rw [pickL_length, List.length_take]; omega
          have HO1 := HP.own
          rw [hlen] at HO1
          have hvl : vs.length = k := by have := HO1.1; omega
          have HLEN := Lib.hid hlen
          clear hq hlen hx0 hxn hrow
          go_wp2_with (first | (go_at_call 63; rw [← HQI.out]; (with_reducible refine (HCL.out).mono ?_); rintro e w4 ⟨vg, vc, rfl, hv, hd4⟩; have HO3 := own_below HO1 hd4; have HB3 := bt HP.below HP.below.size hd4) | (at_builtin; refine app_one w2.heap.size rfl (.tmp 32) (.tmp 38) 40 29 (.slice none 0 0) 24 rfl Try.underlying40 info_row rfl (by omega) _ vs _ k hvl rfl rfl rfl HO3 HB3 HB3.size (by omega) ?_; intro v1 w1 HO2 HB2 hg2))
          go_roundw
          case rel =>
            rw [← HLEN.out] at HO2
            have HP2 := HP.step hd4 hv (HLE.out i hil) HO2 HB2 hg2
            rw [← HT.out] at HP2
            refine ⟨k + 1, _, by omega, by go_num, HP2, fun j hj hjk => ?_⟩
            rcases Nat.lt_or_ge j k with h | h
            · exact HA.out j hj h
            · obtain rfl : j = k := by omega
              rw [← HX.out]
              omega
          case measure => simp [intOf]; omega
    · obtain rfl : k = m := by omega
      have HT : l.take k = l := List.take_of_length_le (by omega)
      rw [HT] at HP
      obtain ⟨A', c', rfl, h3, h4⟩ := HP.rows' (k := k) (by rw [pickL_length]; exact hl2)
      have HB := bt hd2 hd2.size HP.below
      go_wp2
      go_ret2
      unfold PickPost
      exact ⟨.inr ⟨fun i h => HA.out i h (by omega), A', c', rfl, h3, h4⟩, HB⟩
end Go.Proofs.Ytalinkpfklhgaaa.RowsW
