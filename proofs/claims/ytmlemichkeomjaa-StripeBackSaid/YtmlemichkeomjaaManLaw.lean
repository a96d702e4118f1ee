/- The law StripeBack walked. -/
import Derived.Test.YtmlemichkeomjaaManT
import Derived.Test.YtmlemichkeomjaaStrpLaw1
import Derived.Test.YtmlemichkeomjaaM7
set_option linter.unusedVariables false
set_option linter.unusedSimpArgs false
namespace Go.Proofs.Ytmlemichkeomjaa.ManW
open Go.RowKit Go.Proofs.Ytmlemichkeomjaa.BuildW Go.Proofs.Ytmlemichkeomjaa.Base Go.Proofs.Ytmlemichkeomjaa.TapeP Go.Proofs.Ytmlemichkeomjaa.TapeW Go.Proofs.Ytmlemichkeomjaa.ManP Go.Proofs.Ytmlemichkeomjaa.MendW
theorem man_bytes {w : World} {m : Man} {A2 A3 A4 : Option Addr} {n2 c2 n3 c3 n4 c4 : Nat} (h : ManW w A2 n2 A3 n3 A4 n4 m) (hbig : (listL m).length ≤ 1000000) (h2 : n2 ≤ 1000000) (h3 : n3 ≤ 1000000) (h4 : n4 ≤ 1000000) :
    Calls Try.prog 13 #[.agg #[.int .i64 m.task, .int .i64 m.att, .slice A2 n2 c2, .slice A3 n3 c3, .slice A4 n4 c4]] w fun e w' => e = .returned (.string (str (bytesM m))) ∧ Below w.heap.size w w' :=
  bytes_any m A2 n2 c2 A3 n3 c3 A4 n4 c4 w h.i2 h.l2 h.i3 h.l3 h.i4 h.l4 hbig h2 (by omega) (by omega)
theorem man_same {w : World} {m : Man} {A2 A3 A4 B2 B3 B4 : Option Addr} {n2 c2 n3 c3 n4 c4 m2 d2 m3 d3 m4 d4 : Nat} (h : ManW w A2 n2 A3 n3 A4 n4 m) (k : ManW w B2 m2 B3 m3 B4 m4 m) (h2 : n2 ≤ 1000000) (h3 : n3 ≤ 1000000) (h4 : n4 ≤ 1000000) (hr : ∀ l ∈ m.hm, l.length ≤ 1000000) :
    Calls Try.prog 15 #[.agg #[.int .i64 m.task, .int .i64 m.att, .slice A2 n2 c2, .slice A3 n3 c3, .slice A4 n4 c4], .agg #[.int .i64 m.task, .int .i64 m.att, .slice B2 m2 d2, .slice B3 m3 d3, .slice B4 m4 d4]] w fun e w' => e = .returned (.bool true) ∧ Below w.heap.size w w' := by
  apply same_yes (sz1 := m.sz) (sz2 := m.sz) (sm1 := m.sm) (sm2 := m.sm) (hm1 := m.hm) (hm2 := m.hm) (hS1 := h.i2) (hs1 := h.l2) (hS2 := k.i2) (hs2 := k.l2) (hn2 := h2) (hU1 := h.i3) (hu1 := h.l3) (hU2 := k.i3) (hu2 := k.l3) (hn3 := h3) (hH1 := h.i4) (hl1 := h.l4) (hH2 := k.i4) (hl2 := k.l4) (hn4 := h4) (hr := fun i hi => hr _ (List.getElem_mem hi)) <;> rfl
theorem man_read {w : World} {s : ByteArray} {m : Man} {er : Nat} (hs : s.size ≤ 1000000000000) (hm : rman s.data.toList = (m, er)) :
    Calls Try.prog 14 #[.string s] w fun e w' => ∃ A2 c2 A3 c3 A4 c4, e = .returned (.tuple #[.agg #[.int .i64 m.task, .int .i64 m.att, .slice A2 m.sz.length c2, .slice A3 m.sm.length c3, .slice A4 m.hm.length c4], .int .i64 (er : Nat)]) ∧
      ManW w' A2 m.sz.length A3 m.sm.length A4 m.hm.length m ∧ Below w.heap.size w w' := by
  have h := read_any s w hs
  unfold ReadPost at h
  rw [hm] at h
  exact h
theorem man_none {w : World} {s : ByteArray} {er : Nat} (hs : s.size ≤ 1000000000000) (hm : rman s.data.toList = (noMan, er)) :
    Calls Try.prog 14 #[.string s] w fun e w' => ∃ A2 c2 A3 c3 A4 c4, e = .returned (.tuple #[.agg #[.int .i64 0, .int .i64 0, .slice A2 0 c2, .slice A3 0 c3, .slice A4 0 c4], .int .i64 (er : Nat)]) ∧ Below w.heap.size w w' :=
  (man_read hs hm).mono fun e w' ⟨A2, c2, A3, c3, A4, c4, h1, _, h3⟩ => ⟨A2, c2, A3, c3, A4, c4, h1, h3⟩
theorem rows_le (N q : Nat) : ∀ (A B : List Int) (H : List (List Int)), H.length ≤ N → (∀ l ∈ H, l.length ≤ q) → (rows A B H).length ≤ N * (q + 3) := by
  intro A B H
  induction H generalizing A B N with
  | nil => intro _ _; cases A <;> cases B <;> simp [rows]
  | cons h H ih =>
    intro hN hq
    obtain ⟨N, rfl⟩ : ∃ k, N = k + 1 := ⟨N - 1, by simp at hN; omega⟩
    have h1 := hq h (by simp)
    match A, B with
    | a :: A, b :: B =>
      have h2 := ih N A B (by simpa using hN) (fun l hl => hq l (by simp [hl]))
      simp only [rows, List.length_cons, List.length_append]
      rw [Nat.add_mul, Nat.one_mul]; omega
    | [], _ => simp [rows]
    | _ :: _, [] => simp [rows]
theorem back_len {s : List UInt8} {m : Man} (h : rman s = (m, 0)) : (listL m).length ≤ s.length := by
  obtain ⟨hF, hb, _⟩ := read_back h
  have := enc_length (listL m)
  rw [← hb, hF.bytes]
  exact this
theorem rows_row {q : Nat} : ∀ {A B : List Int} {H : List (List Int)}, (rows A B H).length ≤ q → B.length = A.length → H.length = A.length → ∀ l ∈ H, l.length ≤ q
  | a :: A, b :: B, h :: H, hq, h1, h2, l, hl => by
    simp only [rows, List.length_cons, List.length_append] at hq
    rcases List.mem_cons.1 hl with rfl | hl
    · omega
    · exact rows_row (A := A) (B := B) (H := H) (by omega) (by simpa using h1) (by simpa using h2) l hl
  | _, _, [], _, _, _, l, hl => by cases hl
  | [], _, _ :: _, _, _, h2, _, _ => by simp at h2
  | _ :: _, [], _ :: _, _, h1, _, _, _ => by simp at h1
theorem back_all {s : List UInt8} {m : Man} (h : rman s = (m, 0)) (hs : s.length ≤ 1500) : m.sz.length ≤ 1500 ∧ m.sm.length ≤ 1500 ∧ m.hm.length ≤ 1500 ∧ (∀ l ∈ m.hm, l.length ≤ 1500) ∧ (listL m).length ≤ 1500 := by
  obtain ⟨hF, hb, _⟩ := read_back h
  have h1 := back_len h
  have hsz : m.sz.length ≤ (rows m.sz m.sm m.hm).length := by
    have : ∀ (A B : List Int) (H : List (List Int)), B.length = A.length → H.length = A.length → A.length ≤ (rows A B H).length := by
      intro A
      induction A with
      | nil => intro B H _ _; exact Nat.zero_le _
      | cons x A ih =>
        intro B H h1 h2
        match B, H, h1, h2 with
        | b :: B, h :: H, h1, h2 =>
          have := ih B H (by simpa using h1) (by simpa using h2)
          simp only [rows, List.length_cons, List.length_append]; omega
    exact this _ _ _ hF.l3 hF.l4
  have h2 : (listL m).length = (rows m.sz m.sm m.hm).length + 3 := by simp [listL]
  have := hF.l3
  have := hF.l4
  exact ⟨by omega, by omega, by omega, rows_row (by omega) hF.l3 hF.l4, by omega⟩
set_option maxRecDepth 100000 in
set_option maxHeartbeats 4000000 in
theorem stripe_back (m : Man) (s : ByteArray) (A2 : Option Addr) (n2 c2 : Nat) (A3 : Option Addr) (n3 c3 : Nat) (A4 : Option Addr) (n4 c4 : Nat) (w : World) (hM : ManW w A2 n2 A3 n3 A4 n4 m) (hb : n2 ≤ 9223372036854775807 ∧ n3 ≤ 9223372036854775807 ∧ n4 ≤ 9223372036854775807) (hr : ∀ i (h : i < m.hm.length), m.hm[i].length ≤ 9223372036854775807) (hs : s.size ≤ 140737488351232) :
    Calls Try.prog 3 #[.agg #[.int .i64 m.task, .int .i64 m.att, .slice A2 n2 c2, .slice A3 n3 c3, .slice A4 n4 c4], .string s] w fun e w' => e = .returned (.bool true) ∧ Below w.heap.size w w' := by
  have HSM := Lib.hid (fun W (h : ManW W A2 n2 A3 n3 A4 n4 m) => small16_any m.task m.att A2 n2 c2 A3 n3 c3 A4 n4 c4 m.hm W h.i4 h.l4 hb hr)
  have HL4 := Lib.hid hM.l4
  clear hr
  go_enter Try.func3, Try.ntmps3
  go_upto_region 1 with fail
  have HX := ManBox.mk' w m.task m.att A2 n2 c2 A3 n3 c3 A4 n4 c4
  have HB : Below w.heap.size w (w.alloc (.cells #[.int .i64 m.task, .int .i64 m.att, .slice A2 n2 c2, .slice A3 n3 c3, .slice A4 n4 c4] 26)) := (Below.refl _ _).alloc (Nat.le_refl _) _
  generalize w.alloc (.cells #[.int .i64 m.task, .int .i64 m.att, .slice A2 n2 c2, .slice A3 n3 c3, .slice A4 n4 c4] 26) = W at HX HB ⊢
  replace hM := hM.below HB
  go_wp2_with fail
  with_reducible refine (StrpW.awake16_any _).mono ?_
  rintro e w2 ⟨rfl, hd⟩
  replace hM := hM.below hd
  replace HX := HX.below hd
  replace HB := bt HB HB.size hd; clear hd
  obtain ⟨q0, q1, q2, q3, q4⟩ := HX
  have HX : ManBox w2 w.heap.size m.task m.att A2 n2 c2 A3 n3 c3 A4 n4 c4 := ⟨q0, q1, q2, q3, q4⟩
  go_wp2_with fail
  with_reducible refine (HSM.out _ hM).mono ?_
  rintro e w3 ⟨r, rfl, hr, hd⟩
  replace hM := hM.below hd
  replace HX := HX.below hd
  replace HB := bt HB HB.size hd; clear hd
  clear q0 q1 q2 q3 q4
  rcases hr with rfl | ⟨rfl, hS⟩
  · go_wp2_with (go_at_call 11; (with_reducible refine (StrpW.awake16_any _).mono ?_); rintro e w9 ⟨rfl, hd⟩; replace HB := bt HB HB.size hd; clear hd)
    go_ret
    exact ⟨rfl, HB⟩
  · by_cases hz : 1500 < s.size
    · go_wp2_with (go_at_call 11; (with_reducible refine (StrpW.awake16_any _).mono ?_); rintro e w9 ⟨rfl, hd⟩; replace HB := bt HB HB.size hd; clear hd)
      go_ret
      exact ⟨rfl, HB⟩
    · obtain ⟨q0, q1, q2, q3, q4⟩ := HX
      have HX : ManBox w3 w.heap.size m.task m.att A2 n2 c2 A3 n3 c3 A4 n4 c4 := ⟨q0, q1, q2, q3, q4⟩
      have h4 : m.hm.length ≤ 30 := hS.homes
      have h2 := hS.size
      have h3 := hS.sum
      have hrow : ∀ l ∈ m.hm, l.length ≤ 30 := fun l hl => by
        obtain ⟨j, hj, rfl⟩ := List.mem_iff_getElem.1 hl
        exact hS.row j hj
      have hbig : (listL m).length ≤ 1000 := by
        have := rows_le 30 30 m.sz m.sm m.hm h4 hrow
        simp only [listL, List.length_cons]; omega
      have hl4 : n4 ≤ 30 := by have := HL4.out; omega
      go_wp2_with fail
      with_reducible refine (man_bytes hM (by omega) (by omega) (by omega) (by omega)).mono ?_
      rintro e w4 ⟨rfl, hd⟩
      replace hM := hM.below hd
      replace HX := HX.below hd
      replace HB := bt HB HB.size hd; clear hd
      clear q0 q1 q2 q3 q4 hS
      by_cases hbn : bytesM m = []
      · have t5 : ((str (bytesM m)).toList == []) = true := by rw [hbn, ByteArray.toList_eq]; rfl
        clear hbn hbig hrow
        obtain ⟨y, er, hy⟩ : ∃ y er, rman s.data.toList = (y, er) := ⟨_, _, rfl⟩
        by_cases he : er = 0
        · subst he
          have hb5 := back_all hy (by rw [list_size]; omega)
          have hbs := (read_back hy).2.1
          have HR := Lib.hid (fun W => man_read (w := W) (s := s) (by omega) hy)
          have heq : ((str (bytesM y)).toList == s.toList) = true := by rw [hbs, ByteArray.toList_eq, ByteArray.toList_eq, str_list]; simp
          have HBB := Lib.hid (fun W A2 c2 A3 c3 A4 c4 (h : ManW W A2 y.sz.length A3 y.sm.length A4 y.hm.length y) => man_bytes (c2 := c2) (c3 := c3) (c4 := c4) h (by omega) (by omega) (by omega) (by omega))
          clear hy hbs hb5
          go_wp2_with fail
          refine (HR.out _).mono ?_
          rintro e w5 ⟨A5, c5, A6, c6, A7, c7, rfl, hY, hd⟩
          replace HB := bt HB HB.size hd; clear hd
          have HZ := ManBox.mk' w5 y.task y.att A5 y.sz.length c5 A6 y.sm.length c6 A7 y.hm.length c7
          go_upto_region 9 with fail
          replace hY := hY.below ((Below.refl _ _).alloc (Nat.le_refl _) (.cells #[.int .i64 y.task, .int .i64 y.att, .slice A5 y.sz.length c5, .slice A6 y.sm.length c6, .slice A7 y.hm.length c7] 26))
          replace HB := HB.alloc HB.size (.cells #[.int .i64 y.task, .int .i64 y.att, .slice A5 y.sz.length c5, .slice A6 y.sm.length c6, .slice A7 y.hm.length c7] 26)
          generalize w5.alloc (.cells #[.int .i64 y.task, .int .i64 y.att, .slice A5 y.sz.length c5, .slice A6 y.sm.length c6, .slice A7 y.hm.length c7] 26) = W5 at HZ HB hY ⊢
          obtain ⟨z0, z1, z2, z3, z4⟩ := HZ
          go_wp2_with (go_at_call 13; (with_reducible refine (HBB.out _ _ _ _ _ _ _ hY).mono ?_); rintro e w6 ⟨rfl, hd⟩; replace HB := bt HB HB.size hd; clear hd)
          go_ret
          exact ⟨rfl, HB⟩
        · obtain rfl := read_none hy he
          have HR := Lib.hid (fun W => man_none (w := W) (s := s) (by omega) hy)
          have t1 : (((er : Nat) : Int) != 0) = true := int_bne (by omega)
          clear hy he
          go_wp2_with fail
          refine (HR.out _).mono ?_
          rintro e w5 ⟨A5, c5, A6, c6, A7, c7, rfl, hd⟩
          replace HB := bt HB HB.size hd; clear hd
          have HZ := ManBox.mk' w5 0 0 A5 0 c5 A6 0 c6 A7 0 c7
          go_upto_region 9 with fail
          replace HB := HB.alloc HB.size (.cells #[.int .i64 0, .int .i64 0, .slice A5 0 c5, .slice A6 0 c6, .slice A7 0 c7] 26)
          generalize w5.alloc (.cells #[.int .i64 0, .int .i64 0, .slice A5 0 c5, .slice A6 0 c6, .slice A7 0 c7] 26) = W5 at HZ HB ⊢
          obtain ⟨z0, z1, z2, z3, z4⟩ := HZ
          go_wp2
          go_ret
          exact ⟨rfl, HB⟩
      · have hF := fit_of hbn
        have t5 : ((str (bytesM m)).toList == []) = false := by rw [ByteArray.toList_eq, str_list, beq_eq_false_iff_ne]; exact hbn
        have hsz : (str (bytesM m)).size ≤ 8 * 1000 := by
          rw [str_size, hF.bytes]
          have := enc_le hF.ok
          omega
        have hrd : rman (str (bytesM m)).data.toList = (m, 0) := by
          rw [str_list, hF.bytes]
          exact read_there hF hM.i3.le
        have HR0 := Lib.hid (fun W => man_read (w := W) (s := str (bytesM m)) (by omega) hrd)
        have HSS := Lib.hid (fun W B2 d2 B3 d3 B4 d4 (h : ManW W B2 m.sz.length B3 m.sm.length B4 m.hm.length m) (k : ManW W A2 n2 A3 n3 A4 n4 m) => man_same (c2 := d2) (c3 := d3) (c4 := d4) (d2 := c2) (d3 := c3) (d4 := c4) h k (by have := k.l2; omega) (by have := k.l3; omega) (by omega) (fun l hl => by have := hrow l hl; omega))
        clear hrd hF hbn hbig
        go_wp2_with fail
        refine (HR0.out _).mono ?_
        rintro e w6 ⟨A5, c5, A6, c6, A7, c7, rfl, hY, hd⟩
        replace hM := hM.below hd
        replace HX := HX.below hd
        replace HB := bt HB HB.size hd; clear hd
        have HZ := ManBox.mk' w6 m.task m.att A5 m.sz.length c5 A6 m.sm.length c6 A7 m.hm.length c7
        go_upto_region 6 with fail
        have hd := (Below.refl w6.heap.size w6).alloc (Nat.le_refl _) (.cells #[.int .i64 m.task, .int .i64 m.att, .slice A5 m.sz.length c5, .slice A6 m.sm.length c6, .slice A7 m.hm.length c7] 26)
        replace hY := hY.below hd
        replace hM := hM.below hd
        replace HX := HX.below hd
        replace HB := bt HB HB.size hd; clear hd
        generalize w6.alloc (.cells #[.int .i64 m.task, .int .i64 m.att, .slice A5 m.sz.length c5, .slice A6 m.sm.length c6, .slice A7 m.hm.length c7] 26) = W6 at HZ HB hY hM HX ⊢
        obtain ⟨z0, z1, z2, z3, z4⟩ := HZ
        obtain ⟨q0, q1, q2, q3, q4⟩ := HX
        go_upto_region 8 with (go_at_call 15; (with_reducible refine (HSS.out _ _ _ _ _ _ _ hY hM).mono ?_); rintro e w7 ⟨rfl, hd⟩; replace HB := bt HB HB.size hd; clear hd)
        clear z0 z1 z2 z3 z4 q0 q1 q2 q3 q4 hY hM HSS HR0 hrow
        obtain ⟨y, er, hy⟩ : ∃ y er, rman s.data.toList = (y, er) := ⟨_, _, rfl⟩
        by_cases he : er = 0
        · subst he
          have hb5 := back_all hy (by rw [list_size]; omega)
          have hbs := (read_back hy).2.1
          have HR := Lib.hid (fun W => man_read (w := W) (s := s) (by omega) hy)
          have heq : ((str (bytesM y)).toList == s.toList) = true := by rw [hbs, ByteArray.toList_eq, ByteArray.toList_eq, str_list]; simp
          have HBB := Lib.hid (fun W A2 c2 A3 c3 A4 c4 (h : ManW W A2 y.sz.length A3 y.sm.length A4 y.hm.length y) => man_bytes (c2 := c2) (c3 := c3) (c4 := c4) h (by omega) (by omega) (by omega) (by omega))
          clear hy hbs hb5
          go_wp2_with fail
          refine (HR.out _).mono ?_
          rintro e w5 ⟨A5, c5, A6, c6, A7, c7, rfl, hY, hd⟩
          replace HB := bt HB HB.size hd; clear hd
          have HZ := ManBox.mk' w5 y.task y.att A5 y.sz.length c5 A6 y.sm.length c6 A7 y.hm.length c7
          go_upto_region 9 with fail
          replace hY := hY.below ((Below.refl _ _).alloc (Nat.le_refl _) (.cells #[.int .i64 y.task, .int .i64 y.att, .slice A5 y.sz.length c5, .slice A6 y.sm.length c6, .slice A7 y.hm.length c7] 26))
          replace HB := HB.alloc HB.size (.cells #[.int .i64 y.task, .int .i64 y.att, .slice A5 y.sz.length c5, .slice A6 y.sm.length c6, .slice A7 y.hm.length c7] 26)
          generalize w5.alloc (.cells #[.int .i64 y.task, .int .i64 y.att, .slice A5 y.sz.length c5, .slice A6 y.sm.length c6, .slice A7 y.hm.length c7] 26) = W5 at HZ HB hY ⊢
          obtain ⟨z0, z1, z2, z3, z4⟩ := HZ
          go_wp2_with (go_at_call 13; (with_reducible refine (HBB.out _ _ _ _ _ _ _ hY).mono ?_); rintro e w6 ⟨rfl, hd⟩; replace HB := bt HB HB.size hd; clear hd)
          go_ret
          exact ⟨rfl, HB⟩
        · obtain rfl := read_none hy he
          have HR := Lib.hid (fun W => man_none (w := W) (s := s) (by omega) hy)
          have t1 : (((er : Nat) : Int) != 0) = true := int_bne (by omega)
          clear hy he
          go_wp2_with fail
          refine (HR.out _).mono ?_
          rintro e w5 ⟨A5, c5, A6, c6, A7, c7, rfl, hd⟩
          replace HB := bt HB HB.size hd; clear hd
          have HZ := ManBox.mk' w5 0 0 A5 0 c5 A6 0 c6 A7 0 c7
          go_upto_region 9 with fail
          replace HB := HB.alloc HB.size (.cells #[.int .i64 0, .int .i64 0, .slice A5 0 c5, .slice A6 0 c6, .slice A7 0 c7] 26)
          generalize w5.alloc (.cells #[.int .i64 0, .int .i64 0, .slice A5 0 c5, .slice A6 0 c6, .slice A7 0 c7] 26) = W5 at HZ HB ⊢
          obtain ⟨z0, z1, z2, z3, z4⟩ := HZ
          go_wp2
          go_ret
          exact ⟨rfl, HB⟩
end Go.Proofs.Ytmlemichkeomjaa.ManW
