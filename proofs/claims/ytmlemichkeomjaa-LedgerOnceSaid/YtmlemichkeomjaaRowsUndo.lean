/- rows.Undo walked. -/
import Derived.Test.YtmlemichkeomjaaM2
import Derived.BigRegion
import Derived.Outline
set_option linter.unusedVariables false
set_option linter.unusedSimpArgs false
namespace Go.Proofs.Ytmlemichkeomjaa.RowsW
open Go.RowKit Go.Proofs.Ytmlemichkeomjaa.Base Go.Proofs.Ytmlemichkeomjaa.GfP Go.Proofs.Ytmlemichkeomjaa.GfW Go.Proofs.Ytmlemichkeomjaa.Lin

theorem info_byte_size : (Try.prog.info? 5).map (·.size) = some 1 := by kernel_rfl
/-- What Undo answers of square rows. -/
def UndoPost (w : World) (A : M) (n : Nat) (e : Ending) (w' : World) : Prop :=
  ((Free n A ∧ ∃ g cap bs O, e = .returned (.tuple #[.slice (some ⟨g, 0, none⟩) n cap, .int .i64 0]) ∧ n ≤ cap ∧ Mat w' w.heap.size g n n bs O ∧ Eqv n n (mm n O A) dl ∧ Eqv n n (mm n A O) dl) ∨
    (¬ Free n A ∧ e = .returned (.tuple #[.slice none 0 0, .int .i64 4]))) ∧ Below w.heap.size w w'
/-- The first k rows have been copied. -/
def cpTo (A : M) (k : Nat) : M := fun i j => if i < k then A i j else 0
theorem cpTo_step (A : M) (n q k : Nat) : Eqv n q (fun i => if i = k then A k else cpTo A k i) (cpTo A (k + 1)) := by
  intro i _ j _
  by_cases e : i = k
  · subst e; simp [cpTo]
  · simp only [if_neg e]
    unfold cpTo
    by_cases h : i < k
    · rw [if_pos h, if_pos (by omega)]
    · rw [if_neg h, if_neg (by omega)]
/-- What holds each time at the label. -/
structure UndoAt (w wr : World) (A : M) (n c fb g cap h hcap : Nat) (bs cs : Nat → Nat) (W O : M) (lo : Nat) : Prop where
  cn : c ≤ n
  two : Two wr lo g h n bs cs W O
  inv : Inv n c A W O
  field : FieldIn wr fb
  flo : fb < lo
  lo : w.heap.size ≤ lo
  below : Below w.heap.size w wr
  hc : n ≤ hcap
set_option maxRecDepth 100000 in
def UndoJ (w : World) (b off n cp : Nat) (A : M) (a' : Act) (wr : World) : Prop :=
  ∃ (c fb g cap h hcap : Nat) (bs cs : Nat → Nat) (W O : M) (lo : Nat) (us : Nat → Value), UndoAt w wr A n c fb g cap h hcap bs cs W O lo ∧
    a' = { tmps := #[.slice (some ⟨b, off, none⟩) n cp, us 1, us 2, us 3, .pointer (some ⟨fb, 0, none⟩), .int .i64 (n : Nat), .slice (some ⟨h, 0, none⟩) n hcap, us 7, .slice (some ⟨g, 0, none⟩) n cap, us 9, .int .i64 (c : Nat), us 11, us 12, us 13, us 14, us 15, us 16, us 17, us 18, us 19, us 20, us 21, us 22, us 23, us 24, us 25, us 26, us 27, us 28, us 29, us 30, us 31, us 32, us 33, us 34, us 35, us 36, us 37, us 38, us 39, us 40, us 41, us 42, us 43, us 44, us 45, us 46, us 47, us 48, us 49, us 50, us 51, us 52, us 53, us 54, us 55, us 56, us 57, us 58, us 59, us 60, us 61, us 62, us 63, us 64, us 65, us 66, us 67, us 68, us 69, us 70, us 71, us 72, us 73, us 74, us 75, us 76, us 77, us 78, us 79, us 80, us 81, us 82, us 83, us 84, us 85, us 86, us 87, us 88, us 89, us 90, us 91, us 92, us 93, us 94, us 95, us 96, us 97, us 98, us 99, us 100, us 101, us 102, us 103, us 104, us 105, us 106, us 107, us 108, us 109, us 110, us 111, us 112, us 113, us 114, us 115, us 116, us 117, us 118, us 119, us 120, us 121, us 122, us 123, us 124, us 125, us 126, us 127, us 128, us 129, us 130, us 131, us 132, us 133, us 134, us 135, us 136, us 137, us 138, us 139, us 140, us 141, us 142, us 143, us 144, us 145, us 146, us 147, us 148, us 149, us 150, us 151, us 152, us 153, us 154, us 155, us 156, us 157, us 158, us 159, us 160, us 161, us 162, us 163, us 164, us 165, us 166, us 167, us 168], defers := [] }
theorem arr_eta (a : Array Value) : a = ((List.range a.size).map fun i => a.getD i undef).toArray := by
  apply Array.ext
  · simp
  · intro i h1 h2
    simp [Array.getD, h1]
set_option maxRecDepth 100000 in
theorem frame169 (t : Array Value) (hs : t.size = 169) : t = #[t.getD 0 undef, t.getD 1 undef, t.getD 2 undef, t.getD 3 undef, t.getD 4 undef, t.getD 5 undef, t.getD 6 undef, t.getD 7 undef, t.getD 8 undef, t.getD 9 undef, t.getD 10 undef, t.getD 11 undef, t.getD 12 undef, t.getD 13 undef, t.getD 14 undef, t.getD 15 undef, t.getD 16 undef, t.getD 17 undef, t.getD 18 undef, t.getD 19 undef, t.getD 20 undef, t.getD 21 undef, t.getD 22 undef, t.getD 23 undef, t.getD 24 undef, t.getD 25 undef, t.getD 26 undef, t.getD 27 undef, t.getD 28 undef, t.getD 29 undef, t.getD 30 undef, t.getD 31 undef, t.getD 32 undef, t.getD 33 undef, t.getD 34 undef, t.getD 35 undef, t.getD 36 undef, t.getD 37 undef, t.getD 38 undef, t.getD 39 undef, t.getD 40 undef, t.getD 41 undef, t.getD 42 undef, t.getD 43 undef, t.getD 44 undef, t.getD 45 undef, t.getD 46 undef, t.getD 47 undef, t.getD 48 undef, t.getD 49 undef, t.getD 50 undef, t.getD 51 undef, t.getD 52 undef, t.getD 53 undef, t.getD 54 undef, t.getD 55 undef, t.getD 56 undef, t.getD 57 undef, t.getD 58 undef, t.getD 59 undef, t.getD 60 undef, t.getD 61 undef, t.getD 62 undef, t.getD 63 undef, t.getD 64 undef, t.getD 65 undef, t.getD 66 undef, t.getD 67 undef, t.getD 68 undef, t.getD 69 undef, t.getD 70 undef, t.getD 71 undef, t.getD 72 undef, t.getD 73 undef, t.getD 74 undef, t.getD 75 undef, t.getD 76 undef, t.getD 77 undef, t.getD 78 undef, t.getD 79 undef, t.getD 80 undef, t.getD 81 undef, t.getD 82 undef, t.getD 83 undef, t.getD 84 undef, t.getD 85 undef, t.getD 86 undef, t.getD 87 undef, t.getD 88 undef, t.getD 89 undef, t.getD 90 undef, t.getD 91 undef, t.getD 92 undef, t.getD 93 undef, t.getD 94 undef, t.getD 95 undef, t.getD 96 undef, t.getD 97 undef, t.getD 98 undef, t.getD 99 undef, t.getD 100 undef, t.getD 101 undef, t.getD 102 undef, t.getD 103 undef, t.getD 104 undef, t.getD 105 undef, t.getD 106 undef, t.getD 107 undef, t.getD 108 undef, t.getD 109 undef, t.getD 110 undef, t.getD 111 undef, t.getD 112 undef, t.getD 113 undef, t.getD 114 undef, t.getD 115 undef, t.getD 116 undef, t.getD 117 undef, t.getD 118 undef, t.getD 119 undef, t.getD 120 undef, t.getD 121 undef, t.getD 122 undef, t.getD 123 undef, t.getD 124 undef, t.getD 125 undef, t.getD 126 undef, t.getD 127 undef, t.getD 128 undef, t.getD 129 undef, t.getD 130 undef, t.getD 131 undef, t.getD 132 undef, t.getD 133 undef, t.getD 134 undef, t.getD 135 undef, t.getD 136 undef, t.getD 137 undef, t.getD 138 undef, t.getD 139 undef, t.getD 140 undef, t.getD 141 undef, t.getD 142 undef, t.getD 143 undef, t.getD 144 undef, t.getD 145 undef, t.getD 146 undef, t.getD 147 undef, t.getD 148 undef, t.getD 149 undef, t.getD 150 undef, t.getD 151 undef, t.getD 152 undef, t.getD 153 undef, t.getD 154 undef, t.getD 155 undef, t.getD 156 undef, t.getD 157 undef, t.getD 158 undef, t.getD 159 undef, t.getD 160 undef, t.getD 161 undef, t.getD 162 undef, t.getD 163 undef, t.getD 164 undef, t.getD 165 undef, t.getD 166 undef, t.getD 167 undef, t.getD 168 undef] := by
  have h := arr_eta t
  rw [hs] at h
  exact h
set_option maxRecDepth 100000 in
theorem UndoJ.mk' {w wr : World} {b off n cp : Nat} {A : M} {t : Array Value} {c fb g cap h hcap : Nat} {bs cs : Nat → Nat} {W O : M} {lo : Nat} (HU : UndoAt w wr A n c fb g cap h hcap bs cs W O lo) (hs : t.size = 169)
    (h0 : t.getD 0 undef = .slice (some ⟨b, off, none⟩) n cp) (h4 : t.getD 4 undef = .pointer (some ⟨fb, 0, none⟩)) (h5 : t.getD 5 undef = .int .i64 (n : Nat)) (h6 : t.getD 6 undef = .slice (some ⟨h, 0, none⟩) n hcap) (h8 : t.getD 8 undef = .slice (some ⟨g, 0, none⟩) n cap) (h10 : t.getD 10 undef = .int .i64 (c : Nat)) :
    UndoJ w b off n cp A { tmps := t, defers := [] } wr := by
  have e := frame169 t hs
  rw [h0, h4, h5, h6, h8, h10] at e
  exact ⟨c, fb, g, cap, h, hcap, bs, cs, W, O, lo, fun i => t.getD i undef, HU, congrArg (fun t => Act.mk t []) e⟩
theorem UndoAt.swap {w wr : World} {A : M} {n m fb g cap h hcap p : Nat} {bs cs : Nat → Nat} {W O : M} {lo : Nat} (H : UndoAt w wr A n m fb g cap h hcap bs cs W O lo) (hm : m < n) (hmp : m ≤ p) (hp : p < n) (h0 : ¬ W p m = 0) :
    ∃ bs2 cs2 W2 O2 wx, wx = ((((wr.setCell ⟨g, m, none⟩ (.slice (some ⟨bs p, 0, none⟩) n n)).setCell ⟨g, p, none⟩ (.slice (some ⟨bs m, 0, none⟩) n n)).setCell ⟨h, m, none⟩ (.slice (some ⟨cs p, 0, none⟩) n n)).setCell ⟨h, p, none⟩ (.slice (some ⟨cs m, 0, none⟩) n n)).drew ∧
      UndoAt w wx A n m fb g cap h hcap bs2 cs2 W2 O2 lo ∧ W2 m m ≠ 0 := by
  have hT := H.two.swapped hm hp
  have hg1 := H.two.a.lo_g
  have hh1 := H.two.b.lo_g
  have hlo := H.lo
  have hfl := H.flo
  refine ⟨_, _, _, _, _, rfl, ⟨H.cn, hT.below (Below.refl _ _).drew, H.inv.swap hm hmp hp, ?_, hfl, hlo, ?_, H.hc⟩, ?_⟩
  · have ho : Only (min g h) (max g h + 1) wr ((((wr.setCell ⟨g, m, none⟩ (.slice (some ⟨bs p, 0, none⟩) n n)).setCell ⟨g, p, none⟩ (.slice (some ⟨bs m, 0, none⟩) n n)).setCell ⟨h, m, none⟩ (.slice (some ⟨cs p, 0, none⟩) n n)).setCell ⟨h, p, none⟩ (.slice (some ⟨cs m, 0, none⟩) n n)).drew :=
      ((((((Only.refl _ _ _).setCell (p := ⟨g, m, none⟩) (Nat.min_le_left _ _) (by show g < _; omega) _).setCell (p := ⟨g, p, none⟩) (Nat.min_le_left _ _) (by show g < _; omega) _).setCell (p := ⟨h, m, none⟩) (Nat.min_le_right _ _) (by show h < _; omega) _).setCell (p := ⟨h, p, none⟩) (Nat.min_le_right _ _) (by show h < _; omega) _)).trans (Only.of_below (Below.refl _ _).drew)
    exact FieldIn.only H.field ho (by left; omega)
  · exact ((((H.below.setCell (by show w.heap.size ≤ g; omega) _).setCell (by show w.heap.size ≤ g; omega) _).setCell (by show w.heap.size ≤ h; omega) _).setCell (by show w.heap.size ≤ h; omega) _).drew
  · show W (sw m p m) m ≠ 0
    unfold sw
    rw [if_pos rfl]
    exact h0
/-- The rows from k on but c wait for their step. -/
def stTo (c k : Nat) (W X : M) : M := fun i => if i < k ∨ i = c then st c W X i else X i
theorem stTo_start (n q c : Nat) (W X : M) (y : F) (hy : y = W c c) : Eqv n q (fun i => if i = c then (fun j => y.inv * X c j) else X i) (stTo c 0 W X) := by
  intro i _ j _
  show (if i = c then (fun j => y.inv * X c j) else X i) j = (if i < 0 ∨ i = c then st c W X i else X i) j
  by_cases e : i = c
  · subst e; rw [if_pos rfl, if_pos (Or.inr rfl), st_at_c, hy]
  · rw [if_neg e, if_neg (by omega)]
theorem stTo_skip (n q c : Nat) (W X : M) : Eqv n q (stTo c c W X) (stTo c (c + 1) W X) := by
  intro i _ j _
  unfold stTo
  by_cases e : i < c ∨ i = c
  · rw [if_pos e, if_pos (by omega)]
  · rw [if_neg e, if_neg (by omega)]
theorem stTo_at {k : Nat} (W X : M) (c : Nat) (h : k ≠ c) : stTo c k W X k = X k := if_neg (by omega)
theorem stTo_c {k : Nat} (W X : M) (c : Nat) : stTo c k W X c = st c W X c := if_pos (Or.inr rfl)
theorem stTo_zero (n q c k : Nat) (W X : M) (h : k ≠ c) (h0 : W k c = 0) : Eqv n q (stTo c k W X) (stTo c (k + 1) W X) := by
  intro i _ j _
  unfold stTo
  by_cases e : i = k
  · subst e
    rw [if_neg (by omega), if_pos (by omega), st_at_i W X j h, h0, Lin.zero_mul, Lin.add_zero]
  · by_cases e2 : i < k ∨ i = c
    · rw [if_pos e2, if_pos (by omega)]
    · rw [if_neg e2, if_neg (by omega)]
theorem stTo_step (n q c k : Nat) (W X : M) (h : k ≠ c) (t : F) (ht : t = W k c) : Eqv n q (fun i => if i = k then (fun j => stTo c k W X k j + t * stTo c k W X c j) else stTo c k W X i) (stTo c (k + 1) W X) := by
  intro i _ j _
  show (if i = k then (fun j => stTo c k W X k j + t * stTo c k W X c j) else stTo c k W X i) j = _
  by_cases e : i = k
  · subst e
    rw [if_pos rfl]
    show stTo c i W X i j + t * stTo c i W X c j = _
    rw [stTo_at W X c h, stTo_c]
    unfold stTo
    rw [if_pos (by omega), st_at_i W X j h, st_at_c, ht]
  · rw [if_neg e]
    unfold stTo
    by_cases e2 : i < k ∨ i = c
    · rw [if_pos e2, if_pos (by omega)]
    · rw [if_neg e2, if_neg (by omega)]
theorem stTo_all (n q c : Nat) (W X : M) : Eqv n q (stTo c n W X) (st c W X) := by
  intro i hi j _
  unfold stTo
  rw [if_pos (Or.inl hi)]
theorem set_top (w : World) {g m p n a b : Nat} (h1 : w.cell? ⟨g, m, none⟩ = some (.slice (some ⟨a, 0, none⟩) n n)) (h2 : w.cell? ⟨g, p, none⟩ = some (.slice (some ⟨b, 0, none⟩) n n)) :
    (w.setCell ⟨g, m, none⟩ (.slice (some ⟨b, 0, none⟩) n n)).cell? ⟨g, p, none⟩ = some (.slice (some ⟨b, 0, none⟩) n n) := by
  rw [cell_set h1]
  by_cases e : p = m
  · rw [if_pos e]
  · rw [if_neg e, h2]
theorem other_top (w : World) {g h i : Nat} {v : Value} (hne : h ≠ g) (a b n m p : Nat) (h1 : w.cell? ⟨h, i, none⟩ = some v) :
    ((w.setCell ⟨g, m, none⟩ (.slice (some ⟨a, 0, none⟩) n n)).setCell ⟨g, p, none⟩ (.slice (some ⟨b, 0, none⟩) n n)).cell? ⟨h, i, none⟩ = some v :=
  (World.cell?_of_block (a := ⟨h, i, none⟩) (w := w.setCell ⟨g, m, none⟩ (.slice (some ⟨a, 0, none⟩) n n)) (Below.heap_setCell _ _ _ _ hne)).trans ((World.cell?_of_block (a := ⟨h, i, none⟩) (w := w) (Below.heap_setCell _ _ _ _ hne)).trans h1)
set_option maxRecDepth 100000 in
set_option maxHeartbeats 4000000 in
theorem undo_ok (b off n c : Nat) (ls : List (List Nat)) (w : World) (hR : Base.Rows w (some ⟨b, off, none⟩) ls) (hl : ls.length = n) (hr : rightB ls = true) (hw : wid ls = n) :
    Calls Try.prog 61 #[.slice (some ⟨b, off, none⟩) n c] w (UndoPost w (fn ls) n) := by
  obtain ⟨q1, q2, q3, q4, q5⟩ := (right_iff ls).1 hr
  rw [hl] at q1 q2
  have HA1 := Lib.hid (fun W (h : Base.Rows W (some ⟨b, off, none⟩) ls) => right_any (some ⟨b, off, none⟩) n c ls W h hl (by omega) (by omega))
  rw [hr] at HA1
  have HQ := Lib.hid (fun i (hi : i < ls.length) => (q5 i hi).trans hw)
  have HL := Lib.hid hl
  have HLE := Lib.hid hR.le
  have HMD := Lib.hid (fun W => made_any n n W (by omega) (by omega) (by omega))
  have HON := Lib.hid (fun W => one_any n W (by omega) (by omega))
  have HB0 : Below w.heap.size w w := Below.refl _ _
  obtain ⟨b', off', e, hc0⟩ := hR.block (by omega)
  cases e
  obtain ⟨B0, c0, h0, hx0⟩ := hc0 0 (by omega)
  clear hx0
  rw [Nat.add_zero, ← wid_of (by omega), hw] at h0
  obtain ⟨A, hA⟩ : ∃ A : M, A = fn ls := ⟨_, rfl⟩
  rw [← hA]
  have HAA := Lib.hid hA
  have z0 : (0 : Int) < n := by omega
  clear hA hc0 hr hw hl q5
  go_enter Try.func61, Try.ntmps61
  go_wp2
  refine wp_scope_loop 0 (UndoJ w b off n c A) (fun a' _ => n - (intOf (a'.tmps.getD 10 undef)).toNat) rfl ?_ ?_
  · intro hloop
    go_wp2_with (first | (go_at_call 94; (with_reducible refine (HA1.out _ (hR.below HB0)).mono ?_); rintro e w1 ⟨rfl, hd1⟩; replace HB0 := bt HB0 HB0.size hd1; replace h0 := cell_below hd1 h0) | (go_at_call 63; (with_reducible refine (new_field _).mono ?_); rintro e w2 ⟨fb, rfl, hF, hfb, hd⟩; replace HB0 := bt HB0 HB0.size hd; replace h0 := cell_below hd h0) | (go_at_call 96; (with_reducible refine (HON.out _).mono ?_); rintro e w3 ⟨h, hcap, cs, rfl, hhc, hO, hd3⟩) | (go_at_call 92; (with_reducible refine (HMD.out _).mono ?_); rintro e w4 ⟨g, cap, bs, rfl, hgc, hM, hd4⟩))
    have HT := Two.of_made hO hM hd4 hd3.size
    go_loopw [9, 40] (fun _ i wr => ∃ k : Nat, k ≤ n ∧ i = .int .i64 k ∧ Two wr w2.heap.size g h n bs cs (cpTo A k) dl ∧ Below w2.heap.size w2 wr) (fun _ i _ => n - (intOf i).toNat)
    case atStart => exact ⟨0, by omega, rfl, HT.congr (fun i _ j _ => (if_neg (by omega)).symm) (Eqv.refl _ _ _), bt hd3 hd3.size hd4⟩
    case round =>
      obtain ⟨k, hk, rfl, HT1, HB1⟩ := hrel
      by_cases hlt : k < n
      · have hkl : k < ls.length := by have := HL.out; omega
        have ht := HT1.a.top k hlt
        have hr := HT1.a.row k hlt
        have HBw := bt HB0 HB0.size HB1
        obtain ⟨b', off', e, hc⟩ := (hR.below HBw).block (by omega)
        cases e
        obtain ⟨B1, c1, hcell, hrow⟩ := hc k hkl
        have hq := HQ.out k hkl
        rw [hq] at hcell
        obtain ⟨b1, off1, rfl, hsrc⟩ := hrow.block (by omega)
        have HSR := Lib.hid (fun (W : World) (hh : W.heap = wr.heap) j (hj : j < n) => show W.cell? ⟨b1, off1 + j, none⟩ = some (.int .u8 (((A k j).v : Nat) : Int)) by
          rw [HAA.out, fn_at hkl (HLE.out k hkl), ← hsrc j (by omega)]
          exact World.cell?_of_block (w := wr) (by rw [hh]))
        clear hc hsrc hrow hq
        go_upto_region 10 with fail
        have d1 : wr.drew.cell? ⟨g, k, none⟩ = some (.slice (some ⟨bs k, 0, none⟩) n n) := ht
        have d4 : wr.drew.cell? ⟨b, off + k, none⟩ = some (.slice (some ⟨b1, off1, none⟩) n c1) := hcell
        have d5 : RowAt wr.drew (bs k) n (cpTo A k k) := hr.below ((Below.refl wr.heap.size wr).drew)
        clear ht hcell hr
        go_region_law (refine step_copy_row rfl (.tmp 46) (.tmp 50) 70 70 rfl 5 Try.underlying70 info_byte_size (bs k) n n b1 off1 c1 (A k) _ rfl rfl d5 (HSR.out wr.drew rfl) ?_; intro w5 hrow5 honly5)
        all_goals go_wp2
        all_goals (
          have hT2 := (HT1.below ((Below.refl wr.heap.size wr).drew)).row_a hlt honly5 hrow5
          refine ⟨⟨k + 1, by omega, by go_num, hT2.congr (cpTo_step A n n k) (Eqv.refl _ _ _), ?_⟩, by simp [intOf]; omega⟩
          exact HT1.a.only_row hlt HB1 HB1.size (w := wr) ⟨honly5.os, honly5.tape, honly5.output, honly5.size, honly5.block⟩)
      · obtain rfl : k = n := by omega
        go_wp2
        go_step3
        go_step
        go_step
        refine hloop _ _ (UndoJ.mk' (c := 0) (fb := fb) (g := g) (cap := cap) (h := h) (hcap := hcap) (bs := bs) (cs := cs) (W := A) (O := dl) (lo := w2.heap.size) ⟨by omega, HT1.congr (fun i hi j _ => if_pos hi) (Eqv.refl _ _ _), Inv.start k A, hF.below HB1, hF.lt, HB0.size, bt HB0 HB0.size HB1, hhc⟩ rfl rfl rfl rfl rfl rfl rfl)
  · rintro a' wr ⟨m, fb, g, cap, h, hcap, bs, cs, W, O, lo, us, HU, rfl⟩
    have hmn := HU.cn
    clear hR h0 HB0
    by_cases hm : m < n
    · have e1 : (((m : Nat) : Int) == ((n : Nat) : Int)) = false := int_ne (by omega)
      go_wp2
      go_loop [11] (fun i => ∃ p : Nat, m ≤ p ∧ p ≤ n ∧ i = .int .i64 p ∧ ∀ r, m ≤ r → r < p → W r m = 0) (fun i => n - (intOf i).toNat)
      case atStart => exact ⟨m, by omega, by omega, rfl, fun r h1 h2 => by omega⟩
      case round =>
        obtain ⟨p, hmp, hp, rfl, hz⟩ := hrel
        have HZ := Lib.hid hz
        clear hz
        by_cases hlt : p < n
        · have ht := HU.two.a.top p hlt
          have hr := HU.two.a.row p hlt
          have hcl := hr.cell m (by omega)
          by_cases hw0 : W p m = 0
          · rw [hw0] at hcl
            have hcl : wr.cell? ⟨bs p, m, none⟩ = some (.int .u8 0) := hcl
            have HW0 := Lib.hid hw0
            clear hw0 hr
            have t1 : decide ((p : Nat) < n) = true := by simp [hlt]
            go_wp2
            go_round
            case rel =>
              refine ⟨p + 1, by omega, by omega, by go_num, fun r h1 h2 => ?_⟩
              rcases Nat.lt_or_ge r p with h' | h'
              · exact HZ.out r h1 h'
              · obtain rfl : r = p := by omega
                exact HW0.out
            case measure => simp [intOf]; omega
          · have hv := v_ne hw0
            obtain ⟨x, hx⟩ : ∃ x, x = (W p m).v := ⟨_, rfl⟩
            rw [← hx] at hcl hv
            have HX := Lib.hid hx
            have e2 : (((x : Nat) : Int) == 0) = false := int_ne (by omega)
            have e3 : (((p : Nat) : Int) == ((n : Nat) : Int)) = false := int_ne (by omega)
            have t1 : decide ((p : Nat) < n) = true := by simp [hlt]
            have k1 := HU.two.a.top m hm
            have k3 := HU.two.b.top p hlt
            have k4 := HU.two.b.top m hm
            have f1 := HU.two.a.free m
            have f2 := HU.two.a.free p
            have f3 := HU.two.b.free m
            have f4 := HU.two.b.free p
            have hgh := HU.two.gh
            have HUU := Lib.hid HU
            clear hx hr HU
            have y1 := set_top wr k1 ht
            have k3' := other_top wr (h := h) (g := g) (Ne.symm hgh) (bs p) (bs m) n m p k3
            have k4' := other_top wr (h := h) (g := g) (Ne.symm hgh) (bs p) (bs m) n m p k4
            have y2 := set_top _ k4' k3'
            clear k3' k4'
            go_wp2
            go_region
            obtain ⟨bs2, cs2, W2, O2, wx, hwx, HU2, hpiv⟩ := HUU.out.swap hm hmp hlt hw0
            rw [← hwx]
            clear hwx k1 k3 k4 f1 f2 f3 f4 y1 y2 ht hcl hw0 hv e2 e3 t1 HX HZ HUU hgh
            obtain ⟨y, hy⟩ : ∃ y, y = W2 m m := ⟨_, rfl⟩
            rw [← hy] at hpiv
            have HY := Lib.hid hy
            have hT := HU2.two.a.top m hm
            have hC := (HU2.two.a.row m hm).cell m hm
            rw [← hy] at hC
            have hTb := HU2.two.b.top m hm
            have HU3 := Lib.hid HU2
            have HP := Lib.hid hpiv
            have hfb := HU2.field
            have hne1 : fb ≠ bs2 m := by have := HU2.flo; have := HU2.two.a.lo_b m hm; omega
            have hne2 : fb ≠ cs2 m := by have := HU2.flo; have := HU2.two.b.lo_b m hm; omega
            have HS1 := Lib.hid (scale_any fb (bs2 m) n n (W2 m) y wx (HU2.two.a.row m hm) hfb hne1 (by omega) hpiv)
            have HS2 := Lib.hid (fun W (hr : RowAt W (cs2 m) n (O2 m)) (hf : FieldIn W fb) => scale_any fb (cs2 m) n n (O2 m) y W hr hf hne2 (by omega) HP.out)
            clear hy HU2 hpiv
            go_wp2_with (first | (go_at_call 97; (with_reducible refine HS1.out.mono ?_); rintro e w6 ⟨⟨v6, rfl⟩, hrow6, hon6⟩; have T6 := HU3.out.two.row_a hm hon6 hrow6; have k6 := T6.b.top m hm; have F6 := FieldIn.only hfb hon6 (by omega); clear HS1) | (go_at_call 97; (with_reducible refine (HS2.out _ (T6.b.row m hm) F6).mono ?_); rintro e w7 ⟨⟨v7, rfl⟩, hrow7, hon7⟩; have T7 := T6.row_b hm hon7 hrow7; have F7 := FieldIn.only F6 hon7 (by omega)))
            have hlo := HU3.out.lo
            have hflo := HU3.out.flo
            have hlob : ∀ i, i < n → w.heap.size ≤ bs2 i ∧ w.heap.size ≤ cs2 i ∧ fb ≠ bs2 i ∧ fb ≠ cs2 i := fun i hi => by
              have h1 := HU3.out.two.a.lo_b i hi
              have h2 := HU3.out.two.b.lo_b i hi
              omega
            have HLO := Lib.hid hlob
            have HB6 := HU3.out.below.trans (hon6.below (hlob m hm).1 HU3.out.below.size)
            have HB7 := HB6.trans (hon7.below (hlob m hm).2.1 HB6.size)
            have T8 := T7.congr (stTo_start n n m W2 W2 y HY.out) (stTo_start n n m W2 O2 y HY.out)
            clear hlob T6 T7 k6 F6 hrow6 hrow7 hon6 hon7 HB6 HS2 hfb hT hC hTb
            go_loopw [13, 14, 127] (fun _ _ i wr => ∃ k : Nat, k ≤ n ∧ i = .int .i64 k ∧ Two wr lo g h n bs2 cs2 (stTo m k W2 W2) (stTo m k W2 O2) ∧ FieldIn wr fb ∧ Below w.heap.size w wr) (fun _ _ i _ => n - (intOf i).toNat)
            case atStart => exact ⟨0, by omega, rfl, T8, F7, HB7⟩
            case round =>
              obtain ⟨k, hk, rfl, HT, HF, HB⟩ := hrel
              by_cases hkn : k < n
              · have ht := HT.a.top k hkn
                have hc := (HT.a.row k hkn).cell m hm
                obtain ⟨t, ht0⟩ : ∃ t : F, t = stTo m k W2 W2 k m := ⟨_, rfl⟩
                rw [← ht0] at hc
                have HTT := Lib.hid ht0
                clear ht0
                by_cases hkm : k = m
                · subst hkm
                  have n1 : (((k : Nat) : Int) != ((k : Nat) : Int)) = false := int_beq rfl
                  have n1' : (((k : Nat) : Int) == ((k : Nat) : Int)) = true := int_eq rfl
                  go_wp2
                  go_roundw
                  case rel => exact ⟨k + 1, by omega, by go_num, HT.congr (stTo_skip n n k W2 W2) (stTo_skip n n k W2 O2), HF, HB⟩
                  case measure => simp [intOf]; omega
                · have n1 : (((k : Nat) : Int) != ((m : Nat) : Int)) = true := int_bne (by omega)
                  have n1' : (((k : Nat) : Int) == ((m : Nat) : Int)) = false := int_ne (by omega)
                  by_cases ht1 : t = 0
                  · replace hc : wr.cell? ⟨bs2 k, m, none⟩ = some (.int .u8 0) := by rw [hc, ht1]; rfl
                    have HT1 := Lib.hid ht1
                    clear ht1
                    go_wp2
                    go_roundw
                    case rel =>
                      have e9 : W2 k m = 0 := by have := HTT.out; rw [HT1.out, stTo_at W2 W2 m hkm] at this; exact this.symm
                      exact ⟨k + 1, by omega, by go_num, HT.congr (stTo_zero n n m k W2 W2 hkm e9) (stTo_zero n n m k W2 O2 hkm e9), HF, HB⟩
                    case measure => simp [intOf]; omega
                  · have hv := v_ne ht1
                    have n2 : (((t.v : Nat) : Int) != 0) = true := int_bne (by omega)
                    have htm := HT.a.top m hm
                    have hne3 := HLO.out k hkn
                    have hne4 := HLO.out m hm
                    have hbk : bs2 m ≠ bs2 k := fun e => hkm (HT.a.inj k m hkn hm e.symm)
                    have hck : cs2 m ≠ cs2 k := fun e => hkm (HT.b.inj k m hkn hm e.symm)
                    have HTX := Lib.hid HT
                    clear ht1
                    go_upto_region 29 with fail
                    have d1 : wr.drew.cell? ⟨g, k, none⟩ = some (.slice (some ⟨bs2 k, 0, none⟩) n n) := ht
                    have d2 : wr.drew.cell? ⟨g, m, none⟩ = some (.slice (some ⟨bs2 m, 0, none⟩) n n) := htm
                    have hbd : Below wr.heap.size wr wr.drew := (Below.refl _ _).drew
                    have HS := Lib.hid (less_any fb (bs2 k) (bs2 m) n n n _ _ t wr.drew ((HT.a.row k hkn).below hbd) ((HT.a.row m hm).below hbd) (HF.below hbd) hne3.2.2.1 hbk (by omega))
                    clear ht htm hc HT
                    go_region_with (go_at_call 98; (with_reducible refine HS.out.mono ?_); rintro e w8 ⟨⟨v8, rfl⟩, hrow8, hon8⟩)
                    all_goals (
                      have T9 := (HTX.out.below ((Below.refl _ _).drew)).row_a hkn hon8 hrow8
                      have F9 := FieldIn.only (HF.below ((Below.refl _ _).drew)) hon8 (by omega)
                      have HB9 := (HB.drew).trans (hon8.below hne3.1 HB.size))
                    all_goals clear hrow8 hon8 HF HB
                    all_goals go_upto_region 30 with fail
                    all_goals (
                      have d3 : w8.drew.cell? ⟨h, k, none⟩ = some (.slice (some ⟨cs2 k, 0, none⟩) n n) := T9.b.top k hkn
                      have d4 : w8.drew.cell? ⟨h, m, none⟩ = some (.slice (some ⟨cs2 m, 0, none⟩) n n) := T9.b.top m hm
                      have HS2 := Lib.hid (less_any fb (cs2 k) (cs2 m) n n n _ _ t w8.drew ((T9.b.row k hkn).below (Below.refl _ _).drew) ((T9.b.row m hm).below (Below.refl _ _).drew) (F9.below (Below.refl _ _).drew) hne3.2.2.2 hck (by omega)))
                    all_goals (go_region_with (go_at_call 98; (with_reducible refine HS2.out.mono ?_); rintro e w10 ⟨⟨v10, rfl⟩, hrow10, hon10⟩))
                    all_goals (
                      have T10 := (T9.below (Below.refl _ _).drew).row_b hkn hon10 hrow10
                      have F10 := FieldIn.only (F9.below (Below.refl _ _).drew) hon10 (by omega)
                      have HB10 := (HB9.drew).trans (hon10.below hne3.2.1 HB9.size))
                    all_goals clear hrow10 hon10 F9 HB9 T9 d3 d4
                    all_goals go_wp2
                    all_goals go_roundw
                    any_goals (with_reducible refine ⟨k + 1, ?_, ?_, ?_, F10, HB10⟩; omega; go_num; exact T10.congr (stTo_step n n m k W2 W2 hkm t (HTT.out.trans (by rw [stTo_at W2 W2 m hkm]))) (stTo_step n n m k W2 O2 hkm t (HTT.out.trans (by rw [stTo_at W2 W2 m hkm]))))
                    all_goals (simp [intOf]; omega)
              · obtain rfl : k = n := by omega
                have HP9 : W2 m m ≠ 0 := by rw [← HY.out]; exact HP.out
                go_wp2
                go_step3
                refine ⟨rfl, UndoJ.mk' (c := m + 1) (fb := fb) (g := g) (cap := cap) (h := h) (hcap := hcap) (bs := bs2) (cs := cs2) (W := st m W2 W2) (O := st m W2 O2) (lo := lo) ⟨by omega, HT.congr (stTo_all k k m W2 W2) (stTo_all k k m W2 O2), HU3.out.inv.step hm HP9, HF, hflo, hlo, HB, HU3.out.hc⟩ rfl rfl rfl rfl rfl rfl (by go_num), ?_⟩
                simp [intOf]
                omega
        · obtain rfl : p = n := by omega
          have t1 : decide ((p : Nat) < p) = false := by simp
          go_wp2
          simp only [Exit.jump]
          go_ret2
          exact ⟨.inr ⟨HU.inv.stuck hm HZ.out, rfl⟩, HU.below⟩
    · obtain rfl : m = n := by omega
      go_wp2
      simp only [Exit.jump]
      go_ret2
      obtain ⟨d1, d2⟩ := HU.inv.done
      exact ⟨.inl ⟨free_of_left d1, h, hcap, cs, O, rfl, HU.hc, HU.two.b.wide HU.lo, d1, d2⟩, HU.below⟩
end Go.Proofs.Ytmlemichkeomjaa.RowsW
