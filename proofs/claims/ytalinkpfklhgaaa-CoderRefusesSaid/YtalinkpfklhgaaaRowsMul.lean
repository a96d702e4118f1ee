/- rows.Mul walked. -/
import Derived.Test.YtalinkpfklhgaaaRowsCol
set_option linter.unusedVariables false
set_option linter.unusedSimpArgs false
namespace Go.Proofs.Ytalinkpfklhgaaa.RowsW
open Go.RowKit Go.Proofs.Ytalinkpfklhgaaa.Base Go.Proofs.Ytalinkpfklhgaaa.GfP Go.Proofs.Ytalinkpfklhgaaa.GfW Go.Proofs.Ytalinkpfklhgaaa.Lin

theorem dot_sm {l m : List Nat} {f g : Nat → F} (n : Nat) (hl : ∀ k, k < n → l.getD k 0 = (f k).v) (hm : ∀ k, k < n → m.getD k 0 = (g k).v) : dot l m n = (sm n fun k => f k * g k).v := by
  induction n with
  | zero => rfl
  | succ n ih =>
    rw [dot, sm, v_add, v_mul, ih (fun k hk => hl k (by omega)) (fun k hk => hm k (by omega)), hl n (by omega), hm n (by omega)]
theorem fn_at {ls : List (List Nat)} {i j : Nat} (hi : i < ls.length) (hle : ∀ x, x ∈ ls[i] → x ≤ 255) : (fn ls i j).v = ls[i].getD j 0 := by
  unfold fn
  have e1 : ls.getD i [] = ls[i] := by rw [List.getD_eq_getElem?_getD, List.getElem?_eq_getElem hi, Option.getD_some]
  rw [e1]
  refine toF_v ?_
  rw [List.getD_eq_getElem?_getD]
  cases h9 : ls[i][j]? with
  | none => simp
  | some y => simpa using hle y (List.mem_of_getElem? h9)
theorem col_at {ls : List (List Nat)} {i j : Nat} (hi : i < ls.length) : (col ls j).getD i 0 = ls[i].getD j 0 := by
  unfold col
  rw [List.getD_eq_getElem?_getD, List.getElem?_map, List.getElem?_eq_getElem hi]
  rfl
/-- Filled column by column. -/
def fillC (P : M) (j k : Nat) : M := fun i l => if l < j ∨ (l = j ∧ i < k) then P i l else 0
theorem fillC_zero (P : M) (n q : Nat) : Eqv n q (fillC P 0 0) (fun _ _ => 0) := fun i _ l _ => if_neg (by omega)
theorem fillC_next (P : M) (n q j : Nat) : Eqv n q (fillC P j n) (fillC P (j + 1) 0) := by
  intro i hi l _
  unfold fillC
  by_cases h : l < j + 1
  · rw [if_pos (by omega), if_pos (by omega)]
  · rw [if_neg (by omega), if_neg (by omega)]
theorem fillC_all (P : M) (n q : Nat) : Eqv n q (fillC P q 0) P := fun i _ l hl => if_pos (by omega)
theorem fillC_step (P : M) (n q j k : Nat) : Eqv n q (fun i => if i = k then (fun l => if l = j then P k j else fillC P j k k l) else fillC P j k i) (fillC P j (k + 1)) := by
  intro i _ l _
  by_cases e : i = k
  · subst e
    simp only [if_pos]
    unfold fillC
    by_cases e2 : l = j
    · subst e2; rw [if_pos rfl, if_pos (by omega)]
    · rw [if_neg e2]
      by_cases h : l < j
      · rw [if_pos (by omega), if_pos (by omega)]
      · rw [if_neg (by omega), if_neg (by omega)]
  · simp only [if_neg e]
    unfold fillC
    by_cases h : l < j ∨ (l = j ∧ i < k)
    · rw [if_pos h, if_pos (by omega)]
    · rw [if_neg h, if_neg (by omega)]
theorem bytes_other {w : World} {A : Option Addr} {l : List Nat} {p : Addr} (h : Bytes w A l) (v : Value) (hne : ∀ b off s, A = some ⟨b, off, s⟩ → b ≠ p.block) : Bytes (w.setCell p v) A l := by
  refine ⟨h.le, h.len, ?_⟩
  rcases h.at_ with h1 | ⟨b, off, e, hc⟩
  · exact .inl h1
  · refine .inr ⟨b, off, e, fun j hj => ?_⟩
    rw [← hc j hj]
    exact World.cell?_of_block (w := w) (Below.heap_setCell _ _ _ _ (hne b off none e))
set_option maxRecDepth 100000 in
set_option maxHeartbeats 1000000 in
theorem mul_ok (A A' : Option Addr) (n m c c' p : Nat) (ls ms : List (List Nat)) (w : World) (hR : Base.Rows w A ls) (hR' : Base.Rows w A' ms) (hl : ls.length = n) (hl' : ms.length = m) (hr : rightB ls = true) (hr' : rightB ms = true) (hw : wid ls = m) (hp : wid ms = p) :
    Calls Try.prog 43 #[.slice A n c, .slice A' m c'] w fun e w' => ∃ g cap bs, e = .returned (.tuple #[.slice (some ⟨g, 0, none⟩) n cap, .int .i64 0]) ∧ n ≤ cap ∧ Mat w' w.heap.size g n p bs (mm m (fn ls) (fn ms)) ∧ Below w.heap.size w w' := by
  obtain ⟨q1, q2, q3, q4, q5⟩ := (right_iff ls).1 hr
  obtain ⟨r1, r2, r3, r4, r5⟩ := (right_iff ms).1 hr'
  rw [hl] at q1 q2
  rw [hl'] at r1 r2
  have HA1 := Lib.hid (fun W (h : Base.Rows W A ls) => right_any A n c ls W h hl (by omega) (by omega))
  have HA2 := Lib.hid (fun W (h : Base.Rows W A' ms) => right_any A' m c' ms W h hl' (by omega) (by omega))
  rw [hr] at HA1
  rw [hr'] at HA2
  have HQ := Lib.hid q5
  have HS := Lib.hid r5
  have HW := Lib.hid hw
  have HP := Lib.hid hp
  have HL1 := Lib.hid hl
  have HL2 := Lib.hid hl'
  have HMD := Lib.hid (fun W => made_any n p W (by omega) (by omega) (by omega))
  have HB0 : Below w.heap.size w w := Below.refl _ _
  rw [hw] at q3 q4
  rw [hp] at r3 r4
  obtain ⟨b, off, rfl, hc0⟩ := hR.block (by omega)
  obtain ⟨B0, c0, h0, hx0⟩ := hc0 0 (by omega)
  clear hx0
  rw [Nat.add_zero, ← wid_of (by omega), hw] at h0
  obtain ⟨b', off', rfl, hc0'⟩ := hR'.block (by omega)
  obtain ⟨B0', c0', h0', hx0'⟩ := hc0' 0 (by omega)
  clear hx0'
  rw [Nat.add_zero, ← wid_of (by omega), hp] at h0'
  clear hc0 hc0' hr hr' hw hp hl hl' q5 r5
  obtain ⟨P, hP⟩ : ∃ P : M, P = mm m (fn ls) (fn ms) := ⟨_, rfl⟩
  rw [← hP]
  have HPP := Lib.hid hP
  clear hP
  have z0 : (0 : Int) < n := by omega
  have z1 : (0 : Int) < m := by omega
  go_enter Try.func43, Try.ntmps43
  go_wp2_with (first | (go_at_call 46; (with_reducible refine (HA1.out _ (hR.below HB0)).mono ?_); rintro e w1 ⟨rfl, hd1⟩; replace HB0 := bt HB0 HB0.size hd1; replace h0 := cell_below hd1 h0; replace h0' := cell_below hd1 h0') | (go_at_call 46; (with_reducible refine (HA2.out _ (hR'.below HB0)).mono ?_); rintro e w1 ⟨rfl, hd1⟩; replace HB0 := bt HB0 HB0.size hd1; replace h0 := cell_below hd1 h0; replace h0' := cell_below hd1 h0') | (go_at_call 20; (with_reducible refine (new_field _).mono ?_); rintro e w2 ⟨fb, rfl, hF, hfb, hd⟩; replace HB0 := bt HB0 HB0.size hd; replace h0 := cell_below hd h0; replace h0' := cell_below hd h0') | (go_at_call 59; (with_reducible refine (HMD.out _).mono ?_); rintro e w3 ⟨g, cap, bs, rfl, hcap, hM, hd3⟩; replace h0 := cell_below hd3 h0; replace h0' := cell_below hd3 h0'))
  have HRW := Lib.hid (fun k (hk : k < ls.length) => HQ.out k hk)
  have HL := Lib.hid hR.le
  have HL' := Lib.hid hR'.le
  have R2 := hR.below HB0
  have R2' := hR'.below HB0
  go_loopw [8, 9, 10, 40] (fun _ _ _ i wr => ∃ j : Nat, j ≤ p ∧ i = .int .i64 j ∧ Mat wr w2.heap.size g n p bs (fillC P j 0) ∧ Below w2.heap.size w2 wr) (fun _ _ _ i _ => p - (intOf i).toNat)
  case atStart => exact ⟨0, by omega, rfl, hM.congr (fillC_zero P n p).symm, hd3⟩
  case round =>
    obtain ⟨j, hj, rfl, HM, HB⟩ := hrel
    by_cases hlt : j < p
    · have HC := Lib.hid (fun W (h : Base.Rows W (some ⟨b', off', none⟩) ms) => column_any (some ⟨b', off', none⟩) m c' ms j W h HL2.out (by omega) (fun i hi => by rw [HS.out i hi, HP.out]; exact hlt) (by omega))
      go_wp2_with (go_at_call 64; (with_reducible refine (HC.out _ (R2'.below HB)).mono ?_); rintro e w4 ⟨A4, c4, rfl, hBy, hfar, hd4⟩)
      have hnew : ∀ bb oo ss, A4 = some ⟨bb, oo, ss⟩ → ∀ i, i < n → bb ≠ bs i := fun bb oo ss e i hi e2 => by
        have h9 := (hfar bb oo ss e).1
        have h8 := (HM.row i hi).lt
        omega
      have HNW := Lib.hid hnew
      replace HM := HM.below hd4
      replace HB := bt HB HB.size hd4
      clear hnew hfar hd4
      go_loopw [10, 48] (fun _ i wr => ∃ k : Nat, k ≤ n ∧ i = .int .i64 k ∧ Mat wr w2.heap.size g n p bs (fillC P j k) ∧ Below w2.heap.size w2 wr ∧ Bytes wr A4 (col ms j)) (fun _ i _ => n - (intOf i).toNat)
      case atStart => exact ⟨0, by omega, rfl, HM, HB, hBy⟩
      case round =>
        obtain ⟨k, hk, rfl, HM1, HB1, HY⟩ := hrel
        by_cases hlt2 : k < n
        · have ht := HM1.top k hlt2
          have hr := HM1.row k hlt2
          have hck := hr.cell j hlt
          have hfk := hr.free j
          have hkl : k < ls.length := by have := HL1.out; omega
          have hFr := FieldIn.below hF HB1
          obtain ⟨bb, oo, e, hc⟩ := (R2.below HB1).block (by omega)
          cases e
          obtain ⟨B1, c1, hcell, hrow⟩ := hc k hkl
          clear hc
          have hq1 : ls[k].length = m := by rw [HQ.out k hkl, HW.out]
          rw [hq1] at hcell
          have hby := hrow.bytes (by omega)
          have HV : dot ls[k] (col ms j) m = (P k j).v := by
            rw [HPP.out]
            exact dot_sm m (fun x hx => (fn_at hkl (HL.out k hkl)).symm) (fun x hx => by
              have hxl : x < ms.length := by have := HL2.out; omega
              rw [col_at hxl, fn_at hxl (HL'.out x hxl)])
          have hcl : (col ms j).length = m := by rw [col_length]; exact HL2.out
          have HD := Lib.hid (fun W (h1 : Bytes W B1 ls[k]) (h2 : Bytes W A4 (col ms j)) (h3 : FieldIn W fb) => dot_eq fb W B1 A4 ls[k] (col ms j) m c1 c4 h1 h2 hq1 hcl h3)
          rw [HV] at HD
          clear HV hq1 hcl hrow hr
          go_upto_region 12 with fail
          have d1 : wr.drew.cell? ⟨g, k, none⟩ = some (.slice (some ⟨bs k, 0, none⟩) p p) := ht
          have d2 : wr.drew.cell? ⟨bs k, j, none⟩ = some (.int .u8 (((fillC P j k k j).v : Nat) : Int)) := hck
          have d3 : wr.drew.frozen? ⟨bs k, j, none⟩ = false := hfk
          have d4 : wr.drew.cell? ⟨b, off + k, none⟩ = some (.slice B1 m c1) := hcell
          have D5 := Lib.hid (HD.out wr.drew (hby.below ((Below.refl wr.heap.size wr).drew)) (HY.below ((Below.refl wr.heap.size wr).drew)) (FieldIn.below hFr ((Below.refl wr.heap.size wr).drew)))
          clear ht hck hfk hcell hby hFr
          go_region_with (go_at_call 25; (with_reducible refine (D5.out).mono ?_); rintro e w5 ⟨rfl, hd⟩; replace d3 := (frozen_below hd.below d2).trans d3; replace d1 := cell_below hd.below d1; replace d2 := cell_below hd.below d2; replace d4 := cell_below hd.below d4)
          all_goals go_wp2
          all_goals (
            have hb0 : Below wr.heap.size wr w5 := bt_drew' hd.below
            exact ⟨⟨k + 1, by omega, by go_num, ((HM1.below hb0).set k j hlt2 hlt (P k j)).congr (fillC_step P n p j k), (bt HB1 HB1.size hb0).setCell (HM1.lo_b k hlt2) _, bytes_other (HY.below hb0) _ (fun bb oo ss e => HNW.out bb oo ss e k hlt2)⟩, by simp [intOf]; omega⟩)
        · obtain rfl : k = n := by omega
          go_wp2
          go_roundw
          case rel => exact ⟨j + 1, by omega, by go_num, HM1.congr (fillC_next P k p j), HB1⟩
          case measure => simp [intOf]; omega
    · obtain rfl : j = p := by omega
      go_wp2
      go_ret2
      exact ⟨g, cap, bs, rfl, hcap, ⟨HM.top, HM.free, HM.lt, (HM.congr (fillC_all P n j)).row, HM.inj, HM.ne, by have := HM.lo_g; have := HB0.size; omega, fun i hi => by have := HM.lo_b i hi; have := HB0.size; omega⟩, bt HB0 HB0.size HB⟩
end Go.Proofs.Ytalinkpfklhgaaa.RowsW
