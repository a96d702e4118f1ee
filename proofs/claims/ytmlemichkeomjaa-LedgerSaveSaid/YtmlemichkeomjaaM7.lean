/- Texts of this claim in one. -/
import Derived.Test.YtmlemichkeomjaaM1
import Derived.Outline
import Derived.Test.YtmlemichkeomjaaProg
import Derived.WalkSpells
/- Slices of bools, rows of bools and of whole numbers that are only read; a row of whole numbers of one's own. -/
set_option linter.unusedVariables false
set_option linter.unusedSimpArgs false
namespace Go.Proofs.Ytmlemichkeomjaa.Base
open Go.RowKit
theorem regrown_cell {w : World} {a : Addr} {v : Value} (h : w.cell? a = some v) (p : Regrown) : (Go.Sort.grow (redrawn w p.d) p.os).cell? a = some v := cell_below (below_of_regrown ⟨p, rfl⟩) h
/-- Bools. -/
structure Bools (w : World) (A : Option Addr) (l : List Bool) : Prop where
  at_ : l = [] ∨ ∃ b off, A = some ⟨b, off, none⟩ ∧ ∀ j (h : j < l.length), w.cell? ⟨b, off + j, none⟩ = some (.bool l[j])
theorem Bools.below {w w' : World} {A : Option Addr} {l : List Bool} (h : Bools w A l) (hb : Below w.heap.size w w') : Bools w' A l := by
  refine ⟨?_⟩
  rcases h.at_ with h1 | ⟨b, off, e, hc⟩
  · exact .inl h1
  · exact .inr ⟨b, off, e, fun j hj => cell_below hb (hc j hj)⟩
theorem Bools.block {w : World} {A : Option Addr} {l : List Bool} (h : Bools w A l) (h0 : l.length ≠ 0) : ∃ b off, A = some ⟨b, off, none⟩ ∧ ∀ j (h : j < l.length), w.cell? ⟨b, off + j, none⟩ = some (.bool l[j]) := by
  rcases h.at_ with h1 | h1
  · exact absurd (by rw [h1]; rfl) h0
  · exact h1
theorem Bools.nil (w : World) (A : Option Addr) : Bools w A [] := ⟨.inl rfl⟩
/-- Rows of bools. -/
structure BRows (w : World) (A : Option Addr) (ls : List (List Bool)) : Prop where
  at_ : ls = [] ∨ ∃ b off, A = some ⟨b, off, none⟩ ∧ ∀ j (h : j < ls.length), ∃ B c, w.cell? ⟨b, off + j, none⟩ = some (.slice B ls[j].length c) ∧ ls[j].length ≤ c ∧ Bools w B ls[j]
theorem BRows.below {w w' : World} {A : Option Addr} {ls : List (List Bool)} (h : BRows w A ls) (hb : Below w.heap.size w w') : BRows w' A ls := by
  refine ⟨?_⟩
  rcases h.at_ with h1 | ⟨b, off, e, hc⟩
  · exact .inl h1
  · refine .inr ⟨b, off, e, fun j hj => ?_⟩
    obtain ⟨B, c, h1, h2, h3⟩ := hc j hj
    exact ⟨B, c, cell_below hb h1, h2, h3.below hb⟩
theorem BRows.block {w : World} {A : Option Addr} {ls : List (List Bool)} (h : BRows w A ls) (h0 : ls.length ≠ 0) : ∃ b off, A = some ⟨b, off, none⟩ ∧ ∀ j (h : j < ls.length), ∃ B c, w.cell? ⟨b, off + j, none⟩ = some (.slice B ls[j].length c) ∧ ls[j].length ≤ c ∧ Bools w B ls[j] := by
  rcases h.at_ with h1 | h1
  · exact absurd (by rw [h1]; rfl) h0
  · exact h1
theorem BRows.nil (w : World) (A : Option Addr) : BRows w A [] := ⟨.inl rfl⟩
/-- Rows of whole numbers. -/
structure IRows (w : World) (A : Option Addr) (ls : List (List Int)) : Prop where
  at_ : ls = [] ∨ ∃ b off, A = some ⟨b, off, none⟩ ∧ ∀ j (h : j < ls.length), ∃ B c, w.cell? ⟨b, off + j, none⟩ = some (.slice B ls[j].length c) ∧ ls[j].length ≤ c ∧ Ints w B ls[j]
theorem IRows.below {w w' : World} {A : Option Addr} {ls : List (List Int)} (h : IRows w A ls) (hb : Below w.heap.size w w') : IRows w' A ls := by
  refine ⟨?_⟩
  rcases h.at_ with h1 | ⟨b, off, e, hc⟩
  · exact .inl h1
  · refine .inr ⟨b, off, e, fun j hj => ?_⟩
    obtain ⟨B, c, h1, h2, h3⟩ := hc j hj
    exact ⟨B, c, cell_below hb h1, h2, h3.below hb⟩
theorem IRows.block {w : World} {A : Option Addr} {ls : List (List Int)} (h : IRows w A ls) (h0 : ls.length ≠ 0) : ∃ b off, A = some ⟨b, off, none⟩ ∧ ∀ j (h : j < ls.length), ∃ B c, w.cell? ⟨b, off + j, none⟩ = some (.slice B ls[j].length c) ∧ ls[j].length ≤ c ∧ Ints w B ls[j] := by
  rcases h.at_ with h1 | h1
  · exact absurd (by rw [h1]; rfl) h0
  · exact h1
theorem IRows.nil (w : World) (A : Option Addr) : IRows w A [] := ⟨.inl rfl⟩
/-- Whole numbers as values; a row of them of one's own. -/
def zv (l : List Int) : List Value := l.map (Value.int .i64)
theorem zv_length (l : List Int) : (zv l).length = l.length := by simp [zv]
theorem zv_snoc (l : List Int) (x : Int) : zv (l ++ [x]) = zv l ++ [.int .i64 x] := by simp [zv]
theorem own_ints {w : World} {base e n : Nat} {v : Value} {l : List Int} (h : w.ownsRow base e 1 v n (zv l)) (hle : ∀ x, x ∈ l → -9223372036854775808 ≤ x ∧ x ≤ 9223372036854775807) : ∃ A c, v = .slice A n c ∧ l.length = n ∧ n ≤ c ∧ Ints w A l := by
  have hl : l.length = n := by have := h.1; rw [zv_length] at this; omega
  rcases h.2 with ⟨rfl, h0⟩ | ⟨g, cap, cur, rfl, hb, hg, hc, _⟩
  · subst h0
    have : l = [] := List.eq_nil_of_length_eq_zero hl
    subst this
    exact ⟨none, 0, rfl, rfl, Nat.le_refl _, Ints.nil _ _⟩
  · refine ⟨_, cap, rfl, hl, hc, hle, .inr ⟨g, 0, rfl, fun j hj => ?_⟩⟩
    have hcl := h.cells (g := g) rfl j (.int .i64 l[j]) (by simp [zv, hj])
    have ha : (⟨g, 0, none⟩ : Addr).add j = ⟨g, 0 + j, none⟩ := by unfold Addr.add; split <;> simp_all
    rw [ha] at hcl
    exact hcl
end Go.Proofs.Ytmlemichkeomjaa.Base

/- mend.lives, mend.has, ref17.In, ref17.Live, equal walked. -/
set_option linter.unusedVariables false
set_option linter.unusedSimpArgs false
namespace Go.Proofs.Ytmlemichkeomjaa.MendW
open Go.RowKit Go.Proofs.Ytmlemichkeomjaa.Base

def livesB (live : List Bool) (w : Int) : Bool := decide (1 ≤ w) && live.getD (w - 1).toNat false
def hasB (hv : List (List Bool)) (p a : Nat) : Bool := (hv.getD p []).getD a false
end Go.Proofs.Ytmlemichkeomjaa.MendW

/- ref17.In, ref17.Live, slices.Index and Contains, equal walked. -/
set_option linter.unusedVariables false
set_option linter.unusedSimpArgs false
namespace Go.Proofs.Ytmlemichkeomjaa.MendW
open Go.RowKit Go.Proofs.Ytmlemichkeomjaa.Base

theorem not_mem_of {l : List Int} {x : Int} (h : ∀ j (hj : j < l.length), l[j] ≠ x) : x ∉ l := fun hm => by
  obtain ⟨i, hi, rfl⟩ := List.mem_iff_getElem.1 hm
  exact h i hi rfl
theorem int_eqB {x y : Int} (h : x = y) : (x == y) = true := by simp [h]
theorem int_neB {x y : Int} (h : x ≠ y) : (x == y) = false := by simp [h]
set_option maxRecDepth 100000 in
set_option maxHeartbeats 1000000 in
theorem index_any (A : Option Addr) (n c : Nat) (l : List Int) (x : Int) (w : World) (hS : Ints w A l) (hl : l.length = n) (hn : n ≤ 1000000) :
    Calls Try.prog 152 #[.slice A n c, .int .i64 x] w fun e w' => ∃ r : Int, e = .returned (.int .i64 r) ∧ (0 ≤ r ↔ x ∈ l) ∧ w = w' := by
  have HL := Lib.hid hl
  go_enter Try.func152, Try.ntmps152
  go_wp2
  go_loop [5, 8] (fun _ i => ∃ k : Nat, k ≤ n ∧ i = .int .i64 k ∧ ∀ j (hj : j < l.length), j < k → l[j] ≠ x) (fun _ i => n - (intOf i).toNat)
  case atStart => exact ⟨0, by omega, rfl, fun j _ h => by omega⟩
  case round =>
    obtain ⟨k, hk, rfl, hall⟩ := hrel
    have HA := Lib.hid hall
    clear hall
    by_cases hlt : k < n
    · have hkl : k < l.length := by have := HL.out; omega
      obtain ⟨b, off, rfl, hc⟩ := hS.block (by omega)
      have g1 := hc k hkl
      obtain ⟨y, hy⟩ : ∃ y, y = l[k] := ⟨_, rfl⟩
      rw [← hy] at g1
      have HY := Lib.hid hy
      clear hc hy
      by_cases he : y = x
      · have t1 := int_eqB he.symm
        have hm : x ∈ l := by rw [← he, HY.out]; exact List.getElem_mem hkl
        have HM := Lib.hid hm
        clear he hm
        go_wp2
        go_ret
        exact ⟨_, rfl, ⟨fun _ => HM.out, fun _ => by omega⟩, rfl⟩
      · have t1 := int_neB (fun h => he h.symm)
        have HE := Lib.hid he
        clear he
        go_wp2
        go_round
        case rel =>
          refine ⟨k + 1, by omega, by go_num, fun j hj hjk => ?_⟩
          by_cases e : j = k
          · subst e; rw [← HY.out]; exact HE.out
          · exact HA.out j hj (by omega)
        case measure => simp [intOf]; omega
    · obtain rfl : k = n := by omega
      have HM := Lib.hid (not_mem_of (x := x) fun j hj => HA.out j hj (by have := HL.out; omega))
      go_wp2
      go_ret
      exact ⟨_, rfl, ⟨fun h => absurd h (by decide), fun h => absurd h HM.out⟩, rfl⟩
theorem contains_any (A : Option Addr) (n c : Nat) (l : List Int) (x : Int) (w : World) (hS : Ints w A l) (hl : l.length = n) (hn : n ≤ 1000000) :
    Calls Try.prog 151 #[.slice A n c, .int .i64 x] w fun e w' => e = .returned (.bool (decide (x ∈ l))) ∧ w = w' := by
  have H := Lib.hid (index_any A n c l x w hS hl hn)
  go_enter Try.func151, Try.ntmps151
  go_wp2_with (go_at_call 152; (with_reducible refine (H.out).mono ?_); rintro e w2 ⟨r, rfl, hr, rfl⟩; have HR := Lib.hid hr; clear hr)
  go_ret
  exact ⟨by rw [show decide (x ∈ l) = decide (0 ≤ r) from decide_eq_decide.2 HR.out.symm]; rfl, rfl⟩
/-- How many are live. -/
def liveN : List Bool → Nat
  | [] => 0
  | b :: l => (if b then 1 else 0) + liveN l
theorem liveN_append (a b : List Bool) : liveN (a ++ b) = liveN a + liveN b := by
  induction a with
  | nil => simp [liveN]
  | cons x l ih => simp only [List.cons_append, liveN, ih]; omega
theorem liveN_le (l : List Bool) : liveN l ≤ l.length := by
  induction l with
  | nil => exact Nat.le_refl _
  | cons x l ih => simp only [liveN, List.length_cons]; split <;> omega
theorem liveN_take {l : List Bool} {k : Nat} (h : k < l.length) : liveN (l.take (k + 1)) = liveN (l.take k) + (if l[k] then 1 else 0) := by
  rw [List.take_succ_eq_append_getElem h, liveN_append]
  simp [liveN]
end Go.Proofs.Ytmlemichkeomjaa.MendW

/- Small, Present walked. -/
set_option linter.unusedVariables false
set_option linter.unusedSimpArgs false
namespace Go.Proofs.Ytmlemichkeomjaa.MendW
open Go.RowKit Go.Proofs.Ytmlemichkeomjaa.Base

/-- A manifest's value. -/
def mv (t a : Int) (A2 : Option Addr) (n2 c2 : Nat) (A3 : Option Addr) (n3 c3 : Nat) (A4 : Option Addr) (n4 c4 : Nat) : Array Value := #[.int .i64 t, .int .i64 a, .slice A2 n2 c2, .slice A3 n3 c3, .slice A4 n4 c4]
structure SmallM (n2 n3 : Nat) (hm : List (List Int)) : Prop where
  size : n2 ≤ 30
  sum : n3 ≤ 30
  homes : hm.length ≤ 30
  row : ∀ i (h : i < hm.length), hm[i].length ≤ 30
section
variable (t a : Int) (A2 : Option Addr) (n2 c2 : Nat) (A3 : Option Addr) (n3 c3 : Nat) (A4 : Option Addr) (n4 c4 : Nat) (hm : List (List Int)) (w : World)
set_option maxRecDepth 100000 in
set_option maxHeartbeats 1000000 in
theorem small16_any (hH : IRows w A4 hm) (hl : hm.length = n4) (hb : n2 ≤ 9223372036854775807 ∧ n3 ≤ 9223372036854775807 ∧ n4 ≤ 9223372036854775807) (hr : ∀ i (h : i < hm.length), hm[i].length ≤ 9223372036854775807) :
    Calls Try.prog 12 #[.agg #[.int .i64 t, .int .i64 a, .slice A2 n2 c2, .slice A3 n3 c3, .slice A4 n4 c4]] w fun e w' => ∃ r : Nat, e = .returned (.int .i64 (r : Nat)) ∧ (r = 0 ∨ r = 1 ∧ SmallM n2 n3 hm) ∧ Below w.heap.size w w' := by
  have HL := Lib.hid hl
  have HR := Lib.hid hr
  clear hr hl
  go_enter Try.func12, Try.ntmps12
  go_upto_region 1 with fail
  have q2 : (w.alloc (.cells #[.int .i64 t, .int .i64 a, .slice A2 n2 c2, .slice A3 n3 c3, .slice A4 n4 c4] 26)).cell? ⟨w.heap.size, 2, none⟩ = some (.slice A2 n2 c2) := by rw [cell_of_row _ _ _ _ _ _ (heap_alloc_new w _)]; rfl
  have q3 : (w.alloc (.cells #[.int .i64 t, .int .i64 a, .slice A2 n2 c2, .slice A3 n3 c3, .slice A4 n4 c4] 26)).cell? ⟨w.heap.size, 3, none⟩ = some (.slice A3 n3 c3) := by rw [cell_of_row _ _ _ _ _ _ (heap_alloc_new w _)]; rfl
  have q4 : (w.alloc (.cells #[.int .i64 t, .int .i64 a, .slice A2 n2 c2, .slice A3 n3 c3, .slice A4 n4 c4] 26)).cell? ⟨w.heap.size, 4, none⟩ = some (.slice A4 n4 c4) := by rw [cell_of_row _ _ _ _ _ _ (heap_alloc_new w _)]; rfl
  have hWb : Below w.heap.size w (w.alloc (.cells #[.int .i64 t, .int .i64 a, .slice A2 n2 c2, .slice A3 n3 c3, .slice A4 n4 c4] 26)) := (Below.refl _ _).alloc (Nat.le_refl _) _
  generalize w.alloc (.cells #[.int .i64 t, .int .i64 a, .slice A2 n2 c2, .slice A3 n3 c3, .slice A4 n4 c4] 26) = W at q2 q3 q4 hWb ⊢
  have hH2 := hH.below hWb
  by_cases s2 : n2 ≤ 30
  · have t2 : decide ((30 : Int) < ((n2 : Nat) : Int)) = false := by simp; omega
    have t2' : decide (30 < n2) = false := by simp; omega
    by_cases s3 : n3 ≤ 30
    · have t3 : decide ((30 : Int) < ((n3 : Nat) : Int)) = false := by simp; omega
      have t3' : decide (30 < n3) = false := by simp; omega
      by_cases s4 : n4 ≤ 30
      · have t4 : decide ((30 : Int) < ((n4 : Nat) : Int)) = false := by simp; omega
        have t4' : decide (30 < n4) = false := by simp; omega
        go_wp2
        go_loop [3] (fun i => ∃ k : Nat, k ≤ n4 ∧ i = .int .i64 k ∧ ∀ j (hj : j < hm.length), j < k → hm[j].length ≤ 30) (fun i => n4 - (intOf i).toNat)
        case atStart => exact ⟨0, by omega, rfl, fun j _ h => by omega⟩
        case round =>
          obtain ⟨k, hk, rfl, hall⟩ := hrel
          have HA := Lib.hid hall
          clear hall
          by_cases hlt : k < n4
          · have hkl : k < hm.length := by have := HL.out; omega
            obtain ⟨b, off, rfl, hc⟩ := hH2.block (by omega)
            obtain ⟨B, cb, g1, _, _⟩ := hc k hkl
            have hq9 := HR.out k hkl
            obtain ⟨q, hq⟩ : ∃ q, q = hm[k].length := ⟨_, rfl⟩
            rw [← hq] at g1 hq9
            have HQ := Lib.hid hq
            clear hc hq
            by_cases he : q ≤ 30
            · have t5 : decide ((30 : Int) < ((q : Nat) : Int)) = false := by simp; omega
              have t5' : decide (30 < q) = false := by simp; omega
              go_wp2
              go_round
              case rel =>
                refine ⟨k + 1, by omega, by go_num, fun j hj hjk => ?_⟩
                by_cases e : j = k
                · subst e; rw [← HQ.out]; exact he
                · exact HA.out j hj (by omega)
              case measure => simp [intOf]; omega
            · have t5 : decide ((30 : Int) < ((q : Nat) : Int)) = true := by simp; omega
              have t5' : decide (30 < q) = true := by simp; omega
              go_wp2
              go_ret
              exact ⟨0, rfl, .inl rfl, hWb⟩
          · obtain rfl : k = n4 := by omega
            go_wp2
            go_ret
            exact ⟨1, rfl, .inr ⟨rfl, s2, s3, by have := HL.out; omega, fun i hi => HA.out i hi (by have := HL.out; omega)⟩, hWb⟩
      · have t4 : decide ((30 : Int) < ((n4 : Nat) : Int)) = true := by simp; omega
        have t4' : decide (30 < n4) = true := by simp; omega
        go_wp2
        go_ret
        exact ⟨0, rfl, .inl rfl, hWb⟩
    · have t3 : decide ((30 : Int) < ((n3 : Nat) : Int)) = true := by simp; omega
      have t3' : decide (30 < n3) = true := by simp; omega
      go_wp2
      go_ret
      exact ⟨0, rfl, .inl rfl, hWb⟩
  · have t2 : decide ((30 : Int) < ((n2 : Nat) : Int)) = true := by simp; omega
    have t2' : decide (30 < n2) = true := by simp; omega
    go_wp2
    go_ret
    exact ⟨0, rfl, .inl rfl, hWb⟩
end
end Go.Proofs.Ytmlemichkeomjaa.MendW

/- Present walked. -/
set_option linter.unusedVariables false
set_option linter.unusedSimpArgs false
namespace Go.Proofs.Ytmlemichkeomjaa.MendW
open Go.RowKit Go.Proofs.Ytmlemichkeomjaa.Base

theorem info_int : (Try.prog.info? 3).map (fun i => (i.zero, i.size, i.bytes)) = some (some (.int .i64 0), 1, 8) := by kernel_rfl
/-- The pieces of a row that are present, up to a place. -/
def presK (hv : List (List Bool)) (live : List Bool) (row : List Int) (p : Nat) (k : Nat) : List Nat := (List.range k).filter fun a => hasB hv p a && livesB live (row.getD a 0)
def castL (l : List Nat) : List Int := l.map fun x : Nat => (x : Int)
theorem castL_length (l : List Nat) : (castL l).length = l.length := by simp [castL]
theorem presK_succ (hv : List (List Bool)) (live : List Bool) (row : List Int) (p k : Nat) : presK hv live row p (k + 1) = presK hv live row p k ++ (if hasB hv p k && livesB live (row.getD k 0) then [k] else []) := by
  unfold presK
  rw [List.range_succ, List.filter_append]
  simp only [List.filter_cons, List.filter_nil]
theorem presK_lt (hv : List (List Bool)) (live : List Bool) (row : List Int) (p k : Nat) : ∀ x, x ∈ presK hv live row p k → x < k ∧ hasB hv p x = true ∧ livesB live (row.getD x 0) = true := fun x hx => by
  obtain ⟨h1, h2⟩ := List.mem_filter.1 hx
  rw [Bool.and_eq_true] at h2
  exact ⟨List.mem_range.1 h1, h2.1, h2.2⟩
theorem presK_length (hv : List (List Bool)) (live : List Bool) (row : List Int) (p k : Nat) : (presK hv live row p k).length ≤ k := by
  have := List.length_filter_le (fun a => hasB hv p a && livesB live (row.getD a 0)) (List.range k)
  rw [List.length_range] at this
  exact this
def presOf (hv : List (List Bool)) (live : List Bool) (hm : List (List Int)) (p : Nat) : List Nat := presK hv live (hm.getD p []) p (hm.getD p []).length
theorem castL_le {l : List Nat} {k : Nat} (h : ∀ x, x ∈ l → x < k) (hk : k ≤ 1000000) : ∀ x, x ∈ castL l → -9223372036854775808 ≤ x ∧ x ≤ 9223372036854775807 := fun x hx => by
  obtain ⟨i, hi, rfl⟩ := List.mem_map.1 hx
  have := h i hi
  omega
section
variable (t a : Int) (A2 : Option Addr) (n2 c2 : Nat) (A3 : Option Addr) (n3 c3 : Nat) (A4 : Option Addr) (n4 c4 : Nat) (hm : List (List Int)) (Ah : Option Addr) (nh ch : Nat) (hv : List (List Bool)) (Al : Option Addr) (nl cl : Nat) (live : List Bool) (w : World)
end
end Go.Proofs.Ytmlemichkeomjaa.MendW

/- Whole, equal walked. -/
set_option linter.unusedVariables false
set_option linter.unusedSimpArgs false
namespace Go.Proofs.Ytmlemichkeomjaa.MendW
open Go.RowKit Go.Proofs.Ytmlemichkeomjaa.Base

/-- A block that holds a manifest. -/
structure ManBox (w : World) (b : Nat) (t a : Int) (A2 : Option Addr) (n2 c2 : Nat) (A3 : Option Addr) (n3 c3 : Nat) (A4 : Option Addr) (n4 c4 : Nat) : Prop where
  f0 : w.cell? ⟨b, 0, none⟩ = some (.int .i64 t)
  f1 : w.cell? ⟨b, 1, none⟩ = some (.int .i64 a)
  f2 : w.cell? ⟨b, 2, none⟩ = some (.slice A2 n2 c2)
  f3 : w.cell? ⟨b, 3, none⟩ = some (.slice A3 n3 c3)
  f4 : w.cell? ⟨b, 4, none⟩ = some (.slice A4 n4 c4)
theorem ManBox.below {w w' : World} {b : Nat} {t a : Int} {A2 : Option Addr} {n2 c2 : Nat} {A3 : Option Addr} {n3 c3 : Nat} {A4 : Option Addr} {n4 c4 : Nat} (h : ManBox w b t a A2 n2 c2 A3 n3 c3 A4 n4 c4) (hb : Below w.heap.size w w') : ManBox w' b t a A2 n2 c2 A3 n3 c3 A4 n4 c4 :=
  ⟨cell_below hb h.f0, cell_below hb h.f1, cell_below hb h.f2, cell_below hb h.f3, cell_below hb h.f4⟩
theorem ManBox.mk' (w : World) (t a : Int) (A2 : Option Addr) (n2 c2 : Nat) (A3 : Option Addr) (n3 c3 : Nat) (A4 : Option Addr) (n4 c4 : Nat) : ManBox (w.alloc (.cells #[.int .i64 t, .int .i64 a, .slice A2 n2 c2, .slice A3 n3 c3, .slice A4 n4 c4] 26)) w.heap.size t a A2 n2 c2 A3 n3 c3 A4 n4 c4 := by
  constructor <;> (rw [cell_of_row _ _ _ _ _ _ (heap_alloc_new w _)]; rfl)
def wholeB (hv : List (List Bool)) (live : List Bool) (hm : List (List Int)) (k : Int) (n : Nat) : Bool := (List.range n).all fun p => !decide (((presOf hv live hm p).length : Int) < k)
theorem wholeB_succ (hv : List (List Bool)) (live : List Bool) (hm : List (List Int)) (k : Int) (n : Nat) : wholeB hv live hm k (n + 1) = (wholeB hv live hm k n && !decide (((presOf hv live hm n).length : Int) < k)) := by
  unfold wholeB
  rw [List.range_succ, List.all_append]
  simp
theorem wholeB_false {hv : List (List Bool)} {live : List Bool} {hm : List (List Int)} {k : Int} {n p : Nat} (hp : p < n) (h : ((presOf hv live hm p).length : Int) < k) : wholeB hv live hm k n = false := by
  cases hb : wholeB hv live hm k n with
  | false => rfl
  | true =>
    have := List.all_eq_true.1 hb p (List.mem_range.2 hp)
    simp at this
    omega
section
variable (t a : Int) (A2 : Option Addr) (n2 c2 : Nat) (A3 : Option Addr) (n3 c3 : Nat) (A4 : Option Addr) (n4 c4 : Nat) (hm : List (List Int)) (Ah : Option Addr) (nh ch : Nat) (hv : List (List Bool)) (Al : Option Addr) (nl cl : Nat) (live : List Bool) (w : World)
end
end Go.Proofs.Ytmlemichkeomjaa.MendW

/- slices.Clone walked, at three types. -/
set_option linter.unusedVariables false
set_option linter.unusedSimpArgs false
namespace Go.Proofs.Ytmlemichkeomjaa.MendW
open Go.RowKit Go.Proofs.Ytmlemichkeomjaa.Base

theorem info_clone_int : (Try.prog.info? 3).map (fun i => (i.zero, i.size, i.bytes)) = some (some (.int .i64 0), 1, 8) := by kernel_rfl
set_option maxRecDepth 100000 in
set_option maxHeartbeats 1000000 in
theorem clone_int (A : Option Addr) (n c : Nat) (xs : List Value) (w : World) (hc : xs = [] ∨ ∃ b off, A = some ⟨b, off, none⟩ ∧ ∀ j u, xs[j]? = some u → w.cell? ((⟨b, off, none⟩ : Addr).add j) = some u) (hone : ∀ u ∈ xs, u.oneCell' = true) (hl : xs.length = n) (hn : n ≤ 1000000) :
    Calls Try.prog 117 #[.slice A n c] w fun e w' => ∃ v, e = .returned v ∧ w'.ownsRow w.heap.size 3 1 v n xs ∧ Below w.heap.size w w' := by
  cases A with
  | none =>
    have : xs = [] := by
      rcases hc with h | ⟨b, off, h, _⟩
      · exact h
      · cases h
    subst this
    obtain rfl : n = 0 := by simpa using hl.symm
    have hE := fun W => Lib.run_eql_slice_nil (P := Try.prog) W 22 3 none 0 c 0 0 Try.underlying22
    go_enter Try.func117, Try.ntmps117
    go_wp2
    go_ret
    exact ⟨_, rfl, World.ownsRow_nil _ _ _ _, Below.refl _ _⟩
  | some ad =>
    have hcc : ∀ j u, xs[j]? = some u → w.cell? (ad.add j) = some u := by
      rcases hc with rfl | ⟨b, off, h, h2⟩
      · intro j u h; simp at h
      · cases h; exact h2
    clear hc
    have hE := fun W => Lib.run_eql_slice_nil (P := Try.prog) W 22 3 (some ad) n c 0 0 Try.underlying22
    obtain ⟨i0, hi, hzz⟩ := Option.map_eq_some_iff.1 info_clone_int
    simp only [Prod.mk.injEq] at hzz
    obtain ⟨hz0, hz1, hz2⟩ := hzz
    have HO : (w.alloc (.cells #[] 3)).ownsRow w.heap.size 3 1 (.slice (some ⟨w.heap.size, 0, none⟩) 0 0) 0 [] := World.ownsRow_made w #[] 0 (Nat.le_refl _) (by unfold maxLen; omega) rfl
    have HN := Lib.hid (show ∀ j u, xs[j]? = some u → (w.alloc (.cells #[] 3)).cell? (ad.add j) = some u from fun j u h => cell_below (bt (Below.refl _ _) (Nat.le_refl _) ((Below.refl _ _).alloc (Nat.le_refl _) _)) (hcc j u h))
    clear hcc
    go_enter Try.func117, Try.ntmps117
    go_wp2_with (at_builtin; refine wpList_append_own_at _ rfl (.tmp 5) (.tmp 6) 22 rfl w.heap.size 3 i0 (.int .i64 0) 1 8 Try.underlying22 hi hz0 hz1 hz2 rfl (by omega) (.slice (some ⟨w.heap.size, 0, none⟩) 0 0) 0 [] rfl HO ad n c xs rfl (by omega) HN.out hone (by simp only [maxLen]; omega) (by omega) (by simp) ?_; intro v1 w1 HO2 hg2 _ _)
    rw [Nat.zero_add, List.nil_append] at HO2
    go_ret
    exact ⟨v1, rfl, HO2, ((Below.refl _ _).alloc (Nat.le_refl _) _).grown hg2 (by simp) (own_lo HO)⟩
theorem info_clone_u32 : (Try.prog.info? 72).map (fun i => (i.zero, i.size, i.bytes)) = some (some (.int .u32 0), 1, 4) := by kernel_rfl
set_option maxRecDepth 100000 in
set_option maxHeartbeats 1000000 in
theorem clone_u32 (A : Option Addr) (n c : Nat) (xs : List Value) (w : World) (hc : xs = [] ∨ ∃ b off, A = some ⟨b, off, none⟩ ∧ ∀ j u, xs[j]? = some u → w.cell? ((⟨b, off, none⟩ : Addr).add j) = some u) (hone : ∀ u ∈ xs, u.oneCell' = true) (hl : xs.length = n) (hn : n ≤ 1000000) :
    Calls Try.prog 118 #[.slice A n c] w fun e w' => ∃ v, e = .returned v ∧ w'.ownsRow w.heap.size 72 1 v n xs ∧ Below w.heap.size w w' := by
  cases A with
  | none =>
    have : xs = [] := by
      rcases hc with h | ⟨b, off, h, _⟩
      · exact h
      · cases h
    subst this
    obtain rfl : n = 0 := by simpa using hl.symm
    have hE := fun W => Lib.run_eql_slice_nil (P := Try.prog) W 23 72 none 0 c 0 0 Try.underlying23
    go_enter Try.func118, Try.ntmps118
    go_wp2
    go_ret
    exact ⟨_, rfl, World.ownsRow_nil _ _ _ _, Below.refl _ _⟩
  | some ad =>
    have hcc : ∀ j u, xs[j]? = some u → w.cell? (ad.add j) = some u := by
      rcases hc with rfl | ⟨b, off, h, h2⟩
      · intro j u h; simp at h
      · cases h; exact h2
    clear hc
    have hE := fun W => Lib.run_eql_slice_nil (P := Try.prog) W 23 72 (some ad) n c 0 0 Try.underlying23
    obtain ⟨i0, hi, hzz⟩ := Option.map_eq_some_iff.1 info_clone_u32
    simp only [Prod.mk.injEq] at hzz
    obtain ⟨hz0, hz1, hz2⟩ := hzz
    have HO : (w.alloc (.cells #[] 72)).ownsRow w.heap.size 72 1 (.slice (some ⟨w.heap.size, 0, none⟩) 0 0) 0 [] := World.ownsRow_made w #[] 0 (Nat.le_refl _) (by unfold maxLen; omega) rfl
    have HN := Lib.hid (show ∀ j u, xs[j]? = some u → (w.alloc (.cells #[] 72)).cell? (ad.add j) = some u from fun j u h => cell_below (bt (Below.refl _ _) (Nat.le_refl _) ((Below.refl _ _).alloc (Nat.le_refl _) _)) (hcc j u h))
    clear hcc
    go_enter Try.func118, Try.ntmps118
    go_wp2_with (at_builtin; refine wpList_append_own_at _ rfl (.tmp 5) (.tmp 6) 23 rfl w.heap.size 72 i0 (.int .u32 0) 1 4 Try.underlying23 hi hz0 hz1 hz2 rfl (by omega) (.slice (some ⟨w.heap.size, 0, none⟩) 0 0) 0 [] rfl HO ad n c xs rfl (by omega) HN.out hone (by simp only [maxLen]; omega) (by omega) (by simp) ?_; intro v1 w1 HO2 hg2 _ _)
    rw [Nat.zero_add, List.nil_append] at HO2
    go_ret
    exact ⟨v1, rfl, HO2, ((Below.refl _ _).alloc (Nat.le_refl _) _).grown hg2 (by simp) (own_lo HO)⟩
theorem info_clone_rows : (Try.prog.info? 22).map (fun i => (i.zero, i.size, i.bytes)) = some (some (.slice none 0 0), 1, 24) := by kernel_rfl
set_option maxRecDepth 100000 in
set_option maxHeartbeats 1000000 in
theorem clone_rows (A : Option Addr) (n c : Nat) (xs : List Value) (w : World) (hc : xs = [] ∨ ∃ b off, A = some ⟨b, off, none⟩ ∧ ∀ j u, xs[j]? = some u → w.cell? ((⟨b, off, none⟩ : Addr).add j) = some u) (hone : ∀ u ∈ xs, u.oneCell' = true) (hl : xs.length = n) (hn : n ≤ 1000000) :
    Calls Try.prog 119 #[.slice A n c] w fun e w' => ∃ v, e = .returned v ∧ w'.ownsRow w.heap.size 22 1 v n xs ∧ Below w.heap.size w w' := by
  cases A with
  | none =>
    have : xs = [] := by
      rcases hc with h | ⟨b, off, h, _⟩
      · exact h
      · cases h
    subst this
    obtain rfl : n = 0 := by simpa using hl.symm
    have hE := fun W => Lib.run_eql_slice_nil (P := Try.prog) W 24 22 none 0 c 0 0 Try.underlying24
    go_enter Try.func119, Try.ntmps119
    go_wp2
    go_ret
    exact ⟨_, rfl, World.ownsRow_nil _ _ _ _, Below.refl _ _⟩
  | some ad =>
    have hcc : ∀ j u, xs[j]? = some u → w.cell? (ad.add j) = some u := by
      rcases hc with rfl | ⟨b, off, h, h2⟩
      · intro j u h; simp at h
      · cases h; exact h2
    clear hc
    have hE := fun W => Lib.run_eql_slice_nil (P := Try.prog) W 24 22 (some ad) n c 0 0 Try.underlying24
    obtain ⟨i0, hi, hzz⟩ := Option.map_eq_some_iff.1 info_clone_rows
    simp only [Prod.mk.injEq] at hzz
    obtain ⟨hz0, hz1, hz2⟩ := hzz
    have HO : (w.alloc (.cells #[] 22)).ownsRow w.heap.size 22 1 (.slice (some ⟨w.heap.size, 0, none⟩) 0 0) 0 [] := World.ownsRow_made w #[] 0 (Nat.le_refl _) (by unfold maxLen; omega) rfl
    have HN := Lib.hid (show ∀ j u, xs[j]? = some u → (w.alloc (.cells #[] 22)).cell? (ad.add j) = some u from fun j u h => cell_below (bt (Below.refl _ _) (Nat.le_refl _) ((Below.refl _ _).alloc (Nat.le_refl _) _)) (hcc j u h))
    clear hcc
    go_enter Try.func119, Try.ntmps119
    go_wp2_with (at_builtin; refine wpList_append_own_at _ rfl (.tmp 5) (.tmp 6) 24 rfl w.heap.size 22 i0 (.slice none 0 0) 1 24 Try.underlying24 hi hz0 hz1 hz2 rfl (by omega) (.slice (some ⟨w.heap.size, 0, none⟩) 0 0) 0 [] rfl HO ad n c xs rfl (by omega) HN.out hone (by simp only [maxLen]; omega) (by omega) (by simp) ?_; intro v1 w1 HO2 hg2 _ _)
    rw [Nat.zero_add, List.nil_append] at HO2
    go_ret
    exact ⟨v1, rfl, HO2, ((Below.refl _ _).alloc (Nat.le_refl _) _).grown hg2 (by simp) (own_lo HO)⟩
end Go.Proofs.Ytmlemichkeomjaa.MendW

/- (*planner).free walked. -/
set_option linter.unusedVariables false
set_option linter.unusedSimpArgs false
namespace Go.Proofs.Ytmlemichkeomjaa.MendW
open Go.RowKit Go.Proofs.Ytmlemichkeomjaa.Base

theorem ints_regrown {w : World} {A : Option Addr} {l : List Int} (h : Ints w A l) (p : Regrown) : Ints (Go.Sort.grow (redrawn w p.d) p.os) A l := h.below (below_of_regrown ⟨p, rfl⟩)
/-- The free worker among the first k. -/
structure FreeK (live : List Bool) (taken : List Int) (k r : Nat) : Prop where
  no : r = 0 → ∀ i (h : i < live.length), i < k → live[i] = true → ((i : Nat) : Int) + 1 ∈ taken
  yes : r ≠ 0 → r ≤ k ∧ live.getD (r - 1) false = true ∧ ((r : Nat) : Int) ∉ taken
theorem FreeK.skip {live : List Bool} {taken : List Int} {k r : Nat} (h : FreeK live taken k r) (hk : k < live.length) (hs : r ≠ 0 ∨ live[k] = false ∨ ((k : Nat) : Int) + 1 ∈ taken) : FreeK live taken (k + 1) r := by
  refine ⟨fun h0 i hi hik hl => ?_, fun h0 => ?_⟩
  · by_cases e : i = k
    · subst e
      rcases hs with h1 | h1 | h1
      · exact absurd h0 h1
      · rw [h1] at hl; cases hl
      · exact h1
    · exact h.no h0 i hi (by omega) hl
  · obtain ⟨h1, h2, h3⟩ := h.yes h0
    exact ⟨by omega, h2, h3⟩
theorem FreeK.take {live : List Bool} {taken : List Int} {k : Nat} (hk : k < live.length) (hl : live[k] = true) (hn : ((k : Nat) : Int) + 1 ∉ taken) : FreeK live taken (k + 1) (k + 1) := by
  refine ⟨fun h0 => by omega, fun _ => ⟨Nat.le_refl _, ?_, ?_⟩⟩
  · rw [Nat.add_sub_cancel, List.getD_eq_getElem?_getD, List.getElem?_eq_getElem hk]
    exact hl
  · rw [Int.natCast_add]; exact hn
section
variable (pb : Nat) (Al : Option Addr) (nl cl : Nat) (live : List Bool) (Ao : Option Addr) (co : Nat) (loads : List Int) (At : Option Addr) (nt ct : Nat) (taken : List Int) (w : World)
end
end Go.Proofs.Ytmlemichkeomjaa.MendW

/- stooklaw18.small walked. -/
set_option linter.unusedVariables false
set_option linter.unusedSimpArgs false
namespace Go.Proofs.Ytmlemichkeomjaa.MendW
open Go.RowKit Go.Proofs.Ytmlemichkeomjaa.Base

structure Small18 (n2 n3 : Nat) (hm : List (List Int)) (hv : List (List Bool)) (nl no : Nat) (loads : List Int) : Prop where
  man : SmallM n2 n3 hm
  have_ : hv.length ≤ 40
  row : ∀ i (h : i < hv.length), hv[i].length ≤ 40
  nlive : nl ≤ 40
  nload : no ≤ 40
  load : ∀ i (h : i < loads.length), -1099511627776 ≤ loads[i] ∧ loads[i] ≤ 1099511627776
/-- What small answers. -/
def SmallPost (w : World) (n2 n3 : Nat) (hm : List (List Int)) (hv : List (List Bool)) (nl no : Nat) (loads : List Int) (e : Ending) (w' : World) : Prop := ∃ f : Bool, e = .returned (.bool f) ∧ (f = true → Small18 n2 n3 hm hv nl no loads) ∧ Below w.heap.size w w'
section
variable (t a : Int) (A2 : Option Addr) (n2 c2 : Nat) (A3 : Option Addr) (n3 c3 : Nat) (A4 : Option Addr) (n4 c4 : Nat) (hm : List (List Int)) (Ah : Option Addr) (nh ch : Nat) (hv : List (List Bool)) (Al : Option Addr) (nl cl : Nat) (Ao : Option Addr) (no co : Nat) (loads : List Int) (w : World)
end
end Go.Proofs.Ytmlemichkeomjaa.MendW

/- stripe.id, stripe.homely walked. -/
set_option linter.unusedVariables false
set_option linter.unusedSimpArgs false
namespace Go.Proofs.Ytmlemichkeomjaa.MendW
open Go.RowKit Go.Proofs.Ytmlemichkeomjaa.Base

def idB (n : Int) : Bool := decide (0 ≤ n) && decide (n ≤ 2147483647)
theorem id_any (n : Int) (w : World) : Calls Try.prog 139 #[.int .i64 n] w fun e w' => e = .returned (.bool (idB n)) ∧ w = w' := by
  by_cases h1 : 0 ≤ n
  · have t1 : decide (0 ≤ n) = true := by simp [h1]
    have HT := Lib.hid (show idB n = decide (n ≤ 2147483647) by rw [idB, t1, Bool.true_and])
    go_enter Try.func139, Try.ntmps139
    go_wp2
    go_ret
    exact ⟨by rw [HT.out]; rfl, rfl⟩
  · have t1 : decide (0 ≤ n) = false := by simp [h1]
    have HT := Lib.hid (show idB n = false by rw [idB, t1, Bool.false_and])
    go_enter Try.func139, Try.ntmps139
    go_wp2
    go_ret
    exact ⟨by rw [HT.out]; rfl, rfl⟩
/-- Homes of n workers. -/
structure Homely (l : List Int) (n : Int) : Prop where
  len : (l.length : Int) = n
  rng : ∀ i (h : i < l.length), 1 ≤ l[i] ∧ l[i] ≤ 16
  ne : ∀ i (h : i < l.length), ∀ j (hj : j < i), l[i] ≠ l[j]'(by omega)
noncomputable def homelyD (l : List Int) (n : Int) : Bool := @decide (Homely l n) (Classical.propDecidable _)
theorem homelyD_true {l : List Int} {n : Int} (h : Homely l n) : homelyD l n = true := by unfold homelyD; exact @decide_eq_true _ (Classical.propDecidable _) h
theorem homelyD_false {l : List Int} {n : Int} (h : ¬ Homely l n) : homelyD l n = false := by unfold homelyD; exact @decide_eq_false _ (Classical.propDecidable _) h
theorem Ints.take {w : World} {A : Option Addr} {l : List Int} (h : Ints w A l) (k : Nat) : Ints w A (l.take k) := by
  refine ⟨fun x hx => h.le x (List.mem_of_mem_take hx), ?_⟩
  rcases h.at_ with rfl | ⟨b, off, e, hc⟩
  · exact .inl (by simp)
  · refine .inr ⟨b, off, e, fun j hj => ?_⟩
    rw [List.getElem_take]
    exact hc j (by rw [List.length_take] at hj; omega)
theorem mem_take_of {l : List Int} {k : Nat} {x : Int} : x ∈ l.take k ↔ ∃ j, ∃ h : j < l.length, j < k ∧ l[j] = x := by
  rw [List.mem_take_iff_getElem]
  exact ⟨fun ⟨j, hj, e⟩ => ⟨j, by omega, by omega, e⟩, fun ⟨j, h, hk, e⟩ => ⟨j, by omega, e⟩⟩
set_option maxRecDepth 100000 in
set_option maxHeartbeats 2000000 in
theorem homely_any (A : Option Addr) (n c : Nat) (l : List Int) (m : Int) (w : World) (hS : Ints w A l) (hl : l.length = n) (hn : n ≤ 1000000) (hnc : n ≤ c) :
    Calls Try.prog 144 #[.slice A n c, .int .i64 m] w fun e w' => e = .returned (.bool (homelyD l m)) ∧ w = w' := by
  have HL := Lib.hid hl
  by_cases hne : (n : Int) = m
  · have t0 : (((n : Nat) : Int) != m) = false := by simp [hne]
    have HNE := Lib.hid hne
    clear hne
    go_enter Try.func144, Try.ntmps144
    go_wp2
    go_loop [5, 6, 13] (fun _ _ i => ∃ k : Nat, k ≤ n ∧ i = .int .i64 k ∧ (∀ i (h : i < l.length), i < k → 1 ≤ l[i] ∧ l[i] ≤ 16) ∧ ∀ i (h : i < l.length), i < k → ∀ j (hj : j < i), l[i] ≠ l[j]'(by omega)) (fun _ _ i => n - (intOf i).toNat)
    case atStart => exact ⟨0, by omega, rfl, fun i _ h => by omega, fun i _ h => by omega⟩
    case round =>
      obtain ⟨k, hk, rfl, ha1, ha2⟩ := hrel
      have HA1 := Lib.hid ha1
      have HA2 := Lib.hid ha2
      clear ha1 ha2
      by_cases hlt : k < n
      · have hkl : k < l.length := by have := HL.out; omega
        have HC := Lib.hid (fun (x : Int) => contains_any A k c (l.take k) x w (Ints.take hS k) (by rw [List.length_take]; omega) (by omega))
        obtain ⟨b, off, rfl, hc⟩ := hS.block (by omega)
        have g1 := hc k hkl
        obtain ⟨x, hx⟩ : ∃ x, x = l[k] := ⟨_, rfl⟩
        rw [← hx] at g1
        have HX := Lib.hid hx
        clear hc hx
        by_cases h1 : x < 1
        · have t1 : decide (x < 1) = true := by simp [h1]
          have HF := Lib.hid (homelyD_false (l := l) (n := m) fun h => by have := h.rng k hkl; rw [← HX.out] at this; omega)
          clear h1
          go_wp2
          go_ret
          exact ⟨by rw [HF.out]; rfl, rfl⟩
        · have t1 : decide (x < 1) = false := by simp [h1]
          by_cases h2 : 16 < x
          · have t2 : decide ((16 : Int) < x) = true := by simp [h2]
            have HF := Lib.hid (homelyD_false (l := l) (n := m) fun h => by have := h.rng k hkl; rw [← HX.out] at this; omega)
            clear h1 h2
            go_wp2
            go_ret
            exact ⟨by rw [HF.out]; rfl, rfl⟩
          · have t2 : decide ((16 : Int) < x) = false := by simp [h2]
            have HH := Lib.hid (show 1 ≤ x ∧ x ≤ 16 by omega)
            clear h1 h2
            have HCx := Lib.hid (HC.out x)
            clear HC
            by_cases hm : x ∈ l.take k
            · rw [decide_eq_true hm] at HCx
              have HF := Lib.hid (homelyD_false (l := l) (n := m) fun h => by
                obtain ⟨j, hj, hjk, e⟩ := mem_take_of.1 hm
                exact h.ne k hkl j hjk (by rw [e, HX.out]))
              clear hm
              go_wp2_with (go_at_call 151; (with_reducible refine (HCx.out).mono ?_); rintro e w2 ⟨rfl, rfl⟩)
              go_ret
              exact ⟨by rw [HF.out]; rfl, rfl⟩
            · rw [decide_eq_false hm] at HCx
              have HM := Lib.hid hm
              clear hm
              go_wp2_with (go_at_call 151; (with_reducible refine (HCx.out).mono ?_); rintro e w2 ⟨rfl, rfl⟩)
              go_round
              case rel =>
                refine ⟨k + 1, by omega, by go_num, fun i hi hik => ?_, fun i hi hik j hj => ?_⟩
                · by_cases e : i = k
                  · subst e; rw [← HX.out]; exact HH.out
                  · exact HA1.out i hi (by omega)
                · by_cases e : i = k
                  · subst e
                    intro e2
                    exact HM.out (mem_take_of.2 ⟨j, by omega, hj, by rw [HX.out, e2]⟩)
                  · exact HA2.out i hi (by omega) j hj
              case measure => simp [intOf]; omega
      · obtain rfl : k = n := by omega
        have HF := Lib.hid (homelyD_true (l := l) (n := m) ⟨by rw [HL.out]; exact HNE.out, fun i hi => HA1.out i hi (by have := HL.out; omega), fun i hi j hj => HA2.out i hi (by have := HL.out; omega) j hj⟩)
        go_wp2
        go_ret
        exact ⟨by rw [HF.out]; rfl, rfl⟩
  · have t0 : (((n : Nat) : Int) != m) = true := by simp [hne]
    have HF := Lib.hid (homelyD_false (l := l) (n := m) fun h => hne (by rw [← hl]; exact h.len))
    go_enter Try.func144, Try.ntmps144
    go_wp2
    go_ret
    exact ⟨by rw [HF.out]; rfl, rfl⟩
end Go.Proofs.Ytmlemichkeomjaa.MendW

/- slices.Equal at whole numbers and at sums; slices.ContainsFunc at sizes walked. -/
set_option linter.unusedVariables false
set_option linter.unusedSimpArgs false
namespace Go.Proofs.Ytmlemichkeomjaa.MendW
open Go.RowKit Go.Proofs.Ytmlemichkeomjaa.Base

/-- Sums. -/
structure U32s (w : World) (A : Option Addr) (l : List Int) : Prop where
  le : ∀ x, x ∈ l → 0 ≤ x ∧ x ≤ 4294967295
  at_ : l = [] ∨ ∃ b off, A = some ⟨b, off, none⟩ ∧ ∀ j (h : j < l.length), w.cell? ⟨b, off + j, none⟩ = some (.int .u32 l[j])
theorem U32s.below {w w' : World} {A : Option Addr} {l : List Int} (h : U32s w A l) (hb : Below w.heap.size w w') : U32s w' A l := by
  refine ⟨h.le, ?_⟩
  rcases h.at_ with h1 | ⟨b, off, e, hc⟩
  · exact .inl h1
  · exact .inr ⟨b, off, e, fun j hj => cell_below hb (hc j hj)⟩
theorem U32s.block {w : World} {A : Option Addr} {l : List Int} (h : U32s w A l) (h0 : l.length ≠ 0) : ∃ b off, A = some ⟨b, off, none⟩ ∧ ∀ j (h : j < l.length), w.cell? ⟨b, off + j, none⟩ = some (.int .u32 l[j]) := by
  rcases h.at_ with h1 | h1
  · exact absurd (by rw [h1]; rfl) h0
  · exact h1
set_option maxRecDepth 100000 in
set_option maxHeartbeats 1000000 in
theorem sleq_int (A B : Option Addr) (n m c1 c2 : Nat) (l1 l2 : List Int) (w : World) (h1 : Ints w A l1) (hl1 : l1.length = n) (h2 : Ints w B l2) (hl2 : l2.length = m) (hn : n ≤ 1000000) :
    Calls Try.prog 45 #[.slice A n c1, .slice B m c2] w fun e w' => e = .returned (.bool (decide (l1 = l2))) ∧ Below w.heap.size w w' := by
  have HL1 := Lib.hid hl1
  have HL2 := Lib.hid hl2
  by_cases hne : n = m
  · subst hne
    have t0 : (((n : Nat) : Int) != ((n : Nat) : Int)) = false := by simp
    go_enter Try.func45, Try.ntmps45
    go_wp2
    go_loopw [5, 13] (fun _ i wr => ∃ k : Nat, k ≤ n ∧ i = .int .i64 k ∧ Below w.heap.size w wr ∧ ∀ j (hj : j < l1.length) (hj2 : j < l2.length), j < k → l1[j] = l2[j]) (fun _ i _ => n - (intOf i).toNat)
    case atStart => exact ⟨0, by omega, rfl, Below.refl _ _, fun j _ _ h => by omega⟩
    case round =>
      obtain ⟨k, hk, rfl, HB, hall⟩ := hrel
      have HA := Lib.hid hall
      clear hall
      by_cases hlt : k < n
      · obtain ⟨b, off, rfl, hc⟩ := (h1.below HB).block (by omega)
        obtain ⟨b2, off2, rfl, hc2⟩ := (h2.below HB).block (by omega)
        have g1 := hc k (by omega)
        have g2 := hc2 k (by omega)
        obtain ⟨x, hx⟩ : ∃ x, x = l1[k]'(by omega) := ⟨_, rfl⟩
        obtain ⟨y, hy⟩ : ∃ y, y = l2[k]'(by omega) := ⟨_, rfl⟩
        rw [← hx] at g1
        rw [← hy] at g2
        have HX := Lib.hid hx
        have HY := Lib.hid hy
        have r1 := regrown_cell g1
        have r2 := regrown_cell g2
        clear hc hc2 hx hy g1 g2
        by_cases he : x = y
        · have t1 : (x != y) = false := by simp [he]
          have HE9 := Lib.hid he
          clear he
          go_upto_region 6 with fail
          (refine wp_region_quiet_below (by kernel_rfl) (by kernel_rfl) ?_; (repeat (go_big_quiet_step (fail))); refine wpQuiet_nil ?_; intro wq hw'; have HQ := below_of_regrown hw'; clear hw')
          have HE := bt HB HB.size HQ
          clear HQ HB r1 r2
          go_wp2
          go_roundw
          case rel =>
            refine ⟨k + 1, by omega, by go_num, HE, fun j hj hj2 hjk => ?_⟩
            by_cases e : j = k
            · subst e; rw [← HX.out, ← HY.out]; exact HE9.out
            · exact HA.out j hj hj2 (by omega)
          case measure => simp [intOf]; omega
        · have t1 : (x != y) = true := by simp [he]
          have HE9 := Lib.hid he
          clear he
          have HD := Lib.hid (show decide (l1 = l2) = false from decide_eq_false fun e => HE9.out (by rw [HX.out, HY.out]; simp [e]))
          go_upto_region 6 with fail
          (refine wp_region_quiet_below (by kernel_rfl) (by kernel_rfl) ?_; (repeat (go_big_quiet_step (fail))); refine wpQuiet_nil ?_; intro wq hw'; have HQ := below_of_regrown hw'; clear hw')
          have HE := bt HB HB.size HQ
          clear HQ HB r1 r2
          go_wp2
          go_ret
          exact ⟨by rw [HD.out]; rfl, HE⟩
      · obtain rfl : k = n := by omega
        have HD := Lib.hid (show decide (l1 = l2) = true from decide_eq_true (List.ext_getElem (by omega) fun j hj hj2 => HA.out j hj hj2 (by omega)))
        go_wp2
        go_ret
        exact ⟨by rw [HD.out]; rfl, HB⟩
  · have t0 : (((n : Nat) : Int) != ((m : Nat) : Int)) = true := by simp; omega
    have HD := Lib.hid (show decide (l1 = l2) = false from decide_eq_false fun e => hne (by rw [← hl1, ← hl2, e]))
    go_enter Try.func45, Try.ntmps45
    go_wp2
    go_ret
    exact ⟨by rw [HD.out]; rfl, Below.refl _ _⟩
set_option maxRecDepth 100000 in
set_option maxHeartbeats 1000000 in
theorem sleq_u32 (A B : Option Addr) (n m c1 c2 : Nat) (l1 l2 : List Int) (w : World) (h1 : U32s w A l1) (hl1 : l1.length = n) (h2 : U32s w B l2) (hl2 : l2.length = m) (hn : n ≤ 1000000) :
    Calls Try.prog 46 #[.slice A n c1, .slice B m c2] w fun e w' => e = .returned (.bool (decide (l1 = l2))) ∧ Below w.heap.size w w' := by
  have HL1 := Lib.hid hl1
  have HL2 := Lib.hid hl2
  by_cases hne : n = m
  · subst hne
    have t0 : (((n : Nat) : Int) != ((n : Nat) : Int)) = false := by simp
    go_enter Try.func46, Try.ntmps46
    go_wp2
    go_loopw [5, 13] (fun _ i wr => ∃ k : Nat, k ≤ n ∧ i = .int .i64 k ∧ Below w.heap.size w wr ∧ ∀ j (hj : j < l1.length) (hj2 : j < l2.length), j < k → l1[j] = l2[j]) (fun _ i _ => n - (intOf i).toNat)
    case atStart => exact ⟨0, by omega, rfl, Below.refl _ _, fun j _ _ h => by omega⟩
    case round =>
      obtain ⟨k, hk, rfl, HB, hall⟩ := hrel
      have HA := Lib.hid hall
      clear hall
      by_cases hlt : k < n
      · obtain ⟨b, off, rfl, hc⟩ := (h1.below HB).block (by omega)
        obtain ⟨b2, off2, rfl, hc2⟩ := (h2.below HB).block (by omega)
        have g1 := hc k (by omega)
        have g2 := hc2 k (by omega)
        obtain ⟨x, hx⟩ : ∃ x, x = l1[k]'(by omega) := ⟨_, rfl⟩
        obtain ⟨y, hy⟩ : ∃ y, y = l2[k]'(by omega) := ⟨_, rfl⟩
        rw [← hx] at g1
        rw [← hy] at g2
        have HX := Lib.hid hx
        have HY := Lib.hid hy
        have r1 := regrown_cell g1
        have r2 := regrown_cell g2
        clear hc hc2 hx hy g1 g2
        by_cases he : x = y
        · have t1 : (x != y) = false := by simp [he]
          have HE9 := Lib.hid he
          clear he
          go_upto_region 6 with fail
          (refine wp_region_quiet_below (by kernel_rfl) (by kernel_rfl) ?_; (repeat (go_big_quiet_step (fail))); refine wpQuiet_nil ?_; intro wq hw'; have HQ := below_of_regrown hw'; clear hw')
          have HE := bt HB HB.size HQ
          clear HQ HB r1 r2
          go_wp2
          go_roundw
          case rel =>
            refine ⟨k + 1, by omega, by go_num, HE, fun j hj hj2 hjk => ?_⟩
            by_cases e : j = k
            · subst e; rw [← HX.out, ← HY.out]; exact HE9.out
            · exact HA.out j hj hj2 (by omega)
          case measure => simp [intOf]; omega
        · have t1 : (x != y) = true := by simp [he]
          have HE9 := Lib.hid he
          clear he
          have HD := Lib.hid (show decide (l1 = l2) = false from decide_eq_false fun e => HE9.out (by rw [HX.out, HY.out]; simp [e]))
          go_upto_region 6 with fail
          (refine wp_region_quiet_below (by kernel_rfl) (by kernel_rfl) ?_; (repeat (go_big_quiet_step (fail))); refine wpQuiet_nil ?_; intro wq hw'; have HQ := below_of_regrown hw'; clear hw')
          have HE := bt HB HB.size HQ
          clear HQ HB r1 r2
          go_wp2
          go_ret
          exact ⟨by rw [HD.out]; rfl, HE⟩
      · obtain rfl : k = n := by omega
        have HD := Lib.hid (show decide (l1 = l2) = true from decide_eq_true (List.ext_getElem (by omega) fun j hj hj2 => HA.out j hj hj2 (by omega)))
        go_wp2
        go_ret
        exact ⟨by rw [HD.out]; rfl, HB⟩
  · have t0 : (((n : Nat) : Int) != ((m : Nat) : Int)) = true := by simp; omega
    have HD := Lib.hid (show decide (l1 = l2) = false from decide_eq_false fun e => hne (by rw [← hl1, ← hl2, e]))
    go_enter Try.func46, Try.ntmps46
    go_wp2
    go_ret
    exact ⟨by rw [HD.out]; rfl, Below.refl _ _⟩
theorem right1_any (x : Int) (w : World) : Calls Try.prog 141 #[.int .i64 x] w fun e w' => e = .returned (.bool (decide (x < 0) || decide (16777216 < x))) ∧ w = w' := by
  by_cases h1 : x < 0
  · have t1 : decide (x < 0) = true := by simp [h1]
    have HT := Lib.hid (show (decide (x < 0) || decide (16777216 < x)) = true by rw [t1, Bool.true_or])
    go_enter Try.func141, Try.ntmps141
    go_wp2
    go_ret
    exact ⟨by first | (rw [HT.out]; rfl) | rfl, rfl⟩
  · have t1 : decide (x < 0) = false := by simp [h1]
    have HT := Lib.hid (show (decide (x < 0) || decide (16777216 < x)) = decide (16777216 < x) by rw [t1, Bool.false_or])
    go_enter Try.func141, Try.ntmps141
    go_wp2
    go_ret
    exact ⟨by first | (rw [HT.out]; rfl) | rfl, rfl⟩
end Go.Proofs.Ytmlemichkeomjaa.MendW

/- slices.IndexFunc, ContainsFunc with stripe.Right's two functions walked. -/
set_option linter.unusedVariables false
set_option linter.unusedSimpArgs false
namespace Go.Proofs.Ytmlemichkeomjaa.MendW
open Go.RowKit Go.Proofs.Ytmlemichkeomjaa.Base

/-- A size out of reach. -/
def badS (x : Int) : Bool := decide (x < 0) || decide (16777216 < x)
set_option maxRecDepth 100000 in
set_option maxHeartbeats 1000000 in
theorem idxf1_any (A : Option Addr) (n c : Nat) (l : List Int) (w : World) (hS : Ints w A l) (hl : l.length = n) (hn : n ≤ 1000000) :
    Calls Try.prog 149 #[.slice A n c, .func (.func 141) #[] #[]] w fun e w' => ∃ r : Int, e = .returned (.int .i64 r) ∧ (0 ≤ r ↔ l.any badS = true) ∧ w = w' := by
  have HL := Lib.hid hl
  go_enter Try.func149, Try.ntmps149
  go_wp2
  go_loop [5, 8] (fun _ i => ∃ k : Nat, k ≤ n ∧ i = .int .i64 k ∧ ∀ j (hj : j < l.length), j < k → badS l[j] = false) (fun _ i => n - (intOf i).toNat)
  case atStart => exact ⟨0, by omega, rfl, fun j _ h => by omega⟩
  case round =>
    obtain ⟨k, hk, rfl, hall⟩ := hrel
    have HA := Lib.hid hall
    clear hall
    by_cases hlt : k < n
    · have hkl : k < l.length := by have := HL.out; omega
      obtain ⟨b, off, rfl, hc⟩ := hS.block (by omega)
      have g1 := hc k hkl
      obtain ⟨y, hy⟩ : ∃ y, y = l[k] := ⟨_, rfl⟩
      rw [← hy] at g1
      have HY := Lib.hid hy
      clear hc hy
      have HR := Lib.hid (show Calls Try.prog 141 #[.int .i64 y] w fun e w' => e = .returned (.bool (badS y)) ∧ w = w' from right1_any y w)
      by_cases he : badS y = true
      · rw [he] at HR
        have HM := Lib.hid (show l.any badS = true from List.any_eq_true.2 ⟨y, by rw [HY.out]; exact List.getElem_mem hkl, he⟩)
        clear he
        go_wp2_with (go_at_call 141; (with_reducible refine (HR.out).mono ?_); rintro e w2 ⟨rfl, rfl⟩)
        go_ret
        exact ⟨_, rfl, ⟨fun _ => HM.out, fun _ => by omega⟩, rfl⟩
      · have he2 : badS y = false := by simpa using he
        rw [he2] at HR
        have HE := Lib.hid he2
        clear he he2
        go_wp2_with (go_at_call 141; (with_reducible refine (HR.out).mono ?_); rintro e w2 ⟨rfl, rfl⟩)
        go_round
        case rel =>
          refine ⟨k + 1, by omega, by go_num, fun j hj hjk => ?_⟩
          by_cases e : j = k
          · subst e; rw [← HY.out]; exact HE.out
          · exact HA.out j hj (by omega)
        case measure => simp [intOf]; omega
    · obtain rfl : k = n := by omega
      have HM := Lib.hid (show ¬ l.any badS = true from fun h => by
        obtain ⟨y, hy, hb⟩ := List.any_eq_true.1 h
        obtain ⟨i, hi, rfl⟩ := List.mem_iff_getElem.1 hy
        rw [HA.out i hi (by have := HL.out; omega)] at hb
        cases hb)
      go_wp2
      go_ret
      exact ⟨_, rfl, ⟨fun h => absurd h (by decide), fun h => absurd (List.any_eq_true.2 h) HM.out⟩, rfl⟩
theorem conf1_any (A : Option Addr) (n c : Nat) (l : List Int) (w : World) (hS : Ints w A l) (hl : l.length = n) (hn : n ≤ 1000000) :
    Calls Try.prog 140 #[.slice A n c, .func (.func 141) #[] #[]] w fun e w' => e = .returned (.bool (l.any badS)) ∧ w = w' := by
  have H := Lib.hid (idxf1_any A n c l w hS hl hn)
  go_enter Try.func140, Try.ntmps140
  go_wp2_with (go_at_call 149; (with_reducible refine (H.out).mono ?_); rintro e w2 ⟨r, rfl, hr, rfl⟩; have HR := Lib.hid hr; clear hr)
  go_ret
  exact ⟨by rw [show l.any badS = decide (0 ≤ r) from by rw [← Bool.decide_coe (l.any badS)]; exact decide_eq_decide.2 HR.out.symm]; rfl, rfl⟩
end Go.Proofs.Ytmlemichkeomjaa.MendW

/- slices.IndexFunc, ContainsFunc with stripe.Right's second function walked. -/
set_option linter.unusedVariables false
set_option linter.unusedSimpArgs false
namespace Go.Proofs.Ytmlemichkeomjaa.MendW
open Go.RowKit Go.Proofs.Ytmlemichkeomjaa.Base

noncomputable def badH (m : Int) (l : List Int) : Bool := !homelyD l m
theorem right2_any (A : Option Addr) (n c pb : Nat) (l : List Int) (m : Int) (w : World) (hS : Ints w A l) (hl : l.length = n) (hn : n ≤ 1000000) (hnc : n ≤ c) (hp : w.cell? ⟨pb, 0, none⟩ = some (.int .i64 m)) :
    Calls Try.prog 143 #[.slice A n c, .pointer (some ⟨pb, 0, none⟩)] w fun e w' => e = .returned (.bool (badH m l)) ∧ w = w' := by
  have H := Lib.hid (homely_any A n c l m w hS hl hn hnc)
  have HD := Lib.hid (show badH m l = !homelyD l m from rfl)
  go_enter Try.func143, Try.ntmps143
  go_wp2_with (go_at_call 144; (with_reducible refine (H.out).mono ?_); rintro e w2 ⟨rfl, rfl⟩)
  go_ret
  exact ⟨by rw [HD.out]; rfl, rfl⟩
set_option maxRecDepth 100000 in
set_option maxHeartbeats 1000000 in
theorem idxf2_any (A : Option Addr) (n c pb : Nat) (ls : List (List Int)) (m : Int) (w : World) (hS : IRows w A ls) (hl : ls.length = n) (hn : n ≤ 1000000) (hr : ∀ i (h : i < ls.length), ls[i].length ≤ 1000000) (hp : w.cell? ⟨pb, 0, none⟩ = some (.int .i64 m)) :
    Calls Try.prog 150 #[.slice A n c, .func (.func 143) #[] #[.pointer (some ⟨pb, 0, none⟩)]] w fun e w' => ∃ r : Int, e = .returned (.int .i64 r) ∧ (0 ≤ r ↔ ls.any (badH m) = true) ∧ w = w' := by
  have HL := Lib.hid hl
  have HRL := Lib.hid hr
  clear hr
  go_enter Try.func150, Try.ntmps150
  go_wp2
  go_loop [5, 8] (fun _ i => ∃ k : Nat, k ≤ n ∧ i = .int .i64 k ∧ ∀ j (hj : j < ls.length), j < k → badH m ls[j] = false) (fun _ i => n - (intOf i).toNat)
  case atStart => exact ⟨0, by omega, rfl, fun j _ h => by omega⟩
  case round =>
    obtain ⟨k, hk, rfl, hall⟩ := hrel
    have HA := Lib.hid hall
    clear hall
    by_cases hlt : k < n
    · have hkl : k < ls.length := by have := HL.out; omega
      obtain ⟨b, off, rfl, hc⟩ := hS.block (by omega)
      obtain ⟨B, cb, g1, hcb, hI⟩ := hc k hkl
      have hq9 := HRL.out k hkl
      obtain ⟨y, hy⟩ : ∃ y, y = ls[k] := ⟨_, rfl⟩
      rw [← hy] at g1 hcb hI hq9
      have HY := Lib.hid hy
      clear hc hy
      obtain ⟨q, hq⟩ : ∃ q, y.length = q := ⟨_, rfl⟩
      rw [hq] at g1 hcb hq9
      have HR := Lib.hid (right2_any B q cb pb y m w hI hq hq9 hcb hp)
      clear hq
      by_cases he : badH m y = true
      · rw [he] at HR
        have HM := Lib.hid (show ls.any (badH m) = true from List.any_eq_true.2 ⟨y, by rw [HY.out]; exact List.getElem_mem hkl, he⟩)
        clear he
        go_wp2_with (go_at_call 143; (with_reducible refine (HR.out).mono ?_); rintro e w2 ⟨rfl, rfl⟩)
        go_ret
        exact ⟨_, rfl, ⟨fun _ => HM.out, fun _ => by omega⟩, rfl⟩
      · have he2 : badH m y = false := by simpa using he
        rw [he2] at HR
        have HE := Lib.hid he2
        clear he he2
        go_wp2_with (go_at_call 143; (with_reducible refine (HR.out).mono ?_); rintro e w2 ⟨rfl, rfl⟩)
        go_round
        case rel =>
          refine ⟨k + 1, by omega, by go_num, fun j hj hjk => ?_⟩
          by_cases e : j = k
          · subst e; rw [← HY.out]; exact HE.out
          · exact HA.out j hj (by omega)
        case measure => simp [intOf]; omega
    · obtain rfl : k = n := by omega
      have HM := Lib.hid (show ¬ ls.any (badH m) = true from fun h => by
        obtain ⟨y, hy, hb⟩ := List.any_eq_true.1 h
        obtain ⟨i, hi, rfl⟩ := List.mem_iff_getElem.1 hy
        rw [HA.out i hi (by have := HL.out; omega)] at hb
        cases hb)
      go_wp2
      go_ret
      exact ⟨_, rfl, ⟨fun h => absurd h (by decide), fun h => absurd (List.any_eq_true.2 h) HM.out⟩, rfl⟩
theorem conf2_any (A : Option Addr) (n c pb : Nat) (ls : List (List Int)) (m : Int) (w : World) (hS : IRows w A ls) (hl : ls.length = n) (hn : n ≤ 1000000) (hr : ∀ i (h : i < ls.length), ls[i].length ≤ 1000000) (hp : w.cell? ⟨pb, 0, none⟩ = some (.int .i64 m)) :
    Calls Try.prog 142 #[.slice A n c, .func (.func 143) #[] #[.pointer (some ⟨pb, 0, none⟩)]] w fun e w' => e = .returned (.bool (ls.any (badH m))) ∧ w = w' := by
  have H := Lib.hid (idxf2_any A n c pb ls m w hS hl hn hr hp)
  go_enter Try.func142, Try.ntmps142
  go_wp2_with (go_at_call 150; (with_reducible refine (H.out).mono ?_); rintro e w2 ⟨r, rfl, hr, rfl⟩; have HR := Lib.hid hr; clear hr)
  go_ret
  exact ⟨by rw [show ls.any (badH m) = decide (0 ≤ r) from by rw [← Bool.decide_coe (ls.any (badH m))]; exact decide_eq_decide.2 HR.out.symm]; rfl, rfl⟩
end Go.Proofs.Ytmlemichkeomjaa.MendW

/- stripe.Right walked. -/
set_option linter.unusedVariables false
set_option linter.unusedSimpArgs false
namespace Go.Proofs.Ytmlemichkeomjaa.MendW
open Go.RowKit Go.Proofs.Ytmlemichkeomjaa.Base

/-- Is a manifest right? -/
noncomputable def rightB (t a : Int) (n2 n3 n4 : Nat) (sz : List Int) (hm : List (List Int)) (parts m : Int) : Bool :=
  idB t && idB a && decide ((n2 : Int) = parts) && decide ((n3 : Int) = parts) && decide ((n4 : Int) = parts) && !sz.any badS && !hm.any (badH m)
section
variable (t a : Int) (A2 : Option Addr) (n2 c2 : Nat) (A3 : Option Addr) (n3 c3 : Nat) (A4 : Option Addr) (n4 c4 : Nat) (sz : List Int) (hm : List (List Int)) (parts m : Int) (w : World)
set_option maxRecDepth 100000 in
set_option maxHeartbeats 2000000 in
theorem right_any (hS : Ints w A2 sz) (hsl : sz.length = n2) (hs2 : n2 ≤ 1000000) (hH : IRows w A4 hm) (hl : hm.length = n4) (h4 : n4 ≤ 1000000) (hr : ∀ i (h : i < hm.length), hm[i].length ≤ 1000000) :
    Calls Try.prog 121 #[.agg #[.int .i64 t, .int .i64 a, .slice A2 n2 c2, .slice A3 n3 c3, .slice A4 n4 c4], .int .i64 parts, .int .i64 m] w fun e w' => e = .returned (.bool (rightB t a n2 n3 n4 sz hm parts m)) ∧ Below w.heap.size w w' := by
  obtain ⟨R, hR⟩ : ∃ R, rightB t a n2 n3 n4 sz hm parts m = R := ⟨_, rfl⟩
  rw [hR]
  have HR := Lib.hid hR
  clear hR
  have H1 := Lib.hid (fun W => id_any t W)
  have H2 := Lib.hid (fun W => id_any a W)
  go_enter Try.func121, Try.ntmps121
  go_upto_region 1 with fail
  have HM := (ManBox.mk' w t a A2 n2 c2 A3 n3 c3 A4 n4 c4).below (Below.alloc (Below.refl _ _) (Nat.le_refl _) (.cells #[.int .i64 m] 3))
  have HB : Below w.heap.size w (w.alloc (.cells #[.int .i64 t, .int .i64 a, .slice A2 n2 c2, .slice A3 n3 c3, .slice A4 n4 c4] 26)) := (Below.refl _ _).alloc (Nat.le_refl _) _
  have hs0 : (w.alloc (.cells #[.int .i64 t, .int .i64 a, .slice A2 n2 c2, .slice A3 n3 c3, .slice A4 n4 c4] 26)).heap.size = w.heap.size + 1 := by simp
  generalize w.alloc (.cells #[.int .i64 t, .int .i64 a, .slice A2 n2 c2, .slice A3 n3 c3, .slice A4 n4 c4] 26) = W0 at HM HB hs0 ⊢
  have qm : (W0.alloc (.cells #[.int .i64 m] 3)).cell? ⟨w.heap.size + 1, 0, none⟩ = some (.int .i64 m) := by rw [← hs0, cell_of_row _ _ _ _ _ _ (heap_alloc_new W0 _)]; rfl
  replace HB := HB.alloc HB.size (.cells #[.int .i64 m] 3)
  generalize W0.alloc (.cells #[.int .i64 m] 3) = W at HM HB qm ⊢
  obtain ⟨q0, q1, q2, q3, q4⟩ := HM
  have HC1 := Lib.hid (conf1_any A2 n2 c2 sz W (hS.below HB) hsl hs2)
  have HC2 := Lib.hid (conf2_any A4 n4 c4 (w.heap.size + 1) hm m W (hH.below HB) hl h4 hr qm)
  have HRR := Lib.hid (show (idB t && idB a && decide ((n2 : Int) = parts) && decide ((n3 : Int) = parts) && decide ((n4 : Int) = parts) && !sz.any badS && !hm.any (badH m)) = R from HR.out)
  clear HR hr
  obtain ⟨f1, hf1⟩ : ∃ f, f = idB t := ⟨_, rfl⟩
  obtain ⟨f2, hf2⟩ : ∃ f, f = idB a := ⟨_, rfl⟩
  obtain ⟨f6, hf6⟩ : ∃ f, f = sz.any badS := ⟨_, rfl⟩
  obtain ⟨f7, hf7⟩ : ∃ f, f = hm.any (badH m) := ⟨_, rfl⟩
  rw [← hf1] at H1 HRR
  rw [← hf2] at H2 HRR
  rw [← hf6] at HC1 HRR
  rw [← hf7] at HC2 HRR
  clear hf1 hf2 hf6 hf7
  cases f1
  · obtain rfl : R = false := by rw [← HRR.out]; simp []
    clear HRR
    go_wp2_with (first | (go_at_call 139; first | ((with_reducible refine (H1.out _).mono ?_); rintro e w3 ⟨rfl, rfl⟩) | ((with_reducible refine (H2.out _).mono ?_); rintro e w3 ⟨rfl, rfl⟩)) | (go_at_call 140; (with_reducible refine (HC1.out).mono ?_); rintro e w3 ⟨rfl, rfl⟩) | (go_at_call 142; (with_reducible refine (HC2.out).mono ?_); rintro e w3 ⟨rfl, rfl⟩))
    go_ret
    exact ⟨rfl, HB⟩
  · cases f2
    · obtain rfl : R = false := by rw [← HRR.out]; simp []
      clear HRR
      go_wp2_with (first | (go_at_call 139; first | ((with_reducible refine (H1.out _).mono ?_); rintro e w3 ⟨rfl, rfl⟩) | ((with_reducible refine (H2.out _).mono ?_); rintro e w3 ⟨rfl, rfl⟩)) | (go_at_call 140; (with_reducible refine (HC1.out).mono ?_); rintro e w3 ⟨rfl, rfl⟩) | (go_at_call 142; (with_reducible refine (HC2.out).mono ?_); rintro e w3 ⟨rfl, rfl⟩))
      go_ret
      exact ⟨rfl, HB⟩
    · by_cases hn2 : ((n2 : Nat) : Int) ≠ parts
      · have tn2 : (((n2 : Nat) : Int) != parts) = true := by simp [hn2]
        obtain rfl : R = false := by rw [← HRR.out]; simp [hn2]
        clear HRR
        go_wp2_with (first | (go_at_call 139; first | ((with_reducible refine (H1.out _).mono ?_); rintro e w3 ⟨rfl, rfl⟩) | ((with_reducible refine (H2.out _).mono ?_); rintro e w3 ⟨rfl, rfl⟩)) | (go_at_call 140; (with_reducible refine (HC1.out).mono ?_); rintro e w3 ⟨rfl, rfl⟩) | (go_at_call 142; (with_reducible refine (HC2.out).mono ?_); rintro e w3 ⟨rfl, rfl⟩))
        go_ret
        exact ⟨rfl, HB⟩
      replace hn2 : ((n2 : Nat) : Int) = parts := Decidable.not_not.1 hn2
      have tn2 : (((n2 : Nat) : Int) != parts) = false := by simp [hn2]
      by_cases hn3 : ((n3 : Nat) : Int) ≠ parts
      · have tn3 : (((n3 : Nat) : Int) != parts) = true := by simp [hn3]
        obtain rfl : R = false := by rw [← HRR.out]; simp [hn3]
        clear HRR
        go_wp2_with (first | (go_at_call 139; first | ((with_reducible refine (H1.out _).mono ?_); rintro e w3 ⟨rfl, rfl⟩) | ((with_reducible refine (H2.out _).mono ?_); rintro e w3 ⟨rfl, rfl⟩)) | (go_at_call 140; (with_reducible refine (HC1.out).mono ?_); rintro e w3 ⟨rfl, rfl⟩) | (go_at_call 142; (with_reducible refine (HC2.out).mono ?_); rintro e w3 ⟨rfl, rfl⟩))
        go_ret
        exact ⟨rfl, HB⟩
      replace hn3 : ((n3 : Nat) : Int) = parts := Decidable.not_not.1 hn3
      have tn3 : (((n3 : Nat) : Int) != parts) = false := by simp [hn3]
      by_cases hn4 : ((n4 : Nat) : Int) ≠ parts
      · have tn4 : (((n4 : Nat) : Int) != parts) = true := by simp [hn4]
        obtain rfl : R = false := by rw [← HRR.out]; simp [hn4]
        clear HRR
        go_wp2_with (first | (go_at_call 139; first | ((with_reducible refine (H1.out _).mono ?_); rintro e w3 ⟨rfl, rfl⟩) | ((with_reducible refine (H2.out _).mono ?_); rintro e w3 ⟨rfl, rfl⟩)) | (go_at_call 140; (with_reducible refine (HC1.out).mono ?_); rintro e w3 ⟨rfl, rfl⟩) | (go_at_call 142; (with_reducible refine (HC2.out).mono ?_); rintro e w3 ⟨rfl, rfl⟩))
        go_ret
        exact ⟨rfl, HB⟩
      replace hn4 : ((n4 : Nat) : Int) = parts := Decidable.not_not.1 hn4
      have tn4 : (((n4 : Nat) : Int) != parts) = false := by simp [hn4]
      obtain rfl | rfl : f6 = true ∨ f6 = false := by cases f6 <;> simp
      · obtain rfl : R = false := by rw [← HRR.out]; simp []
        clear HRR
        go_wp2_with (first | (go_at_call 139; first | ((with_reducible refine (H1.out _).mono ?_); rintro e w3 ⟨rfl, rfl⟩) | ((with_reducible refine (H2.out _).mono ?_); rintro e w3 ⟨rfl, rfl⟩)) | (go_at_call 140; (with_reducible refine (HC1.out).mono ?_); rintro e w3 ⟨rfl, rfl⟩) | (go_at_call 142; (with_reducible refine (HC2.out).mono ?_); rintro e w3 ⟨rfl, rfl⟩))
        go_ret
        exact ⟨rfl, HB⟩
      cases f7
      · obtain rfl : R = true := by rw [← HRR.out]; simp [hn2, hn3, hn4]
        clear HRR
        go_wp2_with (first | (go_at_call 139; first | ((with_reducible refine (H1.out _).mono ?_); rintro e w3 ⟨rfl, rfl⟩) | ((with_reducible refine (H2.out _).mono ?_); rintro e w3 ⟨rfl, rfl⟩)) | (go_at_call 140; (with_reducible refine (HC1.out).mono ?_); rintro e w3 ⟨rfl, rfl⟩) | (go_at_call 142; (with_reducible refine (HC2.out).mono ?_); rintro e w3 ⟨rfl, rfl⟩))
        go_ret
        exact ⟨rfl, HB⟩
      · obtain rfl : R = false := by rw [← HRR.out]; simp []
        clear HRR
        go_wp2_with (first | (go_at_call 139; first | ((with_reducible refine (H1.out _).mono ?_); rintro e w3 ⟨rfl, rfl⟩) | ((with_reducible refine (H2.out _).mono ?_); rintro e w3 ⟨rfl, rfl⟩)) | (go_at_call 140; (with_reducible refine (HC1.out).mono ?_); rintro e w3 ⟨rfl, rfl⟩) | (go_at_call 142; (with_reducible refine (HC2.out).mono ?_); rintro e w3 ⟨rfl, rfl⟩))
        go_ret
        exact ⟨rfl, HB⟩
end
end Go.Proofs.Ytmlemichkeomjaa.MendW

/- slices.EqualFunc of rows walked. -/
set_option linter.unusedVariables false
set_option linter.unusedSimpArgs false
namespace Go.Proofs.Ytmlemichkeomjaa.MendW
open Go.RowKit Go.Proofs.Ytmlemichkeomjaa.Base

set_option maxRecDepth 100000 in
set_option maxHeartbeats 1000000 in
theorem eqf_any (A B : Option Addr) (n m c1 c2 : Nat) (l1 l2 : List (List Int)) (w : World) (h1 : IRows w A l1) (hl1 : l1.length = n) (h2 : IRows w B l2) (hl2 : l2.length = m) (hn : n ≤ 1000000) (hr : ∀ i (h : i < l1.length), l1[i].length ≤ 1000000) :
    Calls Try.prog 47 #[.slice A n c1, .slice B m c2, .func (.func 45) #[] #[]] w fun e w' => e = .returned (.bool (decide (l1 = l2))) ∧ Below w.heap.size w w' := by
  have HL1 := Lib.hid hl1
  have HL2 := Lib.hid hl2
  have HR := Lib.hid hr
  clear hr
  by_cases hne : n = m
  · subst hne
    have t0 : (((n : Nat) : Int) != ((n : Nat) : Int)) = false := by simp
    go_enter Try.func47, Try.ntmps47
    go_wp2
    go_loopw [7, 8, 9, 17] (fun _ _ _ i wr => ∃ k : Nat, k ≤ n ∧ i = .int .i64 k ∧ Below w.heap.size w wr ∧ ∀ j (hj : j < l1.length) (hj2 : j < l2.length), j < k → l1[j] = l2[j]) (fun _ _ _ i _ => n - (intOf i).toNat)
    case atStart => exact ⟨0, by omega, rfl, Below.refl _ _, fun j _ _ h => by omega⟩
    case round =>
      obtain ⟨k, hk, rfl, HB, hall⟩ := hrel
      have HA := Lib.hid hall
      clear hall
      by_cases hlt : k < n
      · obtain ⟨b, off, rfl, hc⟩ := (h1.below HB).block (by omega)
        obtain ⟨b2, off2, rfl, hc2⟩ := (h2.below HB).block (by omega)
        obtain ⟨B1, cb1, g1, _, hI1⟩ := hc k (by omega)
        obtain ⟨B2, cb2, g2, _, hI2⟩ := hc2 k (by omega)
        have hq := HR.out k (by omega)
        obtain ⟨x, hx⟩ : ∃ x, x = l1[k]'(by omega) := ⟨_, rfl⟩
        obtain ⟨y, hy⟩ : ∃ y, y = l2[k]'(by omega) := ⟨_, rfl⟩
        rw [← hx] at g1 hI1 hq
        rw [← hy] at g2 hI2
        have HX := Lib.hid hx
        have HY := Lib.hid hy
        clear hc hc2 hx hy
        have HC := Lib.hid (sleq_int B1 B2 x.length y.length cb1 cb2 x y wr hI1 rfl hI2 rfl hq)
        by_cases he : x = y
        · rw [decide_eq_true he] at HC
          have HE9 := Lib.hid he
          clear he
          go_wp2_with (go_at_call 45; (with_reducible refine (HC.out).mono ?_); rintro e w3 ⟨rfl, hd⟩; have HE := bt HB HB.size hd; clear hd)
          go_roundw
          case rel =>
            refine ⟨k + 1, by omega, by go_num, HE, fun j hj hj2 hjk => ?_⟩
            by_cases e : j = k
            · subst e; rw [← HX.out, ← HY.out]; exact HE9.out
            · exact HA.out j hj hj2 (by omega)
          case measure => simp [intOf]; omega
        · rw [decide_eq_false he] at HC
          have HE9 := Lib.hid he
          clear he
          have HD := Lib.hid (show decide (l1 = l2) = false from decide_eq_false fun e => HE9.out (by rw [HX.out, HY.out]; simp [e]))
          go_wp2_with (go_at_call 45; (with_reducible refine (HC.out).mono ?_); rintro e w3 ⟨rfl, hd⟩; have HE := bt HB HB.size hd; clear hd)
          go_ret
          exact ⟨by rw [HD.out]; rfl, HE⟩
      · obtain rfl : k = n := by omega
        have HD := Lib.hid (show decide (l1 = l2) = true from decide_eq_true (List.ext_getElem (by omega) fun j hj hj2 => HA.out j hj hj2 (by omega)))
        go_wp2
        go_ret
        exact ⟨by rw [HD.out]; rfl, HB⟩
  · have t0 : (((n : Nat) : Int) != ((m : Nat) : Int)) = true := by simp; omega
    have HD := Lib.hid (show decide (l1 = l2) = false from decide_eq_false fun e => hne (by rw [← hl1, ← hl2, e]))
    go_enter Try.func47, Try.ntmps47
    go_wp2
    go_ret
    exact ⟨by rw [HD.out]; rfl, Below.refl _ _⟩
end Go.Proofs.Ytmlemichkeomjaa.MendW

/- stripe.Same walked. -/
set_option linter.unusedVariables false
set_option linter.unusedSimpArgs false
namespace Go.Proofs.Ytmlemichkeomjaa.MendW
open Go.RowKit Go.Proofs.Ytmlemichkeomjaa.Base
section
variable (t a t' a' : Int) (A2 : Option Addr) (n2 c2 : Nat) (A3 : Option Addr) (n3 c3 : Nat) (A4 : Option Addr) (n4 c4 : Nat) (B2 : Option Addr) (m2 d2 : Nat) (B3 : Option Addr) (m3 d3 : Nat) (B4 : Option Addr) (m4 d4 : Nat) (sz1 sz2 sm1 sm2 : List Int) (hm1 hm2 : List (List Int)) (w : World)
set_option maxRecDepth 100000 in
set_option maxHeartbeats 2000000 in
/-- Manifests that are alike. -/
theorem same_yes (hS1 : Ints w A2 sz1) (hs1 : sz1.length = n2) (hS2 : Ints w B2 sz2) (hs2 : sz2.length = m2) (hn2 : n2 ≤ 1000000) (hU1 : U32s w A3 sm1) (hu1 : sm1.length = n3) (hU2 : U32s w B3 sm2) (hu2 : sm2.length = m3) (hn3 : n3 ≤ 1000000)
    (hH1 : IRows w A4 hm1) (hl1 : hm1.length = n4) (hH2 : IRows w B4 hm2) (hl2 : hm2.length = m4) (hn4 : n4 ≤ 1000000) (hr : ∀ i (h : i < hm1.length), hm1[i].length ≤ 1000000) (et : t = t') (ea : a = a') (es : sz1 = sz2) (eu : sm1 = sm2) (eh : hm1 = hm2) :
    Calls Try.prog 15 #[.agg #[.int .i64 t, .int .i64 a, .slice A2 n2 c2, .slice A3 n3 c3, .slice A4 n4 c4], .agg #[.int .i64 t', .int .i64 a', .slice B2 m2 d2, .slice B3 m3 d3, .slice B4 m4 d4]] w fun e w' => e = .returned (.bool true) ∧ Below w.heap.size w w' := by
  have z1 := decide_eq_true es
  have z2 := decide_eq_true eu
  have z3 := decide_eq_true eh
  have y1 : (t == t') = true := by simp [et]
  have y2 : (a == a') = true := by simp [ea]
  clear et ea es eu eh
  go_enter Try.func15, Try.ntmps15
  go_upto_region 1 with fail
  have HM := ManBox.mk' w t a A2 n2 c2 A3 n3 c3 A4 n4 c4
  have HB : Below w.heap.size w (w.alloc (.cells #[.int .i64 t, .int .i64 a, .slice A2 n2 c2, .slice A3 n3 c3, .slice A4 n4 c4] 26)) := (Below.refl _ _).alloc (Nat.le_refl _) _
  have hs0 : (w.alloc (.cells #[.int .i64 t, .int .i64 a, .slice A2 n2 c2, .slice A3 n3 c3, .slice A4 n4 c4] 26)).heap.size = w.heap.size + 1 := by simp
  generalize w.alloc (.cells #[.int .i64 t, .int .i64 a, .slice A2 n2 c2, .slice A3 n3 c3, .slice A4 n4 c4] 26) = W0 at HM HB hs0 ⊢
  have HN := ManBox.mk' W0 t' a' B2 m2 d2 B3 m3 d3 B4 m4 d4
  rw [hs0] at HN
  replace HM := HM.below ((Below.refl _ _).alloc (Nat.le_refl _) (.cells #[.int .i64 t', .int .i64 a', .slice B2 m2 d2, .slice B3 m3 d3, .slice B4 m4 d4] 26))
  replace HB := HB.alloc HB.size (.cells #[.int .i64 t', .int .i64 a', .slice B2 m2 d2, .slice B3 m3 d3, .slice B4 m4 d4] 26)
  generalize W0.alloc (.cells #[.int .i64 t', .int .i64 a', .slice B2 m2 d2, .slice B3 m3 d3, .slice B4 m4 d4] 26) = W at HM HN HB ⊢
  obtain ⟨p0, p1, p2, p3, p4⟩ := HM
  obtain ⟨q0, q1, q2, q3, q4⟩ := HN
  go_wp2_with (first | (go_at_call 45; (with_reducible refine (sleq_int A2 B2 n2 m2 c2 d2 sz1 sz2 _ (hS1.below HB) hs1 (hS2.below HB) hs2 hn2).mono ?_); rintro e w3 ⟨rfl, hd⟩; replace p3 := cell_below hd p3; replace p4 := cell_below hd p4; replace q3 := cell_below hd q3; replace q4 := cell_below hd q4; replace HB := bt HB HB.size hd; clear hd) | (go_at_call 46; (with_reducible refine (sleq_u32 A3 B3 n3 m3 c3 d3 sm1 sm2 _ (hU1.below HB) hu1 (hU2.below HB) hu2 hn3).mono ?_); rintro e w3 ⟨rfl, hd⟩; replace p3 := cell_below hd p3; replace p4 := cell_below hd p4; replace q3 := cell_below hd q3; replace q4 := cell_below hd q4; replace HB := bt HB HB.size hd; clear hd) | (go_at_call 47; (with_reducible refine (eqf_any A4 B4 n4 m4 c4 d4 hm1 hm2 _ (hH1.below HB) hl1 (hH2.below HB) hl2 hn4 hr).mono ?_); rintro e w3 ⟨rfl, hd⟩; replace p3 := cell_below hd p3; replace p4 := cell_below hd p4; replace q3 := cell_below hd q3; replace q4 := cell_below hd q4; replace HB := bt HB HB.size hd; clear hd))
  go_ret
  exact ⟨by first | rfl | (rw [z3]; rfl), HB⟩
end
end Go.Proofs.Ytmlemichkeomjaa.MendW

