/- Whether a message is right: walked. -/
import Derived.Test.YtdjgdhpncocahaaMsgFew
set_option linter.unusedVariables false
set_option linter.unusedSimpArgs false
namespace Go.Proofs.Ytdjgdhpncocahaa.MsgW
open Go.RowKit Go.Proofs.Ytdjgdhpncocahaa.Base Go.Proofs.Ytdjgdhpncocahaa.EqsW

/-- The numbers, one by one; the greatest. -/
def numAt (n0 n1 n2 n3 n4 n5 n6 n7 n8 : Int) (k : Nat) : Int := match k with | 0 => n0 | 1 => n1 | 2 => n2 | 3 => n3 | 4 => n4 | 5 => n5 | 6 => n6 | 7 => n7 | _ => n8
def limAt (k : Nat) : Int := match k with | 0 => 12 | 1 => 16 | 2 => 16 | 8 => 255 | _ => 2147483647
def okAt (N : Nat → Int) (k : Nat) : Bool := decide (0 ≤ N k) && decide (N k ≤ limAt k)
def numsOk (N : Nat → Int) : Bool := (List.range 9).all (okAt N)
def longB (ss : List ByteArray) : Bool := ss.any fun s => decide (65536 < s.size)
def rightM (N : Nat → Int) (t : ByteArray) (ss : List ByteArray) : Bool := numsOk N && (decide (t.size ≤ 1048576) && (decide (ss.length ≤ 4096) && !longB ss))
theorem numsOk_no {N : Nat → Int} {k : Nat} (h : okAt N k = false) (hk : k < 9) : numsOk N = false := by
  unfold numsOk
  rw [List.all_eq_false]
  exact ⟨k, List.mem_range.2 hk, by rw [h]; decide⟩
theorem numsOk_yes {N : Nat → Int} (h : ∀ j, j < 9 → okAt N j = true) : numsOk N = true := by
  unfold numsOk
  rw [List.all_eq_true]
  exact fun j hj => h j (List.mem_range.1 hj)
theorem numsOk_at {N : Nat → Int} (h : numsOk N = true) {j : Nat} (hj : j < 9) : 0 ≤ N j ∧ N j ≤ limAt j := by
  unfold numsOk at h
  rw [List.all_eq_true] at h
  have := h j (List.mem_range.2 hj)
  unfold okAt at this
  rw [Bool.and_eq_true, decide_eq_true_eq, decide_eq_true_eq] at this
  exact this
set_option maxRecDepth 100000 in
theorem idx_num (n0 n1 n2 n3 n4 n5 n6 n7 n8 : Int) (k : Nat) (hk : k < 9) (w : World) : (Instr.index 25 (.agg #[.int .i64 n0, .int .i64 n1, .int .i64 n2, .int .i64 n3, .int .i64 n4, .int .i64 n5, .int .i64 n6, .int .i64 n7, .int .i64 n8]) (.int .i64 (k : Int))).run Try.prog w = .ok (.int .i64 (numAt n0 n1 n2 n3 n4 n5 n6 n7 n8 k)) w := by
  have h : k = 0 ∨ k = 1 ∨ k = 2 ∨ k = 3 ∨ k = 4 ∨ k = 5 ∨ k = 6 ∨ k = 7 ∨ k = 8 := by omega
  rcases h with rfl | rfl | rfl | rfl | rfl | rfl | rfl | rfl | rfl <;> rfl

set_option maxRecDepth 100000 in
set_option maxHeartbeats 1000000 in
theorem limits_any (w : World) :
    Calls Try.prog 87 #[] w fun e w' => e = .returned (.agg #[.int .i64 12, .int .i64 16, .int .i64 16, .int .i64 2147483647, .int .i64 2147483647, .int .i64 2147483647, .int .i64 2147483647, .int .i64 2147483647, .int .i64 255]) ∧ Below w.heap.size w w' := by
  go_enter Try.func87, Try.ntmps87
  go_wp2
  refine bodyPost_ret (results_cell_row rfl _ _ w.heap.size 25 #[.int .i64 12, .int .i64 16, .int .i64 16, .int .i64 2147483647, .int .i64 2147483647, .int .i64 2147483647, .int .i64 2147483647, .int .i64 2147483647, .int .i64 255] (0, 0) _ rfl (heap_alloc_new _ _) Try.underlying25 rfl (by kernel_rfl)) rfl ?_
  exact ⟨rfl, (Below.refl w.heap.size w).alloc (by simp) _⟩
theorem long_any (s : ByteArray) (w : World) :
    Calls Try.prog 88 #[.string s] w fun e w' => e = .returned (.bool (decide (65536 < s.size))) ∧ w = w' := by
  go_enter Try.func88, Try.ntmps88
  go_wp2
  go_ret
  have e : decide (65536 < (s.size : Int)) = decide (65536 < s.size) := decide_eq_decide.2 (by omega)
  exact ⟨by rw [← e]; rfl, rfl⟩
theorem longB_at {ss : List ByteArray} {k : Nat} (hk : k < ss.length) (h : 65536 < ss[k].size) : longB ss = true := by
  unfold longB
  rw [List.any_eq_true]
  exact ⟨ss[k], List.getElem_mem hk, decide_eq_true h⟩
theorem longB_no {ss : List ByteArray} (h : ∀ j (hj : j < ss.length), ¬ 65536 < ss[j].size) : longB ss = false := by
  unfold longB
  rw [List.any_eq_false]
  intro s hs
  obtain ⟨j, hj, rfl⟩ := List.mem_iff_getElem.1 hs
  simp [h j hj]
set_option maxRecDepth 100000 in
set_option maxHeartbeats 1000000 in
theorem idxf_any (A : Option Addr) (n c : Nat) (ss : List ByteArray) (w : World) (hS : Strs w A n ss) (hn : n ≤ 9223372036854775807) :
    Calls Try.prog 92 #[.slice A n c, .func (.func 88) #[] #[]] w fun e w' => (∃ k : Int, e = .returned (.int .i64 k) ∧ decide (0 ≤ k) = longB ss) ∧ w = w' := by
  have hlen := hS.len
  go_enter Try.func92, Try.ntmps92
  go_wp2
  go_loop [8] (fun i => ∃ k : Nat, k ≤ n ∧ i = .int .i64 k ∧ ∀ j (hj : j < ss.length), j < k → ¬ 65536 < ss[j].size) (fun i => n - (intOf i).toNat)
  case atStart => exact ⟨0, by omega, rfl, fun j _ h => by omega⟩
  case round =>
    obtain ⟨k, hk, rfl, hno⟩ := hrel
    by_cases hlt : k < n
    · have hks : k < ss.length := by omega
      obtain ⟨b, off, rfl, hc⟩ := hS.block (by omega)
      have hcell := hc k hks
      by_cases hl : 65536 < ss[k].size
      · have hyes := longB_at hks hl
        have hd : decide (65536 < ss[k].size) = true := decide_eq_true hl
        generalize ss[k] = s at *
        have HY := Lib.hid hyes
        clear hc hno hyes hl
        go_wp2_with (go_at_call 88; (with_reducible refine (long_any _ _).mono ?_); rintro e w2 ⟨rfl, rfl⟩)
        go_ret
        exact ⟨⟨_, rfl, by rw [HY.out]; exact decide_eq_true (by omega)⟩, rfl⟩
      · have hd : decide (65536 < ss[k].size) = false := decide_eq_false hl
        have hno2 : ∀ j (hj : j < ss.length), j < k + 1 → ¬ 65536 < ss[j].size := fun j hj h => by
          by_cases e : j = k
          · subst e; exact hl
          · exact hno j hj (by omega)
        have HN := Lib.hid hno2
        obtain ⟨s, hs⟩ : ∃ s, s = ss[k]'hks := ⟨_, rfl⟩
        rw [← hs] at hcell hd
        clear hc hno hno2 hl hs
        go_wp2_with (go_at_call 88; (with_reducible refine (long_any _ _).mono ?_); rintro e w2 ⟨rfl, rfl⟩)
        go_round
        case rel => exact ⟨k + 1, by omega, by go_num, HN.out⟩
        case measure => simp [intOf]; omega
    · obtain rfl : k = n := by omega
      have hno2 := longB_no (fun j hj => hno j hj (by omega))
      have HN := Lib.hid hno2
      clear hno hno2
      go_wp2
      go_ret
      exact ⟨⟨_, rfl, by rw [HN.out]; rfl⟩, rfl⟩
set_option maxRecDepth 100000 in
set_option maxHeartbeats 1000000 in
theorem contains_any (A : Option Addr) (n c : Nat) (ss : List ByteArray) (w : World) (hS : Strs w A n ss) (hn : n ≤ 9223372036854775807) :
    Calls Try.prog 89 #[.slice A n c, .func (.func 88) #[] #[]] w fun e w' => e = .returned (.bool (longB ss)) ∧ w = w' := by
  go_enter Try.func89, Try.ntmps89
  go_wp2_with fail
  refine (idxf_any _ _ _ ss _ hS hn).mono ?_
  rintro e w2 ⟨⟨k, rfl, hk⟩, rfl⟩
  have HK := Lib.hid hk
  clear hk
  go_wp2
  go_ret
  exact ⟨by rw [← HK.out]; rfl, rfl⟩
/-- A message in its box. -/
theorem box_cells {W : World} {b : Nat} {T : TypeId} {n0 n1 n2 n3 n4 n5 n6 n7 n8 : Int} {t : ByteArray} {A : Option Addr} {ln cp : Nat} (h : W.heap[b]? = some (.cells #[.int .i64 n0, .int .i64 n1, .int .i64 n2, .int .i64 n3, .int .i64 n4, .int .i64 n5, .int .i64 n6, .int .i64 n7, .int .i64 n8, .string t, .slice A ln cp] T (0, 0))) :
    W.cell? ⟨b, 0, none⟩ = some (.int .i64 n0) ∧ W.cell? ⟨b, 1, none⟩ = some (.int .i64 n1) ∧ W.cell? ⟨b, 2, none⟩ = some (.int .i64 n2) ∧ W.cell? ⟨b, 3, none⟩ = some (.int .i64 n3) ∧ W.cell? ⟨b, 4, none⟩ = some (.int .i64 n4) ∧ W.cell? ⟨b, 5, none⟩ = some (.int .i64 n5) ∧ W.cell? ⟨b, 6, none⟩ = some (.int .i64 n6) ∧ W.cell? ⟨b, 7, none⟩ = some (.int .i64 n7) ∧ W.cell? ⟨b, 8, none⟩ = some (.int .i64 n8) ∧ W.cell? ⟨b, 9, none⟩ = some (.string t) ∧ W.cell? ⟨b, 10, none⟩ = some (.slice A ln cp) := by
  have e := fun j => cell_of_row _ b j _ _ _ h
  exact ⟨e 0, e 1, e 2, e 3, e 4, e 5, e 6, e 7, e 8, e 9, e 10⟩
theorem heap_below {w w' : World} {b : Nat} {o : Obj} (h : w.heap[b]? = some o) (hb : Below w.heap.size w w') : w'.heap[b]? = some o := by
  refine (hb.block b ?_).trans h
  rcases Nat.lt_or_ge b w.heap.size with h' | h'
  · exact h'
  · simp [Array.getElem?_eq_none h'] at h
theorem lim_cells {W : World} {b : Nat} {T : TypeId} (h : W.heap[b]? = some (.cells #[.int .i64 12, .int .i64 16, .int .i64 16, .int .i64 2147483647, .int .i64 2147483647, .int .i64 2147483647, .int .i64 2147483647, .int .i64 2147483647, .int .i64 255] T (0, 0))) (k : Nat) (hk : k < 9) : W.cell? ⟨b, k, none⟩ = some (.int .i64 (limAt k)) := by
  rw [cell_of_row _ b k _ _ _ h]
  have h : k = 0 ∨ k = 1 ∨ k = 2 ∨ k = 3 ∨ k = 4 ∨ k = 5 ∨ k = 6 ∨ k = 7 ∨ k = 8 := by omega
  rcases h with rfl | rfl | rfl | rfl | rfl | rfl | rfl | rfl | rfl <;> rfl
set_option maxRecDepth 100000 in
set_option maxHeartbeats 2000000 in
theorem right_any (n0 n1 n2 n3 n4 n5 n6 n7 n8 : Int) (t : ByteArray) (A : Option Addr) (ln cp : Nat) (ss : List ByteArray) (w : World) (hS : Strs w A ln ss) (hn : ln ≤ 9223372036854775807) :
    Calls Try.prog 73 #[(.agg #[.int .i64 n0, .int .i64 n1, .int .i64 n2, .int .i64 n3, .int .i64 n4, .int .i64 n5, .int .i64 n6, .int .i64 n7, .int .i64 n8, .string t, .slice A ln cp])] w fun e w' => e = .returned (.bool (rightM (numAt n0 n1 n2 n3 n4 n5 n6 n7 n8) t ss)) ∧ Below w.heap.size w w' := by
  have hlen := hS.len
  go_enter Try.func73, Try.ntmps73
  go_upto_region 1 with fail
  have hA := heap_alloc_new w (.cells #[.int .i64 n0, .int .i64 n1, .int .i64 n2, .int .i64 n3, .int .i64 n4, .int .i64 n5, .int .i64 n6, .int .i64 n7, .int .i64 n8, .string t, .slice A ln cp] 33)
  have HB : Below w.heap.size w (w.alloc (.cells #[.int .i64 n0, .int .i64 n1, .int .i64 n2, .int .i64 n3, .int .i64 n4, .int .i64 n5, .int .i64 n6, .int .i64 n7, .int .i64 n8, .string t, .slice A ln cp] 33)) := (Below.refl w.heap.size w).alloc (by simp) _
  generalize w.alloc (.cells #[.int .i64 n0, .int .i64 n1, .int .i64 n2, .int .i64 n3, .int .i64 n4, .int .i64 n5, .int .i64 n6, .int .i64 n7, .int .i64 n8, .string t, .slice A ln cp] 33) = W1 at hA HB ⊢
  go_upto_region 2 with (go_at_call 87; refine (limits_any _).mono ?_; rintro e w2 ⟨rfl, hd⟩; replace hA := heap_below hA hd; (first | replace HB := bt HB HB.size hd | replace HB := bt_drew HB HB.size hd | replace HB := bt_drewN HB HB.size hd); clear hd)
  have hL := heap_alloc_new w2 (.cells #[.int .i64 12, .int .i64 16, .int .i64 16, .int .i64 2147483647, .int .i64 2147483647, .int .i64 2147483647, .int .i64 2147483647, .int .i64 2147483647, .int .i64 255] 25)
  replace hA := (heap_alloc_old w2 (.cells #[.int .i64 12, .int .i64 16, .int .i64 16, .int .i64 2147483647, .int .i64 2147483647, .int .i64 2147483647, .int .i64 2147483647, .int .i64 2147483647, .int .i64 255] 25) (r := w.heap.size) (by have := HB.size; rcases Nat.lt_or_ge w.heap.size w2.heap.size with h | h; exact h; simp [Array.getElem?_eq_none h] at hA)).trans hA
  replace HB := HB.alloc HB.size (.cells #[.int .i64 12, .int .i64 16, .int .i64 16, .int .i64 2147483647, .int .i64 2147483647, .int .i64 2147483647, .int .i64 2147483647, .int .i64 2147483647, .int .i64 255] 25)
  generalize w2.alloc (.cells #[.int .i64 12, .int .i64 16, .int .i64 16, .int .i64 2147483647, .int .i64 2147483647, .int .i64 2147483647, .int .i64 2147483647, .int .i64 2147483647, .int .i64 255] 25) = W2 at hA hL HB ⊢
  generalize w2.heap.size = b2 at *
  obtain ⟨f0, f1, f2, f3, f4, f5, f6, f7, f8, f9, f10⟩ := box_cells hA
  go_wp2_with (go_at_call 74; refine (numbers_any _ _ _ _ _ _ _ _ _ _ _ _ _ _).mono ?_; rintro e w3 ⟨rfl, hd⟩; replace hA := heap_below hA hd; replace hL := heap_below hL hd; (first | replace HB := bt HB HB.size hd | replace HB := bt_drew HB HB.size hd | replace HB := bt_drewN HB HB.size hd); clear hd)
  clear f0 f1 f2 f3 f4 f5 f6 f7 f8 f9 f10
  obtain ⟨_, _, _, _, _, _, _, _, _, f9, f10⟩ := box_cells hA
  have hlim := fun k hk => lim_cells hL k hk
  have hidx := fun k hk W => idx_num n0 n1 n2 n3 n4 n5 n6 n7 n8 k hk W
  generalize hNN : numAt n0 n1 n2 n3 n4 n5 n6 n7 n8 = N at *
  have HNN := Lib.hid hNN
  clear hNN
  have HI := Lib.hid hidx
  have HLM := Lib.hid hlim
  clear hidx hlim hA hL
  go_loop [10] (fun i => ∃ k : Nat, k ≤ 9 ∧ i = .int .i64 k ∧ ∀ j, j < k → okAt N j = true) (fun i => 9 - (intOf i).toNat)
  case atStart => exact ⟨0, by omega, rfl, fun j h => by omega⟩
  case round =>
    obtain ⟨k, hk, rfl, hyes⟩ := hrel
    by_cases hlt : k < 9
    · have hix := fun W => HI.out k hlt W
      have hcell := HLM.out k hlt
      cases hok : okAt N k with
      | false =>
        have hno := numsOk_no hok hlt
        have hr : rightM N t ss = false := by unfold rightM; rw [hno]; rfl
        have HR := Lib.hid hr
        have hor : N k < 0 ∨ (0 ≤ N k ∧ limAt k < N k) := by
          unfold okAt at hok
          rw [Bool.and_eq_false_iff, decide_eq_false_iff_not, decide_eq_false_iff_not] at hok
          omega
        generalize N k = y at *
        generalize limAt k = z at *
        clear hyes hok hno hr HI HLM
        rcases hor with h1 | ⟨h1, h2⟩
        · go_wp2
          go_ret
          exact ⟨by rw [HNN.out, HR.out]; rfl, HB⟩
        · go_wp2
          go_ret
          exact ⟨by rw [HNN.out, HR.out]; rfl, HB⟩
      | true =>
        have hyes2 : ∀ j, j < k + 1 → okAt N j = true := fun j hj => by
          by_cases e : j = k
          · rw [e]; exact hok
          · exact hyes j (by omega)
        have HY := Lib.hid hyes2
        have hor : 0 ≤ N k ∧ N k ≤ limAt k := by
          unfold okAt at hok
          rw [Bool.and_eq_true, decide_eq_true_eq, decide_eq_true_eq] at hok
          exact hok
        obtain ⟨h1, h2⟩ := hor
        obtain ⟨y, hy⟩ : ∃ y, y = N k := ⟨_, rfl⟩
        rw [← hy] at hix h1 h2
        generalize limAt k = z at *
        clear hyes hyes2 hok hy HI HLM
        go_wp2
        go_round
        case rel => exact ⟨k + 1, by omega, by go_num, HY.out⟩
        case measure => simp [intOf]; omega
    · obtain rfl : k = 9 := by omega
      have hyes2 := numsOk_yes hyes
      have hr : rightM N t ss = (decide (t.size ≤ 1048576) && (decide (ss.length ≤ 4096) && !longB ss)) := by unfold rightM; rw [hyes2]; rfl
      rw [hlen] at hr
      have HR := Lib.hid hr
      clear hyes hyes2 hr HI HLM
      by_cases h1 : t.size ≤ 1048576
      · by_cases h2 : ln ≤ 4096
        · go_wp2_with (go_at_call 89; (with_reducible refine (contains_any _ _ _ ss _ (hS.below HB) hn).mono ?_); rintro e w4 ⟨rfl, rfl⟩)
          go_ret
          exact ⟨by rw [HNN.out, HR.out, decide_eq_true h1, decide_eq_true h2]; rfl, HB⟩
        · go_wp2
          go_ret
          exact ⟨by rw [HNN.out, HR.out, decide_eq_true h1, decide_eq_false h2]; rfl, HB⟩
      · go_wp2
        go_ret
        exact ⟨by rw [HNN.out, HR.out, decide_eq_false h1]; rfl, HB⟩
end Go.Proofs.Ytdjgdhpncocahaa.MsgW
