/- The law RowsPowers walked. -/
import Derived.Test.YtalinkpfklhgaaaRowsLaw4
set_option linter.unusedVariables false
set_option linter.unusedSimpArgs false
namespace Go.Proofs.Ytalinkpfklhgaaa.RowsW
open Go.RowKit Go.Proofs.Ytalinkpfklhgaaa.Base Go.Proofs.Ytalinkpfklhgaaa.GfP Go.Proofs.Ytalinkpfklhgaaa.GfW Go.Proofs.Ytalinkpfklhgaaa.GfR Go.Proofs.Ytalinkpfklhgaaa.Lin

theorem powers_rows (n q : Nat) (w : World) (h1 : 1 ≤ n) (h2 : n ≤ 32) (h3 : 1 ≤ q) (h4 : q ≤ 32) :
    Calls Try.prog 45 #[.int .i64 (n : Nat), .int .i64 (q : Nat)] w fun e w' => ∃ g cap, e = .returned (.tuple #[.slice (some ⟨g, 0, none⟩) n cap, .bool true]) ∧ n ≤ cap ∧ Base.Rows w' (some ⟨g, 0, none⟩) (tab n q powT) ∧ Below w.heap.size w w' :=
  (powers_ok n q w h1 h2 h3 h4).mono fun e w' ⟨g, cap, bs, a, b, c, d⟩ => ⟨g, cap, a, b, c.rows, d⟩
/-- Rows of powers of those numbers. -/
def powL (l : List Int) : M := fun i j => pwr (toF ((l.getD i 0).toNat)) j
theorem powL_pick (n k : Nat) (l : List Int) (h : ∀ i (h : i < l.length), 0 ≤ l[i] ∧ l[i] < n) : pickL (tab n k powT) l = tab l.length k (powL l) := by
  apply List.ext_getElem
  · rw [pickL_length, tab_length]
  · intro i h1 h2
    have hi : i < l.length := by rw [pickL_length] at h1; exact h1
    have hr := h i hi
    have e1 : (pickL (tab n k powT) l)[i] = (tab n k powT).getD (l[i].toNat) [] := by simp [pickL]
    rw [e1, tab_get k powT (by omega), tab_getElem]
    refine rw1_congr fun j hj => ?_
    unfold powT powL
    rw [List.getD_eq_getElem?_getD, List.getElem?_eq_getElem hi, Option.getD_some]
theorem powL_free (l : List Int) (n : Nat) (hn : n ≤ 32) (h : ∀ i (h : i < l.length), 0 ≤ l[i] ∧ l[i] < n) (hd : ∀ i (h : i < l.length), ∀ j (hj : j < i), l[i] ≠ l[j]'(by omega)) : Free l.length (powL l) := by
  refine powers_free l.length (fun i => toF ((l.getD i 0).toNat)) fun i hi j hj e => ?_
  have hjl : j < l.length := by omega
  have h1 := h i hi
  have h2 := h j hjl
  apply hd i hi j hj
  have e2 := congrArg F.v e
  simp only [List.getD_eq_getElem?_getD, List.getElem?_eq_getElem hi, List.getElem?_eq_getElem hjl, Option.getD_some] at e2
  rw [toF_v (by omega), toF_v (by omega)] at e2
  omega
section
variable (A : Option Addr) (m c n k : Nat) (l : List Int) (w : World)
theorem u8int (x : Nat) (h : x ≤ 255) : IntKind.i64.wrap ((x : Nat) : Int) = ((x : Nat) : Int) := by rw [IntKind.wrap_i64]; omega
set_option maxRecDepth 100000 in
set_option maxHeartbeats 1000000 in
theorem lawpow_far (hn : n ≤ 255) (hk : k ≤ 255) (h : ¬ ((1 ≤ n ∧ n ≤ 32) ∧ (1 ≤ k ∧ k ≤ 32))) :
    Calls Try.prog 14 #[.int .u8 (n : Nat), .int .u8 (k : Nat), .slice A m c] w fun e w' => e = .returned (.bool true) ∧ Below w.heap.size w w' := by
  have HB : Below w.heap.size w w := Below.refl _ _
  have HP := Lib.hid (fun W => powers_no n k W (by omega))
  by_cases h1 : 1 ≤ n
  · have e1 : decide ((1 : Int) ≤ n) = true := by simp; omega
    by_cases h2 : n ≤ 32
    · have e2 : decide ((n : Int) ≤ 32) = true := by simp; omega
      by_cases h3 : 1 ≤ k
      · have e3 : decide ((1 : Int) ≤ k) = true := by simp; omega
        have e4 : decide ((k : Int) ≤ 32) = false := by simp; omega
        clear h
        go_enter Try.func14, Try.ntmps14
        go_wp2_with (first | (go_at_call 34; (with_reducible refine (awake_any _).mono ?_); rintro e w2 ⟨rfl, hd⟩; (try replace hX := hX.below hd); replace HB := bt HB HB.size hd; clear hd) | (go_at_call 45; (with_reducible refine (HP.out _).mono ?_); rintro e w2 ⟨rfl, rfl⟩))
        go_ret
        exact ⟨rfl, HB⟩
      · have e3 : decide ((1 : Int) ≤ k) = false := by simp; omega
        clear h
        go_enter Try.func14, Try.ntmps14
        go_wp2_with (first | (go_at_call 34; (with_reducible refine (awake_any _).mono ?_); rintro e w2 ⟨rfl, hd⟩; (try replace hX := hX.below hd); replace HB := bt HB HB.size hd; clear hd) | (go_at_call 45; (with_reducible refine (HP.out _).mono ?_); rintro e w2 ⟨rfl, rfl⟩))
        go_ret
        exact ⟨rfl, HB⟩
    · have e2 : decide ((n : Int) ≤ 32) = false := by simp; omega
      clear h
      go_enter Try.func14, Try.ntmps14
      go_wp2_with (first | (go_at_call 34; (with_reducible refine (awake_any _).mono ?_); rintro e w2 ⟨rfl, hd⟩; (try replace hX := hX.below hd); replace HB := bt HB HB.size hd; clear hd) | (go_at_call 45; (with_reducible refine (HP.out _).mono ?_); rintro e w2 ⟨rfl, rfl⟩))
      go_ret
      exact ⟨rfl, HB⟩
  · have e1 : decide ((1 : Int) ≤ n) = false := by simp; omega
    clear h
    go_enter Try.func14, Try.ntmps14
    go_wp2_with (first | (go_at_call 34; (with_reducible refine (awake_any _).mono ?_); rintro e w2 ⟨rfl, hd⟩; (try replace hX := hX.below hd); replace HB := bt HB HB.size hd; clear hd) | (go_at_call 45; (with_reducible refine (HP.out _).mono ?_); rintro e w2 ⟨rfl, rfl⟩))
    go_ret
    exact ⟨rfl, HB⟩
set_option maxRecDepth 100000 in
set_option maxHeartbeats 1000000 in
theorem lawpow_len (h1 : 1 ≤ n) (h2 : n ≤ 32) (h3 : 1 ≤ k) (h4 : k ≤ 32) (hm : m ≠ k) :
    Calls Try.prog 14 #[.int .u8 (n : Nat), .int .u8 (k : Nat), .slice A m c] w fun e w' => e = .returned (.bool true) ∧ Below w.heap.size w w' := by
  have HB : Below w.heap.size w w := Below.refl _ _
  have HP := Lib.hid (fun W => powers_rows n k W h1 h2 h3 h4)
  have e1 : decide ((1 : Int) ≤ n) = true := by simp; omega
  have e2 : decide ((n : Int) ≤ 32) = true := by simp; omega
  have e3 : decide ((1 : Int) ≤ k) = true := by simp; omega
  have e4 : decide ((k : Int) ≤ 32) = true := by simp; omega
  have e5 : (((m : Nat) : Int) != ((k : Nat) : Int)) = true := int_bne (by omega)
  have e6 : (((n : Nat) : Int) == 0) = false := int_ne (by omega)
  go_enter Try.func14, Try.ntmps14
  go_wp2_with (first | (go_at_call 34; (with_reducible refine (awake_any _).mono ?_); rintro e w2 ⟨rfl, hd⟩; (try replace hX := hX.below hd); replace HB := bt HB HB.size hd; clear hd) | (go_at_call 45; (with_reducible refine (HP.out _).mono ?_); rintro e w2 ⟨g, cap, rfl, hcap, hX, hd⟩; replace HB := bt HB HB.size hd; clear hd))
  go_ret
  exact ⟨rfl, HB⟩
set_option maxRecDepth 100000 in
set_option maxHeartbeats 1000000 in
theorem lawpow_bad (hI : Ints w A l) (hl : l.length = k) (h1 : 1 ≤ n) (h2 : n ≤ 32) (h3 : 1 ≤ k) (h4 : k ≤ 32) (hbd : ¬ ∀ i (h : i < l.length), 0 ≤ l[i] ∧ l[i] < n) :
    Calls Try.prog 14 #[.int .u8 (n : Nat), .int .u8 (k : Nat), .slice A k c] w fun e w' => e = .returned (.bool true) ∧ Below w.heap.size w w' := by
  have HB : Below w.heap.size w w := Below.refl _ _
  have HP := Lib.hid (fun W => powers_rows n k W h1 h2 h3 h4)
  have e1 : decide ((1 : Int) ≤ n) = true := by simp; omega
  have e2 : decide ((n : Int) ≤ 32) = true := by simp; omega
  have e3 : decide ((1 : Int) ≤ k) = true := by simp; omega
  have e4 : decide ((k : Int) ≤ 32) = true := by simp; omega
  have e5 : (((k : Nat) : Int) != ((k : Nat) : Int)) = false := int_beq rfl
  have HPK := Lib.hid (fun W g cap (h9 : Base.Rows W (some ⟨g, 0, none⟩) (tab n k powT)) (h8 : Ints W A l) => pick_bad (some ⟨g, 0, none⟩) A n cap k c (tab n k powT) l W h9 h8 (tab_length _ _ _) hl (right_tab _ h1 h2 h3 h4) h3 h4 hbd)
  have HBD := Lib.hid hbd
  have HLL := Lib.hid hl
  clear hbd
  go_enter Try.func14, Try.ntmps14
  go_wp2_with (first | (go_at_call 34; (with_reducible refine (awake_any _).mono ?_); rintro e w2 ⟨rfl, hd⟩; (try replace hX := hX.below hd); replace HB := bt HB HB.size hd; clear hd) | (go_at_call 45; (with_reducible refine (HP.out _).mono ?_); rintro e w1 ⟨g, cap, rfl, hcap, hX, hd⟩; replace HB := bt HB HB.size hd; clear hd))
  have HB0 := HB
  have hX0 := hX
  clear HB hX
  go_loopw [9, 10] (fun i _ wr => ∃ a : Nat, a ≤ k ∧ i = .int .i64 a ∧ Drawn w2 wr ∧ ∀ i (hi : i < l.length), i < a → ∀ j (hj : j < i), l[i] ≠ l[j]'(by omega)) (fun i _ _ => k - (intOf i).toNat)
  case atStart => exact ⟨0, by omega, rfl, Drawn.refl _, fun i _ h => by omega⟩
  case round =>
    obtain ⟨a, ha, rfl, HD, hall⟩ := hrel
    have HA := Lib.hid hall
    clear hall
    by_cases hlt : a < k
    · obtain ⟨wi, rfl⟩ : ∃ wi : World, wi = wr := ⟨_, rfl⟩
      have hal : a < l.length := by omega
      go_wp2
      go_loopw [10] (fun j wx => ∃ b : Nat, b ≤ a ∧ j = .int .i64 b ∧ Drawn wi wx ∧ ∀ j (hj : j < b) (hj2 : j < a), l[a] ≠ l[j]'(by omega)) (fun j _ => a - (intOf j).toNat)
      case atStart => exact ⟨0, by omega, rfl, Drawn.refl _, fun j h => by omega⟩
      case round =>
        obtain ⟨b, hb, rfl, HD1, hall⟩ := hrel
        have HA1 := Lib.hid hall
        clear hall
        by_cases hlt2 : b < a
        · have hbl : b < l.length := by omega
          have HB2 := bt (bt HB0 HB0.size (HD.below (B := w2.heap.size))) (bt HB0 HB0.size (HD.below (B := w2.heap.size))).size (HD1.below (B := wi.heap.size))
          obtain ⟨ib, io, rfl, hci⟩ := (hI.below HB2).block (by omega)
          have hx := hci a hal
          have hy := hci b hbl
          clear hci
          obtain ⟨x, hxe⟩ : ∃ x, x = l[a] := ⟨_, rfl⟩
          obtain ⟨y, hye⟩ : ∃ y, y = l[b] := ⟨_, rfl⟩
          rw [← hxe] at hx
          rw [← hye] at hy
          have HX := Lib.hid hxe
          have HY := Lib.hid hye
          clear hxe hye
          by_cases hxy : x = y
          · have exy : (x == y) = true := int_eq hxy
            clear hxy
            go_upto_region 12 with fail
            go_quiet (fail)
            go_wp2
            go_ret
            exact ⟨rfl, below_drewN HB2 _⟩
          · have exy : (x == y) = false := int_ne hxy
            have HNE := Lib.hid hxy
            clear hxy
            go_upto_region 12 with fail
            go_quiet (fail)
            go_wp2
            go_roundw
            case rel =>
              refine ⟨b + 1, by omega, by go_num, HD1.trans (Drawn.step _), fun j hj hj2 => ?_⟩
              rcases Nat.lt_or_ge j b with h | h
              · exact HA1.out j h hj2
              · obtain rfl : j = b := by omega
                rw [← HX.out, ← HY.out]
                exact HNE.out
            case measure => simp [intOf]; omega
        · obtain rfl : b = a := by omega
          go_wp2
          go_roundw
          case rel =>
            refine ⟨b + 1, by omega, by go_num, HD.trans HD1, fun i hi hia j hj => ?_⟩
            rcases Nat.lt_or_ge i b with h | h
            · exact HA.out i hi h j hj
            · obtain rfl : i = b := by omega
              exact HA1.out j hj hj
          case measure => simp [intOf]; omega
    · obtain rfl : k = a := by omega
      have HB := bt HB0 HB0.size (HD.below (B := w2.heap.size))
      have hX := hX0.below (HD.below (B := w2.heap.size))
      go_wp2_with (go_at_call 42; (with_reducible refine (HPK.out _ _ _ hX (hI.below HB)).mono ?_); rintro e w6 ⟨rfl, hd⟩; replace HB := bt HB HB.size hd; clear hd)
      go_ret
      exact ⟨rfl, HB⟩
set_option maxRecDepth 100000 in
set_option maxHeartbeats 1000000 in
theorem lawpow_good (hI : Ints w A l) (hl : l.length = k) (h1 : 1 ≤ n) (h2 : n ≤ 32) (h3 : 1 ≤ k) (h4 : k ≤ 32) (hbd : ∀ i (h : i < l.length), 0 ≤ l[i] ∧ l[i] < n) :
    Calls Try.prog 14 #[.int .u8 (n : Nat), .int .u8 (k : Nat), .slice A k c] w fun e w' => e = .returned (.bool true) ∧ Below w.heap.size w w' := by
  have HB : Below w.heap.size w w := Below.refl _ _
  have HP := Lib.hid (fun W => powers_rows n k W h1 h2 h3 h4)
  have e1 : decide ((1 : Int) ≤ n) = true := by simp; omega
  have e2 : decide ((n : Int) ≤ 32) = true := by simp; omega
  have e3 : decide ((1 : Int) ≤ k) = true := by simp; omega
  have e4 : decide ((k : Int) ≤ 32) = true := by simp; omega
  have e5 : (((k : Nat) : Int) != ((k : Nat) : Int)) = false := int_beq rfl
  have HPK := Lib.hid (fun W g cap (h9 : Base.Rows W (some ⟨g, 0, none⟩) (tab n k powT)) (h8 : Ints W A l) => pick_good (some ⟨g, 0, none⟩) A n cap k c (tab n k powT) l W h9 h8 (tab_length _ _ _) hl (right_tab _ h1 h2 h3 h4) h3 h4 hbd)
  have HBD := Lib.hid hbd
  have HLL := Lib.hid hl
  clear hbd
  go_enter Try.func14, Try.ntmps14
  go_wp2_with (first | (go_at_call 34; (with_reducible refine (awake_any _).mono ?_); rintro e w2 ⟨rfl, hd⟩; (try replace hX := hX.below hd); replace HB := bt HB HB.size hd; clear hd) | (go_at_call 45; (with_reducible refine (HP.out _).mono ?_); rintro e w1 ⟨g, cap, rfl, hcap, hX, hd⟩; replace HB := bt HB HB.size hd; clear hd))
  have HB0 := HB
  have hX0 := hX
  clear HB hX
  go_loopw [9, 10] (fun i _ wr => ∃ a : Nat, a ≤ k ∧ i = .int .i64 a ∧ Drawn w2 wr ∧ ∀ i (hi : i < l.length), i < a → ∀ j (hj : j < i), l[i] ≠ l[j]'(by omega)) (fun i _ _ => k - (intOf i).toNat)
  case atStart => exact ⟨0, by omega, rfl, Drawn.refl _, fun i _ h => by omega⟩
  case round =>
    obtain ⟨a, ha, rfl, HD, hall⟩ := hrel
    have HA := Lib.hid hall
    clear hall
    by_cases hlt : a < k
    · obtain ⟨wi, rfl⟩ : ∃ wi : World, wi = wr := ⟨_, rfl⟩
      have hal : a < l.length := by omega
      go_wp2
      go_loopw [10] (fun j wx => ∃ b : Nat, b ≤ a ∧ j = .int .i64 b ∧ Drawn wi wx ∧ ∀ j (hj : j < b) (hj2 : j < a), l[a] ≠ l[j]'(by omega)) (fun j _ => a - (intOf j).toNat)
      case atStart => exact ⟨0, by omega, rfl, Drawn.refl _, fun j h => by omega⟩
      case round =>
        obtain ⟨b, hb, rfl, HD1, hall⟩ := hrel
        have HA1 := Lib.hid hall
        clear hall
        by_cases hlt2 : b < a
        · have hbl : b < l.length := by omega
          have HB2 := bt (bt HB0 HB0.size (HD.below (B := w2.heap.size))) (bt HB0 HB0.size (HD.below (B := w2.heap.size))).size (HD1.below (B := wi.heap.size))
          obtain ⟨ib, io, rfl, hci⟩ := (hI.below HB2).block (by omega)
          have hx := hci a hal
          have hy := hci b hbl
          clear hci
          obtain ⟨x, hxe⟩ : ∃ x, x = l[a] := ⟨_, rfl⟩
          obtain ⟨y, hye⟩ : ∃ y, y = l[b] := ⟨_, rfl⟩
          rw [← hxe] at hx
          rw [← hye] at hy
          have HX := Lib.hid hxe
          have HY := Lib.hid hye
          clear hxe hye
          by_cases hxy : x = y
          · have exy : (x == y) = true := int_eq hxy
            clear hxy
            go_upto_region 12 with fail
            go_quiet (fail)
            go_wp2
            go_ret
            exact ⟨rfl, below_drewN HB2 _⟩
          · have exy : (x == y) = false := int_ne hxy
            have HNE := Lib.hid hxy
            clear hxy
            go_upto_region 12 with fail
            go_quiet (fail)
            go_wp2
            go_roundw
            case rel =>
              refine ⟨b + 1, by omega, by go_num, HD1.trans (Drawn.step _), fun j hj hj2 => ?_⟩
              rcases Nat.lt_or_ge j b with h | h
              · exact HA1.out j h hj2
              · obtain rfl : j = b := by omega
                rw [← HX.out, ← HY.out]
                exact HNE.out
            case measure => simp [intOf]; omega
        · obtain rfl : b = a := by omega
          go_wp2
          go_roundw
          case rel =>
            refine ⟨b + 1, by omega, by go_num, HD.trans HD1, fun i hi hia j hj => ?_⟩
            rcases Nat.lt_or_ge i b with h | h
            · exact HA.out i hi h j hj
            · obtain rfl : i = b := by omega
              exact HA1.out j hj hj
          case measure => simp [intOf]; omega
    · obtain rfl : k = a := by omega
      have HB := bt HB0 HB0.size (HD.below (B := w2.heap.size))
      have hX := hX0.below (HD.below (B := w2.heap.size))
      have HFREE := Lib.hid (powL_free l n h2 HBD.out (fun i hi j hj => HA.out i hi (by omega) j hj))
      have HPL := Lib.hid (powL_pick n k l HBD.out)
      go_wp2_with (go_at_call 42; (with_reducible refine (HPK.out _ _ _ hX (hI.below HB)).mono ?_); rintro e w6 ⟨A6, c6, rfl, hP, hd⟩; replace HB := bt HB HB.size hd; clear hd; rw [HPL.out, HLL.out] at hP; obtain ⟨gb, ob, rfl, _⟩ := hP.block (by rw [tab_length]; omega))
      go_wp2_with (go_at_call 37; (with_reducible refine (undo_free gb ob k _ _ _ hP (tab_length _ _ _) (right_tab _ h3 h4 h3 h4) (wid_tab _ _ (by omega)) (free_tab (by rw [← HLL.out]; exact HFREE.out))).mono ?_); rintro e w7 ⟨g7, c7, b7, O7, rfl, _, _, _, hd⟩; replace HB := bt HB HB.size hd; clear hd)
      go_ret
      exact ⟨rfl, HB⟩
theorem lawpow (hI : Ints w A l) (hl : l.length = m) (hn : n ≤ 255) (hk : k ≤ 255) :
    Calls Try.prog 14 #[.int .u8 (n : Nat), .int .u8 (k : Nat), .slice A m c] w fun e w' => e = .returned (.bool true) ∧ Below w.heap.size w w' := by
  by_cases h : (1 ≤ n ∧ n ≤ 32) ∧ (1 ≤ k ∧ k ≤ 32)
  · by_cases hm : m = k
    · subst hm
      by_cases hb : ∀ i (h : i < l.length), 0 ≤ l[i] ∧ l[i] < n
      · exact lawpow_good A c n m l w hI hl h.1.1 h.1.2 h.2.1 h.2.2 hb
      · exact lawpow_bad A c n m l w hI hl h.1.1 h.1.2 h.2.1 h.2.2 hb
    · exact lawpow_len A m c n k w h.1.1 h.1.2 h.2.1 h.2.2 hm
  · exact lawpow_far A m c n k w hn hk h
end
end Go.Proofs.Ytalinkpfklhgaaa.RowsW
