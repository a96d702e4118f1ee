/- Two slices of strings told equal. -/
import Derived.Test.YtdjgdhpncocahaaProg
import Derived.Test.YtdjgdhpncocahaaStrs
set_option linter.unusedVariables false
set_option linter.unusedSimpArgs false
namespace Go.Proofs.Ytdjgdhpncocahaa.EqsW
open Go.RowKit Go.Proofs.Ytdjgdhpncocahaa.Base

/-- Alike, text by text. -/
def eqs : List ByteArray → List ByteArray → Bool
  | [], [] => true
  | s :: l, t :: m => (s.toList == t.toList) && eqs l m
  | _, _ => false
theorem eqs_len {l m : List ByteArray} (h : l.length ≠ m.length) : eqs l m = false := by
  induction l generalizing m with
  | nil => cases m with
    | nil => exact absurd rfl h
    | cons => rfl
  | cons s l ih => cases m with
    | nil => rfl
    | cons t m =>
      show (_ && eqs l m) = false
      rw [ih (by intro e; exact h (by simp [e])), Bool.and_false]
theorem eqs_at {l m : List ByteArray} (k : Nat) (h1 : k < l.length) (h2 : k < m.length) (h : (l[k].toList == m[k].toList) = false) : eqs l m = false := by
  induction l generalizing m k with
  | nil => simp at h1
  | cons s l ih => cases m with
    | nil => rfl
    | cons t m =>
      show (_ && eqs l m) = false
      cases k with
      | zero =>
        have h' : (s.toList == t.toList) = false := h
        rw [h', Bool.false_and]
      | succ k => rw [ih k (by simpa using h1) (by simpa using h2) h, Bool.and_false]
theorem eqs_all {l m : List ByteArray} (h : l.length = m.length) (ha : ∀ k (h1 : k < l.length) (h2 : k < m.length), (l[k].toList == m[k].toList) = true) : eqs l m = true := by
  induction l generalizing m with
  | nil => cases m with
    | nil => rfl
    | cons => simp at h
  | cons s l ih => cases m with
    | nil => simp at h
    | cons t m =>
      show (_ && eqs l m) = true
      have h0 : (s.toList == t.toList) = true := ha 0 (by simp) (by simp)
      rw [h0, ih (by simpa using h) (fun k h1 h2 => ha (k + 1) (by simpa using h1) (by simpa using h2)), Bool.and_true]

set_option maxRecDepth 100000 in
set_option maxHeartbeats 1000000 in
theorem same_texts (A A' : Option Addr) (n c n' c' : Nat) (ss tt : List ByteArray) (w : World) (hS : Strs w A n ss) (hT : Strs w A' n' tt) (hn : n ≤ 140737488355328) :
    Calls Try.prog 58 #[.slice A n c, .slice A' n' c'] w fun e w' => e = .returned (.bool (eqs ss tt)) ∧ Below w.heap.size w w' := by
  by_cases hl : n = n'
  · subst hl
    have hne : ((n : Int) != (n : Int)) = false := int_beq rfl
    go_enter Try.func58, Try.ntmps58
    go_wp2
    go_loopw [5] (fun i wr => ∃ k : Nat, k ≤ n ∧ i = .int .i64 k ∧ (∀ j (h1 : j < ss.length) (h2 : j < tt.length), j < k → (ss[j].toList == tt[j].toList) = true) ∧ Below w.heap.size w wr) (fun i _ => n - (intOf i).toNat)
    case atStart => exact ⟨0, by omega, rfl, fun _ _ _ h => by omega, Below.refl _ _⟩
    case round =>
      obtain ⟨k, hk, rfl, ha, HB⟩ := hrel
      have l1 := hS.len
      have l2 := hT.len
      by_cases hlt : k < n
      · obtain ⟨b, off, rfl, hc⟩ := hS.block (by omega)
        obtain ⟨b', off', rfl, hc'⟩ := hT.block (by omega)
        have h1 : k < ss.length := by omega
        have h2 : k < tt.length := by omega
        have c1 := cell_below HB (hc k h1)
        have c2 := cell_below HB (hc' k h2)
        cases hq : (ss[k].toList == tt[k].toList) with
        | false =>
          have he := eqs_at k h1 h2 hq
          generalize ss[k] = s1 at c1 hq
          generalize tt[k] = t1 at c2 hq
          have HE := Lib.hid he
          clear he ha hc hc'
          go_upto_region 6 with fail
          go_quiet (fail)
          go_wp2
          go_ret
          exact ⟨by rw [HE.out]; rfl, below_drewN HB _⟩
        | true =>
          have hq2 := hq
          have ha2 : ∀ j (h1 : j < ss.length) (h2 : j < tt.length), j < k + 1 → (ss[j].toList == tt[j].toList) = true := fun j h1 h2 hj => by
            by_cases e : j = k
            · subst e; exact hq2
            · exact ha j h1 h2 (by omega)
          have HA := Lib.hid ha2
          clear ha ha2 hq2 hc hc'
          generalize ss[k] = s1 at c1 hq
          generalize tt[k] = t1 at c2 hq
          go_upto_region 6 with fail
          go_quiet (fail)
          go_wp2
          go_roundw
          case rel => exact ⟨k + 1, by omega, by go_num, HA.out, below_drewN HB _⟩
          case measure => simp [intOf]; omega
      · obtain rfl : k = n := by omega
        have he := eqs_all (l := ss) (m := tt) (by omega) (fun j h1 h2 => ha j h1 h2 (by omega))
        have HE := Lib.hid he
        clear he ha
        go_wp2
        go_ret
        exact ⟨by rw [HE.out]; rfl, HB⟩
  · have hne : ((n : Int) != (n' : Int)) = true := int_bne (by omega)
    have he : eqs ss tt = false := eqs_len (by rw [hS.len, hT.len]; exact hl)
    rw [he]
    go_enter Try.func58, Try.ntmps58
    go_wp2
    go_ret
    exact ⟨rfl, Below.refl _ _⟩
set_option maxRecDepth 100000 in
set_option maxHeartbeats 1000000 in
theorem slices_equal (A A' : Option Addr) (n c n' c' : Nat) (ss tt : List ByteArray) (w : World) (hS : Strs w A n ss) (hT : Strs w A' n' tt) (hn : n ≤ 140737488355328) :
    Calls Try.prog 75 #[.slice A n c, .slice A' n' c'] w fun e w' => e = .returned (.bool (eqs ss tt)) ∧ Below w.heap.size w w' := by
  by_cases hl : n = n'
  · subst hl
    have hne : ((n : Int) != (n : Int)) = false := int_beq rfl
    go_enter Try.func75, Try.ntmps75
    go_wp2
    go_loopw [13] (fun i wr => ∃ k : Nat, k ≤ n ∧ i = .int .i64 k ∧ (∀ j (h1 : j < ss.length) (h2 : j < tt.length), j < k → (ss[j].toList == tt[j].toList) = true) ∧ Below w.heap.size w wr) (fun i _ => n - (intOf i).toNat)
    case atStart => exact ⟨0, by omega, rfl, fun _ _ _ h => by omega, Below.refl _ _⟩
    case round =>
      obtain ⟨k, hk, rfl, ha, HB⟩ := hrel
      have l1 := hS.len
      have l2 := hT.len
      by_cases hlt : k < n
      · obtain ⟨b, off, rfl, hc⟩ := hS.block (by omega)
        obtain ⟨b', off', rfl, hc'⟩ := hT.block (by omega)
        have h1 : k < ss.length := by omega
        have h2 : k < tt.length := by omega
        have c1 := cell_below HB (hc k h1)
        have c2 := cell_below HB (hc' k h2)
        cases hq : (ss[k].toList == tt[k].toList) with
        | false =>
          have he := eqs_at k h1 h2 hq
          generalize ss[k] = s1 at c1 hq
          generalize tt[k] = t1 at c2 hq
          have HE := Lib.hid he
          clear he ha hc hc'
          go_upto_region 6 with fail
          go_quiet (fail)
          go_wp2
          go_ret
          exact ⟨by rw [HE.out]; rfl, below_drewN HB _⟩
        | true =>
          have hq2 := hq
          have ha2 : ∀ j (h1 : j < ss.length) (h2 : j < tt.length), j < k + 1 → (ss[j].toList == tt[j].toList) = true := fun j h1 h2 hj => by
            by_cases e : j = k
            · subst e; exact hq2
            · exact ha j h1 h2 (by omega)
          have HA := Lib.hid ha2
          clear ha ha2 hq2 hc hc'
          generalize ss[k] = s1 at c1 hq
          generalize tt[k] = t1 at c2 hq
          go_upto_region 6 with fail
          go_quiet (fail)
          go_wp2
          go_roundw
          case rel => exact ⟨k + 1, by omega, by go_num, HA.out, below_drewN HB _⟩
          case measure => simp [intOf]; omega
      · obtain rfl : k = n := by omega
        have he := eqs_all (l := ss) (m := tt) (by omega) (fun j h1 h2 => ha j h1 h2 (by omega))
        have HE := Lib.hid he
        clear he ha
        go_wp2
        go_ret
        exact ⟨by rw [HE.out]; rfl, HB⟩
  · have hne : ((n : Int) != (n' : Int)) = true := int_bne (by omega)
    have he : eqs ss tt = false := eqs_len (by rw [hS.len, hT.len]; exact hl)
    rw [he]
    go_enter Try.func75, Try.ntmps75
    go_wp2
    go_ret
    exact ⟨rfl, Below.refl _ _⟩
end Go.Proofs.Ytdjgdhpncocahaa.EqsW
