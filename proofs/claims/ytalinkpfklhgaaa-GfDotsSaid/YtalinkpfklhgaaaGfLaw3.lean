/- The law GfDots walked. -/
import Derived.Test.YtalinkpfklhgaaaGfLaw2
set_option linter.unusedVariables false
set_option linter.unusedSimpArgs false
namespace Go.Proofs.Ytalinkpfklhgaaa.GfL
open Go.RowKit Go.Proofs.Ytalinkpfklhgaaa.Base Go.Proofs.Ytalinkpfklhgaaa.GfP Go.Proofs.Ytalinkpfklhgaaa.GfW Go.Proofs.Ytalinkpfklhgaaa.GfR

set_option maxRecDepth 100000 in
set_option maxHeartbeats 1000000 in
theorem dots_big (A A' : Option Addr) (n m c c' : Nat) (w : World) (h : 100 < n ∨ 100 < m) :
    Calls Try.prog 4 #[.slice A n c, .slice A' m c'] w fun e w' => e = .returned (.bool true) ∧ Below w.heap.size w w' := by
  have HB : Below w.heap.size w w := Below.refl _ _
  by_cases h1 : 100 < n
  · clear h
    go_enter Try.func4, Try.ntmps4
    go_wp2_with (go_at_call 21; (with_reducible refine (awake_any _).mono ?_); rintro e w2 ⟨rfl, hd⟩; replace HB := HB.trans (hd.mono HB.size); clear hd)
    all_goals (go_ret; exact ⟨rfl, HB⟩)
  · have h2 : 100 < m := by omega
    clear h
    go_enter Try.func4, Try.ntmps4
    go_wp2_with (go_at_call 21; (with_reducible refine (awake_any _).mono ?_); rintro e w2 ⟨rfl, hd⟩; replace HB := HB.trans (hd.mono HB.size); clear hd)
    all_goals (go_ret; exact ⟨rfl, HB⟩)
set_option maxRecDepth 100000 in
set_option maxHeartbeats 1000000 in
theorem dots_ne (A A' : Option Addr) (n m c c' : Nat) (w : World) (h1 : n ≤ 100) (h2 : m ≤ 100) (hne : n ≠ m) :
    Calls Try.prog 4 #[.slice A n c, .slice A' m c'] w fun e w' => e = .returned (.bool true) ∧ Below w.heap.size w w' := by
  have HB : Below w.heap.size w w := Below.refl _ _
  have z : ((n : Int) != (m : Int)) = true := int_bne (by omega)
  go_enter Try.func4, Try.ntmps4
  go_wp2_with (first | (go_at_call 21; (with_reducible refine (awake_any _).mono ?_); rintro e w2 ⟨rfl, hd⟩; replace HB := HB.trans (hd.mono HB.size); clear hd) | (go_at_call 20; (with_reducible refine (new_field _).mono ?_); rintro e w3 ⟨b, rfl, hF, hb, hd⟩; replace HB := HB.trans (hd.mono HB.size); clear hd hb) | (go_at_call 25; (with_reducible refine (dot_ne _ _ _ _ _ _ _ _ hne).mono ?_); rintro e w2 ⟨rfl, hd⟩; replace HB := HB.trans hd.below; clear hd))
  all_goals (go_ret; exact ⟨rfl, HB⟩)
set_option maxRecDepth 100000 in
set_option maxHeartbeats 1000000 in
theorem dots_eq (A A' : Option Addr) (l m : List Nat) (n c c' : Nat) (w : World) (h1 : n ≤ 100) (hl : Bytes w A l) (hm : Bytes w A' m) (e1 : l.length = n) (e2 : m.length = n) :
    Calls Try.prog 4 #[.slice A n c, .slice A' n c'] w fun e w' => e = .returned (.bool true) ∧ Below w.heap.size w w' := by
  have HB : Below w.heap.size w w := Below.refl _ _
  have k1 := dot_le l m n
  have E1 := Lib.hid e1
  have E2 := Lib.hid e2
  clear e1 e2
  go_enter Try.func4, Try.ntmps4
  go_wp2_with (first | (go_at_call 21; (with_reducible refine (awake_any _).mono ?_); rintro e w2 ⟨rfl, hd⟩; replace HB := HB.trans (hd.mono HB.size); clear hd) | (go_at_call 20; (with_reducible refine (new_field _).mono ?_); rintro e w3 ⟨b, rfl, hF, hb, hd⟩; replace HB := HB.trans (hd.mono HB.size); clear hd hb) | (go_at_call 25; (with_reducible refine (dot_eq _ _ _ _ l m _ _ _ (hl.below HB) (hm.below HB) E1.out E2.out hF).mono ?_); rintro e w2 ⟨rfl, hd⟩; replace HB := HB.trans hd.below; clear hd))
  rename_i wc _ _
  clear hF
  go_loopw [7, 8] (fun o i wr => ∃ k : Nat, k ≤ n ∧ i = .int .i64 k ∧ o = .int .i64 (dot l m k : Nat) ∧ Below w.heap.size w wr) (fun _ i _ => n - (intOf i).toNat)
  case atStart => exact ⟨0, by omega, rfl, rfl, HB⟩
  case round =>
    obtain ⟨k, hk, rfl, rfl, hd⟩ := hrel
    by_cases hlt : k < n
    · have hl1 := hl.below hd
      have hm1 := hm.below hd
      have b1 := hl.getD_le k
      have b2 := hm.getD_le k
      have q1 := E1.out
      have q2 := E2.out
      obtain ⟨b3, o3, rfl, c3⟩ := hl1.at_.resolve_left (by intro e; rw [e] at q1; simp at q1; omega)
      obtain ⟨b4, o4, rfl, c4⟩ := hm1.at_.resolve_left (by intro e; rw [e] at q2; simp at q2; omega)
      replace c3 := c3 k (by omega)
      replace c4 := c4 k (by omega)
      have b5 := dot_le l m k
      have b6 := mul_le (l.getD k 0) (m.getD k 0)
      have hx := i64_xor_nat (dot l m k) (mul (l.getD k 0) (m.getD k 0)) (by omega) (by omega)
      have hs : dot l m (k + 1) = dot l m k ^^^ mul (l.getD k 0) (m.getD k 0) := rfl
      generalize l.getD k 0 = p at *
      generalize m.getD k 0 = q at *
      clear hl hm hl1 hm1 q1 q2 E1 E2 HB
      have HS := Lib.hid hs
      clear hs
      have HD := Lib.hid hd
      clear hd
      go_wp2
      go_quiet ((go_at_call 26; exact Calls.quiet_of ((rmul _ _ _ (by omega) (by omega)).mono fun _ _ ⟨h1, h2⟩ => ⟨h1, 0, h2.symm⟩)))
      go_wp2
      go_roundw
      case rel => exact ⟨k + 1, by omega, by go_num, by rw [HS.out], below_drewN HD.out _⟩
      case measure => simp [intOf]; omega
    · obtain rfl : k = n := by omega
      go_wp2
      go_ret
      exact ⟨rfl, hd⟩
theorem dots_any (A A' : Option Addr) (l m : List Nat) (n n' c c' : Nat) (w : World) (hl : Bytes w A l) (hm : Bytes w A' m) (e1 : l.length = n) (e2 : m.length = n') :
    Calls Try.prog 4 #[.slice A n c, .slice A' n' c'] w fun e w' => e = .returned (.bool true) ∧ Below w.heap.size w w' := by
  by_cases hb : 100 < n ∨ 100 < n'
  · exact dots_big _ _ _ _ _ _ w hb
  · by_cases he : n = n'
    · subst he
      exact dots_eq _ _ l m _ _ _ w (by omega) hl hm e1 e2
    · exact dots_ne _ _ _ _ _ _ w (by omega) (by omega) he
end Go.Proofs.Ytalinkpfklhgaaa.GfL
