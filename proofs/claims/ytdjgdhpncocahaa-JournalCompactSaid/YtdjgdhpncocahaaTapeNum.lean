/- tape.Num answers a number's bytes. -/
import Derived.Test.YtdjgdhpncocahaaProg
import Derived.Test.YtdjgdhpncocahaaTapePure
import Derived.Test.YtdjgdhpncocahaaOwn
set_option linter.unusedVariables false
set_option linter.unusedSimpArgs false
namespace Go.Proofs.Ytdjgdhpncocahaa.TapeW
open Go.RowKit Go.Proofs.Ytdjgdhpncocahaa.Base Go.Proofs.Ytdjgdhpncocahaa.TapeP

theorem info_u8 : (Try.prog.info? 5).map (fun i => (i.zero, i.size, i.bytes)) = some (some (.int .u8 0), 1, 1) := by kernel_rfl

set_option maxRecDepth 100000 in
set_option maxHeartbeats 400000 in
theorem num_in (n : Nat) (w : World) (hn : n ≤ 9007199254740991) :
    Calls Try.prog 24 #[.int .i64 n] w fun e w' => e = .returned (.string (str (num n))) ∧ Below w.heap.size w w' := by
  go_enter Try.func24, Try.ntmps24
  go_wp2
  go_loopw [0, 3] (fun x v wr => ∃ (m k : Nat) (l : List UInt8), x = .int .i64 m ∧ m ≤ 9007199254740991 ∧ l ++ num m = num n ∧ l.length = k ∧ k ≤ 8 ∧ wr.ownsRow w.heap.size 5 1 v k (bv l) ∧ Below w.heap.size w wr) (fun x _ _ => (intOf x).toNat)
  case atStart => exact ⟨n, 0, [], rfl, hn, rfl, rfl, by omega, own_none _ _ _ _, Below.refl _ _⟩
  case round =>
    obtain ⟨m, k, l, rfl, hm, hl, hk, hk8, HO, HB⟩ := hrel
    by_cases h1 : m < 128
    · rw [num_small h1] at hl
      have HL := Lib.hid hl
      have HK := Lib.hid hk
      clear hl hk
      have hcv : ∀ (v : Value) (W : World), W.ownsRow w.heap.size 5 1 v (k + 1) (bv l ++ [Value.int .u8 ((m : Nat) : Int)]) → (convert 42 9 v).run Try.prog W = .ok (.string (str (num n))) W := by
        intro v W h
        have e : bv l ++ [Value.int .u8 ((m : Nat) : Int)] = bv (num n) := by
          rw [← HL.out, bv_append]
          simp only [bv, List.map_cons, List.map_nil]
          rw [UInt8.toNat_ofNat']
          have : ((m % 2 ^ 8 : Nat) : Int) = (m : Int) := by omega
          rw [this]
        rw [e] at h
        exact conv_own Try.underlying42 Try.underlying5 Try.underlying9 h (by omega)
      have HC := Lib.hid hcv
      clear hcv
      go_wp2_with (at_builtin; refine app_one w.heap.size rfl (.tmp 21) (.tmp 24) 42 5 (.int .u8 0) 1 rfl Try.underlying42 info_u8 rfl (by omega) _ _ _ k (by rw [bv_length]; exact HK.out) rfl rfl rfl HO HB HB.size (by omega) ?_; intro v1 w1 HO1 HB1 hg1; have hcv1 := HC.out v1 w1 HO1)
      go_ret
      exact ⟨rfl, HB1⟩
    · have hk7 : k + 1 ≤ 8 := by
        have e := congrArg List.length hl
        have e1 := num_length 7 n (by omega)
        rw [List.length_append, num_big h1, List.length_cons] at e
        have e2 := num_ne (m / 128)
        have e3 : 0 < (num (m / 128)).length := List.length_pos_iff.2 e2
        omega
      have HL := Lib.hid hl
      have HK := Lib.hid hk
      clear hl hk
      have hd : ((m / 128 : Nat) : Int) = (m : Int) / 128 := by omega
      have HD := Lib.hid hd
      clear hd
      go_wp2_with (at_builtin; refine app_one w.heap.size rfl (.tmp 12) (.tmp 17) 42 5 (.int .u8 0) 1 rfl Try.underlying42 info_u8 rfl (by omega) _ _ _ k (by rw [bv_length]; exact HK.out) rfl rfl rfl HO HB HB.size (by omega) ?_; intro v1 w1 HO1 HB1 hg1)
      go_roundw
      case rel =>
        refine ⟨m / 128, k + 1, l ++ [UInt8.ofNat (128 + m % 128)], by rw [HD.out], by omega, ?_, by rw [List.length_append, HK.out]; rfl, hk7, ?_, HB1⟩
        · rw [List.append_assoc, List.singleton_append, ← num_big h1]; exact HL.out
        · rw [bv_append]
          have e : bv [UInt8.ofNat (128 + m % 128)] = [Value.int .u8 ((m : Int) % 128 + 128)] := by
            simp only [bv, List.map_cons, List.map_nil]
            rw [UInt8.toNat_ofNat']
            have : (((128 + m % 128) % 2 ^ 8 : Nat) : Int) = (m : Int) % 128 + 128 := by omega
            rw [this]
          rw [e]; exact HO1
      case measure => simp [intOf]; omega
set_option maxRecDepth 100000 in
set_option maxHeartbeats 400000 in
theorem num_out (n : Int) (w : World) (h : n < 0 ∨ 9007199254740991 < n) :
    Calls Try.prog 24 #[.int .i64 n] w fun e w' => e = .returned (.string (str [])) ∧ Below w.heap.size w w' := by
  by_cases h1 : n < 0
  · clear h
    go_enter Try.func24, Try.ntmps24
    go_wp2
    go_ret
    exact ⟨rfl, Below.refl _ _⟩
  · have h2 : 9007199254740991 < n := by omega
    clear h
    go_enter Try.func24, Try.ntmps24
    go_wp2
    go_ret
    exact ⟨rfl, Below.refl _ _⟩
theorem num_any (n : Int) (w : World) :
    Calls Try.prog 24 #[.int .i64 n] w fun e w' => e = .returned (.string (str (numI n))) ∧ Below w.heap.size w w' := by
  by_cases h : n < 0 ∨ 9007199254740991 < n
  · rw [numI_out h]; exact num_out n w h
  · rw [numI_in (by omega) (by omega)]
    obtain ⟨m, rfl⟩ := Int.eq_ofNat_of_zero_le (show 0 ≤ n by omega)
    exact num_in m w (by omega)

set_option maxRecDepth 100000 in
set_option maxHeartbeats 400000 in
theorem whole_any (n : Int) (w : World) :
    Calls Try.prog 45 #[.int .i64 n] w fun e w' => e = .returned (.string (str (wholeI n))) ∧ Below w.heap.size w w' := by
  unfold wholeI
  by_cases h : n < -4503599627370496 ∨ 4503599627370496 ≤ n
  · rw [if_pos h]
    by_cases h1 : n < -4503599627370496
    · clear h
      go_enter Try.func45, Try.ntmps45
      go_wp2
      go_ret
      exact ⟨rfl, Below.refl _ _⟩
    · have h2 : 4503599627370496 ≤ n := by omega
      clear h
      go_enter Try.func45, Try.ntmps45
      go_wp2
      go_ret
      exact ⟨rfl, Below.refl _ _⟩
  · rw [if_neg h]
    have h3 : -4503599627370496 ≤ n := by omega
    have h4 : n < 4503599627370496 := by omega
    clear h
    by_cases h1 : n < 0
    · rw [if_pos h1]
      go_enter Try.func45, Try.ntmps45
      go_wp2_with (go_at_call 24; (with_reducible refine (num_any _ _).mono ?_); rintro e w2 ⟨rfl, HB⟩)
      go_ret
      exact ⟨by first | rfl | (congr 4; omega), HB⟩
    · rw [if_neg h1]
      go_enter Try.func45, Try.ntmps45
      go_wp2_with (go_at_call 24; (with_reducible refine (num_any _ _).mono ?_); rintro e w2 ⟨rfl, HB⟩)
      go_ret
      exact ⟨by first | rfl | (congr 4; omega), HB⟩

set_option maxRecDepth 100000 in
set_option maxHeartbeats 400000 in
theorem text_any (s : ByteArray) (w : World) (hs : s.size ≤ 140737488351232) :
    Calls Try.prog 47 #[.string s] w fun e w' => e = .returned (.string (str (text s.data.toList))) ∧ Below w.heap.size w w' := by
  have hap : str (num s.size) ++ s = str (text s.data.toList) := by
    rw [str_append, str_list]; unfold text; rw [list_size]
  have hsz : (str (num s.size)).size + s.size ≤ 9223372036854775807 := by
    have := num_length 7 s.size (by omega)
    rw [str_size]; omega
  go_enter Try.func47, Try.ntmps47
  go_wp2_with (go_at_call 24; (with_reducible refine (num_in _ _ (by omega)).mono ?_); rintro e w2 ⟨rfl, HB⟩)
  go_ret
  exact ⟨rfl, HB⟩
end Go.Proofs.Ytdjgdhpncocahaa.TapeW
