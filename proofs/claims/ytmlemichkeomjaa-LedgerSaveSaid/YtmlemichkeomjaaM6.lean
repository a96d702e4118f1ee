/- Texts of this claim in one. -/
import Derived.KernelRfl
import Derived.Test.YtmlemichkeomjaaProg
import Derived.Test.YtmlemichkeomjaaM1
/- Numbers and texts as bytes: plain Lean. -/
set_option linter.unusedVariables false
set_option linter.unusedSimpArgs false
namespace Go.Proofs.Ytmlemichkeomjaa.TapeP

/-- A number's bytes. -/
def num (n : Nat) : List UInt8 := if h : n < 128 then [UInt8.ofNat n] else UInt8.ofNat (128 + n % 128) :: num (n / 128)
termination_by n
decreasing_by omega
theorem num_small {n : Nat} (h : n < 128) : num n = [UInt8.ofNat n] := by rw [num, dif_pos h]
theorem num_big {n : Nat} (h : ¬ n < 128) : num n = UInt8.ofNat (128 + n % 128) :: num (n / 128) := by rw [num, dif_neg h]
theorem num_length (k : Nat) : ∀ n : Nat, n < 128 ^ (k + 1) → (num n).length ≤ k + 1 := by
  induction k with
  | zero => intro n h; rw [num_small (by simpa using h)]; simp
  | succ k ih =>
    intro n h
    by_cases h1 : n < 128
    · rw [num_small h1]; simp
    · rw [num_big h1, List.length_cons]
      have : n / 128 < 128 ^ (k + 1) := by
        rw [Nat.div_lt_iff_lt_mul (by omega)]
        rw [Nat.pow_succ] at h
        exact h
      have := ih _ this
      omega
theorem num_ne (n : Nat) : num n ≠ [] := by
  by_cases h : n < 128
  · rw [num_small h]; simp
  · rw [num_big h]; simp
/-- As the program has it: of any whole number. -/
def numI (n : Int) : List UInt8 := if n < 0 ∨ 9007199254740991 < n then [] else num n.toNat
theorem numI_length (n : Int) : (numI n).length ≤ 8 := by
  unfold numI
  split
  · simp
  · exact num_length 7 _ (by omega)
/-- A whole number's bytes. -/
def wholeI (n : Int) : List UInt8 := if n < -4503599627370496 ∨ 4503599627370496 ≤ n then [] else if n < 0 then numI (-2 * n - 1) else numI (2 * n)
/-- A text's bytes. -/
def text (l : List UInt8) : List UInt8 := num l.length ++ l
theorem byte_big {n : Nat} (h : n < 128) : ((UInt8.ofNat (128 + n)).toNat) = 128 + n := by
  rw [UInt8.toNat_ofNat']; omega
theorem byte_small {n : Nat} (h : n < 128) : ((UInt8.ofNat n).toNat) = n := by
  rw [UInt8.toNat_ofNat']; omega
/-- What stands behind two numbers' bytes is one text: then it is one number. -/
theorem num_once : ∀ (n m : Nat) (x y : List UInt8), num n ++ x = num m ++ y → n = m ∧ x = y := by
  intro n
  induction n using Nat.strongRecOn with
  | _ n ih =>
    intro m x y h
    by_cases h1 : n < 128
    · by_cases h2 : m < 128
      · rw [num_small h1, num_small h2] at h
        simp only [List.cons_append, List.nil_append, List.cons.injEq] at h
        obtain ⟨h3, h4⟩ := h
        have h5 := congrArg UInt8.toNat h3
        rw [byte_small h1, byte_small h2] at h5
        exact ⟨h5, h4⟩
      · rw [num_small h1, num_big h2] at h
        simp only [List.cons_append, List.nil_append, List.cons.injEq] at h
        have h5 := congrArg UInt8.toNat h.1
        rw [byte_small h1, byte_big (by omega)] at h5
        omega
    · by_cases h2 : m < 128
      · rw [num_big h1, num_small h2] at h
        simp only [List.cons_append, List.nil_append, List.cons.injEq] at h
        have h5 := congrArg UInt8.toNat h.1
        rw [byte_big (by omega), byte_small h2] at h5
        omega
      · rw [num_big h1, num_big h2] at h
        simp only [List.cons_append, List.cons.injEq] at h
        have h5 := congrArg UInt8.toNat h.1
        rw [byte_big (by omega), byte_big (by omega)] at h5
        obtain ⟨h6, h7⟩ := ih (n / 128) (by omega) (m / 128) x y h.2
        exact ⟨by omega, h7⟩
theorem numI_in {n : Int} (h0 : 0 ≤ n) (h : n ≤ 9007199254740991) : numI n = num n.toNat := by unfold numI; rw [if_neg (by omega)]
theorem numI_out {n : Int} (h : n < 0 ∨ 9007199254740991 < n) : numI n = [] := by unfold numI; rw [if_pos h]
end Go.Proofs.Ytmlemichkeomjaa.TapeP

/- Reading a number: plain Lean. -/
set_option linter.unusedVariables false
set_option linter.unusedSimpArgs false
namespace Go.Proofs.Ytmlemichkeomjaa.TapeP

/-- The number at a text's beginning, from its i-th byte on: it, how many bytes it has, the error's number. -/
def rd : List UInt8 → Nat → Nat → Nat × Nat × Nat
  | [], _, _ => (0, 0, 2)
  | b :: r, i, n =>
    if 128 ≤ b.toNat ∧ i + 1 < 8 then rd r (i + 1) (n + b.toNat % 128 * 2 ^ (7 * i))
    else if 128 ≤ b.toNat ∨ (b.toNat = 0 ∧ 1 < i + 1) ∨ 9007199254740991 < n + b.toNat % 128 * 2 ^ (7 * i) then (0, 0, 6)
    else (n + b.toNat % 128 * 2 ^ (7 * i), i + 1, 0)
def pk (l : List UInt8) : Nat × Nat × Nat := rd l 0 0
theorem rd_nil (i n : Nat) : rd [] i n = (0, 0, 2) := rfl
theorem rd_more {b : UInt8} (r : List UInt8) {i : Nat} (n : Nat) (h1 : 128 ≤ b.toNat) (h2 : i + 1 < 8) : rd (b :: r) i n = rd r (i + 1) (n + b.toNat % 128 * 2 ^ (7 * i)) := by
  rw [rd, if_pos ⟨h1, h2⟩]
theorem rd_form {b : UInt8} (r : List UInt8) {i : Nat} (n : Nat) (h1 : ¬ (128 ≤ b.toNat ∧ i + 1 < 8)) (h2 : 128 ≤ b.toNat ∨ (b.toNat = 0 ∧ 1 < i + 1) ∨ 9007199254740991 < n + b.toNat % 128 * 2 ^ (7 * i)) : rd (b :: r) i n = (0, 0, 6) := by
  rw [rd, if_neg h1, if_pos h2]
theorem rd_last {b : UInt8} (r : List UInt8) {i : Nat} (n : Nat) (h1 : ¬ (128 ≤ b.toNat ∧ i + 1 < 8)) (h2 : ¬ (128 ≤ b.toNat ∨ (b.toNat = 0 ∧ 1 < i + 1) ∨ 9007199254740991 < n + b.toNat % 128 * 2 ^ (7 * i))) : rd (b :: r) i n = (n + b.toNat % 128 * 2 ^ (7 * i), i + 1, 0) := by
  rw [rd, if_neg h1, if_neg h2]
/-- What is told of it: it is small, and it lies in the text; or there is an error and nothing else. -/
theorem rd_facts (l : List UInt8) : ∀ i n, (rd l i n).1 ≤ 9007199254740991 ∧ ((rd l i n).2.2 = 0 → i < (rd l i n).2.1 ∧ (rd l i n).2.1 ≤ i + l.length) ∧ ((rd l i n).2.2 ≠ 0 → (rd l i n).1 = 0 ∧ (rd l i n).2.1 = 0 ∧ ((rd l i n).2.2 = 2 ∨ (rd l i n).2.2 = 6)) := by
  induction l with
  | nil => intro i n; rw [rd_nil]; simp
  | cons b r ih =>
    intro i n
    by_cases h1 : 128 ≤ b.toNat ∧ i + 1 < 8
    · rw [rd_more r n h1.1 h1.2]
      obtain ⟨a, c, d⟩ := ih (i + 1) (n + b.toNat % 128 * 2 ^ (7 * i))
      exact ⟨a, fun h => by have := c h; simp only [List.length_cons]; omega, d⟩
    · by_cases h2 : 128 ≤ b.toNat ∨ (b.toNat = 0 ∧ 1 < i + 1) ∨ 9007199254740991 < n + b.toNat % 128 * 2 ^ (7 * i)
      · rw [rd_form r n h1 h2]; simp
      · rw [rd_last r n h1 h2]
        refine ⟨by simp only []; omega, fun _ => by simp only [List.length_cons]; omega, fun h => absurd rfl h⟩
theorem pk_le (l : List UInt8) : (pk l).1 ≤ 9007199254740991 := (rd_facts l 0 0).1
theorem pk_in (l : List UInt8) (h : (pk l).2.2 = 0) : 0 < (pk l).2.1 ∧ (pk l).2.1 ≤ l.length := by
  have := (rd_facts l 0 0).2.1 h
  simpa [pk] using this
theorem pk_err (l : List UInt8) (h : (pk l).2.2 ≠ 0) : (pk l).1 = 0 ∧ (pk l).2.1 = 0 ∧ ((pk l).2.2 = 2 ∨ (pk l).2.2 = 6) := (rd_facts l 0 0).2.2 h
theorem pk_ilen (l : List UInt8) : (pk l).2.1 ≤ l.length := by
  by_cases h : (pk l).2.2 = 0
  · exact (pk_in l h).2
  · have := (pk_err l h).2.1; omega
end Go.Proofs.Ytmlemichkeomjaa.TapeP

/- tape.Num answers a number's bytes. -/
set_option linter.unusedVariables false
set_option linter.unusedSimpArgs false
namespace Go.Proofs.Ytmlemichkeomjaa.TapeW
open Go.RowKit Go.Proofs.Ytmlemichkeomjaa.Base Go.Proofs.Ytmlemichkeomjaa.TapeP

theorem info_u8 : (Try.prog.info? 5).map (fun i => (i.zero, i.size, i.bytes)) = some (some (.int .u8 0), 1, 1) := by kernel_rfl

set_option maxRecDepth 100000 in
set_option maxHeartbeats 400000 in
theorem num_in (n : Nat) (w : World) (hn : n ≤ 9007199254740991) :
    Calls Try.prog 41 #[.int .i64 n] w fun e w' => e = .returned (.string (str (num n))) ∧ Below w.heap.size w w' := by
  go_enter Try.func41, Try.ntmps41
  go_wp2
  go_loopw [0, 3] (fun x v wr => ∃ (m k : Nat) (l : List UInt8), x = .int .i64 m ∧ m ≤ 9007199254740991 ∧ l ++ num m = num n ∧ l.length = k ∧ k ≤ 8 ∧ wr.ownsRow w.heap.size 5 1 v k (bv l) ∧ Below w.heap.size w wr) (fun x _ _ => (intOf x).toNat)
  case atStart => exact ⟨n, 0, [], rfl, hn, rfl, rfl, by omega, own_none _ _ _ _, Below.refl _ _⟩
  case round =>
    obtain ⟨m, k, l, rfl, hm, hl, hk, hk8, HO, HB⟩ := hrel
    by_cases h1 : m < 128
    · rw [num_small h1] at hl
      have HL := Lib.hid hl
      have HK := Lib.hid hk
      clear hl hk
      have hcv : ∀ (v : Value) (W : World), W.ownsRow w.heap.size 5 1 v (k + 1) (bv l ++ [Value.int .u8 ((m : Nat) : Int)]) → (convert 70 9 v).run Try.prog W = .ok (.string (str (num n))) W := by
        intro v W h
        have e : bv l ++ [Value.int .u8 ((m : Nat) : Int)] = bv (num n) := by
          rw [← HL.out, bv_append]
          simp only [bv, List.map_cons, List.map_nil]
          rw [UInt8.toNat_ofNat']
          have : ((m % 2 ^ 8 : Nat) : Int) = (m : Int) := by omega
          rw [this]
        rw [e] at h
        exact conv_own Try.underlying70 Try.underlying5 Try.underlying9 h (by omega)
      have HC := Lib.hid hcv
      clear hcv
      go_wp2_with (at_builtin; refine app_one w.heap.size rfl (.tmp 21) (.tmp 24) 70 5 (.int .u8 0) 1 rfl Try.underlying70 info_u8 rfl (by omega) _ _ _ k (by rw [bv_length]; exact HK.out) rfl rfl rfl HO HB HB.size (by omega) ?_; intro v1 w1 HO1 HB1 hg1; have hcv1 := HC.out v1 w1 HO1)
      go_ret
      exact ⟨rfl, HB1⟩
    · have hk7 : k + 1 ≤ 8 := by
        have e := congrArg List.length hl
        have e1 := num_length 7 n (by omega)
        rw [List.length_append, num_big h1, List.length_cons] at e
        have e2 := num_ne (m / 128)
        have e3 : 0 < (num (m / 128)).length := List.length_pos_iff.2 e2
        omega
      have HL := Lib.hid hl
      have HK := Lib.hid hk
      clear hl hk
      have hd : ((m / 128 : Nat) : Int) = (m : Int) / 128 := by omega
      have HD := Lib.hid hd
      clear hd
      go_wp2_with (at_builtin; refine app_one w.heap.size rfl (.tmp 12) (.tmp 17) 70 5 (.int .u8 0) 1 rfl Try.underlying70 info_u8 rfl (by omega) _ _ _ k (by rw [bv_length]; exact HK.out) rfl rfl rfl HO HB HB.size (by omega) ?_; intro v1 w1 HO1 HB1 hg1)
      go_roundw
      case rel =>
        refine ⟨m / 128, k + 1, l ++ [UInt8.ofNat (128 + m % 128)], by rw [HD.out], by omega, ?_, by rw [List.length_append, HK.out]; rfl, hk7, ?_, HB1⟩
        · rw [List.append_assoc, List.singleton_append, ← num_big h1]; exact HL.out
        · rw [bv_append]
          have e : bv [UInt8.ofNat (128 + m % 128)] = [Value.int .u8 ((m : Int) % 128 + 128)] := by
            simp only [bv, List.map_cons, List.map_nil]
            rw [UInt8.toNat_ofNat']
            have : (((128 + m % 128) % 2 ^ 8 : Nat) : Int) = (m : Int) % 128 + 128 := by omega
            rw [this]
          rw [e]; exact HO1
      case measure => simp [intOf]; omega
set_option maxRecDepth 100000 in
set_option maxHeartbeats 400000 in
theorem num_out (n : Int) (w : World) (h : n < 0 ∨ 9007199254740991 < n) :
    Calls Try.prog 41 #[.int .i64 n] w fun e w' => e = .returned (.string (str [])) ∧ Below w.heap.size w w' := by
  by_cases h1 : n < 0
  · clear h
    go_enter Try.func41, Try.ntmps41
    go_wp2
    go_ret
    exact ⟨rfl, Below.refl _ _⟩
  · have h2 : 9007199254740991 < n := by omega
    clear h
    go_enter Try.func41, Try.ntmps41
    go_wp2
    go_ret
    exact ⟨rfl, Below.refl _ _⟩
theorem num_any (n : Int) (w : World) :
    Calls Try.prog 41 #[.int .i64 n] w fun e w' => e = .returned (.string (str (numI n))) ∧ Below w.heap.size w w' := by
  by_cases h : n < 0 ∨ 9007199254740991 < n
  · rw [numI_out h]; exact num_out n w h
  · rw [numI_in (by omega) (by omega)]
    obtain ⟨m, rfl⟩ := Int.eq_ofNat_of_zero_le (show 0 ≤ n by omega)
    exact num_in m w (by omega)

set_option maxRecDepth 100000 in
set_option maxHeartbeats 400000 in
theorem text_any (s : ByteArray) (w : World) (hs : s.size ≤ 140737488351232) :
    Calls Try.prog 73 #[.string s] w fun e w' => e = .returned (.string (str (text s.data.toList))) ∧ Below w.heap.size w w' := by
  have hap : str (num s.size) ++ s = str (text s.data.toList) := by
    rw [str_append, str_list]; unfold text; rw [list_size]
  have hsz : (str (num s.size)).size + s.size ≤ 9223372036854775807 := by
    have := num_length 7 s.size (by omega)
    rw [str_size]; omega
  go_enter Try.func73, Try.ntmps73
  go_wp2_with (go_at_call 41; (with_reducible refine (num_in _ _ (by omega)).mono ?_); rintro e w2 ⟨rfl, HB⟩)
  go_ret
  exact ⟨rfl, HB⟩
end Go.Proofs.Ytmlemichkeomjaa.TapeW

/- The tape's methods, walked. -/
set_option linter.unusedVariables false
set_option linter.unusedSimpArgs false
namespace Go.Proofs.Ytmlemichkeomjaa.TapeW
open Go.RowKit Go.Proofs.Ytmlemichkeomjaa.Base Go.Proofs.Ytmlemichkeomjaa.TapeP

/-- A tape in block b: its bytes, and where it stands. -/
structure TapeAt (w : World) (b : Nat) (s : ByteArray) (at_ : Nat) : Prop where
  blk : w.heap[b]? = some (.cells #[.string s, .int .i64 at_] 149 (0, 0))
  le : at_ ≤ s.size
  sz : s.size ≤ 140737488351232
theorem TapeAt.c0 {w : World} {b : Nat} {s : ByteArray} {p : Nat} (h : TapeAt w b s p) : w.cell? ⟨b, 0, none⟩ = some (.string s) := by rw [cell_of_row _ _ _ _ _ _ h.blk]; rfl
theorem TapeAt.c1 {w : World} {b : Nat} {s : ByteArray} {p : Nat} (h : TapeAt w b s p) : w.cell? ⟨b, 1, none⟩ = some (.int .i64 p) := by rw [cell_of_row _ _ _ _ _ _ h.blk]; rfl
theorem TapeAt.fr {w : World} {b : Nat} {s : ByteArray} {p : Nat} (h : TapeAt w b s p) (j : Nat) : w.frozen? ⟨b, j, none⟩ = false := frozen_of_row _ _ _ _ _ h.blk
theorem TapeAt.lt {w : World} {b : Nat} {s : ByteArray} {p : Nat} (h : TapeAt w b s p) : b < w.heap.size := by
  have := h.blk
  rcases Nat.lt_or_ge b w.heap.size with h1 | h1
  · exact h1
  · rw [Array.getElem?_eq_none h1] at this; cases this
theorem TapeAt.below {w w' : World} {b : Nat} {s : ByteArray} {p : Nat} (h : TapeAt w b s p) (hb : Below w.heap.size w w') : TapeAt w' b s p := ⟨(hb.block b h.lt).trans h.blk, h.le, h.sz⟩
theorem TapeAt.drawn {w w' : World} {b : Nat} {s : ByteArray} {p : Nat} (h : TapeAt w b s p) (hd : Drawn w w') : TapeAt w' b s p := h.below hd.below
theorem TapeAt.set {w : World} {b : Nat} {s : ByteArray} {p q : Nat} (h : TapeAt w b s p) (hq : q ≤ s.size) : TapeAt (w.setCell ⟨b, 1, none⟩ (.int .i64 q)) b s q := by
  refine ⟨?_, hq, h.sz⟩
  rw [heap_setCell_same _ _ _ _ _ _ h.blk]
  rfl

theorem new_tape (s : ByteArray) (w : World) (hs : s.size ≤ 140737488351232) :
    Calls Try.prog 42 #[.string s] w fun e w' => ∃ b, e = .returned (.pointer (some ⟨b, 0, none⟩)) ∧ TapeAt w' b s 0 ∧ w.heap.size ≤ b ∧ Below w.heap.size w w' := by
  go_enter Try.func42, Try.ntmps42
  go_wp2
  go_ret
  exact ⟨_, rfl, ⟨heap_alloc_new _ _, Nat.zero_le _, hs⟩, Nat.le_refl _, (Below.refl _ _).alloc (Nat.le_refl _) _⟩
theorem left_nil (w : World) : Calls Try.prog 79 #[.pointer none] w fun e w' => e = .returned (.int .i64 0) ∧ w = w' := by
  go_enter Try.func79, Try.ntmps79
  go_wp2
  go_ret
  exact ⟨rfl, rfl⟩
theorem left_any (b : Nat) (s : ByteArray) (p : Nat) (w : World) (hT : TapeAt w b s p) :
    Calls Try.prog 79 #[.pointer (some ⟨b, 0, none⟩)] w fun e w' => e = .returned (.int .i64 ((s.size : Int) - p)) ∧ Drawn w w' := by
  have c0 := hT.c0
  have c1 := hT.c1
  have hle := hT.le
  have hsz := hT.sz
  have hv : IntKind.i64.wrap ((s.size : Int) - p) = (s.size : Int) - p := IntWalk.i64_in _ (by omega)
  clear hT
  go_enter Try.func79, Try.ntmps79
  go_wp2
  go_quiet (fail)
  go_wp2
  go_ret
  exact ⟨rfl, _, rfl⟩
set_option maxRecDepth 100000 in
set_option maxHeartbeats 400000 in
theorem peek_nil (w : World) : Calls Try.prog 120 #[.pointer none] w fun e w' => e = .returned (.tuple #[.int .i64 0, .int .i64 0, .int .i64 2]) ∧ w = w' := by
  go_enter Try.func120, Try.ntmps120
  go_wp2
  refine wp_scope_loop 0 (fun _ _ => False) (fun _ _ => 0) rfl ?_ (fun _ _ h => h.elim)
  intro _
  go_wp2
  go_step3
  go_step
  go_step
  go_wp2_with (go_at_call 79; (with_reducible refine (left_nil _).mono ?_); rintro e w2 ⟨rfl, rfl⟩)
  simp only [Exit.jump]
  go_ret3
  exact ⟨rfl, rfl⟩
theorem acc {n x i : Nat} (hi : i ≤ 7) (hn : n < 128 ^ i) (hx : x < 256) : wrap64 ((n : Int) + wrap64 ((x : Int) % 128 * 2 ^ (7 * i))) = ((n + x % 128 * 2 ^ (7 * i) : Nat) : Int) ∧ n + x % 128 * 2 ^ (7 * i) < 128 ^ (i + 1) := by
  have h : i = 0 ∨ i = 1 ∨ i = 2 ∨ i = 3 ∨ i = 4 ∨ i = 5 ∨ i = 6 ∨ i = 7 := by omega
  rcases h with rfl | rfl | rfl | rfl | rfl | rfl | rfl | rfl <;> simp only [wrap64, Nat.reduceMul, Nat.reducePow, Nat.reduceAdd, Int.reducePow] at hn ⊢ <;> omega
theorem acc_le {n i : Nat} (hi : i ≤ 7) (h : n < 128 ^ (i + 1)) : n ≤ 72057594037927936 := by
  have := Nat.pow_le_pow_right (n := 128) (by omega) (show i + 1 ≤ 8 by omega)
  omega
set_option maxRecDepth 100000 in
set_option maxHeartbeats 3000000 in
theorem peek_any (b : Nat) (s : ByteArray) (p : Nat) (w : World) (hT : TapeAt w b s p) :
    Calls Try.prog 120 #[.pointer (some ⟨b, 0, none⟩)] w fun e w' =>
      e = .returned (.tuple #[.int .i64 ((pk (s.data.toList.drop p)).1 : Nat), .int .i64 ((pk (s.data.toList.drop p)).2.1 : Nat), .int .i64 ((pk (s.data.toList.drop p)).2.2 : Nat)]) ∧ Drawn w w' := by
  have hle := hT.le
  have hsz := hT.sz
  go_enter Try.func120, Try.ntmps120
  go_wp2
  refine wp_scope_loop 0 (fun a' wr => ∃ (i n : Nat) (u1 u8 u9 u10 u11 u12 u13 u14 u15 u16 u17 u18 u19 u20 u21 u22 u23 u24 u25 u26 u27 u28 u29 u30 u31 u32 u33 u34 u35 u36 u37 u38 u39 u40 u41 u42 u43 u44 u45 u46 u47 u48 u49 u50 u51 u52 u53 u54 u55 u56 : Value), i ≤ 7 ∧ p + i ≤ s.size ∧ n < 128 ^ i ∧ rd (s.data.toList.drop (p + i)) i n = pk (s.data.toList.drop p) ∧ Drawn w wr ∧ a' = { tmps := #[.pointer (some ⟨b, 0, none⟩), u1, .int .i64 0, .int .i64 0, .int .i64 0, .int .i64 n, .int .i64 i, .int .i64 ((7 * i : Nat) : Int), u8, u9, u10, u11, u12, u13, u14, u15, u16, u17, u18, u19, u20, u21, u22, u23, u24, u25, u26, u27, u28, u29, u30, u31, u32, u33, u34, u35, u36, u37, u38, u39, u40, u41, u42, u43, u44, u45, u46, u47, u48, u49, u50, u51, u52, u53, u54, u55, u56], defers := [] }) (fun a' _ => 8 - (intOf (a'.tmps.getD 6 undef)).toNat) rfl ?_ ?_
  · intro hloop
    go_wp2
    go_step3
    go_step
    go_step
    exact hloop _ _ ⟨0, 0, _, _, _, _, _, _, _, _, _, _, _, _, _, _, _, _, _, _, _, _, _, _, _, _, _, _, _, _, _, _, _, _, _, _, _, _, _, _, _, _, _, _, _, _, _, _, _, _, _, _, by omega, by omega, by omega, rfl, Drawn.refl _, rfl⟩
  · rintro a' wr ⟨i, n, u1, u8, u9, u10, u11, u12, u13, u14, u15, u16, u17, u18, u19, u20, u21, u22, u23, u24, u25, u26, u27, u28, u29, u30, u31, u32, u33, u34, u35, u36, u37, u38, u39, u40, u41, u42, u43, u44, u45, u46, u47, u48, u49, u50, u51, u52, u53, u54, u55, u56, hi, hpi, hn, hrd, hd, rfl⟩
    have hT1 := hT.drawn hd
    by_cases hlt : p + i < s.size
    · have c0 := hT1.c0
      have c1 := hT1.c1
      have hdr : s.data.toList.drop (p + i) = s[p + i] :: s.data.toList.drop (p + i + 1) := by
        rw [List.drop_eq_getElem_cons (by rw [list_size]; exact hlt)]; rfl
      have hb2 := s[p + i].toNat_lt
      rw [hdr] at hrd
      have hw : IntKind.i64.wrap ((p : Int) + i) = (p : Int) + i := IntWalk.i64_in _ (by omega)
      have ht : ((p : Int) + (i : Int)).toNat = p + i := by omega
      have hi1 : (0 : Int) ≤ (p : Int) + (i : Int) := by omega
      have hi2 : (p : Int) + (i : Int) < (s.size : Int) := by omega
      have HD := Lib.hid hd
      have HRD := Lib.hid hrd
      have HDR := Lib.hid hdr
      have HN := Lib.hid hn
      clear hd hrd hdr hn hT
      go_upto_region 4 with (go_at_call 79; (with_reducible refine (left_any b s p _ hT1).mono ?_); rintro e w2 ⟨rfl, hd2⟩)
      replace hT1 := hT1.drawn hd2
      have c0 := hT1.c0
      have c1 := hT1.c1
      have HD2 := Lib.hid (HD.out.trans hd2)
      clear hd2 hT1 HD
      have hb3 : (0 : Int) ≤ (s[p + i].toNat : Int) ∧ (s[p + i].toNat : Int) < 256 := by omega
      go_quiet (fail)
      go_upto_region 6 with (fail)
      obtain ⟨hacc, hacc2⟩ := acc hi HN.out hb2
      rw [hacc]
      have hnn : n + s[p + i].toNat % 128 * 2 ^ (7 * i) ≤ 72057594037927936 := acc_le hi hacc2
      have HR2 := fun (hA : 128 ≤ s[p + i].toNat ∧ i + 1 < 8) => (rd_more (s.data.toList.drop (p + i + 1)) n hA.1 hA.2).symm.trans HRD.out
      have HR3 := fun (h1 : ¬ (128 ≤ s[p + i].toNat ∧ i + 1 < 8)) (h2 : 128 ≤ s[p + i].toNat ∨ (s[p + i].toNat = 0 ∧ 1 < i + 1) ∨ 9007199254740991 < n + s[p + i].toNat % 128 * 2 ^ (7 * i)) => (rd_form (s.data.toList.drop (p + i + 1)) (b := s[p + i]) (i := i) n h1 h2).symm.trans HRD.out
      have HR4 := fun (h1 : ¬ (128 ≤ s[p + i].toNat ∧ i + 1 < 8)) (h2 : ¬ (128 ≤ s[p + i].toNat ∨ (s[p + i].toNat = 0 ∧ 1 < i + 1) ∨ 9007199254740991 < n + s[p + i].toNat % 128 * 2 ^ (7 * i))) => (rd_last (s.data.toList.drop (p + i + 1)) (b := s[p + i]) (i := i) n h1 h2).symm.trans HRD.out
      generalize n + s[p + i].toNat % 128 * 2 ^ (7 * i) = n2 at hnn HR2 HR3 HR4 hacc2 ⊢
      generalize s[p + i].toNat = x at hb2 hb3 HR2 HR3 HR4 ⊢
      have H2 := Lib.hid HR2
      have H3 := Lib.hid HR3
      have H4 := Lib.hid HR4
      have HA2 := Lib.hid hacc2
      clear HR2 HR3 HR4 HRD hacc hacc2 HN HDR
      by_cases hA : 128 ≤ x ∧ i + 1 < 8
      · obtain ⟨hA1, hA2⟩ := hA
        have H5 := Lib.hid (H2.out ⟨hA1, hA2⟩)
        clear H2 H3 H4
        have h7 : ((7 * (i + 1) : Nat) : Int) = 7 * (i : Int) + 7 := by omega
        have H7 := Lib.hid h7
        clear h7
        go_wp2
        go_step3
        refine ⟨rfl, ⟨i + 1, n2, _, _, _, _, _, _, _, _, _, _, _, _, _, _, _, _, _, _, _, _, _, _, _, _, _, _, _, _, _, _, _, _, _, _, _, _, _, _, _, _, _, _, _, _, _, _, _, _, _, _, by omega, by omega, HA2.out, by rw [← Nat.add_assoc]; exact H5.out, HD2.out.trans (Drawn.step _), by rw [H7.out]; rfl⟩, ?_⟩
        simp [intOf]; omega
      · by_cases hB : 128 ≤ x ∨ (x = 0 ∧ 1 < i + 1) ∨ 9007199254740991 < n2
        · have H5 := Lib.hid (H3.out hA hB)
          clear H2 H3 H4
          go_wp2
          all_goals simp only [Exit.jump]
          all_goals go_ret3
          all_goals exact ⟨by rw [← H5.out]; rfl, HD2.out.trans (Drawn.step _)⟩
        · have H5 := Lib.hid (H4.out hA hB)
          clear H2 H3 H4
          have hx1 : x < 128 := by omega
          have hx2 : n2 ≤ 9007199254740991 := by omega
          have hx3 : x = 0 → ¬ 1 < (i : Int) + 1 := by omega
          go_wp2
          all_goals simp only [Exit.jump]
          all_goals go_ret3
          all_goals exact ⟨by rw [← H5.out]; rfl, HD2.out.trans (Drawn.step _)⟩
    · have hdr : s.data.toList.drop (p + i) = [] := List.drop_eq_nil_of_le (by rw [list_size]; omega)
      rw [hdr, rd_nil] at hrd
      have H5 := Lib.hid hrd
      have HD := Lib.hid hd
      clear hrd hdr hd hT hn
      go_wp2_with (go_at_call 79; (with_reducible refine (left_any b s p _ hT1).mono ?_); rintro e w2 ⟨rfl, hd2⟩)
      all_goals simp only [Exit.jump]
      all_goals go_ret3
      all_goals exact ⟨by rw [← H5.out]; rfl, HD.out.trans hd2⟩
end Go.Proofs.Ytmlemichkeomjaa.TapeW

/- The tape's reading methods, walked. -/
set_option linter.unusedVariables false
set_option linter.unusedSimpArgs false
namespace Go.Proofs.Ytmlemichkeomjaa.TapeW
open Go.RowKit Go.Proofs.Ytmlemichkeomjaa.Base Go.Proofs.Ytmlemichkeomjaa.TapeP

/-- A tape's step: it stands elsewhere, and no other block has turned. -/
structure Step (w w' : World) (b : Nat) (s : ByteArray) (q : Nat) : Prop where
  tape : TapeAt w' b s q
  only : Only b (b + 1) w w'
theorem Step.drewN {w w' : World} {b : Nat} {s : ByteArray} {q : Nat} (h : Step w w' b s q) (n : Nat) : Step w (w'.drewN n) b s q := ⟨h.tape.drawn (Drawn.step n), h.only.drewN n⟩
theorem drawn_only {w w' : World} (h : Drawn w w') (lo hi : Nat) : Only lo hi w w' := by
  obtain ⟨n, rfl⟩ := h
  exact (Only.refl lo hi w).drewN n

theorem only_set {w w' : World} {b : Nat} (h : Only b (b + 1) w w') (j : Nat) (v : Value) : Only b (b + 1) w (w'.setCell ⟨b, j, none⟩ v) :=
  h.setCell (p := ⟨b, j, none⟩) (Nat.le_refl b) (Nat.lt_succ_self b) v
theorem peek_is (b : Nat) (s : ByteArray) (p : Nat) (w : World) (hT : TapeAt w b s p) {n i er : Nat} (h : pk (s.data.toList.drop p) = (n, i, er)) :
    Calls Try.prog 120 #[.pointer (some ⟨b, 0, none⟩)] w fun e w' => e = .returned (.tuple #[.int .i64 (n : Nat), .int .i64 (i : Nat), .int .i64 (er : Nat)]) ∧ Drawn w w' := by
  have := peek_any b s p w hT
  rwa [h] at this
theorem pk_facts {s : ByteArray} {p n i er : Nat} (h : pk (s.data.toList.drop p) = (n, i, er)) : n ≤ 9007199254740991 ∧ i ≤ s.size - p ∧ (er = 0 → 0 < i) ∧ (er ≠ 0 → n = 0 ∧ i = 0 ∧ (er = 2 ∨ er = 6)) := by
  have h1 := pk_le (s.data.toList.drop p)
  have h2 := pk_ilen (s.data.toList.drop p)
  have h3 := pk_in (s.data.toList.drop p)
  have h4 := pk_err (s.data.toList.drop p)
  rw [h] at h1 h2 h3 h4
  rw [List.length_drop, list_size] at h2
  exact ⟨h1, h2, fun e => (h3 e).1, h4⟩

set_option maxRecDepth 100000 in
set_option maxHeartbeats 1000000 in
theorem tnum_ok (b : Nat) (s : ByteArray) (p : Nat) (w : World) (hT : TapeAt w b s p) {n i : Nat} (h : pk (s.data.toList.drop p) = (n, i, 0)) :
    Calls Try.prog 78 #[.pointer (some ⟨b, 0, none⟩)] w fun e w' => e = .returned (.tuple #[.int .i64 (n : Nat), .int .i64 0]) ∧ Step w w' b s (p + i) := by
  have hf := (pk_facts h).2.1
  have hle := hT.le
  have hsz := hT.sz
  have hp := peek_is b s p w hT h
  have HP := Lib.hid hp
  clear h hp
  go_enter Try.func78, Try.ntmps78
  go_wp2_with fail
  refine HP.out.mono ?_
  rintro e w2 ⟨rfl, hd⟩
  have hT2 := hT.drawn hd
  have c1 := hT2.c1
  have f1 := hT2.fr 1
  have HS : Step w (w2.setCell ⟨b, 1, none⟩ (.int .i64 (p + i : Nat))) b s (p + i) := ⟨hT2.set (by omega), only_set (drawn_only hd b (b + 1)) _ _⟩
  have hc : ((p + i : Nat) : Int) = (p : Int) + i := by omega
  rw [hc] at HS
  clear hT2 hT hd HP hc
  go_wp2
  go_ret2
  exact ⟨rfl, HS⟩
set_option maxRecDepth 100000 in
set_option maxHeartbeats 1000000 in
theorem tnum_err (b : Nat) (s : ByteArray) (p : Nat) (w : World) (hT : TapeAt w b s p) {n i er : Nat} (h : pk (s.data.toList.drop p) = (n, i, er)) (he : er ≠ 0) :
    Calls Try.prog 78 #[.pointer (some ⟨b, 0, none⟩)] w fun e w' => e = .returned (.tuple #[.int .i64 0, .int .i64 (er : Nat)]) ∧ Drawn w w' := by
  have hp := peek_is b s p w hT h
  have HP := Lib.hid hp
  have hz : (((er : Nat) : Int) != 0) = true := int_bne (by omega)
  clear h hp
  go_enter Try.func78, Try.ntmps78
  go_wp2_with fail
  refine HP.out.mono ?_
  rintro e w2 ⟨rfl, hd⟩
  clear HP hT
  go_wp2
  go_ret2
  exact ⟨rfl, hd⟩
theorem tnum_nil (w : World) :
    Calls Try.prog 78 #[.pointer none] w fun e w' => e = .returned (.tuple #[.int .i64 0, .int .i64 2]) ∧ w = w' := by
  go_enter Try.func78, Try.ntmps78
  go_wp2_with fail
  refine (peek_nil _).mono ?_
  rintro e w2 ⟨rfl, rfl⟩
  go_wp2
  go_ret2
  exact ⟨rfl, rfl⟩
/-- The whole number of a number. -/
def sgn (n : Nat) : Int := if n % 2 = 1 then -(((n : Int) + 1) / 2) else (n : Int) / 2
theorem end_any (b : Nat) (s : ByteArray) (p : Nat) (w : World) (hT : TapeAt w b s p) :
    Calls Try.prog 44 #[.pointer (some ⟨b, 0, none⟩)] w fun e w' => e = .returned (.bool ((s.size : Int) - p == 0)) ∧ Drawn w w' := by
  go_enter Try.func44, Try.ntmps44
  go_wp2_with fail
  refine (left_any b s p _ hT).mono ?_
  rintro e w2 ⟨rfl, hd⟩
  clear hT
  go_wp2
  go_ret
  exact ⟨rfl, hd⟩
theorem end_nil (w : World) : Calls Try.prog 44 #[.pointer none] w fun e w' => e = .returned (.bool true) ∧ w = w' := by
  go_enter Try.func44, Try.ntmps44
  go_wp2_with fail
  refine (left_nil _).mono ?_
  rintro e w2 ⟨rfl, rfl⟩
  go_wp2
  go_ret
  exact ⟨rfl, rfl⟩
set_option maxRecDepth 100000 in
set_option maxHeartbeats 1000000 in
theorem ttext_err (b : Nat) (s : ByteArray) (p : Nat) (m : Int) (w : World) (hT : TapeAt w b s p) {n i er : Nat} (h : pk (s.data.toList.drop p) = (n, i, er)) (he : er ≠ 0) :
    Calls Try.prog 115 #[.pointer (some ⟨b, 0, none⟩), .int .i64 m] w fun e w' => e = .returned (.tuple #[.string (str []), .int .i64 (er : Nat)]) ∧ Drawn w w' := by
  have HP := Lib.hid (peek_is b s p w hT h)
  have hz : (((er : Nat) : Int) != 0) = true := int_bne (by omega)
  clear h
  go_enter Try.func115, Try.ntmps115
  go_wp2_with fail
  refine HP.out.mono ?_
  rintro e w2 ⟨rfl, hd⟩
  clear HP hT
  go_wp2
  go_ret2
  exact ⟨rfl, hd⟩
set_option maxRecDepth 100000 in
set_option maxHeartbeats 1000000 in
theorem ttext_large (b : Nat) (s : ByteArray) (p : Nat) (m : Int) (w : World) (hT : TapeAt w b s p) {n i : Nat} (h : pk (s.data.toList.drop p) = (n, i, 0)) (hm : m < (n : Int)) :
    Calls Try.prog 115 #[.pointer (some ⟨b, 0, none⟩), .int .i64 m] w fun e w' => e = .returned (.tuple #[.string (str []), .int .i64 3]) ∧ Drawn w w' := by
  have HP := Lib.hid (peek_is b s p w hT h)
  clear h
  go_enter Try.func115, Try.ntmps115
  go_wp2_with fail
  refine HP.out.mono ?_
  rintro e w2 ⟨rfl, hd⟩
  clear HP hT
  go_wp2
  go_ret2
  exact ⟨rfl, hd⟩
set_option maxRecDepth 100000 in
set_option maxHeartbeats 1000000 in
theorem ttext_short (b : Nat) (s : ByteArray) (p : Nat) (m : Int) (w : World) (hT : TapeAt w b s p) {n i : Nat} (h : pk (s.data.toList.drop p) = (n, i, 0)) (hm : (n : Int) ≤ m) (hn : s.size < p + i + n) :
    Calls Try.prog 115 #[.pointer (some ⟨b, 0, none⟩), .int .i64 m] w fun e w' => e = .returned (.tuple #[.string (str []), .int .i64 2]) ∧ Drawn w w' := by
  have hf := (pk_facts h).2.1
  have hle := hT.le
  have hsz := hT.sz
  have hn2 : ((s.size : Int) - p - i : Int) < (n : Int) := by omega
  have HP := Lib.hid (peek_is b s p w hT h)
  clear h
  go_enter Try.func115, Try.ntmps115
  go_wp2_with fail
  refine HP.out.mono ?_
  rintro e w2 ⟨rfl, hd⟩
  replace hT := hT.drawn hd
  have HD := Lib.hid hd
  clear HP hd
  go_wp2_with (go_at_call 79; (with_reducible refine (left_any b s p _ hT).mono ?_); rintro e w3 ⟨rfl, hd2⟩)
  go_ret2
  exact ⟨rfl, HD.out.trans hd2⟩
set_option maxRecDepth 100000 in
set_option maxHeartbeats 2000000 in
theorem ttext_ok (b : Nat) (s : ByteArray) (p : Nat) (m : Int) (w : World) (hT : TapeAt w b s p) {n i : Nat} (h : pk (s.data.toList.drop p) = (n, i, 0)) (hm : (n : Int) ≤ m) (hn : p + i + n ≤ s.size) :
    Calls Try.prog 115 #[.pointer (some ⟨b, 0, none⟩), .int .i64 m] w fun e w' => e = .returned (.tuple #[.string (str ((s.data.toList.drop (p + i)).take n)), .int .i64 0]) ∧ Step w w' b s (p + i + n) := by
  have hf := (pk_facts h).2.1
  have hle := hT.le
  have hsz := hT.sz
  have hn2 : (n : Int) ≤ (s.size : Int) - p - i := by omega
  have HP := Lib.hid (peek_is b s p w hT h)
  clear h
  go_enter Try.func115, Try.ntmps115
  go_wp2_with fail
  refine HP.out.mono ?_
  rintro e w2 ⟨rfl, hd⟩
  replace hT := hT.drawn hd
  have HD := Lib.hid hd
  clear HP hd
  go_upto_region 8 with (go_at_call 79; (with_reducible refine (left_any b s p _ hT).mono ?_); rintro e w3 ⟨rfl, hd2⟩)
  have hT3 := hT.drawn hd2
  have HD3 := Lib.hid (HD.out.trans hd2)
  have c1 := hT3.c1
  have f1 := hT3.fr 1
  have HS : Step w (w3.setCell ⟨b, 1, none⟩ (.int .i64 (p + i + n : Nat))) b s (p + i + n) := ⟨hT3.set (by omega), only_set (drawn_only HD3.out b (b + 1)) _ _⟩
  have hc : ((p + i + n : Nat) : Int) = (p : Int) + i + n := by omega
  rw [hc] at HS
  have c0' := HS.tape.c0
  have c1' := HS.tape.c1
  rw [hc] at c1'
  have HSS := Lib.hid HS
  have hb1 : (0 : Int) ≤ (p : Int) + i := by omega
  have hb2 : (p : Int) + i ≤ (p : Int) + i + n := by omega
  have hb3 : (p : Int) + i + n ≤ (s.size : Int) := by omega
  have hb4 : ((p : Int) + i).toNat = p + i := by omega
  have hb5 : ((p : Int) + i + n).toNat = p + i + n := by omega
  clear hT hT3 hd2 HD HD3 HS hc
  go_upto_region 10 with (fail)
  generalize w3.setCell ⟨b, 1, none⟩ (.int .i64 ((p : Int) + i + n)) = w4 at c0' c1' HSS ⊢
  clear c1 f1
  have hE : s.extract (p + i) (p + i + n) = str ((s.data.toList.drop (p + i)).take n) := by
    rw [extract_str, List.drop_take]
    have : p + i + n - (p + i) = n := by omega
    rw [this]
  have HE := Lib.hid hE
  clear hE
  go_quiet (fail)
  go_wp2
  go_ret2
  exact ⟨by rw [← HE.out]; rfl, HSS.out.drewN _⟩
theorem ttext_nil (m : Int) (w : World) :
    Calls Try.prog 115 #[.pointer none, .int .i64 m] w fun e w' => e = .returned (.tuple #[.string (str []), .int .i64 2]) ∧ w = w' := by
  go_enter Try.func115, Try.ntmps115
  go_wp2_with fail
  refine (peek_nil _).mono ?_
  rintro e w2 ⟨rfl, rfl⟩
  go_wp2
  go_ret2
  exact ⟨rfl, rfl⟩
end Go.Proofs.Ytmlemichkeomjaa.TapeW

