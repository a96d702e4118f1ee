/- The field's methods answer by its tables. -/
import Derived.Test.YtalinkpfklhgaaaGfNew
set_option linter.unusedVariables false
set_option linter.unusedSimpArgs false
namespace Go.Proofs.Ytalinkpfklhgaaa.GfW
open Go.RowKit Go.Proofs.Ytalinkpfklhgaaa.Base Go.Proofs.Ytalinkpfklhgaaa.GfP

/-- A field in block b. -/
structure FieldIn (w : World) (b : Nat) : Prop where
  tab : TabAt w b 255
  lt : b < w.heap.size
theorem FieldIn.below {w w' : World} {b : Nat} (h : FieldIn w b) (hb : Below w.heap.size w w') : FieldIn w' b :=
  ⟨⟨fun j hj => cell_below hb (h.tab.exp j hj), fun x hx => cell_below hb (h.tab.log x hx), fun j => (hb.frozen (p := ⟨b, j, none⟩) h.lt).trans (h.tab.free j)⟩, by have := h.lt; have := hb.size; omega⟩
theorem FieldIn.drawn {w w' : World} {b : Nat} (h : FieldIn w b) (hd : Drawn w w') : FieldIn w' b := h.below hd.below
theorem FieldIn.exp {w : World} {b : Nat} (h : FieldIn w b) (j : Nat) (hj : j < 510) : w.cell? ⟨b, j, none⟩ = some (.int .u8 (pw j : Nat)) := by
  have := h.tab.exp j hj
  rwa [if_pos (Nat.mod_lt _ (by omega))] at this
theorem FieldIn.log {w : World} {b : Nat} (h : FieldIn w b) (x : Nat) (hx : x ≤ 255) : w.cell? ⟨b, 510 + x, none⟩ = some (.int .i64 (lg x : Nat)) := by
  have := h.tab.log x (by omega)
  rwa [logAt_end x hx] at this

theorem new_field (w : World) :
    Calls Try.prog 20 #[] w fun e w' => ∃ b, e = .returned (.pointer (some ⟨b, 0, none⟩)) ∧ FieldIn w' b ∧ w.heap.size ≤ b ∧ Below w.heap.size w w' :=
  (new_any w).mono fun e w' ⟨he, ht, hz, hb⟩ => ⟨_, he, ⟨ht, hz⟩, Nat.le_refl _, hb⟩

theorem add_any (x y : Nat) (w : World) (hx : x ≤ 255) (hy : y ≤ 255) :
    Calls Try.prog 22 #[.int .u8 x, .int .u8 y] w fun e w' => e = .returned (.int .u8 ((x ^^^ y : Nat) : Int)) ∧ w = w' := by
  go_enter Try.func22, Try.ntmps22
  go_wp2
  go_ret
  rw [u8_xor_nat x y (by omega) (by omega)]
  exact ⟨rfl, rfl⟩

set_option maxHeartbeats 400000 in
theorem mul_nz (b : Nat) (x y : Nat) (w : World) (hx : x ≤ 255) (hy : y ≤ 255) (hx0 : 0 < x) (hy0 : 0 < y) (hF : FieldIn w b) :
    Calls Try.prog 23 #[.pointer (some ⟨b, 0, none⟩), .int .u8 x, .int .u8 y] w fun e w' => e = .returned (.int .u8 (pw (lg x + lg y) : Nat)) ∧ Drawn w w' := by
  have c1 := hF.log x hx
  have c2 := hF.log y hy
  have l1 := lg_lt hx
  have l2 := lg_lt hy
  have c3 := hF.exp (lg x + lg y) (by omega)
  have z1 : ((x : Int) == 0) = false := int_ne (by omega)
  have z2 : ((y : Int) == 0) = false := int_ne (by omega)
  clear hF
  go_enter Try.func23, Try.ntmps23
  go_wp2
  go_quiet (fail)
  go_wp2
  go_ret
  exact ⟨rfl, _, rfl⟩
theorem mul_z (b : Nat) (x y : Nat) (w : World) (h : x = 0 ∨ y = 0) :
    Calls Try.prog 23 #[.pointer (some ⟨b, 0, none⟩), .int .u8 x, .int .u8 y] w fun e w' => e = .returned (.int .u8 0) ∧ Drawn w w' := by
  by_cases hx : x = 0
  · subst hx
    go_enter Try.func23, Try.ntmps23
    go_wp2
    go_ret
    exact ⟨rfl, Drawn.refl _⟩
  · obtain rfl : y = 0 := by omega
    have z1 : ((x : Int) == 0) = false := int_ne (by omega)
    go_enter Try.func23, Try.ntmps23
    go_wp2
    go_ret
    exact ⟨rfl, Drawn.refl _⟩
theorem mul_any (b : Nat) (x y : Nat) (w : World) (hx : x ≤ 255) (hy : y ≤ 255) (hF : FieldIn w b) :
    Calls Try.prog 23 #[.pointer (some ⟨b, 0, none⟩), .int .u8 x, .int .u8 y] w fun e w' => e = .returned (.int .u8 (mul x y : Nat)) ∧ Drawn w w' := by
  unfold mul
  by_cases h : x = 0 ∨ y = 0
  · rw [if_pos h]; exact mul_z b x y w h
  · rw [if_neg h]; exact mul_nz b x y w hx hy (by omega) (by omega) hF

set_option maxHeartbeats 400000 in
theorem div_nz (b : Nat) (x y : Nat) (w : World) (hx : x ≤ 255) (hy : y ≤ 255) (hx0 : 0 < x) (hy0 : 0 < y) (hF : FieldIn w b) :
    Calls Try.prog 24 #[.pointer (some ⟨b, 0, none⟩), .int .u8 x, .int .u8 y] w fun e w' => e = .returned (.tuple #[.int .u8 (pw (lg x + 255 - lg y) : Nat), .bool true]) ∧ Drawn w w' := by
  have c1 := hF.log x hx
  have c2 := hF.log y hy
  have l1 := lg_lt hx
  have l2 := lg_lt hy
  have c3 := hF.exp (lg x + 255 - lg y) (by omega)
  have z1 : ((x : Int) == 0) = false := int_ne (by omega)
  have z2 : ((y : Int) == 0) = false := int_ne (by omega)
  clear hF
  go_enter Try.func24, Try.ntmps24
  go_wp2
  go_quiet (fail)
  go_wp2
  go_ret2
  exact ⟨rfl, _, rfl⟩
theorem div_z (b : Nat) (y : Nat) (w : World) (hy0 : 0 < y) :
    Calls Try.prog 24 #[.pointer (some ⟨b, 0, none⟩), .int .u8 0, .int .u8 y] w fun e w' => e = .returned (.tuple #[.int .u8 0, .bool true]) ∧ Drawn w w' := by
  have z2 : ((y : Int) == 0) = false := int_ne (by omega)
  go_enter Try.func24, Try.ntmps24
  go_wp2
  go_ret2
  exact ⟨rfl, Drawn.refl _⟩
theorem div_by0 (b : Nat) (x : Nat) (w : World) :
    Calls Try.prog 24 #[.pointer (some ⟨b, 0, none⟩), .int .u8 x, .int .u8 0] w fun e w' => e = .returned (.tuple #[.int .u8 0, .bool false]) ∧ Drawn w w' := by
  go_enter Try.func24, Try.ntmps24
  go_wp2
  go_ret2
  exact ⟨rfl, Drawn.refl _⟩
theorem div_any (b : Nat) (x y : Nat) (w : World) (hx : x ≤ 255) (hy : y ≤ 255) (hF : FieldIn w b) :
    Calls Try.prog 24 #[.pointer (some ⟨b, 0, none⟩), .int .u8 x, .int .u8 y] w fun e w' => e = .returned (.tuple #[.int .u8 (quo x y : Nat), .bool (decide (0 < y))]) ∧ Drawn w w' := by
  unfold quo
  by_cases hy0 : y = 0
  · subst hy0; rw [if_pos (Or.inl rfl)]; exact div_by0 b x w
  · rw [decide_eq_true (show 0 < y by omega)]
    by_cases hx0 : x = 0
    · subst hx0; rw [if_pos (Or.inr rfl)]; exact div_z b y w (by omega)
    · rw [if_neg (by omega)]; exact div_nz b x y w hx hy (by omega) (by omega) hF

theorem tmod_facts (n : Int) : -255 < n.tmod 255 ∧ n.tmod 255 < 255 ∧ n % 255 = if n.tmod 255 < 0 then n.tmod 255 + 255 else n.tmod 255 := by
  have h3 : n.tmod 255 = n - 255 * (n.tdiv 255) := by rw [Int.tmod_def]
  have h4 : n.tmod 255 < 255 := Int.tmod_lt_of_pos n (by omega)
  have h5 : -255 < n.tmod 255 := by have := Int.lt_tmod_of_pos n (show (0:Int) < 255 by omega); omega
  refine ⟨h5, h4, ?_⟩
  split <;> omega
set_option maxHeartbeats 400000 in
theorem exp_any (b : Nat) (n : Int) (w : World) (hF : FieldIn w b) :
    Calls Try.prog 29 #[.pointer (some ⟨b, 0, none⟩), .int .i64 n] w fun e w' => e = .returned (.int .u8 (pwi n : Nat)) ∧ Drawn w w' := by
  have ht := tmod_facts n
  have c1 := hF.exp (n % 255).toNat (by omega)
  have hv : ((pwi n : Nat) : Int) = ((pw (n % 255).toNat : Nat) : Int) := rfl
  rw [hv]
  generalize hm : n.tmod 255 = m at ht
  by_cases h : m < 0
  · have e : (n % 255).toNat = (m + 255).toNat := by omega
    rw [e] at c1 ⊢
    generalize hp : ((pw (m + 255).toNat : Nat) : Int) = p at c1 ⊢
    clear hF hv e hp
    go_enter Try.func29, Try.ntmps29
    go_wp2
    go_ret
    exact ⟨rfl, Drawn.refl _⟩
  · have e : (n % 255).toNat = m.toNat := by omega
    rw [e] at c1 ⊢
    generalize hp : ((pw (m).toNat : Nat) : Int) = p at c1 ⊢
    clear hF hv e hp
    go_enter Try.func29, Try.ntmps29
    go_wp2
    go_ret
    exact ⟨rfl, Drawn.refl _⟩

theorem log_nz (b : Nat) (x : Nat) (w : World) (hx : x ≤ 255) (hx0 : 0 < x) (hF : FieldIn w b) :
    Calls Try.prog 28 #[.pointer (some ⟨b, 0, none⟩), .int .u8 x] w fun e w' => e = .returned (.tuple #[.int .i64 (lg x : Nat), .bool true]) ∧ Drawn w w' := by
  have c1 := hF.log x hx
  have z1 : ((x : Int) == 0) = false := int_ne (by omega)
  clear hF
  go_enter Try.func28, Try.ntmps28
  go_wp2
  go_ret2
  exact ⟨rfl, Drawn.refl _⟩
theorem log_any (b : Nat) (x : Nat) (w : World) (hx : x ≤ 255) (hF : FieldIn w b) :
    Calls Try.prog 28 #[.pointer (some ⟨b, 0, none⟩), .int .u8 x] w fun e w' => e = .returned (.tuple #[.int .i64 (lg x : Nat), .bool (decide (0 < x))]) ∧ Drawn w w' := by
  by_cases h : 0 < x
  · rw [decide_eq_true h]; exact log_nz b x w hx h hF
  · obtain rfl : x = 0 := by omega
    rw [lg_zero, decide_eq_false h]
    go_enter Try.func28, Try.ntmps28
    go_wp2
    go_ret2
    exact ⟨rfl, Drawn.refl _⟩

theorem pwi_tmod (a n : Int) : pwi (a * n.tmod 255) = pwi (a * n) := by
  have h3 : n.tmod 255 = n - 255 * (n.tdiv 255) := by rw [Int.tmod_def]
  unfold pwi
  have : (a * n.tmod 255) % 255 = (a * n) % 255 := by
    rw [h3, Int.mul_sub, Int.mul_left_comm, Int.sub_emod, Int.mul_emod_right]
    simp
  rw [this]
theorem pow_z (b : Nat) (n : Int) (w : World) (z1 : (n == 0) = false) :
    Calls Try.prog 27 #[.pointer (some ⟨b, 0, none⟩), .int .u8 0, .int .i64 n] w fun e w' => e = .returned (.int .u8 0) ∧ Drawn w w' := by
  go_enter Try.func27, Try.ntmps27
  go_wp2
  go_ret
  exact ⟨rfl, Drawn.refl _⟩
set_option maxHeartbeats 400000 in
theorem pow_any (b : Nat) (x : Nat) (n : Int) (w : World) (hx : x ≤ 255) (hF : FieldIn w b) :
    Calls Try.prog 27 #[.pointer (some ⟨b, 0, none⟩), .int .u8 x, .int .i64 n] w fun e w' => e = .returned (.int .u8 (pow x n : Nat)) ∧ Drawn w w' := by
  unfold pow
  by_cases hn : n = 0
  · subst hn
    rw [if_pos rfl]
    go_enter Try.func27, Try.ntmps27
    go_wp2
    go_ret
    exact ⟨rfl, Drawn.refl _⟩
  · rw [if_neg hn]
    have z1 : (n == 0) = false := int_ne hn
    by_cases h : x = 0
    · subst h
      rw [if_pos rfl]
      exact pow_z b n w z1
    · rw [if_neg h]
      have c1 := hF.log x hx
      have z2 : ((x : Int) == 0) = false := int_ne (by omega)
      have ht := tmod_facts n
      have e := pwi_tmod (lg x) n
      rw [← e]
      generalize hm : n.tmod 255 = m at ht ⊢
      have hl := lg_lt hx
      have b1 : (lg x : Int) * m ≤ 64770 := by
        have := Int.mul_le_mul_of_nonneg_left (show m ≤ 255 by omega) (show (0:Int) ≤ (lg x : Int) by omega)
        omega
      have b2 : -64770 ≤ (lg x : Int) * m := by
        have := Int.mul_le_mul_of_nonneg_left (show -255 ≤ m by omega) (show (0:Int) ≤ (lg x : Int) by omega)
        omega
      clear e hn
      go_enter Try.func27, Try.ntmps27
      go_wp2_with (go_at_call 29; refine (exp_any b _ _ hF).mono ?_; rintro e w' ⟨rfl, hd⟩)
      go_ret
      exact ⟨rfl, hd⟩

/-- The sum of the products of the first k bytes. -/
def dot (l m : List Nat) : Nat → Nat
  | 0 => 0
  | k + 1 => dot l m k ^^^ mul (l.getD k 0) (m.getD k 0)
theorem dot_le (l m : List Nat) (k : Nat) : dot l m k ≤ 255 := by
  induction k with
  | zero => exact Nat.zero_le _
  | succ k ih => exact xor_le ih (mul_le _ _)
set_option maxHeartbeats 400000 in
theorem dot_eq (b : Nat) (w : World) (A A' : Option Addr) (l m : List Nat) (n c c' : Nat) (hl : Bytes w A l) (hm : Bytes w A' m) (h1 : l.length = n) (h2 : m.length = n) (hF : FieldIn w b) :
    Calls Try.prog 25 #[.pointer (some ⟨b, 0, none⟩), .slice A n c, .slice A' n c'] w fun e w' => e = .returned (.tuple #[.int .u8 (dot l m n : Nat), .bool true]) ∧ Drawn w w' := by
  have h3 := hl.len
  rw [h1] at h3
  have H1 := Lib.hid h1
  have H2 := Lib.hid h2
  clear h1 h2
  go_enter Try.func25, Try.ntmps25
  go_wp2
  go_loopw [8, 21] (fun o i wr => ∃ k : Nat, k ≤ n ∧ i = .int .i64 k ∧ o = .int .u8 (dot l m k : Nat) ∧ Drawn w wr) (fun _ i _ => n - (intOf i).toNat)
  case atStart => exact ⟨0, by omega, rfl, rfl, Drawn.refl _⟩
  case round =>
    obtain ⟨k, hk, rfl, rfl, hd⟩ := hrel
    by_cases hlt : k < n
    · have hF1 := hF.drawn hd
      have hl1 := hl.below hd.below
      have hm1 := hm.below hd.below
      have b1 := hl.getD_le k
      have b2 := hm.getD_le k
      have q1 := H1.out
      have q2 := H2.out
      obtain ⟨b3, o3, rfl, c3⟩ := hl1.at_.resolve_left (by intro e; rw [e] at q1; simp at q1; omega)
      obtain ⟨b4, o4, rfl, c4⟩ := hm1.at_.resolve_left (by intro e; rw [e] at q2; simp at q2; omega)
      replace c3 := c3 k (by omega)
      replace c4 := c4 k (by omega)
      have b5 := dot_le l m k
      have b6 := mul_le (l.getD k 0) (m.getD k 0)
      have hx := u8_xor_nat (dot l m k) (mul (l.getD k 0) (m.getD k 0)) (by omega) (by omega)
      have hs : dot l m (k + 1) = dot l m k ^^^ mul (l.getD k 0) (m.getD k 0) := rfl
      generalize l.getD k 0 = p at *
      generalize m.getD k 0 = q at *
      clear hl hm hl1 hm1 hF q1 q2 H1 H2
      have HS := Lib.hid hs
      clear hs
      have HD := Lib.hid hd
      clear hd
      go_wp2
      go_quiet ((go_at_call 23; exact Calls.quiet_of (mul_any b _ _ _ (by omega) (by omega) (hF1.drawn (Drawn.step _)))))
      go_wp2
      go_roundw
      case rel => exact ⟨k + 1, by omega, by go_num, by rw [HS.out], HD.out.trans (Drawn.step _)⟩
      case measure => simp [intOf]; omega
    · obtain rfl : k = n := by omega
      go_wp2
      go_ret2
      exact ⟨rfl, hd⟩
theorem dot_ne (b : Nat) (w : World) (A A' : Option Addr) (n n' c c' : Nat) (hlen : n ≠ n') :
    Calls Try.prog 25 #[.pointer (some ⟨b, 0, none⟩), .slice A n c, .slice A' n' c'] w fun e w' => e = .returned (.tuple #[.int .u8 0, .bool false]) ∧ Drawn w w' := by
  have z : ((n : Int) != (n' : Int)) = true := int_bne (by omega)
  go_enter Try.func25, Try.ntmps25
  go_wp2
  go_ret2
  exact ⟨rfl, Drawn.refl _⟩
end Go.Proofs.Ytalinkpfklhgaaa.GfW
