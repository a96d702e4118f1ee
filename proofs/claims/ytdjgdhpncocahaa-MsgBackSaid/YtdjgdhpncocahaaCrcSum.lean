/- The law CrcSums of chapter 4 walked. -/
import Derived.Test.YtdjgdhpncocahaaCrcLaw2
import Derived.Test.YtdjgdhpncocahaaOwn
import Derived.Deep.RegionLaw
set_option linter.unusedVariables false
set_option linter.unusedSimpArgs false
namespace Go.Proofs.Ytdjgdhpncocahaa.CrcL
open Go.RowKit Go.Proofs.Ytdjgdhpncocahaa.Base Go.Proofs.Ytdjgdhpncocahaa.CrcP Go.Proofs.Ytdjgdhpncocahaa.CrcW Go.Proofs.Ytdjgdhpncocahaa.CrcR

def x3 : List UInt8 → List UInt8 → List UInt8 → List UInt8
  | a :: l, b :: m, c :: n => (a ^^^ b ^^^ c) :: x3 l m n
  | _, _, _ => []
theorem xor_swap (x y a b : Nat) : (x ^^^ y) ^^^ (a ^^^ b) = (x ^^^ a) ^^^ (y ^^^ b) := by
  rw [Nat.xor_assoc, ← Nat.xor_assoc y, Nat.xor_comm y a, Nat.xor_assoc a, ← Nat.xor_assoc x]
theorem xor_swap3 (x y z a b c : Nat) : (x ^^^ a) ^^^ (y ^^^ b) ^^^ (z ^^^ c) = (x ^^^ y ^^^ z) ^^^ (a ^^^ b ^^^ c) := by
  rw [xor_swap x a y b, xor_swap (x ^^^ y) (a ^^^ b) z c]
theorem reg_x3 (l m n : List UInt8) (x y z : Nat) (h1 : l.length = m.length) (h2 : m.length = n.length) :
    reg x l ^^^ reg y m ^^^ reg z n = reg (x ^^^ y ^^^ z) (x3 l m n) := by
  induction l generalizing m n x y z with
  | nil =>
    have : m = [] := List.eq_nil_of_length_eq_zero (by simpa using h1.symm)
    subst this
    have : n = [] := List.eq_nil_of_length_eq_zero (by simpa using h2.symm)
    subst this
    rfl
  | cons a l ih =>
    match m, n, h1, h2 with
    | b :: m, c :: n, h1, h2 =>
      show reg _ l ^^^ reg _ m ^^^ reg _ n = reg _ (x3 l m n)
      rw [ih m n _ _ _ (by simpa using h1) (by simpa using h2), ← sts_xor, ← sts_xor, UInt8.toNat_xor, UInt8.toNat_xor, xor_swap3]
theorem crc_x3 (l m n : List UInt8) (h1 : l.length = m.length) (h2 : m.length = n.length) :
    crc l ^^^ crc m ^^^ crc n = crc (x3 l m n) := by
  rw [crc_eq, crc_eq, crc_eq, crc_eq, xor_swap3, reg_x3 l m n _ _ _ h1 h2]
  rfl
theorem x3_snoc (l m n : List UInt8) (a b c : UInt8) (h1 : l.length = m.length) (h2 : m.length = n.length) :
    x3 (l ++ [a]) (m ++ [b]) (n ++ [c]) = x3 l m n ++ [a ^^^ b ^^^ c] := by
  induction l generalizing m n with
  | nil =>
    have : m = [] := List.eq_nil_of_length_eq_zero (by simpa using h1.symm)
    subst this
    have : n = [] := List.eq_nil_of_length_eq_zero (by simpa using h2.symm)
    subst this
    rfl
  | cons d l ih =>
    match m, n, h1, h2 with
    | e :: m, f :: n, h1, h2 =>
      show (d ^^^ e ^^^ f) :: x3 (l ++ [a]) (m ++ [b]) (n ++ [c]) = _
      rw [ih m n (by simpa using h1) (by simpa using h2)]
      rfl
theorem x3_length (l m n : List UInt8) (h1 : l.length = m.length) (h2 : m.length = n.length) : (x3 l m n).length = l.length := by
  induction l generalizing m n with
  | nil => rfl
  | cons a l ih =>
    match m, n, h1, h2 with
    | b :: m, c :: n, h1, h2 =>
      show (x3 l m n).length + 1 = l.length + 1
      rw [ih m n (by simpa using h1) (by simpa using h2)]

theorem info_u8 : (Try.prog.info? 5).map (fun i => (i.zero, i.size, i.bytes)) = some (some (.int .u8 0), 1, 1) := by kernel_rfl
theorem xor3_u8 (a b c : UInt8) : bits BinOp.xor IntKind.u8 (bits BinOp.xor IntKind.u8 ((a.toNat : Nat) : Int) ((b.toNat : Nat) : Int)) ((c.toNat : Nat) : Int) = (((a ^^^ b ^^^ c).toNat : Nat) : Int) := by
  have h := u8_xor_nat a.toNat b.toNat (byte_lt a) (byte_lt b)
  have h2 := u8_xor_nat (a.toNat ^^^ b.toNat) c.toNat (Nat.xor_lt_two_pow (n := 8) (byte_lt a) (byte_lt b)) (byte_lt c)
  rw [h, h2, UInt8.toNat_xor, UInt8.toNat_xor]

set_option maxRecDepth 100000 in
set_option maxHeartbeats 1000000 in
theorem sums_any (s t u : ByteArray) (w : World) (hs : s.size ≤ 140737488351232) (ht : t.size ≤ 140737488351232) (hu : u.size ≤ 140737488351232) :
    Calls Try.prog 5 #[.string s, .string t, .string u] w fun e w' => e = .returned (.bool true) ∧ Below w.heap.size w w' := by
  have HB : Below w.heap.size w w := Below.refl _ _
  by_cases h1 : 3000 < s.size
  · go_enter Try.func5, Try.ntmps5
    go_wp2_with (go_at_call 33; (with_reducible refine (awake_any _).mono ?_); rintro e w2 ⟨rfl, hd⟩; (first | replace HB := bt HB HB.size hd | replace HB := bt_drew HB HB.size hd | replace HB := bt_drewN HB HB.size hd); clear hd)
    all_goals (go_ret; exact ⟨rfl, HB⟩)
  · by_cases h2 : s.size = t.size
    · by_cases h3 : t.size = u.size
      · have h2' : (((s.size : Int)) != (t.size : Int)) = false := int_beq (by omega)
        have h3' : (((t.size : Int)) != (u.size : Int)) = false := int_beq (by omega)
        go_enter Try.func5, Try.ntmps5
        go_wp2_with (go_at_call 33; (with_reducible refine (awake_any _).mono ?_); rintro e w2 ⟨rfl, hd⟩; (first | replace HB := bt HB HB.size hd | replace HB := bt_drew HB HB.size hd | replace HB := bt_drewN HB HB.size hd); clear hd)
        go_loopw [7, 8] (fun d i wr => ∃ k : Nat, k ≤ s.size ∧ i = .int .i64 k ∧ wr.ownsRow w.heap.size 5 1 d k (bv (x3 (s.data.toList.take k) (t.data.toList.take k) (u.data.toList.take k))) ∧ Below w.heap.size w wr) (fun _ i _ => s.size - (intOf i).toNat)
        case atStart => exact ⟨0, by omega, rfl, own_none _ _ _ _, HB⟩
        case round =>
          clear HB
          obtain ⟨k, hk, rfl, HO, HB⟩ := hrel
          by_cases hlt : k < s.size
          · have hlt2 : k < t.size := by omega
            have hlt3 : k < u.size := by omega
            have hx := xor3_u8 s[k] t[k] u[k]
            go_upto_region 7 with fail
            have hnext0 : bv (x3 (s.data.toList.take (k + 1)) (t.data.toList.take (k + 1)) (u.data.toList.take (k + 1))) = bv (x3 (s.data.toList.take k) (t.data.toList.take k) (u.data.toList.take k)) ++ [Value.int .u8 (bits BinOp.xor IntKind.u8 (bits BinOp.xor IntKind.u8 ((s[k].toNat : Nat) : Int) ((t[k].toNat : Nat) : Int)) ((u[k].toNat : Nat) : Int))] := by
              rw [take_snoc s k hlt, take_snoc t k hlt2, take_snoc u k hlt3, x3_snoc _ _ _ _ _ _ (by simp; omega) (by simp; omega), bv_append, hx]
              rfl
            have hnext := Lib.hid hnext0
            clear hnext0
            have hx' := Lib.hid hx
            clear hx
            have hlen : (x3 (s.data.toList.take k) (t.data.toList.take k) (u.data.toList.take k)).length = k := by
              have h := HO.1
              rw [bv_length] at h; omega
            have HL := Lib.hid hlen
            clear hlen
            go_region_law (first | (refine step_app_one w.heap.size rfl (.tmp 37) (.tmp 49) 42 5 (.int .u8 0) 1 rfl Try.underlying42 info_u8 rfl (by omega) _ _ _ k (by rw [bv_length]; exact HL.out) rfl rfl rfl (HO.drew) (below_drewN HB 1) (below_drewN HB 1).size (by omega) ?_; intro v1 w1 HO1 HB1 hg1))
            all_goals go_wp2
            all_goals go_roundw
            any_goals (with_reducible refine ⟨k + 1, ?_, ?_, ?_, HB1⟩; omega; go_num; rw [hnext.out]; exact HO1)
            all_goals (simp [intOf]; omega)
          · obtain rfl : k = s.size := by omega
            rw [List.take_of_length_le (l := s.data.toList) (by simp), List.take_of_length_le (l := t.data.toList) (by simp; omega), List.take_of_length_le (l := u.data.toList) (by simp; omega)] at HO
            have hp := crc_x3 s.data.toList t.data.toList u.data.toList (by rw [list_size, list_size]; exact h2) (by rw [list_size, list_size]; exact h3)
            generalize x3 s.data.toList t.data.toList u.data.toList = l at HO hp
            have hl : l.length = s.size := by have h := HO.1; rw [bv_length] at h; omega
            have hcv := fun (wx : World) (h : wx.ownsRow w.heap.size 5 1 u7 s.size (bv l)) => conv_own Try.underlying42 Try.underlying5 Try.underlying9 h (by omega)
            have hls : (str l).size ≤ 140737488351232 := by rw [str_size]; omega
            have h4 := crc_lt s.data.toList
            have h5 := crc_lt t.data.toList
            have h6 := crc_lt u.data.toList
            have hx1 := u32_xor_nat _ _ h4 h5
            have hx2 := u32_xor_nat _ _ (xor_lt h4 h5) h6
            rw [hp] at hx2
            have hx3 : bits BinOp.xor IntKind.u32 (bits BinOp.xor IntKind.u32 ((crc s.data.toList : Nat) : Int) ((crc t.data.toList : Nat) : Int)) ((crc u.data.toList : Nat) : Int) = ((crc l : Nat) : Int) := by rw [hx1, hx2]
            have hq : ((bits BinOp.xor IntKind.u32 (bits BinOp.xor IntKind.u32 ((crc s.data.toList : Nat) : Int) ((crc t.data.toList : Nat) : Int)) ((crc u.data.toList : Nat) : Int)) == ((crc (str l).data.toList : Nat) : Int)) = true := by rw [hx3, str_list]; simp
            clear hx1 hx2 hx3 hp
            have HCV := Lib.hid hcv
            clear hcv
            go_upto_region 8 with fail
            (refine wp_region_quiet_below (by kernel_rfl) (by kernel_rfl) ?_; (repeat (go_big_quiet_step ((first | (go_at_call 34; exact Calls.regrown_of (sum_any _ _ hs)) | (go_at_call 34; exact Calls.regrown_of (sum_any _ _ ht)) | (go_at_call 34; exact Calls.regrown_of (sum_any _ _ hu)) | (go_at_call 34; exact Calls.regrown_of (sum_any _ _ hls)))))); (refine BigFrame.wpQuiet_want (by rfl) (fun K hK => quiet_conv 42 9 (.tmp 59) rfl _ _ rfl (fun wx hwx => HCV.out wx (own_regrown HO hwx)) ?_); refine hK _ ?_; clear hK K; go_simp); (repeat (go_big_quiet_step ((first | (go_at_call 34; exact Calls.regrown_of (sum_any _ _ hs)) | (go_at_call 34; exact Calls.regrown_of (sum_any _ _ ht)) | (go_at_call 34; exact Calls.regrown_of (sum_any _ _ hu)) | (go_at_call 34; exact Calls.regrown_of (sum_any _ _ hls)))))); refine wpQuiet_nil ?_; intro pq; generalize hw' : Go.Sort.grow (redrawn _ pq.d) pq.os = wq; have HQ := below_of_regrown ⟨pq, hw'.symm⟩; clear hw')
            go_wp2
            go_ret
            exact ⟨rfl, bt HB HB.size HQ⟩
      · have h3' : (((t.size : Int)) != (u.size : Int)) = true := int_bne (by omega)
        go_enter Try.func5, Try.ntmps5
        go_wp2_with (go_at_call 33; (with_reducible refine (awake_any _).mono ?_); rintro e w2 ⟨rfl, hd⟩; (first | replace HB := bt HB HB.size hd | replace HB := bt_drew HB HB.size hd | replace HB := bt_drewN HB HB.size hd); clear hd)
        all_goals (go_ret; exact ⟨rfl, HB⟩)
    · have h2' : (((s.size : Int)) != (t.size : Int)) = true := int_bne (by omega)
      go_enter Try.func5, Try.ntmps5
      go_wp2_with (go_at_call 33; (with_reducible refine (awake_any _).mono ?_); rintro e w2 ⟨rfl, hd⟩; (first | replace HB := bt HB HB.size hd | replace HB := bt_drew HB HB.size hd | replace HB := bt_drewN HB HB.size hd); clear hd)
      all_goals (go_ret; exact ⟨rfl, HB⟩)
end Go.Proofs.Ytdjgdhpncocahaa.CrcL
