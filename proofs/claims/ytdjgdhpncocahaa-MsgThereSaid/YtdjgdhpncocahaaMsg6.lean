/- A message's bytes: walked. -/
import Derived.Test.YtdjgdhpncocahaaMsg5
import Derived.Test.YtdjgdhpncocahaaCrcFns
import Derived.Test.YtdjgdhpncocahaaTapeTexts
set_option linter.unusedVariables false
set_option linter.unusedSimpArgs false
namespace Go.Proofs.Ytdjgdhpncocahaa.MsgW
open Go.RowKit Go.Proofs.Ytdjgdhpncocahaa.Base Go.Proofs.Ytdjgdhpncocahaa.EqsW Go.Proofs.Ytdjgdhpncocahaa.TapeP Go.Proofs.Ytdjgdhpncocahaa.TapeW Go.Proofs.Ytdjgdhpncocahaa.CrcP Go.Proofs.Ytdjgdhpncocahaa.CrcW

def numsTo (N : Nat → Int) : Nat → List UInt8
  | 0 => []
  | k + 1 => numsTo N k ++ numI (N k)
theorem numsTo_length (N : Nat → Int) (k : Nat) : (numsTo N k).length ≤ 8 * k := by
  induction k with
  | zero => exact Nat.zero_le _
  | succ k ih =>
    show (numsTo N k ++ numI (N k)).length ≤ _
    have := numI_length (N k)
    rw [List.length_append]
    omega
def body (N : Nat → Int) (t : ByteArray) (ss : List ByteArray) : List UInt8 := numsTo N 9 ++ text t.data.toList ++ texts ss
theorem total_max {ss : List ByteArray} (h : longB ss = false) : total ss ≤ 65536 * ss.length := by
  unfold longB at h
  rw [List.any_eq_false] at h
  induction ss with
  | nil => exact Nat.zero_le _
  | cons s l ih =>
    have h1 := h s (List.mem_cons_self ..)
    have h2 := ih fun t ht => h t (List.mem_cons_of_mem _ ht)
    simp only [decide_eq_true_eq] at h1
    show s.size + total l ≤ 65536 * (l.length + 1)
    omega
theorem rightM_yes {N : Nat → Int} {t : ByteArray} {ss : List ByteArray} (h : rightM N t ss = true) : numsOk N = true ∧ t.size ≤ 1048576 ∧ ss.length ≤ 4096 ∧ longB ss = false ∧ total ss ≤ 268435456 := by
  unfold rightM at h
  rw [Bool.and_eq_true, Bool.and_eq_true, Bool.and_eq_true, decide_eq_true_eq, decide_eq_true_eq, Bool.not_eq_true'] at h
  have := total_max h.2.2.2
  exact ⟨h.1, h.2.1, h.2.2.1, h.2.2.2, by omega⟩
theorem texts_length (ss : List ByteArray) (h : total ss ≤ 268435456) (h2 : ss.length ≤ 4096) : (texts ss).length ≤ 8 + 268435456 + 8 * 4096 := by
  unfold texts
  rw [List.length_append]
  have h1 := num_length 7 ss.length (by omega)
  have h3 := laid_length ss (by omega)
  omega
theorem body_length {N : Nat → Int} {t : ByteArray} {ss : List ByteArray} (h : rightM N t ss = true) : (body N t ss).length ≤ 300000000 := by
  obtain ⟨_, h1, h2, _, h4⟩ := rightM_yes h
  unfold body
  rw [List.length_append, List.length_append]
  have a := numsTo_length N 9
  have b := text_length t (by omega)
  have c := texts_length ss h4 h2
  omega

set_option maxRecDepth 100000 in
set_option maxHeartbeats 1000000 in
theorem bytes_wrong (n0 n1 n2 n3 n4 n5 n6 n7 n8 : Int) (t : ByteArray) (A : Option Addr) (ln cp : Nat) (ss : List ByteArray) (w : World) (hS : Strs w A ln ss) (hn : ln ≤ 9223372036854775807) (hr : rightM (numAt n0 n1 n2 n3 n4 n5 n6 n7 n8) t ss = false) :
    Calls Try.prog 71 #[(.agg #[.int .i64 n0, .int .i64 n1, .int .i64 n2, .int .i64 n3, .int .i64 n4, .int .i64 n5, .int .i64 n6, .int .i64 n7, .int .i64 n8, .string t, .slice A ln cp])] w fun e w' => e = .returned (.tuple #[.string (str []), .int .i64 1]) ∧ Below w.heap.size w w' := by
  have hR := fun W hS => right_any n0 n1 n2 n3 n4 n5 n6 n7 n8 t A ln cp ss W hS hn
  rw [hr] at hR
  have HR := Lib.hid hR
  clear hR hr
  go_enter Try.func71, Try.ntmps71
  go_upto_region 1 with fail
  have hA := heap_alloc_new w (.cells #[.int .i64 n0, .int .i64 n1, .int .i64 n2, .int .i64 n3, .int .i64 n4, .int .i64 n5, .int .i64 n6, .int .i64 n7, .int .i64 n8, .string t, .slice A ln cp] 33)
  have HB : Below w.heap.size w (w.alloc (.cells #[.int .i64 n0, .int .i64 n1, .int .i64 n2, .int .i64 n3, .int .i64 n4, .int .i64 n5, .int .i64 n6, .int .i64 n7, .int .i64 n8, .string t, .slice A ln cp] 33)) := (Below.refl w.heap.size w).alloc (by simp) _
  generalize w.alloc (.cells #[.int .i64 n0, .int .i64 n1, .int .i64 n2, .int .i64 n3, .int .i64 n4, .int .i64 n5, .int .i64 n6, .int .i64 n7, .int .i64 n8, .string t, .slice A ln cp] 33) = W1 at hA HB ⊢
  obtain ⟨f0, f1, f2, f3, f4, f5, f6, f7, f8, f9, f10⟩ := box_cells hA
  clear hA
  go_wp2_with (go_at_call 73; refine (HR.out _ (hS.below HB)).mono ?_; rintro e w2 ⟨rfl, hd⟩; (first | replace HB := bt HB HB.size hd | replace HB := bt_drew HB HB.size hd | replace HB := bt_drewN HB HB.size hd); clear hd)
  go_ret2
  exact ⟨rfl, HB⟩
set_option maxRecDepth 100000 in
set_option maxHeartbeats 2000000 in
theorem bytes_right (n0 n1 n2 n3 n4 n5 n6 n7 n8 : Int) (t : ByteArray) (A : Option Addr) (ln cp : Nat) (ss : List ByteArray) (w : World) (hS : Strs w A ln ss) (hn : ln ≤ 9223372036854775807) (hr : rightM (numAt n0 n1 n2 n3 n4 n5 n6 n7 n8) t ss = true) :
    Calls Try.prog 71 #[(.agg #[.int .i64 n0, .int .i64 n1, .int .i64 n2, .int .i64 n3, .int .i64 n4, .int .i64 n5, .int .i64 n6, .int .i64 n7, .int .i64 n8, .string t, .slice A ln cp])] w fun e w' => e = .returned (.tuple #[.string (str (sealed (body (numAt n0 n1 n2 n3 n4 n5 n6 n7 n8) t ss))), .int .i64 0]) ∧ Below w.heap.size w w' := by
  have hR := fun W hS => right_any n0 n1 n2 n3 n4 n5 n6 n7 n8 t A ln cp ss W hS hn
  rw [hr] at hR
  obtain ⟨_, h1, h2, _, h4⟩ := rightM_yes hr
  have hbl := body_length hr
  have hlen := hS.len
  have HR := Lib.hid hR
  clear hR hr
  go_enter Try.func71, Try.ntmps71
  go_upto_region 1 with fail
  have hA := heap_alloc_new w (.cells #[.int .i64 n0, .int .i64 n1, .int .i64 n2, .int .i64 n3, .int .i64 n4, .int .i64 n5, .int .i64 n6, .int .i64 n7, .int .i64 n8, .string t, .slice A ln cp] 33)
  have HB : Below w.heap.size w (w.alloc (.cells #[.int .i64 n0, .int .i64 n1, .int .i64 n2, .int .i64 n3, .int .i64 n4, .int .i64 n5, .int .i64 n6, .int .i64 n7, .int .i64 n8, .string t, .slice A ln cp] 33)) := (Below.refl w.heap.size w).alloc (by simp) _
  generalize w.alloc (.cells #[.int .i64 n0, .int .i64 n1, .int .i64 n2, .int .i64 n3, .int .i64 n4, .int .i64 n5, .int .i64 n6, .int .i64 n7, .int .i64 n8, .string t, .slice A ln cp] 33) = W1 at hA HB ⊢
  obtain ⟨f0, f1, f2, f3, f4, f5, f6, f7, f8, f9, f10⟩ := box_cells hA
  go_upto_region 4 with (go_at_call 73; refine (HR.out _ (hS.below HB)).mono ?_; rintro e w2 ⟨rfl, hd⟩; replace hA := heap_below hA hd; (first | replace HB := bt HB HB.size hd | replace HB := bt_drew HB HB.size hd | replace HB := bt_drewN HB HB.size hd); clear hd)
  clear f0 f1 f2 f3 f4 f5 f6 f7 f8 f9 f10
  obtain ⟨f0, f1, f2, f3, f4, f5, f6, f7, f8, f9, f10⟩ := box_cells hA
  go_wp2_with (go_at_call 74; refine (numbers_any _ _ _ _ _ _ _ _ _ _ _ _ _ _).mono ?_; rintro e w3 ⟨rfl, hd⟩; replace hA := heap_below hA hd; (first | replace HB := bt HB HB.size hd | replace HB := bt_drew HB HB.size hd | replace HB := bt_drewN HB HB.size hd); clear hd)
  clear f0 f1 f2 f3 f4 f5 f6 f7 f8 f9 f10
  have hidx := fun k hk W => idx_num n0 n1 n2 n3 n4 n5 n6 n7 n8 k hk W
  generalize hNN : numAt n0 n1 n2 n3 n4 n5 n6 n7 n8 = N at *
  have HNN := Lib.hid hNN
  have HI := Lib.hid hidx
  have HAA := Lib.hid hA
  clear hidx hNN hA
  go_loopw [4, 12] (fun v i wr => ∃ k : Nat, k ≤ 9 ∧ i = .int .i64 k ∧ v = .string (str (numsTo N k)) ∧ wr.heap[w.heap.size]? = some (.cells #[.int .i64 n0, .int .i64 n1, .int .i64 n2, .int .i64 n3, .int .i64 n4, .int .i64 n5, .int .i64 n6, .int .i64 n7, .int .i64 n8, .string t, .slice A ln cp] 33 (0, 0)) ∧ Below w.heap.size w wr) (fun _ i _ => 9 - (intOf i).toNat)
  case atStart => exact ⟨0, by omega, rfl, rfl, HAA.out, HB⟩
  case round =>
    clear HB HAA
    obtain ⟨k, hk, rfl, rfl, hA, HB⟩ := hrel
    by_cases hlt : k < 9
    · have hix := fun W => HI.out k hlt W
      have hnl := numsTo_length N k
      have hnl2 := numI_length (N k)
      have hsz : (str (numsTo N k)).size + (str (numI (N k))).size ≤ 9223372036854775807 := by rw [str_size, str_size]; omega
      have hnx : str (numsTo N (k + 1)) = str (numsTo N k) ++ str (numI (N k)) := by rw [str_append]; rfl
      have HX := Lib.hid hnx
      clear hnx HI hbl
      generalize numsTo N k = l at *
      obtain ⟨y, hy⟩ : ∃ y, y = N k := ⟨_, rfl⟩
      rw [← hy] at hix hsz
      have HY := Lib.hid hy
      have HAA := Lib.hid hA
      clear hy hA
      go_wp2_with (go_at_call 24; (with_reducible refine (num_any _ _).mono ?_); rintro e w4 ⟨rfl, hd⟩; have HAB := Lib.hid (heap_below HAA.out hd); (first | replace HB := bt HB HB.size hd | replace HB := bt_drew HB HB.size hd | replace HB := bt_drewN HB HB.size hd); clear hd)
      go_roundw
      case rel => exact ⟨k + 1, by omega, by go_num, by rw [HX.out, HY.out], HAB.out, HB⟩
      case measure => simp [intOf]; omega
    · obtain rfl : k = 9 := by omega
      clear HI
      have hb : body N t ss = numsTo N 9 ++ text t.data.toList ++ texts ss := rfl
      have hl9 := numsTo_length N 9
      have htl := text_length t (by omega)
      have hxl := texts_length ss h4 h2
      have e1 : str (numsTo N 9) ++ str (text t.data.toList) = str (numsTo N 9 ++ text t.data.toList) := by rw [str_append]; rfl
      have e2 : str (numsTo N 9 ++ text t.data.toList) ++ str (texts ss) = str (body N t ss) := by rw [str_append]; rfl
      have s1 : (str (numsTo N 9)).size + (str (text t.data.toList)).size ≤ 9223372036854775807 := by rw [str_size, str_size]; omega
      have s2 : (str (numsTo N 9) ++ str (text t.data.toList)).size + (str (texts ss)).size ≤ 9223372036854775807 := by rw [e1, str_size, str_size, List.length_append]; omega
      have hseal := fun W => seal_any (str (numsTo N 9) ++ str (text t.data.toList) ++ str (texts ss)) W (by rw [e1, e2, str_size]; omega)
      have e3 : (str (numsTo N 9) ++ str (text t.data.toList) ++ str (texts ss)).data.toList = body N t ss := by rw [e1, e2, str_list]
      rw [e3] at hseal
      have SE := Lib.hid hseal
      obtain ⟨_, _, _, _, _, _, _, _, _, f9, f10⟩ := box_cells hA
      have RS := fun p : Regrown => (hS.below HB).below (below_of_regrown (w := wr) ⟨p, rfl⟩)
      clear e1 e2 e3 hseal hb hl9 htl hxl hA hbl
      replace f9 := regrown_cell f9
      replace f10 := regrown_cell f10
      generalize numsTo N 9 = l9 at *
      go_upto_region 9 with fail
      (refine wp_region_quiet_below (by kernel_rfl) (by kernel_rfl) ?_; (repeat (go_big_quiet_step ((first | (go_at_call 47; (with_reducible exact Calls.regrown_of (text_any _ _ (by omega)))) | (go_at_call 48; exact Calls.regrown_of (texts_any _ _ _ ss _ (RS _) (by omega) (by omega))) | (go_at_call 40; exact Calls.regrown_of (SE.out _)))))); refine wpQuiet_nil ?_; intro wq hw'; have HQ := below_of_regrown hw'; clear hw')
      go_wp2
      go_ret2
      exact ⟨by rw [HNN.out]; rfl, bt HB HB.size HQ⟩
end Go.Proofs.Ytdjgdhpncocahaa.MsgW
