/- strings.Join with nothing between. -/
import Derived.Test.YtmlemichkeomjaaRepeat
import Derived.Test.YtmlemichkeomjaaM3
set_option linter.unusedVariables false
set_option linter.unusedSimpArgs false
namespace Go.Proofs.Ytmlemichkeomjaa.BuildW
open Go.RowKit Go.Proofs.Ytmlemichkeomjaa.Base
/-- The texts one behind the other, nothing between. -/
def flat : List ByteArray → List UInt8
  | [] => []
  | s :: l => s.data.toList ++ flat l
theorem flat_append (l m : List ByteArray) : flat (l ++ m) = flat l ++ flat m := by
  induction l with
  | nil => rfl
  | cons s l ih => show s.data.toList ++ flat (l ++ m) = (s.data.toList ++ flat l) ++ flat m; rw [ih, List.append_assoc]
theorem flat_length (l : List ByteArray) : (flat l).length = total l := by
  induction l with
  | nil => rfl
  | cons s l ih => show (s.data.toList ++ flat l).length = s.size + total l; rw [List.length_append, ih, list_size]
theorem flat_snoc (l : List ByteArray) (k : Nat) (h : k < l.length) : flat (l.take (k + 1)) = flat (l.take k) ++ l[k].data.toList := by
  rw [take_snoc_list l k h, flat_append]
  show _ ++ (l[k].data.toList ++ []) = _
  rw [List.append_nil]
theorem total_snoc (l : List ByteArray) (k : Nat) (h : k < l.length) : total (l.take (k + 1)) = total (l.take k) + l[k].size := by
  rw [take_snoc_list l k h, total_append]
  show _ + (l[k].size + 0) = _
  omega
set_option maxRecDepth 1000000 in
set_option maxHeartbeats 2000000 in
theorem join_any (A : Option Addr) (n c : Nat) (ss : List ByteArray) (w : World) (hS : Strs w A n ss) (hc : n ≤ c) (hn : n ≤ 1000) (ht : total ss ≤ 1000000000) :
    Calls Try.prog 68 #[.slice A n c, .string ⟨#[]⟩] w fun e w' => e = .returned (.string (str (flat ss))) ∧ Below w.heap.size w w' := by
  have hl := hS.len
  by_cases h0 : n = 0
  · subst h0
    obtain rfl : ss = [] := List.eq_nil_of_length_eq_zero hl
    go_enter Try.func68, Try.ntmps68
    go_wp2
    go_ret
    exact ⟨rfl, Below.refl _ _⟩
  obtain ⟨b, off, rfl, hcc⟩ := hS.block h0
  by_cases h1 : n = 1
  · subst h1
    obtain ⟨x, rfl⟩ : ∃ x, ss = [x] := List.length_eq_one_iff.1 hl
    have hx : w.cell? ⟨b, off, none⟩ = some (.string x) := hcc 0 (by simp)
    go_enter Try.func68, Try.ntmps68
    go_wp2
    go_ret
    refine ⟨?_, Below.refl _ _⟩
    show _ = Ending.returned (.string (str (x.data.toList ++ [])))
    rw [List.append_nil]
    rfl
  have hne0 : ((n : Int) == 0) = false := beq_eq_false_iff_ne.2 (by omega)
  have hne1 : ((n : Int) == 1) = false := beq_eq_false_iff_ne.2 (by omega)
  have HC := Lib.hid hcc
  have HT := Lib.hid ht
  obtain ⟨x0, hx0⟩ : ∃ x, ss[0]'(by omega) = x := ⟨_, rfl⟩
  have hxc : w.cell? ⟨b, off, none⟩ = some (.string x0) := by rw [← hx0]; exact hcc 0 (by omega)
  have hf1 : flat (ss.take 1) = x0.data.toList := by rw [flat_snoc ss 0 (by omega), hx0]; rfl
  have hs0 : x0.size ≤ 1000000000 := by rw [← hx0]; exact Nat.le_trans (total_get _) ht
  have hh := Lib.hid hf1
  clear hcc ht hS hf1 hx0
  go_enter Try.func68, Try.ntmps68
  go_wp2
  go_loop [5, 41] (fun t i => ∃ k : Nat, k ≤ n ∧ i = .int .i64 k ∧ t = .int .i64 (total (ss.take k) : Nat)) (fun _ i => n - (intOf i).toNat)
  case atStart => exact ⟨0, Nat.zero_le _, rfl, rfl⟩
  case round =>
    obtain ⟨k, hk, rfl, rfl⟩ := hrel
    by_cases hkn : k < n
    · have hks : k < ss.length := by omega
      have hcell := HC.out k hks
      have hts := total_snoc ss k hks
      have htl := total_take_le ss (k + 1)
      have htm := HT.out
      generalize hsk : ss[k] = s at hcell hts
      generalize hA1 : total (ss.take (k + 1)) = A1 at hts htl
      generalize total (ss.take k) = A0 at hts
      have HA1 := Lib.hid hA1
      have e5 : ((A0 : Nat) : Int) + ((s.size : Nat) : Int) = ((A1 : Nat) : Int) := by omega
      have hb : A0 + s.size ≤ 1000000000 := by omega
      have HTS := Lib.hid hts
      clear hA1 hsk htm htl hts e5
      go_wp2
      exact ⟨⟨k + 1, by omega, by go_num, by rw [HA1.out]; first | rfl | (have := HTS.out; refine congrArg _ ?_; omega)⟩, by simp only [intOf]; omega⟩
    · obtain rfl : k = n := by omega
      rw [List.take_of_length_le (by omega)]
      have htm := HT.out
      obtain ⟨T, hT⟩ : ∃ T, total ss = T := ⟨_, rfl⟩
      rw [hT] at htm ⊢
      have HT2 := Lib.hid hT
      clear hT
      have b0 : Below w.heap.size w (w.alloc (.cells #[.pointer none, .slice none 0 0] 180)) := (Below.refl _ w).alloc (Nat.le_refl _) _
      have cG := Lib.hid (sb_Grow_fresh w.heap.size w.heap.size T (w.alloc (.cells #[.pointer none, .slice none 0 0] 180)) (Nat.le_refl _) (heap_alloc_new w _) b0.size (by omega))
      go_wp2_with (go_at_call 103; (with_reducible refine (cG.out).mono ?_); rintro e W1 ⟨rfl, h1', b1⟩; have HB := b0.trans b1; have hxc1 := cell_below HB hxc; clear b0 b1 cG)
      have cW := Lib.hid (write_any w.heap.size w.heap.size [] x0 W1 (Or.inr h1') (by simp only [List.length_nil]; omega) HB.size)
      go_wp2_with (go_at_call 104; (with_reducible refine (cW.out).mono ?_); rintro e W2 ⟨rfl, h2, b2⟩)
      rw [List.nil_append, ← hh.out] at h2
      replace HB := HB.trans b2
      clear b2 cW hxc1 h1'
      go_wp2
      go_loopw [65] (fun i wr => ∃ q : Nat, q + 1 ≤ k ∧ i = .int .i64 q ∧ Lib.IsBuilder 180 5 w.heap.size w.heap.size (bv (flat (ss.take (q + 1)))) wr ∧ Below w.heap.size w wr) (fun i _ => k - (intOf i).toNat)
      case atStart => exact ⟨0, by omega, rfl, h2, HB⟩
      case round =>
        clear HB h2
        obtain ⟨q, hq, rfl, hI, HB⟩ := hrel
        by_cases hqk : q + 1 < k
        · have hks : q + 1 < ss.length := by omega
          have hcell := cell_below HB (HC.out (q + 1) hks)
          have hfs := flat_snoc ss (q + 1) hks
          have hfl := flat_length (ss.take (q + 1))
          have htl := total_take_le ss (q + 1)
          rw [HT2.out] at htl
          have hsz := total_get hks
          rw [HT2.out] at hsz
          generalize hsk : ss[q + 1] = s at hcell hfs hsz
          clear hsk
          have cW := Lib.hid (write_any w.heap.size w.heap.size _ ⟨#[]⟩ wr hI (by rw [hfl]; show _ + 0 ≤ _; omega) HB.size)
          have hlt : (flat (ss.take (q + 1))).length ≤ 1000000000 := by omega
          have hcell' : wr.cell? ⟨b, off + 1 + q, none⟩ = some (.string s) := by rw [show off + 1 + q = off + (q + 1) by omega]; exact hcell
          clear hcell hfl htl
          go_wp2_with (go_at_call 104; (with_reducible refine (cW.out).mono ?_); rintro e W3 ⟨rfl, h3, b3⟩; replace HB := HB.trans b3; clear b3)
          rw [show flat (ss.take (q + 1)) ++ (⟨#[]⟩ : ByteArray).data.toList = flat (ss.take (q + 1)) from List.append_nil _] at h3
          have cV := Lib.hid (write_any w.heap.size w.heap.size _ s W3 h3 (by omega) HB.size)
          go_wp2_with (go_at_call 104; (with_reducible refine (cV.out).mono ?_); rintro e W4 ⟨rfl, h4, b4⟩)
          rw [← hfs] at h4
          replace HB := HB.trans b4
          clear b4
          go_wp2
          exact ⟨⟨q + 1, by omega, by go_num, h4, HB⟩, by simp only [intOf]; omega⟩
        · obtain rfl : q + 1 = k := by omega
          rw [List.take_of_length_le (by omega)] at hI
          have cS := Lib.hid (string_all w.heap.size w.heap.size _ wr hI HB.size)
          go_wp2_with (go_at_call 106; (with_reducible refine (cS.out).mono ?_); rintro e W5 ⟨rfl, b5⟩)
          go_ret
          exact ⟨rfl, HB.trans b5⟩
end Go.Proofs.Ytmlemichkeomjaa.BuildW
