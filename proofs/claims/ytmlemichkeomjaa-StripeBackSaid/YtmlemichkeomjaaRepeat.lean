/- strings.Repeat of one zero byte, and strings.Join with nothing between. -/
import Derived.Test.YtmlemichkeomjaaBuildF
import Derived.Test.YtmlemichkeomjaaBuild0
import Derived.Lib.RepeatB
import Derived.Lib.Join
import Derived.Deep.LoopGhost
import Derived.Deep.DeepCutAuto
import Derived.Deep.DeepFit
import Derived.Deep.CutBlock
set_option linter.unusedVariables false
set_option linter.unusedSimpArgs false
namespace Go.Proofs.Ytmlemichkeomjaa.BuildW
open Go.RowKit Go.Proofs.Ytmlemichkeomjaa.Base
theorem run_min_int3 {P : Program} {w : World} (ts : Array TypeId) (t : TypeId) (k k' k'' : IntKind) (x y z : Int) :
    (Builtin.min_ ts t #[.int k x, .int k' y, .int k'' z]).run P w = .ok (.int k (if z < (if y < x then y else x) then z else (if y < x then y else x))) w := by
  simp [Builtin.min_, Builtin.min2]
set_option maxRecDepth 1000000 in
theorem repeat_zero (s : ByteArray) (w : World) :
    Calls Try.prog 65 #[.string s, .int .i64 0] w fun e w' => e = .returned (.string ⟨#[]⟩) ∧ w' = w := by
  go_enter Try.func65, Try.ntmps65
  go_wp2
  go_ret
  exact ⟨rfl, rfl⟩
set_option maxRecDepth 1000000 in
theorem repeat_one (s : ByteArray) (w : World) :
    Calls Try.prog 65 #[.string s, .int .i64 1] w fun e w' => e = .returned (.string s) ∧ w' = w := by
  go_enter Try.func65, Try.ntmps65
  go_wp2
  go_ret
  exact ⟨rfl, rfl⟩
set_option maxHeartbeats 2000000 in
set_option maxRecDepth 1000000 in
theorem repeat_main (c : Nat) (w : World) (hc2 : 2 ≤ c) (hc : c ≤ 8192) :
    Calls Try.prog 65 #[.string ⟨#[0]⟩, .int .i64 c] w fun e w' => e = .returned (.string (str (List.replicate c 0))) ∧ Below w.heap.size w w' := by
  have hM := bits_Mul 1 c (by omega) (by omega) w
  rw [Nat.div_eq_of_lt (by omega : 1 * c < 18446744073709551616), Nat.mod_eq_of_lt (by omega : 1 * c < 18446744073709551616), Nat.one_mul] at hM
  have hM := Lib.hid hM
  go_enter Try.func65, Try.ntmps65
  have b0 : Below w.heap.size w (w.alloc (.cells #[.pointer none, .slice none 0 0] 180)) := (Below.refl _ w).alloc (Nat.le_refl _) _
  have cG := Lib.hid (sb_Grow_fresh w.heap.size w.heap.size c (w.alloc (.cells #[.pointer none, .slice none 0 0] 180)) (Nat.le_refl _) (heap_alloc_new w _) b0.size (by omega))
  go_wp2_with (first
    | (go_at_call 101; go_loud (refine (hM.out).mono ?_); rintro e w' ⟨rfl, hw⟩; rw [hw])
    | (go_at_call 103; (with_reducible refine (cG.out).mono ?_); rintro e W1 ⟨rfl, h1, b1⟩))
  have cW := Lib.hid (sb_WriteString_f w.heap.size w.heap.size [] ⟨#[0]⟩ W1 (Lib.IsBuilderF.of (Or.inr h1)) (by show 0 + 1 ≤ _; omega) (Nat.le_trans b0.size b1.size))
  clear cG hM
  go_wp2_with (go_at_call 104; (with_reducible refine (cW.out).mono ?_); rintro e W2 ⟨rfl, h2, b2⟩)
  have h2' : Lib.IsBuilderF 180 5 w.heap.size w.heap.size (Lib.byteCells (List.replicate 1 0)) W2 := Or.inr h2
  have b02 : Below w.heap.size w W2 := b0.trans (b1.trans b2)
  clear h2 b0 b1 b2 h1 cW
  go_loopg [] (c - 1) (fun g wx => ∃ q : Nat, 1 ≤ q ∧ q + g = c ∧ Lib.IsBuilderF 180 5 w.heap.size w.heap.size (Lib.byteCells (List.replicate q 0)) wx ∧ Below w.heap.size w wx)
  case atStart => exact ⟨1, Nat.le_refl _, by omega, h2', b02⟩
  case round =>
    obtain ⟨q, hq1, hqg, hB, hbx⟩ := hrel
    have hlq : (Lib.byteCells (List.replicate q (0 : UInt8))).length = q := by rw [Lib.byteCells_length, List.length_replicate]
    have cLen := sb_Len_f w.heap.size w.heap.size _ wr hB
    rw [hlq] at cLen
    have cLen := Lib.hid cLen
    have cStr := Lib.hid (sb_String_f w.heap.size w.heap.size (List.replicate q 0) wr hB (fun h9 => by have := congrArg List.length h9; rw [List.length_replicate] at this; simp only [List.length_nil] at this; omega))
    cases gk with
    | zero =>
      obtain rfl : q = c := by omega
      go_wp2_with (first
        | (go_at_call 105; (with_reducible refine (cLen.out).mono ?_); rintro e w' ⟨rfl, hw⟩; rw [hw])
        | (go_at_call 106; (with_reducible refine (cStr.out).mono ?_); rintro e W3 ⟨rfl, h3, b3⟩))
      go_ret
      exact ⟨rfl, hbx.trans b3⟩
    | succ g =>
      have hqn : (q : Int) < (c : Int) := by omega
      obtain ⟨k, hk⟩ : ∃ k, min (c - q) q = k := ⟨_, rfl⟩
      have hk1 : 1 ≤ k := by omega
      have hkq : k ≤ q := by omega
      have hkc : q + k ≤ c := by omega
      have hmin3 : ∀ (ts : Array TypeId) (t : TypeId) (W : World), (Builtin.min_ ts t #[.int .i64 ((c : Int) - (q : Int)), .int .i64 (q : Int), .int .i64 (c : Int)]).run Try.prog W = .ok (.int .i64 (k : Int)) W := fun ts t W => by
        rw [run_min_int3]
        congr 2
        rw [← hk]
        omega
      clear hk
      go_wp2_with (first
        | (go_at_call 105; (with_reducible refine (cLen.out).mono ?_); rintro e w' ⟨rfl, hw⟩; rw [hw])
        | (go_at_call 106; (with_reducible refine (cStr.out).mono ?_); rintro e W3 ⟨rfl, h3, b3⟩))
      have hx : ((⟨Array.replicate q 0⟩ : ByteArray).extract 0 k).data.toList = List.replicate k 0 := by
        rw [Lib.extract_data]
        show (List.take (k - 0) (List.drop 0 (List.replicate q (0 : UInt8)))) = _
        rw [List.drop_zero, Nat.sub_zero, List.take_replicate, Nat.min_eq_left hkq]
      have cWr := Lib.hid (sb_WriteString_f w.heap.size w.heap.size _ ((⟨Array.replicate q 0⟩ : ByteArray).extract 0 k) W3 h3 (by
        rw [hlq, Lib.size_eq, hx, List.length_replicate]
        omega) (Nat.le_trans hbx.size b3.size))
      clear cLen cStr
      go_wp2_with (go_at_call 104; (with_reducible refine (cWr.out).mono ?_); rintro e W4 ⟨rfl, h4, b4⟩)
      go_roundg (c - (q + k))
      case measure => omega
      case rel =>
        refine ⟨q + k, by omega, by omega, Or.inr ?_, hbx.trans (b3.trans b4)⟩
        rw [Lib.strCells_eq, ← Lib.byteCells_append, hx, List.replicate_append_replicate] at h4
        exact h4
theorem repeat_any (c : Nat) (w : World) (hc : c ≤ 8192) :
    Calls Try.prog 65 #[.string ⟨#[0]⟩, .int .i64 c] w fun e w' => e = .returned (.string (str (List.replicate c 0))) ∧ Below w.heap.size w w' := by
  match c, hc with
  | 0, _ => exact (repeat_zero _ w).mono fun e w' ⟨he, hw⟩ => ⟨he, hw ▸ Below.refl _ _⟩
  | 1, _ => exact (repeat_one _ w).mono fun e w' ⟨he, hw⟩ => ⟨he, hw ▸ Below.refl _ _⟩
  | c + 2, hc => exact repeat_main (c + 2) w (by omega) hc
end Go.Proofs.Ytmlemichkeomjaa.BuildW
