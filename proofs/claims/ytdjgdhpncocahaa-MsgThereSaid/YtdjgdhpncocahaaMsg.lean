/- Messages: the small functions, walked. -/
import Derived.Test.YtdjgdhpncocahaaProg
import Derived.Test.YtdjgdhpncocahaaStrs
set_option linter.unusedVariables false
set_option linter.unusedSimpArgs false
namespace Go.Proofs.Ytdjgdhpncocahaa.MsgW
open Go.RowKit Go.Proofs.Ytdjgdhpncocahaa.Base
theorem alloc2 (w : World) (a b : Obj) : ((w.alloc a).alloc b).heap[w.heap.size + 1]? = some b := by
  have h := heap_alloc_new (w.alloc a) b
  have e : (w.alloc a).heap.size = w.heap.size + 1 := by simp
  rw [e] at h; exact h
theorem alloc3 (w : World) (a b c : Obj) : (((w.alloc a).alloc b).alloc c).heap[w.heap.size + 1]? = some b := by
  rw [heap_alloc_old _ _ (by simp)]
  exact alloc2 w a b

set_option maxRecDepth 100000 in
set_option maxHeartbeats 1000000 in
theorem of_any (n0 n1 n2 n3 n4 n5 n6 n7 n8 : Int) (t : ByteArray) (A : Option Addr) (ln cp : Nat) (w : World) :
    Calls Try.prog 29 #[(.agg #[.int .i64 n0, .int .i64 n1, .int .i64 n2, .int .i64 n3, .int .i64 n4, .int .i64 n5, .int .i64 n6, .int .i64 n7, .int .i64 n8, .string t, .slice A ln cp])] w fun e w' => e = .returned (.agg #[.int .i64 n0, .int .i64 n1, .int .i64 n2, .int .i64 n3, .int .i64 n4, .int .i64 n5, .int .i64 n6, .int .i64 n7, .int .i64 n8, .string t, .slice A ln cp]) ∧ Below w.heap.size w w' := by
  go_enter Try.func29, Try.ntmps29
  go_wp2
  refine bodyPost_ret (results_cell_row rfl _ _ (w.heap.size + 1) 33 #[.int .i64 n0, .int .i64 n1, .int .i64 n2, .int .i64 n3, .int .i64 n4, .int .i64 n5, .int .i64 n6, .int .i64 n7, .int .i64 n8, .string t, .slice A ln cp] (0, 0) _ rfl (alloc3 _ _ _ _) Try.underlying33 rfl (by kernel_rfl)) rfl ?_
  exact ⟨rfl, (((Below.refl w.heap.size w).alloc (by simp) _).alloc (by simp) _).alloc (by simp; omega) _⟩
set_option maxRecDepth 100000 in
set_option maxHeartbeats 1000000 in
theorem plain_any (n0 n1 n2 n3 n4 n5 n6 n7 n8 : Int) (t : ByteArray) (A : Option Addr) (ln cp : Nat) (w : World) :
    Calls Try.prog 27 #[(.agg #[.int .i64 n0, .int .i64 n1, .int .i64 n2, .int .i64 n3, .int .i64 n4, .int .i64 n5, .int .i64 n6, .int .i64 n7, .int .i64 n8, .string t, .slice A ln cp])] w fun e w' => e = .returned (.agg #[.int .i64 n0, .int .i64 n1, .int .i64 n2, .int .i64 n3, .int .i64 n4, .int .i64 n5, .int .i64 n6, .int .i64 n7, .int .i64 n8, .string t, .slice A ln cp]) ∧ Below w.heap.size w w' := by
  go_enter Try.func27, Try.ntmps27
  go_wp2
  refine bodyPost_ret (results_cell_row rfl _ _ (w.heap.size + 1) 28 #[.int .i64 n0, .int .i64 n1, .int .i64 n2, .int .i64 n3, .int .i64 n4, .int .i64 n5, .int .i64 n6, .int .i64 n7, .int .i64 n8, .string t, .slice A ln cp] (0, 0) _ rfl (alloc2 _ _ _) Try.underlying28 rfl (by kernel_rfl)) rfl ?_
  exact ⟨rfl, ((Below.refl w.heap.size w).alloc (by simp) _).alloc (by simp) _⟩
set_option maxRecDepth 100000 in
set_option maxHeartbeats 1000000 in
theorem answer_any (n0 n1 n2 n3 n4 n5 n6 n7 n8 kind : Int) (t : ByteArray) (A : Option Addr) (ln cp : Nat) (w : World) :
    Calls Try.prog 28 #[(.agg #[.int .i64 n0, .int .i64 n1, .int .i64 n2, .int .i64 n3, .int .i64 n4, .int .i64 n5, .int .i64 n6, .int .i64 n7, .int .i64 n8, .string t, .slice A ln cp]), .int .i64 kind] w fun e w' => e = .returned (.agg #[.int .i64 kind, .int .i64 n2, .int .i64 n1, .int .i64 n3, .int .i64 n4, .int .i64 n5, .int .i64 n6, .int .i64 0, .int .i64 0, .string (str []), .slice none 0 0]) ∧ Below w.heap.size w w' := by
  go_enter Try.func28, Try.ntmps28
  go_wp2
  refine bodyPost_ret (results_cell_row rfl _ _ (w.heap.size + 1) 33 #[.int .i64 kind, .int .i64 n2, .int .i64 n1, .int .i64 n3, .int .i64 n4, .int .i64 n5, .int .i64 n6, .int .i64 0, .int .i64 0, .string (str []), .slice none 0 0] (0, 0) _ rfl (alloc2 _ _ _) Try.underlying33 rfl (by kernel_rfl)) rfl ?_
  exact ⟨rfl, ((Below.refl w.heap.size w).alloc (by simp) _).alloc (by simp) _⟩
set_option maxRecDepth 100000 in
set_option maxHeartbeats 1000000 in
theorem id_any (n0 n1 n2 n3 n4 n5 n6 n7 n8 : Int) (t : ByteArray) (A : Option Addr) (ln cp : Nat) (w : World) :
    Calls Try.prog 30 #[(.agg #[.int .i64 n0, .int .i64 n1, .int .i64 n2, .int .i64 n3, .int .i64 n4, .int .i64 n5, .int .i64 n6, .int .i64 n7, .int .i64 n8, .string t, .slice A ln cp])] w fun e w' => e = .returned (.agg #[.int .i64 n3, .int .i64 n4, .int .i64 n5, .int .i64 n6]) ∧ Below w.heap.size w w' := by
  go_enter Try.func30, Try.ntmps30
  go_wp2
  refine bodyPost_ret (results_cell_row rfl _ _ (w.heap.size + 1) 37 #[.int .i64 n3, .int .i64 n4, .int .i64 n5, .int .i64 n6] (0, 0) _ rfl (alloc2 _ _ _) Try.underlying37 rfl (by kernel_rfl)) rfl ?_
  exact ⟨rfl, ((Below.refl w.heap.size w).alloc (by simp) _).alloc (by simp) _⟩
set_option maxRecDepth 100000 in
set_option maxHeartbeats 1000000 in
theorem numbers_any (n0 n1 n2 n3 n4 n5 n6 n7 n8 : Int) (t : ByteArray) (A : Option Addr) (ln cp : Nat) (w : World) :
    Calls Try.prog 74 #[(.agg #[.int .i64 n0, .int .i64 n1, .int .i64 n2, .int .i64 n3, .int .i64 n4, .int .i64 n5, .int .i64 n6, .int .i64 n7, .int .i64 n8, .string t, .slice A ln cp])] w fun e w' => e = .returned (.agg #[.int .i64 n0, .int .i64 n1, .int .i64 n2, .int .i64 n3, .int .i64 n4, .int .i64 n5, .int .i64 n6, .int .i64 n7, .int .i64 n8]) ∧ Below w.heap.size w w' := by
  go_enter Try.func74, Try.ntmps74
  go_wp2
  refine bodyPost_ret (results_cell_row rfl _ _ (w.heap.size + 1) 25 #[.int .i64 n0, .int .i64 n1, .int .i64 n2, .int .i64 n3, .int .i64 n4, .int .i64 n5, .int .i64 n6, .int .i64 n7, .int .i64 n8] (0, 0) _ rfl (alloc2 _ _ _) Try.underlying25 rfl (by kernel_rfl)) rfl ?_
  exact ⟨rfl, ((Below.refl w.heap.size w).alloc (by simp) _).alloc (by simp) _⟩
end Go.Proofs.Ytdjgdhpncocahaa.MsgW
