/- Messages compared. -/
import Derived.Test.YtdjgdhpncocahaaMsg
import Derived.Test.YtdjgdhpncocahaaEqs
import Derived.ChangeKeysEq
import Derived.Laws.StructEq
set_option linter.unusedVariables false
set_option linter.unusedSimpArgs false
namespace Go.Proofs.Ytdjgdhpncocahaa.MsgW
open Go.RowKit Go.Proofs.Ytdjgdhpncocahaa.Base Go.Proofs.Ytdjgdhpncocahaa.EqsW

def numeq (n0 n1 n2 n3 n4 n5 n6 n7 n8 m0 m1 m2 m3 m4 m5 m6 m7 m8 : Int) : Bool := n0 == m0 && (n1 == m1 && (n2 == m2 && (n3 == m3 && (n4 == m4 && (n5 == m5 && (n6 == m6 && (n7 == m7 && n8 == m8)))))))
theorem part_int (xs : Array Value) (j : Nat) (a : Int) (h : xs[j]? = some (.int .i64 a)) (w : World) : (part 3 xs j).run Try.prog w = .ok (.int .i64 a) w := by
  simp [part, isAgg, run_underlying Try.underlying3, h]
theorem items_cons (j : Nat) (js : List Nat) (xs ys : Array Value) (a b : Int) (ha : xs[j]? = some (.int .i64 a)) (hb : ys[j]? = some (.int .i64 b)) (w : World) (r : Bool)
    (h : (Op.eqItems 9999 3 1 xs ys js).run Try.prog w = .ok r w) : (Op.eqItems 9999 3 1 xs ys (j :: js)).run Try.prog w = .ok (a == b && r) w := by
  have e := run_equalIn_int (P := Try.prog) (w := w) 9998 3 .i64 .i64 a b Try.underlying3
  rw [Op.eqItems]
  simp only [Sem.run_bind, Nat.mul_one, part_int xs j a ha, part_int ys j b hb, Result.andThen_ok, e]
  cases hq : (a == b)
  · simp
  · simp [h]
theorem nums_eq (n0 n1 n2 n3 n4 n5 n6 n7 n8 m0 m1 m2 m3 m4 m5 m6 m7 m8 : Int) (w : World) :
    (Op.equalIn 10000 25 (.agg #[.int .i64 n0, .int .i64 n1, .int .i64 n2, .int .i64 n3, .int .i64 n4, .int .i64 n5, .int .i64 n6, .int .i64 n7, .int .i64 n8]) (.agg #[.int .i64 m0, .int .i64 m1, .int .i64 m2, .int .i64 m3, .int .i64 m4, .int .i64 m5, .int .i64 m6, .int .i64 m7, .int .i64 m8])).run Try.prog w = .ok (numeq n0 n1 n2 n3 n4 n5 n6 n7 n8 m0 m1 m2 m3 m4 m5 m6 m7 m8) w := by
  obtain ⟨i, hi, _⟩ := Option.map_eq_some_iff.1 (show (Try.prog.info? 3).map (·.size) = some 1 by kernel_rfl)
  rw [run_equalIn_array w 9999 _ _ Try.underlying25 hi, show Try.prog.cellsOf 3 = 1 by kernel_rfl, show List.range 9 = [0, 1, 2, 3, 4, 5, 6, 7, 8] from rfl]
  unfold numeq
  have h : ∀ b : Bool, b = (b && true) := fun b => (Bool.and_true b).symm
  rw [h (n8 == m8)]
  refine items_cons 0 _ _ _ _ _ rfl rfl _ _ ?_
  refine items_cons 1 _ _ _ _ _ rfl rfl _ _ ?_
  refine items_cons 2 _ _ _ _ _ rfl rfl _ _ ?_
  refine items_cons 3 _ _ _ _ _ rfl rfl _ _ ?_
  refine items_cons 4 _ _ _ _ _ rfl rfl _ _ ?_
  refine items_cons 5 _ _ _ _ _ rfl rfl _ _ ?_
  refine items_cons 6 _ _ _ _ _ rfl rfl _ _ ?_
  refine items_cons 7 _ _ _ _ _ rfl rfl _ _ ?_
  refine items_cons 8 _ _ _ _ _ rfl rfl _ _ ?_
  rfl
def sameB (n0 n1 n2 n3 n4 n5 n6 n7 n8 : Int) (t : ByteArray) (ss : List ByteArray) (m0 m1 m2 m3 m4 m5 m6 m7 m8 : Int) (u : ByteArray) (uu : List ByteArray) : Bool :=
  numeq n0 n1 n2 n3 n4 n5 n6 n7 n8 m0 m1 m2 m3 m4 m5 m6 m7 m8 && (t.toList == u.toList) && eqs ss uu

set_option maxRecDepth 100000 in
set_option maxHeartbeats 1000000 in
theorem same_any (n0 n1 n2 n3 n4 n5 n6 n7 n8 : Int) (t : ByteArray) (A : Option Addr) (ln cp : Nat) (m0 m1 m2 m3 m4 m5 m6 m7 m8 : Int) (u : ByteArray) (B : Option Addr) (lm cq : Nat) (ss uu : List ByteArray) (w : World) (hS : Strs w A ln ss) (hT : Strs w B lm uu) (hn : ln ≤ 140737488355328) :
    Calls Try.prog 31 #[(.agg #[.int .i64 n0, .int .i64 n1, .int .i64 n2, .int .i64 n3, .int .i64 n4, .int .i64 n5, .int .i64 n6, .int .i64 n7, .int .i64 n8, .string t, .slice A ln cp]), (.agg #[.int .i64 m0, .int .i64 m1, .int .i64 m2, .int .i64 m3, .int .i64 m4, .int .i64 m5, .int .i64 m6, .int .i64 m7, .int .i64 m8, .string u, .slice B lm cq])] w fun e w' => e = .returned (.bool (sameB n0 n1 n2 n3 n4 n5 n6 n7 n8 t ss m0 m1 m2 m3 m4 m5 m6 m7 m8 u uu)) ∧ Below w.heap.size w w' := by
  unfold sameB
  have hN := fun W => nums_eq n0 n1 n2 n3 n4 n5 n6 n7 n8 m0 m1 m2 m3 m4 m5 m6 m7 m8 W
  have HB : Below w.heap.size w ((w.alloc (.cells #[.int .i64 n0, .int .i64 n1, .int .i64 n2, .int .i64 n3, .int .i64 n4, .int .i64 n5, .int .i64 n6, .int .i64 n7, .int .i64 n8, .string t, .slice A ln cp] 28)).alloc (.cells #[.int .i64 m0, .int .i64 m1, .int .i64 m2, .int .i64 m3, .int .i64 m4, .int .i64 m5, .int .i64 m6, .int .i64 m7, .int .i64 m8, .string u, .slice B lm cq] 28)) := ((Below.refl w.heap.size w).alloc (by simp) _).alloc (by simp) _
  cases hq : numeq n0 n1 n2 n3 n4 n5 n6 n7 n8 m0 m1 m2 m3 m4 m5 m6 m7 m8 with
  | false =>
    rw [hq] at hN
    go_enter Try.func31, Try.ntmps31
    go_wp2
    go_ret
    exact ⟨rfl, HB⟩
  | true =>
    rw [hq] at hN
    cases ht : (t.toList == u.toList) with
    | false =>
      go_enter Try.func31, Try.ntmps31
      go_wp2
      go_ret
      exact ⟨rfl, HB⟩
    | true =>
      go_enter Try.func31, Try.ntmps31
      go_wp2_with (go_at_call 58; refine (same_texts _ _ _ _ _ _ ss uu _ (hS.below HB) (hT.below HB) hn).mono ?_; rintro e w2 ⟨rfl, hd⟩)
      go_ret
      exact ⟨by simp, bt HB HB.size hd⟩
end Go.Proofs.Ytdjgdhpncocahaa.MsgW
