/- The ledger's methods, one contract over all kinds. -/
import Derived.Test.YtmlemichkeomjaaLedA
import Derived.Test.YtmlemichkeomjaaLedDoes
set_option linter.unusedVariables false
set_option linter.unusedSimpArgs false
namespace Go.Proofs.Ytmlemichkeomjaa.LedW
open Go.RowKit Go.Proofs.Ytmlemichkeomjaa.Base Go.Proofs.Ytmlemichkeomjaa.MendW Go.Proofs.Ytmlemichkeomjaa.ManP Go.Proofs.Ytmlemichkeomjaa.ManW Go.Proofs.Ytmlemichkeomjaa.LedP
theorem kindMost_eq (s : LS) (r : LR) : kindMost r.kind s.done.length s.has.length = mostP s r := rfl
theorem callFunc_meth (k : Int) (args : Array Value) (w : World) : (callFunc (fnOf k) args).run Try.prog w = .ok (.enter (fnOf k) args) w := by
  unfold fnOf
  split
  · kernel_rfl
  split
  · kernel_rfl
  split
  · kernel_rfl
  split
  · kernel_rfl
  split
  · kernel_rfl
  split
  · kernel_rfl
  · kernel_rfl
/-- The method of a kind. -/
theorem meth_any (ob lo : Nat) (s : LS) (r : LR) (v : MV) (w : World) (h : Own w lo ob s) (hlo : lo ≤ w.heap.size) (hv : ManV w v r.m) (hs : Slim r.m) (hk : 1 ≤ r.kind ∧ r.kind ≤ 7) (hn : 0 ≤ r.n) (he : 0 ≤ r.e ∧ r.e ≤ 255) (hm : ¬ (0 ≤ mostP s r ∧ mostP s r ≤ r.n)) :
    Calls Try.prog (fnOf r.kind) #[.pointer (some ⟨ob, 0, none⟩), .agg #[.int .i64 r.kind, .int .i64 r.n, .int .i64 r.e, .string r.text, .int .i64 r.m.task, .int .i64 r.m.att, .slice v.A2 r.m.sz.length v.c2, .slice v.A3 r.m.sm.length v.c3, .slice v.A4 r.m.hm.length v.c4]] w (MethPost w lo ob (methP s r)) := by
  obtain ⟨t, ht⟩ := Int.eq_ofNat_of_zero_le hn
  have he2 : -9223372036854775808 ≤ r.e ∧ r.e ≤ 9223372036854775807 := by omega
  unfold methP fnOf
  unfold mostP at hm
  by_cases k1 : r.kind = 1
  · rw [if_pos k1, if_pos k1]
    exact done_any ob lo s r v w h hlo hv hs
  rw [if_neg k1, if_neg k1]
  by_cases k2 : r.kind = 2
  · rw [if_pos k2, if_pos k2]
    rw [if_pos (.inl k2)] at hm
    exact taskErr_any ob lo s r _ _ _ _ _ _ _ _ _ _ _ t w h hlo ht (by omega) he2
  rw [if_neg k2, if_neg k2]
  by_cases k3 : r.kind = 3
  · rw [if_pos k3, if_pos k3]
    rw [if_pos (.inr k3)] at hm
    exact lost_any ob lo s r _ _ _ _ _ _ _ _ _ _ _ t w h hlo ht (by omega)
  rw [if_neg k3, if_neg k3]
  rw [if_neg (by omega)] at hm
  by_cases k4 : r.kind = 4
  · rw [if_pos k4, if_pos k4]
    rw [if_pos (.inl k4)] at hm
    exact result_any ob lo s r _ _ _ _ _ _ _ _ _ _ _ t w h hlo ht (by omega)
  rw [if_neg k4, if_neg k4]
  by_cases k5 : r.kind = 5
  · rw [if_pos k5, if_pos k5]
    rw [if_pos (.inr (.inl k5))] at hm
    exact partErr_any ob lo s r _ _ _ _ _ _ _ _ _ _ _ t w h hlo ht (by omega) he2
  rw [if_neg k5, if_neg k5]
  by_cases k6 : r.kind = 6
  · rw [if_pos k6, if_pos k6]
    rw [if_pos (.inr (.inr k6))] at hm
    exact commit_any ob lo s r _ _ _ _ _ _ _ _ _ _ _ t w h hlo ht (by omega)
  rw [if_neg k6, if_neg k6]
  exact end_any ob lo s r _ _ _ _ _ _ _ _ _ _ _ w h hlo
end Go.Proofs.Ytmlemichkeomjaa.LedW
