/- A journal's records gone through: the iterator, and all of them collected. -/
import Derived.Test.YtdjgdhpncocahaaJrnL
import Derived.RangeFuncBox
import Derived.RangeFuncLeaves
import Derived.RangeFuncNested
import Derived.RangeFuncBound
import Derived.RangeFuncCalls
import Derived.Shelf.Abstract
import Derived.Shelf.RegionOpen
import Derived.OwnWalkIn
import Derived.TacticsInMore
import Derived.LoopNIn
import Derived.LoopIn
import Derived.Maps.AppendAt
set_option linter.unusedVariables false
set_option linter.unusedSimpArgs false
namespace Go.Proofs.Ytdjgdhpncocahaa.JrnI
open Go.RowKit Go.Shelf Go.Proofs.Ytdjgdhpncocahaa.Base Go.Proofs.Ytdjgdhpncocahaa.JrnP Go.Proofs.Ytdjgdhpncocahaa.JrnW
attribute [local go_sem] Oper.semAt_some

/-- What has come when k rounds are over. -/
def upto {α : Type} (f : Nat → α) (k : Nat) : List α := (List.range k).map f
theorem upto_succ {α : Type} (f : Nat → α) (k : Nat) : upto f (k + 1) = upto f k ++ [f k] := by simp [upto, List.range_succ]
theorem upto_length {α : Type} (f : Nat → α) (k : Nat) : (upto f k).length = k := by simp [upto]
abbrev rc (ss : List ByteArray) : Nat → Nat × ByteArray := fun j => (j, ss[j]?.getD (str []))

set_option maxRecDepth 100000 in
set_option maxHeartbeats 2000000 in
theorem recs1_in (F : Fence) (n : Nat) (hf : F.fn 91) (hro : F.round = none) (hn : 1 ≤ n) (l Bs jb n₀ b off len cap : Nat) (ss : List ByteArray) (hreach : len ≤ 1000000000) (hb : b < n₀) (J Jx : List (Nat × ByteArray) → World → Prop)
    (hY : ∀ pre x W, J pre W → pre.length < len → YieldAt F (n - 1) Try.prog l #[.int .i64 (x.1 : Int), .string x.2] W fun e W' =>
      (e = .returned (.bool true) ∧ J (pre ++ [x]) W' ∧ Below n₀ W W') ∨ (e = .returned (.bool false) ∧ Jx (pre ++ [x]) W'))
    (W : World) (hBs : W.cell? ⟨Bs, 0, none⟩ = some (.pointer (some ⟨jb, 0, none⟩))) (hjb : W.cell? ⟨jb, 0, none⟩ = some (.slice (some ⟨b, off, none⟩) len cap)) (hc : ∀ j, j < len → W.cell? ⟨b, off + j, none⟩ = some (.string (ss[j]?.getD (str [])))) (h0 : J [] W) :
    CallsIn F n Try.prog 91 #[.func (.yield l) #[] #[], .pointer (some ⟨Bs, 0, none⟩)] W fun e W' => (∃ v, e = .returned v) ∧
      ((∃ ys, ys = upto (rc ss) len ∧ J ys W') ∨ (∃ pre, (∃ k, k ≤ len ∧ pre = upto (rc ss) k) ∧ Jx pre W')) := by
  refine callsIn_of_wp Try.func91 rfl hf ?_ hro
  simp only [Try.ntmps91, List.size_toArray, List.length_cons, List.length_nil, Nat.reduceAdd, Nat.reduceSub, Array.replicate_succ, Array.replicate_zero, List.push_toArray, List.append_toArray, List.nil_append, List.cons_append]
  gi_wp2
  gi_loopw [12] (fun i wr => ∃ k : Nat, k ≤ len ∧ i = .int .i64 k ∧ J (upto (rc ss) k) wr ∧ Below n₀ W wr) (fun i _ => len - (intOf i).toNat)
  case atStart => exact ⟨0, Nat.zero_le _, rfl, h0, Below.refl _ _⟩
  case round =>
    obtain ⟨k, hk, rfl, hJs, hnx⟩ := hrel
    have hcx : k < len → wr.cell? ⟨b, off + k, none⟩ = some (.string (ss[k]?.getD (str []))) := fun h => (hnx.cell (p := ⟨b, off + k, none⟩) hb).trans (hc k h)
    by_cases hlt : k < len
    · obtain ⟨fn, tmps, assign, body, hy, hR⟩ := hY _ (k, ss[k]?.getD (str [])) wr hJs (by rw [upto_length]; exact hlt)
      dsimp only at hy
      have hcx' := hcx hlt
      clear hcx hc
      gi_wp2
      refine hR.mono ?_
      rintro e W3 (⟨rfl, hJ3, hk3⟩ | ⟨rfl, hJx3⟩)
      · gi_wp2
        go_roundw
        case rel => exact ⟨k + 1, by omega, by simp, by rw [upto_succ]; exact hJ3, hnx.trans hk3⟩
        case measure => simp [intOf]; omega
      · gi_wp2
        refine bodyPost_ret (results_none rfl _ _ _) rfl ?_
        exact ⟨⟨_, rfl⟩, .inr ⟨_, ⟨k + 1, by omega, (upto_succ _ _).symm⟩, hJx3⟩⟩
    · obtain rfl : k = len := by omega
      clear hcx hc
      gi_wp2
      go_end0
      exact ⟨⟨_, rfl⟩, .inl ⟨_, rfl, hJs⟩⟩
set_option maxRecDepth 100000 in
set_option maxHeartbeats 1000000 in
theorem recs1_empty (F : Fence) (n : Nat) (hf : F.fn 91) (hro : F.round = none) (l Bs jb cap : Nat) (a : Option Addr) (J : List (Nat × ByteArray) → World → Prop) (W : World)
    (hBs : W.cell? ⟨Bs, 0, none⟩ = some (.pointer (some ⟨jb, 0, none⟩))) (hjb : W.cell? ⟨jb, 0, none⟩ = some (.slice a 0 cap)) (h0 : J [] W) :
    CallsIn F n Try.prog 91 #[.func (.yield l) #[] #[], .pointer (some ⟨Bs, 0, none⟩)] W fun e W' => (∃ v, e = .returned v) ∧ J [] W' := by
  refine callsIn_of_wp Try.func91 rfl hf ?_ hro
  simp only [Try.ntmps91, List.size_toArray, List.length_cons, List.length_nil, Nat.reduceAdd, Nat.reduceSub, Array.replicate_succ, Array.replicate_zero, List.push_toArray, List.append_toArray, List.nil_append, List.cons_append]
  gi_wp2
  gi_loopw [12] (fun i wr => i = .int .i64 0 ∧ J [] wr) (fun _ _ => 0)
  case atStart => exact ⟨rfl, h0⟩
  case round =>
    obtain ⟨rfl, hJs⟩ := hrel
    gi_wp2
    go_end0
    exact ⟨⟨_, rfl⟩, hJs⟩
set_option maxRecDepth 100000 in
set_option maxHeartbeats 1000000 in
theorem recs1_nil (F : Fence) (n : Nat) (hf : F.fn 91) (hro : F.round = none) (l Bs : Nat) (J : List (Nat × ByteArray) → World → Prop) (W : World)
    (hBs : W.cell? ⟨Bs, 0, none⟩ = some (.pointer none)) (h0 : J [] W) :
    CallsIn F n Try.prog 91 #[.func (.yield l) #[] #[], .pointer (some ⟨Bs, 0, none⟩)] W fun e W' => (∃ v, e = .returned v) ∧ J [] W' := by
  refine callsIn_of_wp Try.func91 rfl hf ?_ hro
  simp only [Try.ntmps91, List.size_toArray, List.length_cons, List.length_nil, Nat.reduceAdd, Nat.reduceSub, Array.replicate_succ, Array.replicate_zero, List.push_toArray, List.append_toArray, List.nil_append, List.cons_append]
  gi_wp2
  refine bodyPost_ret (results_none rfl _ _ _) rfl ?_
  exact ⟨⟨_, rfl⟩, h0⟩
set_option maxRecDepth 100000 in
set_option maxHeartbeats 1000000 in
theorem records_in (F : Fence) (n : Nat) (hf : F.fn 82) (hro : F.round = none) (p : Option Addr) (w : World) :
    CallsIn F n Try.prog 82 #[.pointer p] w fun e w' => e = .returned (.func (.func 91) #[] #[.pointer (some ⟨w.heap.size, 0, none⟩)]) ∧ w' = w.alloc (.cells #[.pointer p] 76) := by
  refine callsIn_of_wp Try.func82 rfl hf ?_ hro
  simp only [Try.ntmps82, List.size_toArray, List.length_cons, List.length_nil, Nat.reduceAdd, Nat.reduceSub, Array.replicate_succ, Array.replicate_zero, List.push_toArray, List.append_toArray, List.nil_append, List.cons_append]
  gi_wp2
  go_ret
  exact ⟨rfl, rfl⟩

/-- What a journal's pointer stands for: nil, or a journal in a block below n₀. -/
def Recs (n₀ : Nat) (W : World) (p : Option Addr) (ss : List ByteArray) : Prop :=
  (p = none ∧ ss = []) ∨ ∃ jb a cap, p = some ⟨jb, 0, none⟩ ∧ jb < n₀ ∧ W.cell? ⟨jb, 0, none⟩ = some (.slice a ss.length cap) ∧ (ss = [] ∨ ∃ b off, a = some ⟨b, off, none⟩ ∧ b < n₀ ∧ ∀ j, j < ss.length → W.cell? ⟨b, off + j, none⟩ = some (.string (ss[j]?.getD (str []))))
theorem Recs.below {n₀ : Nat} {A B : World} (h : Below n₀ A B) {p : Option Addr} {ss : List ByteArray} : Recs n₀ A p ss → Recs n₀ B p ss
  | .inl e => .inl e
  | .inr ⟨jb, a, cap, e, hj, hc, .inl h0⟩ => .inr ⟨jb, a, cap, e, hj, (h.cell (p := ⟨jb, 0, none⟩) hj).trans hc, .inl h0⟩
  | .inr ⟨jb, a, cap, e, hj, hc, .inr ⟨b, off, ha, hb, hcs⟩⟩ => .inr ⟨jb, a, cap, e, hj, (h.cell (p := ⟨jb, 0, none⟩) hj).trans hc, .inr ⟨b, off, ha, hb, fun j hj => (h.cell (p := ⟨b, off + j, none⟩) hb).trans (hcs j hj)⟩⟩
theorem Recs.of_jat {w : World} {base b : Nat} {ss : List ByteArray} (h : JAt w base b ss) : Recs w.heap.size w (some ⟨b, 0, none⟩) ss := by
  obtain ⟨A, c, hb, hc, hS⟩ := h.row
  refine .inr ⟨b, A, c, rfl, h.lt, hc, ?_⟩
  rcases hS.at_ with h0 | ⟨g, off, rfl, hcs⟩
  · exact .inl (List.eq_nil_of_length_eq_zero h0)
  · by_cases h0 : ss.length = 0
    · exact .inl (List.eq_nil_of_length_eq_zero h0)
    · refine .inr ⟨g, off, rfl, World.block_lt_of_cell? w _ (hcs 0 (by omega)), fun j hj => ?_⟩
      rw [hcs j hj]
      simp [hj]
theorem records_stops (F : Fence) (n : Nat) (hf : F.fn 91) (hro : F.round = none) (hn : 1 ≤ n) (Bs n₀ : Nat) (p : Option Addr) (ss : List ByteArray) (hreach : ss.length ≤ 1000000000) (w : World) (hBs : Bs < w.heap.size) (hn₀ : n₀ ≤ w.heap.size)
    (hc : w.cell? ⟨Bs, 0, none⟩ = some (.pointer p)) (hI : Recs n₀ w p ss) :
    SeqStopsK F n Try.prog 91 #[.pointer (some ⟨Bs, 0, none⟩)] (fun x : Nat × ByteArray => #[Value.int .i64 (x.1 : Int), Value.string x.2]) (Below n₀) (fun ys => ys = upto (rc ss) ss.length)
      (fun pre => ∃ k, k ≤ ss.length ∧ pre = upto (rc ss) k) ss.length w := fun l J Jx W hW _ _ hY h0 => by
  have hc' := (hW.cell (p := ⟨Bs, 0, none⟩) hBs).trans hc
  rcases hI.below (hW.mono hn₀) with ⟨rfl, rfl⟩ | ⟨jb, a, cap, rfl, hj, hjc, h⟩
  · exact (recs1_nil F n hf hro l Bs J W hc' h0).mono fun e W' ⟨he, hj⟩ => ⟨he, .inl ⟨_, rfl, hj⟩⟩
  · rcases h with rfl | ⟨b, off, rfl, hb, hcs⟩
    · exact (recs1_empty F n hf hro l Bs jb cap a J W hc' hjc h0).mono fun e W' ⟨he, hj⟩ => ⟨he, .inl ⟨_, rfl, hj⟩⟩
    · exact recs1_in F n hf hro hn l Bs jb n₀ b off ss.length cap ss hreach hb J Jx hY W hc' hjc hcs h0
end Go.Proofs.Ytdjgdhpncocahaa.JrnI
