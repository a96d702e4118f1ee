/- A set of whole numbers of one's own: a map from numbers to bools. -/
import Derived.Test.YtalinkpfklhgaaaCodMake
import Derived.Maps.Views
import Derived.Maps.OwnSet
set_option linter.unusedVariables false
set_option linter.unusedSimpArgs false
namespace Go.Proofs.Ytalinkpfklhgaaa.CodW
open Go.RowKit Go.Proofs.Ytalinkpfklhgaaa.Base Go.Proofs.Ytalinkpfklhgaaa.GfP Go.Proofs.Ytalinkpfklhgaaa.GfW Go.Proofs.Ytalinkpfklhgaaa.Lin Go.Proofs.Ytalinkpfklhgaaa.RowsW Go.Proofs.Ytalinkpfklhgaaa.CodP

theorem int_key : Maps.Keyed Try.prog 3 := Maps.int_keyed Try.underlying3
theorem zero_bool (w : World) : (zeroValue 4).run Try.prog w = .ok (.bool false) w := by kernel_rfl
theorem plain_bool_inv {P : Program} {e : TypeId} (he : P.underlying e = some .bool) {v : Value} {z : DataW Unit × List MemPlace} (h : plainElem P e v = some z) : ∃ c, v = .bool c ∧ z = (.lit (.bool c), []) := by
  unfold plainElem at h
  rw [he] at h
  cases v <;> simp at h
  case bool x => exact ⟨x, rfl, h.symm⟩
/-- The block b holds the numbers l. -/
def MetAt (w : World) (b n : Nat) (l : List Int) : Prop :=
  ∃ D : DataW Unit, w.ownsMap Try.prog 3 (plainElem Try.prog 4) b n D ∧ Maps.IsMap D ∧ ∀ x : Int, (Lit.int .i64 x).wf = true → D.atKey (.int .i64 x) (.lit (.bool false)) = .lit (.bool (decide (x ∈ l)))
theorem MetAt.start (w : World) : MetAt (w.alloc (.map #[] 0)) w.heap.size 0 [] :=
  ⟨.map [], World.ownsMap_made w _ _ _, Maps.isMap_empty, fun x _ => by simp [DataW.atKey]⟩
theorem MetAt.below {w w' : World} {b n : Nat} {l : List Int} (h : MetAt w b n l) (hb : Below w.heap.size w w') : MetAt w' b n l := by
  obtain ⟨D, h1, h2, h3⟩ := h
  exact ⟨D, h1.kept (row := none) ⟨hb.os, hb.tape, hb.output, hb.size, fun k hk _ => hb.block k hk⟩ (by simp), h2, h3⟩
theorem MetAt.lt {w : World} {b n : Nat} {l : List Int} (h : MetAt w b n l) : b < w.heap.size := by
  obtain ⟨D, h1, _⟩ := h
  exact h1.lt
theorem wf_i64 {x : Int} (h : -9223372036854775808 ≤ x ∧ x ≤ 9223372036854775807) : (Lit.int .i64 x).wf = true := by
  have h1 : IntKind.i64.min = -9223372036854775808 := rfl
  have h2 : IntKind.i64.max = 9223372036854775807 := rfl
  simp [Lit.wf, h1, h2]
  omega
theorem MetAt.look {w : World} {b n : Nat} {l : List Int} (h : MetAt w b n l) (x : Int) (hx : (Lit.int .i64 x).wf = true) : (Instr.lookup 103 (.map (some b)) (.int .i64 x) false).run Try.prog w = .ok (.bool (decide (x ∈ l))) w := by
  obtain ⟨D, h1, h2, h3⟩ := h
  obtain ⟨v, ps, hrun, hv⟩ := h1.lookup int_key Try.underlying103 (zero_bool w) (plainElem_bool Try.underlying4 false) (Maps.keyOf_int_mk Try.underlying3 hx)
  rw [h3 x hx] at hv
  obtain ⟨c, rfl, hc⟩ := plain_bool_inv Try.underlying4 hv
  simp only [Prod.mk.injEq, DataW.lit.injEq, Lit.bool.injEq] at hc
  rw [hrun, ← hc.1]
theorem MetAt.put {w : World} {b n : Nat} {l : List Int} (h : MetAt w b n l) (x : Int) (hx : (Lit.int .i64 x).wf = true) (hn : n < maxLen) : ∃ w', (Instr.mapUpdate 103 (.map (some b)) (.int .i64 x) (.bool true)).run Try.prog w = .ok () w' ∧ MetAt w' b (n + 1) (l ++ [x]) ∧ w.grownBy w' (some b) := by
  obtain ⟨D, h1, h2, h3⟩ := h
  obtain ⟨w', hrun, h4, h5⟩ := h1.update int_key Try.underlying103 hn (Maps.keyOf_int_mk Try.underlying3 hx) (plainElem_bool Try.underlying4 true)
  refine ⟨w', hrun, ⟨_, h4, h2.put _ _, fun y hy => ?_⟩, h5⟩
  by_cases e : y = x
  · subst e
    rw [Maps.atKey_put_same h2 (by trivial)]
    simp
  · rw [Maps.atKey_put_other (fun e' => e (by simpa using e')), h3 y hy]
    simp [e]
end Go.Proofs.Ytalinkpfklhgaaa.CodW
