/- Slices of pieces (a number, a text) that come in. -/
import Derived.Test.YtalinkpfklhgaaaRowM
import Derived.Test.YtalinkpfklhgaaaCodMay
import Derived.Deep.SlicePairs
set_option linter.unusedVariables false
set_option linter.unusedSimpArgs false
namespace Go.Proofs.Ytalinkpfklhgaaa.RowK
open Go.ChangeShapes Go.WideShapes Go.ChangeAt Go.RowKit Go.Proofs.Ytalinkpfklhgaaa.Base

section
variable {H : Type} {enc : TypeId × Value → H} {P : Program} {W : World} {base : Nat} {held : Bool}
theorem open_pieces {t e : TypeId} {f0 f1 : Field} {spare : Nat → Bool} {a : Option Addr} {len cap : Nat} {d : DataW H} {ps : List MemPlace}
    (hu : P.underlying t = some (.slice e)) (he : P.underlying e = some (.struct #[f0, f1])) (ce : P.cellsOf e = 2) (o0 : f0.offset = 0) (o1 : f1.offset = 1) (c0 : P.cellsOf f0.type = 1) (c1 : P.cellsOf f1.type = 1)
    (u0 : P.underlying f0.type = some (.int .i64)) (u1 : P.underlying f1.type = some .string)
    (h : DataW.Trod enc P W base spare held t (.slice a len cap) d ps) : ∃ l : List (Int × ByteArray), CodW.Pieces W a l ∧ l.length = len ∧ len ≤ cap ∧ cap ≤ maxLen := by
  obtain ⟨fuel, hf⟩ := h
  rcases Go.Deep.open_slice_pairs hu he ce o0 o1 c0 c1 hf with ⟨hcs, _⟩ | ⟨x, ln, cp, m, n, V0, V1, D0, D1, P0, P1, hcs, _, hl, hm, hmm, _, hr⟩
  · simp [Value.cells] at hcs
    obtain ⟨rfl, rfl, rfl⟩ := hcs
    exact ⟨[], CodW.Pieces.nil _ _, rfl, by omega, by simp [maxLen]⟩
  · simp [Value.cells] at hcs
    obtain ⟨rfl, rfl, rfl⟩ := hcs
    have hlm : len ≤ m := by rw [hmm]; split <;> omega
    have each : ∀ i, ∃ q : Int × ByteArray, i < len → W.cell? (x.add (i * 2)) = some (.int .i64 q.1) ∧ W.cell? (x.add (i * 2 + 1)) = some (.string q.2) ∧ -9223372036854775808 ≤ q.1 ∧ q.1 ≤ 9223372036854775807 := by
      intro i
      by_cases hi : i < len
      · obtain ⟨h1, h2, h3, h4⟩ := hr i (by omega)
        obtain ⟨z, e1, _, e2⟩ := DataW.trod_int u0 h3
        obtain ⟨s, e3, _, _⟩ := DataW.trod_string u1 h4
        have e5 : V0 i = .int .i64 z := by simpa using e1
        have e6 : V1 i = .string s := by simpa using e3
        have := i64_of e2
        exact ⟨(z, s), fun _ => ⟨e5 ▸ h1, e6 ▸ h2, this.1, this.2⟩⟩
      · exact ⟨(0, ByteArray.empty), fun h => absurd h hi⟩
    obtain ⟨q, hq⟩ := Classical.axiomOfChoice each
    refine ⟨(List.range len).map q, ⟨fun y hy => ?_, ?_⟩, by simp, hl, hm⟩
    · obtain ⟨i, hi, rfl⟩ := List.mem_map.1 hy
      exact (hq i (List.mem_range.1 hi)).2.2
    · by_cases h0 : len = 0
      · subst h0; exact .inl rfl
      · have h1 := (hq 0 (by omega)).1
        rw [Nat.zero_mul] at h1
        obtain ⟨b, off, rfl⟩ := spot_none h1
        refine .inr ⟨b, off, rfl, fun j hj => ?_⟩
        have hj2 : j < len := by simpa using hj
        obtain ⟨h1, h2, _⟩ := hq j hj2
        rw [add_none] at h1 h2
        have e : ((List.range len).map q)[j] = q j := by simp
        rw [e]
        exact ⟨h1, by rw [← Nat.add_assoc] at h2; exact h2⟩
end
end Go.Proofs.Ytalinkpfklhgaaa.RowK
