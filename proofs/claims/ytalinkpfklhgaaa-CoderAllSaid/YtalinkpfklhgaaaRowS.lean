/- Slices of strings that come in; the bound of the second form. -/
import Derived.Test.YtalinkpfklhgaaaRows
import Derived.Test.YtalinkpfklhgaaaRow
import Derived.Test.YtalinkpfklhgaaaStrs
import Derived.Deep.CondSized
set_option linter.unusedVariables false
set_option linter.unusedSimpArgs false
namespace Go.Proofs.Ytalinkpfklhgaaa.RowK
open Go.ChangeShapes Go.WideShapes Go.ChangeAt Go.RowKit Go.Proofs.Ytalinkpfklhgaaa.Base

section
variable {H : Type} {enc : TypeId × Value → H} {P : Program} {W : World} {base : Nat} {spare : Nat → Bool} {held : Bool}
/-- A slice of strings that comes in. -/
theorem open_strs {t e : TypeId} {a : Option Addr} {len cap : Nat} {d : DataW H} {ps : List MemPlace}
    (hu : P.underlying t = some (.slice e)) (he : P.underlying e = some .string) (hc : P.cellsOf e = 1)
    (h : DataW.Trod enc P W base spare held t (.slice a len cap) d ps) : ∃ ss : List ByteArray, Strs W a len ss ∧ len ≤ cap ∧ cap ≤ maxLen ∧ ((d = .nil ∧ ss = []) ∨ ∃ rest, d = .slice (strs ss) rest) := by
  obtain ⟨fuel, hf⟩ := h
  rcases open_strings hu he hc hf with ⟨hcs, hx⟩ | ⟨x, l, c, zs, hcs, _, hl, hm, hz, hx, hcell, hwz⟩
  · simp [Value.cells] at hcs
    obtain ⟨rfl, rfl, rfl⟩ := hcs
    exact ⟨[], Strs.nil _ _, by omega, by simp [maxLen], .inl ⟨congrArg Prod.fst hx, rfl⟩⟩
  · simp [Value.cells] at hcs
    obtain ⟨rfl, rfl, rfl⟩ := hcs
    obtain ⟨hx, _⟩ := Prod.mk.inj hx
    have hl2 : len ≤ zs.length := by
      rw [hz]
      split
      · exact hl
      · exact Nat.le_refl _
    have hlen : (zs.take len).length = len := by simp; omega
    refine ⟨zs.take len, ⟨hlen, ?_⟩, hl, hm, .inr ⟨_, hx⟩⟩
    by_cases h0 : len = 0
    · exact .inl h0
    · have h1 := hcell 0 (by omega)
      obtain ⟨b, off, spot⟩ := x
      have hsp : spot = none := by
        cases spot with
        | none => rfl
        | some q => exact absurd h1 (by simp only [Addr.add, World.cell?]; intro h; split at h <;> simp at h)
      subst hsp
      refine .inr ⟨b, off, rfl, fun j hj => ?_⟩
      have hj2 : j < len := by omega
      have := hcell j (by omega)
      have ha : (⟨b, off, none⟩ : Addr).add j = ⟨b, off + j, none⟩ := by unfold Addr.add; split <;> simp_all
      rw [ha] at this
      rw [this, List.getElem_take]
      simp [List.getD_eq_getElem?_getD, List.getElem?_eq_getElem (show j < zs.length by omega)]
theorem bulk_part {l : List (DataW H)} {j : Nat} {d : DataW H} (h : l[j]? = some d) : Rows.uptoBulk d ≤ Rows.uptoBulkAll l := by
  induction l generalizing j with
  | nil => simp at h
  | cons x r ih =>
    rw [Rows.uptoBulkAll]
    cases j with
    | zero =>
      simp only [List.getElem?_cons_zero, Option.some.injEq] at h
      subst h; omega
    | succ j => have := ih (j := j) (by simpa using h); omega
theorem bulk_of {l : List (DataW H)} (hk : Rows.uptoSmall H l = true) {j : Nat} {d : DataW H} (h : l[j]? = some d) : Rows.uptoBulk d ≤ 1048576 :=
  Nat.le_trans (bulk_part h) (of_decide_eq_true hk)
theorem bulk_strs (ss : List ByteArray) : total ss ≤ Rows.uptoBulkAll (strs (H := H) ss) := by
  induction ss with
  | nil => exact Nat.zero_le _
  | cons s l ih =>
    show s.size + total l ≤ Rows.uptoBulkAll (.lit (.string s.data.toList) :: strs l)
    rw [Rows.uptoBulkAll, Rows.uptoBulk, list_size]
    omega
theorem bulk_many (ss : List ByteArray) : ss.length ≤ Rows.uptoBulkAll (strs (H := H) ss) := by
  induction ss with
  | nil => exact Nat.zero_le _
  | cons s l ih =>
    show l.length + 1 ≤ Rows.uptoBulkAll (.lit (.string s.data.toList) :: strs l)
    rw [Rows.uptoBulkAll, Rows.uptoBulk]
    omega
theorem bulk_count {d : DataW H} {ss : List ByteArray} (h : (d = .nil ∧ ss = []) ∨ ∃ rest, d = .slice (strs ss) rest) (hb : Rows.uptoBulk d ≤ 1048576) : ss.length ≤ 1048576 := by
  rcases h with ⟨rfl, rfl⟩ | ⟨rest, rfl⟩
  · exact Nat.zero_le _
  · rw [Rows.uptoBulk] at hb
    have := bulk_many (H := H) ss
    omega
theorem bulk_total {d : DataW H} {ss : List ByteArray} (h : (d = .nil ∧ ss = []) ∨ ∃ rest, d = .slice (strs ss) rest) (hb : Rows.uptoBulk d ≤ 1048576) : total ss ≤ 1048576 := by
  rcases h with ⟨rfl, rfl⟩ | ⟨rest, rfl⟩
  · exact Nat.zero_le _
  · rw [Rows.uptoBulk] at hb
    have := bulk_strs (H := H) ss
    omega
end
end Go.Proofs.Ytalinkpfklhgaaa.RowK
