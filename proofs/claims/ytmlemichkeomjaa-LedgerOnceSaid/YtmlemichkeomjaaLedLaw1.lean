/- What a ledger's record does: plain laws for the statements. -/
import Derived.Test.YtmlemichkeomjaaLedP
set_option linter.unusedVariables false
set_option linter.unusedSimpArgs false
namespace Go.Proofs.Ytmlemichkeomjaa.LedP
open Go.Proofs.Ytmlemichkeomjaa.ManP Go.Proofs.Ytmlemichkeomjaa.MendW
/-- Behind an end the epoch alone turns. -/
theorem ends_law {s : LS} (r : LR) (h : s.fin ≠ 0) : ∃ (e : Int) (n : Nat), applyP s r = ({ s with ep := e }, n) ∧ s.ep ≤ e ∧ (n = 0 → r.kind = 0) := by
  unfold applyP
  split
  · exact ⟨s.ep, 1, rfl, by omega, fun h => absurd h (by decide)⟩
  · split
    · rename_i hk
      split
      · exact ⟨s.ep, 17, rfl, by omega, fun _ => hk⟩
      · exact ⟨r.n, 0, rfl, by omega, fun _ => hk⟩
    · exact ⟨s.ep, 19, rfl, by omega, fun h => absurd h (by decide)⟩
/-- An end that failed. -/
theorem fin_law {s : LS} {e : Int} (he : 1 ≤ e ∧ e ≤ 200) (t : ByteArray) (m : Man) (h : s.fin = 0) : ((applyP s ⟨7, 2, e, t, m⟩).2 = 0 ∧ (applyP s ⟨7, 2, e, t, m⟩).1.fin ≠ 0) ∨ (applyP s ⟨7, 2, e, t, m⟩).2 = 19 := by
  have hb : ¬ badR ⟨7, 2, e, t, m⟩ := by unfold badR; dsimp only; omega
  have hm : methP s ⟨7, 2, e, t, m⟩ = endP s ⟨7, 2, e, t, m⟩ := rfl
  have ha : applyP s ⟨7, 2, e, t, m⟩ = endP s ⟨7, 2, e, t, m⟩ := by
    unfold applyP
    rw [if_neg hb, if_neg (show ¬ (7 : Int) = 0 from by decide), if_neg (by omega), if_neg (fun hc => absurd hc.1 (show ¬ ((0 : Int) ≤ -1) from by decide)), hm]
  rw [ha]
  unfold endP
  dsimp only
  rw [if_neg (by rintro (h | h | h) <;> first | omega | exact h ⟨fun h => by omega, fun h => by omega⟩)]
  by_cases hc : true ∈ s.com
  · rw [if_pos (.inr ⟨by decide, hc⟩)]
    exact .inr rfl
  · rw [if_neg (by rintro (h | h) <;> first | exact absurd h.1 (by decide) | exact hc h.2)]
    exact .inl ⟨rfl, show (2 : Int) ≠ 0 from by decide⟩
/-- What a record that is refused leaves. -/
theorem applyP_no {s : LS} {r : LR} (h : (applyP s r).2 ≠ 0) : (applyP s r).1 = s := by
  unfold applyP at h ⊢
  split at h
  · rw [if_pos ‹_›]
  · rw [if_neg ‹_›]
    split at h
    · rw [if_pos ‹_›]
      split at h
      · rw [if_pos ‹_›]
      · exact absurd rfl h
    · rw [if_neg ‹_›]
      split at h
      · rw [if_pos ‹_›]
      · rw [if_neg ‹_›]
        split at h
        · rw [if_pos ‹_›]
        · rw [if_neg ‹_›]
          unfold methP at h ⊢
          split at h
          · rw [if_pos ‹_›]
            unfold doneP at h ⊢
            split at h
            · rw [if_pos ‹_›]
            · rw [if_neg ‹_›]; split at h
              · rw [if_pos ‹_›]
              · exact absurd rfl h
          · rw [if_neg ‹_›]
            split at h
            · rw [if_pos ‹_›]
              unfold taskErrP at h ⊢
              split at h
              · rw [if_pos ‹_›]
              · rw [if_neg ‹_›]; split at h
                · rw [if_pos ‹_›]
                · exact absurd rfl h
            · rw [if_neg ‹_›]
              split at h
              · rw [if_pos ‹_›]
                unfold lostP at h ⊢
                split at h
                · rw [if_pos ‹_›]
                · exact absurd rfl h
              · rw [if_neg ‹_›]
                split at h
                · rw [if_pos ‹_›]
                  unfold resultP at h ⊢
                  split at h
                  · rw [if_pos ‹_›]
                  · rw [if_neg ‹_›]; split at h
                    · rw [if_pos ‹_›]
                    · exact absurd rfl h
                · rw [if_neg ‹_›]
                  split at h
                  · rw [if_pos ‹_›]
                    unfold partErrP at h ⊢
                    split at h
                    · rw [if_pos ‹_›]
                    · rw [if_neg ‹_›]; split at h
                      · rw [if_pos ‹_›]
                      · exact absurd rfl h
                  · rw [if_neg ‹_›]
                    split at h
                    · rw [if_pos ‹_›]
                      unfold commitP at h ⊢
                      split at h
                      · rw [if_pos ‹_›]
                      · rw [if_neg ‹_›]; split at h
                        · rw [if_pos ‹_›]
                        · exact absurd rfl h
                    · rw [if_neg ‹_›]
                      unfold endP at h ⊢
                      split at h
                      · rw [if_pos ‹_›]
                      · rw [if_neg ‹_›]; split at h
                        · rw [if_pos ‹_›]
                        · exact absurd rfl h
end Go.Proofs.Ytmlemichkeomjaa.LedP
