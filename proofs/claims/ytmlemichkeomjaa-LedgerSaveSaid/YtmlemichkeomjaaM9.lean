/- Texts of this claim in one. -/
import Derived.Test.YtmlemichkeomjaaLedP
/- What a ledger's record does: plain laws for the statements. -/
set_option linter.unusedVariables false
set_option linter.unusedSimpArgs false
namespace Go.Proofs.Ytmlemichkeomjaa.LedP
open Go.Proofs.Ytmlemichkeomjaa.ManP Go.Proofs.Ytmlemichkeomjaa.MendW
/-- Behind an end the epoch alone turns. -/
theorem ends_law {s : LS} (r : LR) (h : s.fin ≠ 0) : ∃ (e : Int) (n : Nat), applyP s r = ({ s with ep := e }, n) ∧ s.ep ≤ e ∧ (n = 0 → r.kind = 0) := by
  unfold applyP
  split
  · exact ⟨s.ep, 1, rfl, by omega, fun h => absurd h (by decide)⟩
  · split
    · rename_i hk
      split
      · exact ⟨s.ep, 17, rfl, by omega, fun _ => hk⟩
      · exact ⟨r.n, 0, rfl, by omega, fun _ => hk⟩
    · exact ⟨s.ep, 19, rfl, by omega, fun h => absurd h (by decide)⟩
/-- An end that failed. -/
theorem fin_law {s : LS} {e : Int} (he : 1 ≤ e ∧ e ≤ 200) (t : ByteArray) (m : Man) (h : s.fin = 0) : ((applyP s ⟨7, 2, e, t, m⟩).2 = 0 ∧ (applyP s ⟨7, 2, e, t, m⟩).1.fin ≠ 0) ∨ (applyP s ⟨7, 2, e, t, m⟩).2 = 19 := by
  have hb : ¬ badR ⟨7, 2, e, t, m⟩ := by unfold badR; dsimp only; omega
  have hm : methP s ⟨7, 2, e, t, m⟩ = endP s ⟨7, 2, e, t, m⟩ := rfl
  have ha : applyP s ⟨7, 2, e, t, m⟩ = endP s ⟨7, 2, e, t, m⟩ := by
    unfold applyP
    rw [if_neg hb, if_neg (show ¬ (7 : Int) = 0 from by decide), if_neg (by omega), if_neg (fun hc => absurd hc.1 (show ¬ ((0 : Int) ≤ -1) from by decide)), hm]
  rw [ha]
  unfold endP
  dsimp only
  rw [if_neg (by rintro (h | h | h) <;> first | omega | exact h ⟨fun h => by omega, fun h => by omega⟩)]
  by_cases hc : true ∈ s.com
  · rw [if_pos (.inr ⟨by decide, hc⟩)]
    exact .inr rfl
  · rw [if_neg (by rintro (h | h) <;> first | exact absurd h.1 (by decide) | exact hc h.2)]
    exact .inl ⟨rfl, show (2 : Int) ≠ 0 from by decide⟩
/-- What a record that is refused leaves. -/
theorem applyP_no {s : LS} {r : LR} (h : (applyP s r).2 ≠ 0) : (applyP s r).1 = s := by
  unfold applyP at h ⊢
  split at h
  · rw [if_pos ‹_›]
  · rw [if_neg ‹_›]
    split at h
    · rw [if_pos ‹_›]
      split at h
      · rw [if_pos ‹_›]
      · exact absurd rfl h
    · rw [if_neg ‹_›]
      split at h
      · rw [if_pos ‹_›]
      · rw [if_neg ‹_›]
        split at h
        · rw [if_pos ‹_›]
        · rw [if_neg ‹_›]
          unfold methP at h ⊢
          split at h
          · rw [if_pos ‹_›]
            unfold doneP at h ⊢
            split at h
            · rw [if_pos ‹_›]
            · rw [if_neg ‹_›]; split at h
              · rw [if_pos ‹_›]
              · exact absurd rfl h
          · rw [if_neg ‹_›]
            split at h
            · rw [if_pos ‹_›]
              unfold taskErrP at h ⊢
              split at h
              · rw [if_pos ‹_›]
              · rw [if_neg ‹_›]; split at h
                · rw [if_pos ‹_›]
                · exact absurd rfl h
            · rw [if_neg ‹_›]
              split at h
              · rw [if_pos ‹_›]
                unfold lostP at h ⊢
                split at h
                · rw [if_pos ‹_›]
                · exact absurd rfl h
              · rw [if_neg ‹_›]
                split at h
                · rw [if_pos ‹_›]
                  unfold resultP at h ⊢
                  split at h
                  · rw [if_pos ‹_›]
                  · rw [if_neg ‹_›]; split at h
                    · rw [if_pos ‹_›]
                    · exact absurd rfl h
                · rw [if_neg ‹_›]
                  split at h
                  · rw [if_pos ‹_›]
                    unfold partErrP at h ⊢
                    split at h
                    · rw [if_pos ‹_›]
                    · rw [if_neg ‹_›]; split at h
                      · rw [if_pos ‹_›]
                      · exact absurd rfl h
                  · rw [if_neg ‹_›]
                    split at h
                    · rw [if_pos ‹_›]
                      unfold commitP at h ⊢
                      split at h
                      · rw [if_pos ‹_›]
                      · rw [if_neg ‹_›]; split at h
                        · rw [if_pos ‹_›]
                        · exact absurd rfl h
                    · rw [if_neg ‹_›]
                      unfold endP at h ⊢
                      split at h
                      · rw [if_pos ‹_›]
                      · rw [if_neg ‹_›]; split at h
                        · rw [if_pos ‹_›]
                        · exact absurd rfl h
end Go.Proofs.Ytmlemichkeomjaa.LedP

/- Commits come once: plain. -/
set_option linter.unusedVariables false
set_option linter.unusedSimpArgs false
namespace Go.Proofs.Ytmlemichkeomjaa.LedP
open Go.Proofs.Ytmlemichkeomjaa.ManP Go.Proofs.Ytmlemichkeomjaa.MendW
/-- What a record that goes through does to the parts. -/
theorem apply_parts {s : LS} {r : LR} (h : (applyP s r).2 = 0) :
    ((applyP s r).1.has = s.has ∧ (applyP s r).1.res = s.res ∧ (applyP s r).1.com = s.com ∧ (applyP s r).1.fin = s.fin ∧ r.kind ≠ 6) ∨
    (r.kind ≠ 6 ∧ 0 ≤ r.n ∧ r.n < s.has.length ∧ s.has.getD r.n.toNat false = false ∧ applyP s r = ({ s with has := s.has.set r.n.toNat true, res := s.res.set r.n.toNat r.text }, 0)) ∨
    (r.kind = 6 ∧ 0 ≤ r.n ∧ r.n < s.has.length ∧ false ∉ s.has ∧ s.com.getD r.n.toNat false = false ∧ s.fin = 0 ∧ applyP s r = ({ s with com := s.com.set r.n.toNat true }, 0)) ∨
    (r.kind ≠ 6 ∧ applyP s r = ({ s with fin := r.n, er := r.e }, 0) ∧ (r.n = 1 ∨ true ∉ s.com)) := by
  unfold applyP at h ⊢
  split at h
  · exact absurd h (show ¬ (1 : Nat) = 0 from by decide)
  · rename_i hb
    rw [if_neg hb]
    have hn : 0 ≤ r.n := by
      have h2 : ¬ r.n < 0 := fun h3 => hb (.inr (.inr (.inr (.inr (.inl h3)))))
      omega
    split at h
    · rename_i hk
      rw [if_pos hk]
      split at h
      · exact absurd h (show ¬ (17 : Nat) = 0 from by decide)
      · rename_i he
        rw [if_neg he]
        exact .inl ⟨rfl, rfl, rfl, rfl, by omega⟩
    · rename_i hk
      rw [if_neg hk]
      split at h
      · exact absurd h (show ¬ (19 : Nat) = 0 from by decide)
      · rename_i hf
        rw [if_neg hf]
        split at h
        · exact absurd h (show ¬ (1 : Nat) = 0 from by decide)
        · rename_i hm
          rw [if_neg hm]
          have hm2 : (r.kind = 4 ∨ r.kind = 5 ∨ r.kind = 6) → r.n < s.has.length := fun h4 => by
            have e : mostP s r = s.has.length := by unfold mostP; rw [if_neg (by omega), if_pos h4]
            rw [e] at hm
            omega
          have hf0 : s.fin = 0 := by omega
          unfold methP at h ⊢
          by_cases k1 : r.kind = 1
          · rw [if_pos k1] at h ⊢
            left
            unfold doneP at h ⊢
            split at h
            · rw [if_pos ‹_›]; exact ⟨rfl, rfl, rfl, rfl, by omega⟩
            · rw [if_neg ‹_›]; split at h
              · rw [if_pos ‹_›]; exact ⟨rfl, rfl, rfl, rfl, by omega⟩
              · rw [if_neg ‹_›]; exact ⟨rfl, rfl, rfl, rfl, by omega⟩
          rw [if_neg k1] at h ⊢
          by_cases k2 : r.kind = 2
          · rw [if_pos k2] at h ⊢
            left
            unfold taskErrP at h ⊢
            split at h
            · rw [if_pos ‹_›]; exact ⟨rfl, rfl, rfl, rfl, by omega⟩
            · rw [if_neg ‹_›]; split at h
              · rw [if_pos ‹_›]; exact ⟨rfl, rfl, rfl, rfl, by omega⟩
              · rw [if_neg ‹_›]; exact ⟨rfl, rfl, rfl, rfl, by omega⟩
          rw [if_neg k2] at h ⊢
          by_cases k3 : r.kind = 3
          · rw [if_pos k3] at h ⊢
            left
            unfold lostP at h ⊢
            split at h
            · rw [if_pos ‹_›]; exact ⟨rfl, rfl, rfl, rfl, by omega⟩
            · rw [if_neg ‹_›]; exact ⟨rfl, rfl, rfl, rfl, by omega⟩
          rw [if_neg k3] at h ⊢
          by_cases k4 : r.kind = 4
          · rw [if_pos k4] at h ⊢
            right; left
            unfold resultP at h ⊢
            split at h
            · exact absurd h (show ¬ (3 : Nat) = 0 from by decide)
            · rw [if_neg ‹_›]; split at h
              · exact absurd h (show ¬ (18 : Nat) = 0 from by decide)
              · rename_i hc
                rw [if_neg hc]
                refine ⟨by omega, hn, hm2 (.inl k4), ?_, rfl⟩
                cases hh : s.has.getD r.n.toNat false
                · rfl
                · exact absurd (.inl hh) hc
          rw [if_neg k4] at h ⊢
          by_cases k5 : r.kind = 5
          · rw [if_pos k5] at h ⊢
            left
            unfold partErrP at h ⊢
            split at h
            · rw [if_pos ‹_›]; exact ⟨rfl, rfl, rfl, rfl, by omega⟩
            · rw [if_neg ‹_›]; split at h
              · rw [if_pos ‹_›]; exact ⟨rfl, rfl, rfl, rfl, by omega⟩
              · rw [if_neg ‹_›]; exact ⟨rfl, rfl, rfl, rfl, by omega⟩
          rw [if_neg k5] at h ⊢
          by_cases k6 : r.kind = 6
          · rw [if_pos k6] at h ⊢
            right; right; left
            unfold commitP at h ⊢
            split at h
            · exact absurd h (show ¬ (19 : Nat) = 0 from by decide)
            · rename_i hfh
              rw [if_neg hfh]; split at h
              · exact absurd h (show ¬ (18 : Nat) = 0 from by decide)
              · rename_i hc
                rw [if_neg hc]
                refine ⟨k6, hn, hm2 (.inr (.inr k6)), hfh, ?_, hf0, rfl⟩
                cases hh : s.com.getD r.n.toNat false
                · rfl
                · exact absurd hh hc
          rw [if_neg k6] at h ⊢
          right; right; right
          unfold endP at h ⊢
          split at h
          · exact absurd h (show ¬ (1 : Nat) = 0 from by decide)
          · rename_i hx
            rw [if_neg hx]; split at h
            · exact absurd h (show ¬ (19 : Nat) = 0 from by decide)
            · rename_i hc
              rw [if_neg hc]
              refine ⟨k6, rfl, ?_⟩
              by_cases h1 : r.n = 1
              · exact .inl h1
              · exact .inr fun ht => hc (.inr ⟨h1, ht⟩)
/-- Commits, counted. -/
structure Onc (s : LS) (cs : List Int) : Prop where
  len : cs.length = s.has.length
  lc : s.com.length = s.has.length
  lr : s.res.length = s.has.length
  cnt : ∀ p, p < s.has.length → (cs.getD p 0 = 0 ∧ s.com.getD p false = false) ∨ (cs.getD p 0 = 1 ∧ s.com.getD p false = true)
  all : ∀ p, p < s.has.length → s.com.getD p false = true → (∀ q, q < s.has.length → s.has.getD q false = true) ∧ s.fin ≤ 1
theorem getD_set_self {α : Type} (l : List α) (i : Nat) (x d : α) (h : i < l.length) : (l.set i x).getD i d = x := by simp [List.getD_eq_getElem?_getD, h]
theorem getD_set_ne' {α : Type} (l : List α) {i j : Nat} (x d : α) (h : i ≠ j) : (l.set i x).getD j d = l.getD j d := by simp [List.getD_eq_getElem?_getD, List.getElem?_set_ne h]
theorem getD_false_mem {l : List Bool} (h : false ∉ l) {q : Nat} (hq : q < l.length) : l.getD q false = true := by
  cases hh : l.getD q false
  · exfalso
    apply h
    rw [List.getD_eq_getElem?_getD, List.getElem?_eq_getElem hq, Option.getD_some] at hh
    rw [← hh]
    exact List.getElem_mem hq
  · rfl
theorem getD_true_mem {l : List Bool} {q : Nat} (h : l.getD q false = true) : true ∈ l := by
  rcases Nat.lt_or_ge q l.length with h1 | h1
  · rw [List.getD_eq_getElem?_getD, List.getElem?_eq_getElem h1, Option.getD_some] at h
    rw [← h]
    exact List.getElem_mem h1
  · rw [List.getD_eq_getElem?_getD, List.getElem?_eq_none h1, Option.getD_none] at h
    cases h
open Classical in
noncomputable def bump (s : LS) (r : LR) (cs : List Int) : List Int := if (applyP s r).2 = 0 ∧ r.kind = 6 then cs.set r.n.toNat (cs.getD r.n.toNat 0 + 1) else cs
theorem once_law {s : LS} {cs : List Int} (r : LR) (h : Onc s cs) :
    Onc (applyP s r).1 (bump s r cs) ∧ (applyP s r).1.has.length = s.has.length ∧ (∀ p, p < s.has.length → s.com.getD p false = true → (applyP s r).1.com.getD p false = true ∧ (applyP s r).1.res.getD p ByteArray.empty = s.res.getD p ByteArray.empty) ∧
      ((applyP s r).2 = 0 ∧ r.kind = 6 → 0 ≤ r.n ∧ r.n < s.has.length) := by
  by_cases h0 : (applyP s r).2 = 0
  · rcases apply_parts h0 with ⟨e1, e2, e3, e4, e5⟩ | ⟨e5, hn, hl, hh, e⟩ | ⟨e6, hn, hl, hf, hc, hz, e⟩ | ⟨e5, e, hx⟩
    · have hb : bump s r cs = cs := by unfold bump; rw [if_neg (fun h => e5 h.2)]
      rw [hb, e1, e2, e3]
      refine ⟨⟨by rw [e1]; exact h.len, by rw [e1, e3]; exact h.lc, by rw [e1, e2]; exact h.lr, by rw [e1, e3]; exact h.cnt, by rw [e1, e3, e4]; exact h.all⟩, rfl, fun p hp hc => ⟨hc, rfl⟩, fun h => absurd h.2 e5⟩
    · have hb : bump s r cs = cs := by unfold bump; rw [if_neg (fun h => e5 h.2)]
      have hnl : r.n.toNat < s.has.length := by omega
      have hnone : ∀ p, p < s.has.length → s.com.getD p false = true → False := fun p hp hc => by
        have := (h.all p hp hc).1 _ hnl
        rw [hh] at this
        cases this
      rw [hb, e]
      refine ⟨⟨by simpa using h.len, by simpa using h.lc, by simpa using h.lr, fun p hp => h.cnt p (by simpa using hp), fun p hp hc => absurd hc (fun hc => hnone p (by simpa using hp) hc)⟩, by simp, fun p hp hc => absurd hc (fun hc => hnone p hp hc), fun h => absurd h.2 e5⟩
    · have hb : bump s r cs = cs.set r.n.toNat (cs.getD r.n.toNat 0 + 1) := by unfold bump; rw [if_pos ⟨h0, e6⟩]
      have hnl : r.n.toNat < s.has.length := by omega
      rw [hb, e]
      refine ⟨⟨by simpa using h.len, by simpa using h.lc, h.lr, fun p hp => ?_, fun p hp _ => ⟨fun q hq => getD_false_mem hf hq, by show s.fin ≤ 1; omega⟩⟩, rfl, fun p hp hc2 => ⟨?_, rfl⟩, fun _ => ⟨hn, hl⟩⟩
      · by_cases ep : r.n.toNat = p
        · subst ep
          right
          rw [getD_set_self _ _ _ _ (by rw [h.len]; exact hnl)]
          refine ⟨?_, getD_set_self _ _ _ _ (by rw [h.lc]; exact hnl)⟩
          rcases h.cnt _ hnl with ⟨h1, _⟩ | ⟨_, h2⟩
          · omega
          · rw [hc] at h2; cases h2
        · rw [getD_set_ne' _ _ _ ep]
          show (_ ∧ (s.com.set r.n.toNat true).getD p false = false) ∨ (_ ∧ (s.com.set r.n.toNat true).getD p false = true)
          rw [getD_set_ne' _ _ _ ep]
          exact h.cnt p hp
      · show (s.com.set r.n.toNat true).getD p false = true
        by_cases ep : r.n.toNat = p
        · subst ep; exact getD_set_self _ _ _ _ (by rw [h.lc]; exact hnl)
        · rw [getD_set_ne' _ _ _ ep]; exact hc2
    · have hb : bump s r cs = cs := by unfold bump; rw [if_neg (fun h => e5 h.2)]
      rw [hb, e]
      refine ⟨⟨h.len, h.lc, h.lr, h.cnt, fun p hp hc => ⟨(h.all p hp hc).1, ?_⟩⟩, rfl, fun p hp hc => ⟨hc, rfl⟩, fun h => absurd h.2 e5⟩
      show r.n ≤ 1
      rcases hx with hx | hx
      · omega
      · exact absurd (getD_true_mem hc) hx
  · have e := applyP_no h0
    have hb : bump s r cs = cs := by unfold bump; rw [if_neg (fun h => h0 h.1)]
    rw [hb, e]
    exact ⟨h, rfl, fun p hp hc => ⟨hc, rfl⟩, fun h => absurd h.1 h0⟩
end Go.Proofs.Ytmlemichkeomjaa.LedP

