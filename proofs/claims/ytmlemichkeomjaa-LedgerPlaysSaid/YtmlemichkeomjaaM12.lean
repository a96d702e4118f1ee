/- Texts of this claim in one. -/
import Derived.Test.YtmlemichkeomjaaM9
import Derived.Test.YtmlemichkeomjaaRefWhy1
import Derived.Test.YtmlemichkeomjaaLedN3
/- What a record that goes through leaves, kind by kind: plain. -/
set_option linter.unusedVariables false
set_option linter.unusedSimpArgs false
namespace Go.Proofs.Ytmlemichkeomjaa.LedP
open Go.Proofs.Ytmlemichkeomjaa.ManP Go.Proofs.Ytmlemichkeomjaa.MendW
/-- What holds of a state all along. -/
structure RInv (s : LS) : Prop where
  task : ∀ t : Nat, t < s.done.length → s.done.getD t false = true → (s.ms.getD t noMan).task = (t : Nat) ∧ s.te.getD t 0 = 0
  part : ∀ p : Nat, p < s.has.length → s.com.getD p false = true → s.has.getD p false = true
/-- What a record leaves. -/
inductive DoCase (s : LS) (r : LR) : LS → Prop
  | boot : r.kind = 0 → DoCase s r { s with ep := r.n }
  | done (t : Nat) : r.kind = 1 → r.m.task = (t : Nat) → t < s.done.length → s.te.getD t 0 = 0 → DoCase s r { s with done := s.done.set t true, ms := s.ms.set t r.m }
  | taskErr (t : Nat) : r.kind = 2 → r.n = (t : Nat) → t < s.done.length → s.done.getD t false = false → DoCase s r { s with te := s.te.set t r.e }
  | lost (t : Nat) : r.kind = 3 → r.n = (t : Nat) → t < s.done.length → s.done.getD t false = true → DoCase s r { s with done := s.done.set t false, ms := s.ms.set t noMan }
  | result (p : Nat) : r.kind = 4 → r.n = (p : Nat) → p < s.has.length → s.has.getD p false = false → s.pe.getD p 0 = 0 → DoCase s r { s with has := s.has.set p true, res := s.res.set p r.text }
  | partErr (p : Nat) : r.kind = 5 → r.n = (p : Nat) → p < s.has.length → DoCase s r { s with pe := s.pe.set p r.e }
  | commit (p : Nat) : r.kind = 6 → r.n = (p : Nat) → p < s.has.length → s.has.getD p false = true → DoCase s r { s with com := s.com.set p true }
  | fin : r.kind = 7 → DoCase s r { s with fin := r.n, er := r.e }
theorem apply_do {s : LS} {r : LR} (h : (applyP s r).2 = 0) : DoCase s r (applyP s r).1 := by
  unfold applyP at h ⊢
  split at h
  · exact absurd h (show ¬ (1 : Nat) = 0 from by decide)
  · rename_i hb
    rw [if_neg hb]
    have hn : 0 ≤ r.n := by
      have h2 : ¬ r.n < 0 := fun h3 => hb (.inr (.inr (.inr (.inr (.inl h3)))))
      omega
    have hk7 : ¬ (7 < r.kind) := fun h3 => hb (.inr (.inl h3))
    have hk0 : ¬ (r.kind < 0) := fun h3 => hb (.inl h3)
    obtain ⟨t, ht⟩ := Int.eq_ofNat_of_zero_le hn
    split at h
    · rename_i hk
      rw [if_pos hk]
      split at h
      · exact absurd h (show ¬ (17 : Nat) = 0 from by decide)
      · rename_i he
        rw [if_neg he]
        exact .boot hk
    · rename_i hk
      rw [if_neg hk]
      split at h
      · exact absurd h (show ¬ (19 : Nat) = 0 from by decide)
      · rename_i hf
        rw [if_neg hf]
        split at h
        · exact absurd h (show ¬ (1 : Nat) = 0 from by decide)
        · rename_i hm
          rw [if_neg hm]
          have hm1 : (r.kind = 2 ∨ r.kind = 3) → t < s.done.length := fun h4 => by
            have e : mostP s r = s.done.length := by unfold mostP; rw [if_pos h4]
            rw [e] at hm
            omega
          have hm2 : (r.kind = 4 ∨ r.kind = 5 ∨ r.kind = 6) → t < s.has.length := fun h4 => by
            have e : mostP s r = s.has.length := by unfold mostP; rw [if_neg (by omega), if_pos h4]
            rw [e] at hm
            omega
          unfold methP at h ⊢
          by_cases k1 : r.kind = 1
          · rw [if_pos k1] at h ⊢
            unfold doneP at h ⊢
            split at h
            · exact absurd h (show ¬ (1 : Nat) = 0 from by decide)
            · rename_i hc
              rw [if_neg hc]; split at h
              · exact absurd h (show ¬ (18 : Nat) = 0 from by decide)
              · rename_i hd
                rw [if_neg hd]
                have hr : right r.m s.has.length s.n = true := by
                  cases hq : right r.m s.has.length s.n
                  · exact absurd (.inl hq) hc
                  · rfl
                have ht0 : 0 ≤ r.m.task := by
                  unfold right rightB at hr
                  simp only [Bool.and_eq_true, idB, decide_eq_true_eq] at hr
                  exact hr.1.1.1.1.1.1.1
                obtain ⟨q, hq⟩ := Int.eq_ofNat_of_zero_le ht0
                have hl : ¬ (s.done.length : Int) ≤ r.m.task := fun h9 => hc (.inr h9)
                have he : s.te.getD r.m.task.toNat 0 = 0 := Classical.byContradiction fun h9 => hd (.inl h9)
                rw [hq, Int.toNat_natCast] at he ⊢
                exact .done q k1 hq (by omega) he
          rw [if_neg k1] at h ⊢
          by_cases k2 : r.kind = 2
          · rw [if_pos k2] at h ⊢
            unfold taskErrP at h ⊢
            split at h
            · exact absurd h (show ¬ (1 : Nat) = 0 from by decide)
            · rename_i hc
              rw [if_neg hc]; split at h
              · exact absurd h (show ¬ (18 : Nat) = 0 from by decide)
              · rename_i hd
                rw [if_neg hd]
                rw [ht, Int.toNat_natCast] at hd ⊢
                refine .taskErr t k2 ht (hm1 (.inl k2)) ?_
                cases hq : s.done.getD t false
                · rfl
                · exact absurd (.inl hq) hd
          rw [if_neg k2] at h ⊢
          by_cases k3 : r.kind = 3
          · rw [if_pos k3] at h ⊢
            unfold lostP at h ⊢
            split at h
            · exact absurd h (show ¬ (19 : Nat) = 0 from by decide)
            · rename_i hd
              rw [if_neg hd]
              rw [ht, Int.toNat_natCast] at hd ⊢
              refine .lost t k3 ht (hm1 (.inr k3)) ?_
              cases hq : s.done.getD t false
              · exact absurd hq hd
              · rfl
          rw [if_neg k3] at h ⊢
          by_cases k4 : r.kind = 4
          · rw [if_pos k4] at h ⊢
            unfold resultP at h ⊢
            split at h
            · exact absurd h (show ¬ (3 : Nat) = 0 from by decide)
            · rename_i hc
              rw [if_neg hc]; split at h
              · exact absurd h (show ¬ (18 : Nat) = 0 from by decide)
              · rename_i hd
                rw [if_neg hd]
                rw [ht, Int.toNat_natCast] at hd ⊢
                refine .result t k4 ht (hm2 (.inl k4)) ?_ (Classical.byContradiction fun h9 => hd (.inr h9))
                cases hq : s.has.getD t false
                · rfl
                · exact absurd (.inl hq) hd
          rw [if_neg k4] at h ⊢
          by_cases k5 : r.kind = 5
          · rw [if_pos k5] at h ⊢
            unfold partErrP at h ⊢
            split at h
            · exact absurd h (show ¬ (1 : Nat) = 0 from by decide)
            · rename_i hc
              rw [if_neg hc]; split at h
              · exact absurd h (show ¬ (18 : Nat) = 0 from by decide)
              · rename_i hd
                rw [if_neg hd]
                rw [ht, Int.toNat_natCast] at hd ⊢
                exact .partErr t k5 ht (hm2 (.inr (.inl k5)))
          rw [if_neg k5] at h ⊢
          by_cases k6 : r.kind = 6
          · rw [if_pos k6] at h ⊢
            unfold commitP at h ⊢
            split at h
            · exact absurd h (show ¬ (19 : Nat) = 0 from by decide)
            · rename_i hc
              rw [if_neg hc]; split at h
              · exact absurd h (show ¬ (18 : Nat) = 0 from by decide)
              · rename_i hd
                rw [if_neg hd]
                rw [ht, Int.toNat_natCast] at hd ⊢
                exact .commit t k6 ht (hm2 (.inr (.inr k6))) (getD_false_mem hc (hm2 (.inr (.inr k6))))
          rw [if_neg k6] at h ⊢
          have k7 : r.kind = 7 := by omega
          unfold endP at h ⊢
          split at h
          · exact absurd h (show ¬ (1 : Nat) = 0 from by decide)
          · rename_i hx
            rw [if_neg hx]; split at h
            · exact absurd h (show ¬ (19 : Nat) = 0 from by decide)
            · rename_i hc
              rw [if_neg hc]
              exact .fin k7
theorem DoCase.inv {s s' : LS} {r : LR} (h : DoCase s r s') (hi : RInv s) (hm : s.ms.length = s.done.length) (hc : s.com.length = s.has.length) : RInv s' := by
  cases h with
  | boot _ => exact ⟨hi.task, hi.part⟩
  | done t _ ht hl he =>
    refine ⟨fun a ha hd => ?_, hi.part⟩
    dsimp only at ha hd ⊢
    rw [List.length_set] at ha
    by_cases e : t = a
    · subst e
      rw [getD_set_self _ _ _ _ (by omega)]
      exact ⟨ht, he⟩
    · rw [getD_set_ne' _ _ _ e] at hd ⊢
      exact hi.task a ha hd
  | taskErr t _ _ hl hd0 =>
    refine ⟨fun a ha hd => ?_, hi.part⟩
    dsimp only at ha hd ⊢
    by_cases e : t = a
    · subst e
      rw [hd0] at hd
      cases hd
    · rw [getD_set_ne' _ _ _ e]
      exact hi.task a ha hd
  | lost t _ _ hl hd0 =>
    refine ⟨fun a ha hd => ?_, hi.part⟩
    dsimp only at ha hd ⊢
    rw [List.length_set] at ha
    by_cases e : t = a
    · subst e
      rw [getD_set_self _ _ _ _ (by omega)] at hd
      cases hd
    · rw [getD_set_ne' _ _ _ e] at hd ⊢
      exact hi.task a ha hd
  | result p _ _ hl hh _ =>
    refine ⟨hi.task, fun a ha hd => ?_⟩
    dsimp only at ha hd ⊢
    rw [List.length_set] at ha
    by_cases e : p = a
    · subst e
      exact getD_set_self _ _ _ _ (by omega)
    · rw [getD_set_ne' _ _ _ e]
      exact hi.part a ha hd
  | partErr p _ _ hl => exact ⟨hi.task, hi.part⟩
  | commit p _ _ hl hh =>
    refine ⟨hi.task, fun a ha hd => ?_⟩
    dsimp only at ha hd ⊢
    by_cases e : p = a
    · subst e
      exact hh
    · rw [getD_set_ne' _ _ _ e] at hd
      exact hi.part a ha hd
  | fin _ => exact ⟨hi.task, hi.part⟩
end Go.Proofs.Ytmlemichkeomjaa.LedP

/- The reference's state of one's own. -/
set_option linter.unusedVariables false
set_option linter.unusedSimpArgs false
namespace Go.Proofs.Ytmlemichkeomjaa.LedW
open Go.RowKit Go.Proofs.Ytmlemichkeomjaa.Base Go.Proofs.Ytmlemichkeomjaa.MendW Go.Proofs.Ytmlemichkeomjaa.ManP Go.Proofs.Ytmlemichkeomjaa.ManW Go.Proofs.Ytmlemichkeomjaa.LedP
/-- A state read from the blocks below m and from lo .. hi alone. -/
def RefB (m lo hi : Nat) (w : World) (y : RV) (s : LS) : Prop := ∀ w2 : World, (∀ k, k < m ∨ (lo ≤ k ∧ k < hi) → w2.heap[k]? = w.heap[k]?) → RefW w2 y s
section
variable {m lo hi : Nat} {w w' : World} {y : RV} {s : LS}
theorem RefB.here (h : RefB m lo hi w y s) : RefW w y s := h w fun _ _ => rfl
theorem RefB.keep (h : RefB m lo hi w y s) (hk : ∀ k, k < m ∨ (lo ≤ k ∧ k < hi) → w'.heap[k]? = w.heap[k]?) : RefB m lo hi w' y s := fun w2 h2 => h w2 fun k h3 => (h2 k h3).trans (hk k h3)
theorem RefB.below (h : RefB m lo hi w y s) (hb : Below w.heap.size w w') (hm : m ≤ w.heap.size) (hh : hi ≤ w.heap.size) : RefB m lo hi w' y s := h.keep fun k hk => hb.block k (by omega)
theorem RefB.mono {lo' hi' : Nat} (h : RefB m lo hi w y s) (h1 : lo' ≤ lo) (h2 : hi ≤ hi') : RefB m lo' hi' w y s := fun w2 hk => h w2 fun k h3 => hk k (by omega)
theorem RefB.man (h : RefB m lo hi w y s) (t : Nat) (ht : t < s.done.length) : ManB (fun k => k < m ∨ (lo ≤ k ∧ k < hi)) w (y.vs t) (s.ms.getD t noMan) := fun w2 hk => (h w2 hk).man t ht
end
/-- .. whose manifests lie below m. -/
structure RefC (m lo hi : Nat) (w : World) (y : RV) (s : LS) : Prop where
  rd : RefB m lo hi w y s
  man : ∀ t, t < s.done.length → ManB (fun k => k < m) w (y.vs t) (s.ms.getD t noMan)
section
variable {m lo hi : Nat} {w w' : World} {y : RV} {s : LS}
theorem RefC.here (h : RefC m lo hi w y s) : RefW w y s := h.rd.here
theorem RefC.keep (h : RefC m lo hi w y s) (hk : ∀ k, k < m ∨ (lo ≤ k ∧ k < hi) → w'.heap[k]? = w.heap[k]?) : RefC m lo hi w' y s := ⟨h.rd.keep hk, fun t ht => (h.man t ht).keep fun k h2 => hk k (.inl h2)⟩
theorem RefC.below (h : RefC m lo hi w y s) (hb : Below w.heap.size w w') (hm : m ≤ w.heap.size) (hh : hi ≤ w.heap.size) : RefC m lo hi w' y s := h.keep fun k hk => hb.block k (by omega)
end
/-- A row of structures, pointwise. -/
def Grid (xs : List Value) (n z : Nat) (f : Nat → Nat → Value) : Prop := ∀ t q, t < n → q < z → xs[t * z + q]? = some (f t q)
def upd2 (f : Nat → Nat → Value) (t q : Nat) (u : Value) : Nat → Nat → Value := fun a b => if a = t ∧ b = q then u else f a b
theorem Grid.set {xs : List Value} {n z : Nat} {f : Nat → Nat → Value} (h : Grid xs n z f) (hl : xs.length = n * z) {t q : Nat} (ht : t < n) (hq : q < z) (u : Value) : Grid (xs.set (t * z + q) u) n z (upd2 f t q u) := fun a b ha hb => by
  unfold upd2
  have hlt : t * z + q < xs.length := by
    rw [hl]
    calc t * z + q < t * z + z := by omega
      _ = (t + 1) * z := by rw [Nat.succ_mul]
      _ ≤ n * z := Nat.mul_le_mul_right z ht
  by_cases e : a = t ∧ b = q
  · obtain ⟨rfl, rfl⟩ := e
    rw [if_pos ⟨rfl, rfl⟩, List.getElem?_set_self hlt]
  · rw [if_neg e, List.getElem?_set_ne]
    · exact h a b ha hb
    · intro e2
      apply e
      have h1 : (t * z + q) / z = t := by rw [Nat.mul_comm, Nat.mul_add_div (by omega), Nat.div_eq_of_lt hq, Nat.add_zero]
      have h2 : (a * z + b) / z = a := by rw [Nat.mul_comm, Nat.mul_add_div (by omega), Nat.div_eq_of_lt hb, Nat.add_zero]
      have h3 : a = t := by rw [← h1, ← h2, e2]
      subst h3
      exact ⟨rfl, by omega⟩
/-- Two rows and a box of one's own. -/
structure RfE (w : World) (lo ob bT cT nT bP cP nP : Nat) (fT fP : Nat → Nat → Value) (os : List Value) (F : Nat → Ent) : Prop where
  pool : Pool w lo F
  t : ∃ xs, F 0 = ⟨106, 7, .slice (some ⟨bT, 0, none⟩) nT cT, nT, xs⟩ ∧ Grid xs nT 7 fT
  p : ∃ xs, F 1 = ⟨108, 4, .slice (some ⟨bP, 0, none⟩) nP cP, nP, xs⟩ ∧ Grid xs nP 4 fP
  o : F 2 = ⟨48, 6, .slice (some ⟨ob, 0, none⟩) 1 1, 1, os⟩
section
variable {w w' : World} {lo ob bT cT nT bP cP nP : Nat} {fT fP : Nat → Nat → Value} {os : List Value} {F : Nat → Ent}
theorem RfE.below (h : RfE w lo ob bT cT nT bP cP nP fT fP os F) (hb : Below w.heap.size w w') : RfE w' lo ob bT cT nT bP cP nP fT fP os F := ⟨h.pool.below hb, h.t, h.p, h.o⟩
theorem RfE.setT (h : RfE w lo ob bT cT nT bP cP nP fT fP os F) {t q : Nat} (ht : t < nT) (hq : q < 7) (u : Value) : ∃ F', RfE (w.setCell ⟨bT, t * 7 + q, none⟩ u) lo ob bT cT nT bP cP nP (upd2 fT t q u) fP os F' := by
  obtain ⟨xs, hF, hg⟩ := h.t
  have hl : xs.length = nT * 7 := by have := h.pool.own 0; rw [hF] at this; exact this.1
  exact ⟨_, h.pool.store 0 hF rfl (t * 7 + q) u, ⟨_, up_self _ _ _, hg.set hl ht hq u⟩, by rw [up_ne _ _ (by decide)]; exact h.p, by rw [up_ne _ _ (by decide)]; exact h.o⟩
theorem RfE.setP (h : RfE w lo ob bT cT nT bP cP nP fT fP os F) {t q : Nat} (ht : t < nP) (hq : q < 4) (u : Value) : ∃ F', RfE (w.setCell ⟨bP, t * 4 + q, none⟩ u) lo ob bT cT nT bP cP nP fT (upd2 fP t q u) os F' := by
  obtain ⟨xs, hF, hg⟩ := h.p
  have hl : xs.length = nP * 4 := by have := h.pool.own 1; rw [hF] at this; exact this.1
  exact ⟨_, h.pool.store 1 hF rfl (t * 4 + q) u, by rw [up_ne _ _ (by decide)]; exact h.t, ⟨_, up_self _ _ _, hg.set hl ht hq u⟩, by rw [up_ne _ _ (by decide)]; exact h.o⟩
theorem RfE.setO (h : RfE w lo ob bT cT nT bP cP nP fT fP os F) (q : Nat) (u : Value) : ∃ F', RfE (w.setCell ⟨ob, q, none⟩ u) lo ob bT cT nT bP cP nP fT fP (os.set q u) F' :=
  ⟨_, h.pool.store 2 h.o rfl q u, by rw [up_ne _ _ (by decide)]; exact h.t, by rw [up_ne _ _ (by decide)]; exact h.p, up_self _ _ _⟩
theorem RfE.cellT (h : RfE w lo ob bT cT nT bP cP nP fT fP os F) {t q : Nat} (ht : t < nT) (hq : q < 7) : w.cell? ⟨bT, t * 7 + q, none⟩ = some (fT t q) := by
  obtain ⟨xs, hF, hg⟩ := h.t
  exact h.pool.cell 0 hF rfl (hg t q ht hq)
theorem RfE.cellP (h : RfE w lo ob bT cT nT bP cP nP fT fP os F) {t q : Nat} (ht : t < nP) (hq : q < 4) : w.cell? ⟨bP, t * 4 + q, none⟩ = some (fP t q) := by
  obtain ⟨xs, hF, hg⟩ := h.p
  exact h.pool.cell 1 hF rfl (hg t q ht hq)
theorem RfE.cellO (h : RfE w lo ob bT cT nT bP cP nP fT fP os F) {j : Nat} {u : Value} (hu : os[j]? = some u) : w.cell? ⟨ob, j, none⟩ = some u := h.pool.cell 2 h.o rfl hu
theorem RfE.freeT (h : RfE w lo ob bT cT nT bP cP nP fT fP os F) (j : Nat) : w.frozen? ⟨bT, j, none⟩ = false := by
  obtain ⟨xs, hF, _⟩ := h.t
  exact h.pool.free 0 hF rfl j
theorem RfE.freeP (h : RfE w lo ob bT cT nT bP cP nP fT fP os F) (j : Nat) : w.frozen? ⟨bP, j, none⟩ = false := by
  obtain ⟨xs, hF, _⟩ := h.p
  exact h.pool.free 1 hF rfl j
theorem RfE.freeO (h : RfE w lo ob bT cT nT bP cP nP fT fP os F) (j : Nat) : w.frozen? ⟨ob, j, none⟩ = false := h.pool.free 2 h.o rfl j
theorem RfE.ltT (h : RfE w lo ob bT cT nT bP cP nP fT fP os F) : lo ≤ bT ∧ bT < w.heap.size := by
  obtain ⟨xs, hF, _⟩ := h.t
  exact h.pool.lt 0 (by rw [hF]; rfl)
theorem RfE.ltP (h : RfE w lo ob bT cT nT bP cP nP fT fP os F) : lo ≤ bP ∧ bP < w.heap.size := by
  obtain ⟨xs, hF, _⟩ := h.p
  exact h.pool.lt 1 (by rw [hF]; rfl)
theorem RfE.ltO (h : RfE w lo ob bT cT nT bP cP nP fT fP os F) : lo ≤ ob ∧ ob < w.heap.size := h.pool.lt 2 (by rw [h.o]; rfl)
/-- To be read, whatever lies about it. -/
theorem RfE.read {m : Nat} {s : LS} {vs : Nat → MV} (h : RfE w lo ob bT cT nT bP cP nP fT fP os F) (hT : s.done.length = nT) (hP : s.has.length = nP) (eT : ∀ t q, t < nT → q < 7 → fT t q = tOf s vs t q) (eP : ∀ p q, p < nP → q < 4 → fP p q = pOf s p q)
    (hm : ∀ t, t < nT → ManB (fun k => k < m) w (vs t) (s.ms.getD t noMan)) (ok : Ok s) : RefC m lo w.heap.size w ⟨some ⟨bT, 0, none⟩, cT, some ⟨bP, 0, none⟩, cP, vs⟩ s := by
  refine ⟨fun w2 hk => ?_, fun t ht => hm t (by omega)⟩
  obtain ⟨xT, hF, gT⟩ := h.t
  obtain ⟨xP, hG, gP⟩ := h.p
  have lT := h.ltT
  have lP := h.ltP
  refine ⟨.inr ⟨bT, 0, rfl, fun t q ht hq => ?_⟩, .inr ⟨bP, 0, rfl, fun t q ht hq => ?_⟩, fun t ht => hm t (by omega) w2 fun k h2 => hk k (.inl h2), ok⟩
  · have := h.cellT (t := t) (q := q) (by omega) hq
    rw [eT t q (by omega) hq] at this
    rw [Nat.zero_add]
    unfold World.cell? at this ⊢
    rw [hk bT (.inr lT)]
    exact this
  · have := h.cellP (t := t) (q := q) (by omega) hq
    rw [eP t q (by omega) hq] at this
    rw [Nat.zero_add]
    unfold World.cell? at this ⊢
    rw [hk bP (.inr lP)]
    exact this
end
end Go.Proofs.Ytmlemichkeomjaa.LedW

/- stookref20.New walked. -/
set_option linter.unusedVariables false
set_option linter.unusedSimpArgs false
namespace Go.Proofs.Ytmlemichkeomjaa.LedW
open Go.RowKit Go.Proofs.Ytmlemichkeomjaa.Base Go.Proofs.Ytmlemichkeomjaa.MendW Go.Proofs.Ytmlemichkeomjaa.ManP Go.Proofs.Ytmlemichkeomjaa.ManW Go.Proofs.Ytmlemichkeomjaa.LedP
theorem info_task : (Try.prog.info? 106).map (fun i => (i.zero, i.size, i.bytes)) = some (some (.agg #[.bool false, .int .i64 0, .int .i64 0, .slice none 0 0, .slice none 0 0, .slice none 0 0, .int .i64 0]), 7, 104) := by kernel_rfl
theorem info_part : (Try.prog.info? 108).map (fun i => (i.zero, i.size, i.bytes)) = some (some (.agg #[.bool false, .string ByteArray.empty, .int .i64 0, .bool false]), 4, 40) := by kernel_rfl
theorem info_ref : (Try.prog.info? 48).map (·.size) = some 6 := by kernel_rfl
theorem made_grid (zc : Array Value) (n z : Nat) (h0 : 0 < z) (hz : zc.size = z) : Grid (madeCells zc (n * z)).toList n z (fun _ q => zc[q]!) := fun t q ht hq => by
  have hlt : t * z + q < n * z := by
    calc t * z + q < t * z + z := by omega
      _ = (t + 1) * z := by rw [Nat.succ_mul]
      _ ≤ n * z := Nat.mul_le_mul_right z ht
  have hm : (t * z + q) % z = q := by rw [Nat.mul_comm, Nat.mul_add_mod, Nat.mod_eq_of_lt hq]
  simp only [madeCells, Array.getElem?_toList, Array.getElem?_map, Array.getElem?_range, if_pos hlt, Option.map_some, hz, hm]
/-- A new row of structures, under the key a. -/
theorem make_grid {ty e : TypeId} {z : Value} {size bytes n : Nat} (ht : Try.prog.underlying ty = some (.slice e)) (hi : (Try.prog.info? e).map (fun i => (i.zero, i.size, i.bytes)) = some (some z, size, bytes)) (hb : bytes ≤ 1000) (hn : n ≤ 16) (h0 : 0 < size) (hz : z.cells.size = size) {w : World} {lo : Nat} {F : Nat → Ent} (hp : Pool w lo F) (hlo : lo ≤ w.heap.size) (a : Nat) :
    ∃ g xs w', (Instr.makeSlice ty (.int .i64 (n : Nat)) (.int .i64 (n : Nat))).run Try.prog w = .ok (.slice (some ⟨g, 0, none⟩) n n) w' ∧ Pool w' lo (up F a ⟨e, size, .slice (some ⟨g, 0, none⟩) n n, n, xs⟩) ∧ Grid xs n size (fun _ q => z.cells[q]!) ∧ Below w.heap.size w w' := by
  obtain ⟨i, hi1, hi2⟩ := Option.map_eq_some_iff.1 hi
  simp only [Prod.mk.injEq] at hi2
  obtain ⟨h1, h2, h3⟩ := hi2
  have hl : n ≤ maxLen := by simp only [maxLen]; omega
  have hbk : bytes * n ≤ 1000 * 16 := Nat.mul_le_mul hb hn
  have h7 : ((bytes * n : Nat) : Int) ≤ 281474976710656 := by omega
  rw [Int.natCast_mul] at h7
  have hr := run_make (P := Try.prog) w ty e i z ht hi1 h1 .i64 .i64 n n (by omega) (Int.le_refl _) (by rw [h3]; exact h7) (by omega)
  rw [h2] at hr
  simp only [Int.toNat_natCast] at hr
  have hB := (Below.refl w.heap.size w).alloc (Nat.le_refl _) (.cells (madeCells z.cells (n * size)) e)
  exact ⟨_, _, _, hr, hp.new a hB hlo (World.ownsRow_lit w _ n (Nat.le_refl _) hl (size_madeCells _ _)), made_grid _ _ _ h0 hz, hB⟩
def RefPost (m : Nat) (w : World) (s : LS) (e : Ending) (w' : World) : Prop := ∃ y : RV, e = .returned (.agg #[.int .i64 s.n, .int .i64 s.ep, .int .i64 s.fin, .int .i64 s.er, .slice y.B s.done.length y.cb, .slice y.C s.has.length y.cc]) ∧ RefC m w.heap.size w'.heap.size w' y s ∧ Below w.heap.size w w'
theorem tOf_new {t p n : Nat} {a q : Nat} (ha : a < t) (hq : q < 7) : (#[.bool false, .int .i64 0, .int .i64 0, .slice none 0 0, .slice none 0 0, .slice none 0 0, .int .i64 0] : Array Value)[q]! = tOf (newS t p n) (fun _ => noMV) a q := by
  unfold tOf newS
  dsimp only
  rw [show (List.replicate t false).getD a false = false from by simp [List.getD_eq_getElem?_getD, ha], show (List.replicate t noMan).getD a noMan = noMan from by simp [List.getD_eq_getElem?_getD, ha], show (List.replicate t (0 : Int)).getD a 0 = 0 from by simp [List.getD_eq_getElem?_getD, ha]]
  have h : q = 0 ∨ q = 1 ∨ q = 2 ∨ q = 3 ∨ q = 4 ∨ q = 5 ∨ q = 6 := by omega
  rcases h with rfl | rfl | rfl | rfl | rfl | rfl | rfl <;> rfl
theorem pOf_new {t p n : Nat} {a q : Nat} (ha : a < p) (hq : q < 4) : (#[.bool false, .string ByteArray.empty, .int .i64 0, .bool false] : Array Value)[q]! = pOf (newS t p n) a q := by
  unfold pOf newS
  dsimp only
  rw [show (List.replicate p false).getD a false = false from by simp [List.getD_eq_getElem?_getD, ha], show (List.replicate p ByteArray.empty).getD a ByteArray.empty = ByteArray.empty from by simp [List.getD_eq_getElem?_getD, ha], show (List.replicate p (0 : Int)).getD a 0 = 0 from by simp [List.getD_eq_getElem?_getD, ha]]
  have h : q = 0 ∨ q = 1 ∨ q = 2 ∨ q = 3 := by omega
  rcases h with rfl | rfl | rfl | rfl <;> rfl
theorem ref_new_fin {m : Nat} {w W : World} {t p n bT bP cT cP : Nat} {F : Nat → Ent} (ht : t ≤ 16) (hp : p ≤ 16) {fT fP : Nat → Nat → Value} {os : List Value} (h : RfE W w.heap.size w.heap.size bT cT t bP cP p fT fP os F) (eT : ∀ a q, a < t → q < 7 → fT a q = tOf (newS t p n) (fun _ => noMV) a q) (eP : ∀ a q, a < p → q < 4 → fP a q = pOf (newS t p n) a q) (hB : Below w.heap.size w W) (hos : os.length = 6)
    (tmps : Array Value) (h6 : tmps.getD 6 undef = .pointer (some ⟨w.heap.size, 0, none⟩)) :
    bodyPost Try.prog Try.f19 (RefPost m w (newS t p n)) .ret { tmps := tmps, defers := [] } (W.setRow w.heap.size #[.int .i64 (n : Nat), .int .i64 0, .int .i64 0, .int .i64 0, .slice (some ⟨bT, 0, none⟩) t cT, .slice (some ⟨bP, 0, none⟩) p cP]) := by
  have hg := pool_obj h.pool 2 h.o
  have hp2 := pool_setRow h.pool 2 h.o #[.int .i64 (n : Nat), .int .i64 0, .int .i64 0, .int .i64 0, .slice (some ⟨bT, 0, none⟩) t cT, .slice (some ⟨bP, 0, none⟩) p cP] rfl
  have h2 : RfE (W.setRow w.heap.size #[.int .i64 (n : Nat), .int .i64 0, .int .i64 0, .int .i64 0, .slice (some ⟨bT, 0, none⟩) t cT, .slice (some ⟨bP, 0, none⟩) p cP]) w.heap.size w.heap.size bT cT t bP cP p fT fP _ _ := ⟨hp2, by rw [up_ne _ _ (by decide)]; exact h.t, by rw [up_ne _ _ (by decide)]; exact h.p, up_self _ _ _⟩
  refine bodyPost_ret (results_cell_one rfl _ _ w.heap.size 48 _ (0, 0) _ h6 (setRow_heap _ _ _ _ _ _ hg) Try.underlying48 rfl info_ref) rfl ?_
  refine ⟨⟨some ⟨bT, 0, none⟩, cT, some ⟨bP, 0, none⟩, cP, fun _ => noMV⟩, by simp [newS], h2.read (by simp [newS]) (by simp [newS]) eT eP (fun a ha => ?_) (newS_ok ht hp), below_put hB (Nat.le_refl _) _⟩
  have e1 : (newS t p n).ms.getD a noMan = noMan := by simp [newS, List.getD_eq_getElem?_getD, ha]
  rw [e1]
  exact no_safe _ _
set_option maxRecDepth 100000 in
set_option maxHeartbeats 4000000 in
theorem ref_new (m t p n : Nat) (ht : t ≤ 16) (hp : p ≤ 16) (w : World) :
    Calls Try.prog 19 #[.int .i64 (t : Nat), .int .i64 (p : Nat), .int .i64 (n : Nat)] w (RefPost m w (newS t p n)) := by
  go_enter Try.func19, Try.ntmps19
  go_upto_region 1 with fail
  have hB := (Below.refl w.heap.size w).alloc (Nat.le_refl _) (.cells #[.int .i64 0, .int .i64 0, .int .i64 0, .int .i64 0, .slice none 0 0, .slice none 0 0] 48)
  have hP := pool_alloc (Pool.nil (κ := Nat) w w.heap.size) 2 (Nat.le_refl _) 48 6 #[.int .i64 0, .int .i64 0, .int .i64 0, .int .i64 0, .slice none 0 0, .slice none 0 0] rfl
  have hz := World.size_alloc w (.cells #[.int .i64 0, .int .i64 0, .int .i64 0, .int .i64 0, .slice none 0 0, .slice none 0 0] 48)
  generalize w.alloc (.cells #[.int .i64 0, .int .i64 0, .int .i64 0, .int .i64 0, .slice none 0 0, .slice none 0 0] 48) = W at hB hP hz ⊢
  have HT := Lib.hid ht
  have HPP := Lib.hid hp
  clear ht hp
  refine RegG.wp_region_g (fun _ => True) [2] (by kernel_rfl) ?_
  have hB' := hB.drew
  have hP' := hP.drew
  have hz' : w.heap.size ≤ W.drew.heap.size := by show w.heap.size ≤ W.heap.size; omega
  clear hB hP hz
  generalize W.drew = Wd at hB' hP' hz' ⊢
  refine RegG.wpG.pure (v := ?_) 0 5 rfl (by kernel_rfl) (by decide) (fun _ _ _ h => h) ?_ rfl (fun _ => trivial) ?_
  rotate_left
  · (intro w9; go_simp; first | done | with_reducible rfl)
  (try simp only [Act.put, List.setIfInBounds_toArray, List.set_cons_zero, List.set_cons_succ])
  refine RegG.wpG.pure (v := ?_) 1 2 rfl (by kernel_rfl) (by decide) (fun _ _ _ h => h) ?_ rfl (fun _ => trivial) ?_
  rotate_left
  · (intro w9; go_simp; first | done | with_reducible rfl)
  (try simp only [Act.put, List.setIfInBounds_toArray, List.set_cons_zero, List.set_cons_succ])
  refine RegG.wpG.pure (v := ?_) 3 4 rfl (by kernel_rfl) (by decide) (fun _ _ _ h => h) ?_ rfl (fun _ => trivial) ?_
  rotate_left
  · (intro w9; go_simp; first | done | with_reducible rfl)
  (try simp only [Act.put, List.setIfInBounds_toArray, List.set_cons_zero, List.set_cons_succ])
  refine RegG.wpG.two 2 4 (by kernel_rfl) rfl rfl rfl rfl (fun K hK => ?_) (fun K hK => ?_)
  · obtain ⟨g, xs, w1, hr, hp1, hg1, hb1⟩ := make_grid (n := t) Try.underlying45 info_task (by decide) HT.out (by decide) rfl hP' hz' 0
    refine wp_make 45 (.tmp 8) (.tmp 8) rfl rfl rfl hr ?_
    refine hK.out _ _ (fun _ => trivial) ?_
    clear hK K
    (try simp only [Act.put, List.setIfInBounds_toArray, List.set_cons_zero, List.set_cons_succ])
    refine RegG.wpG.one 4 (by kernel_rfl) rfl rfl (fun K hK => ?_)
    obtain ⟨g2, xs2, w2, hr2, hp2, hg2, hb2⟩ := make_grid (n := p) Try.underlying46 info_part (by decide) HPP.out (by decide) rfl hp1 (Nat.le_trans hz' hb1.size) 1
    refine wp_make 46 (.tmp 10) (.tmp 10) rfl rfl rfl hr2 ?_
    refine hK.out _ _ (fun _ => trivial) ?_
    clear hK K
    (try simp only [Act.put, List.setIfInBounds_toArray, List.set_cons_zero, List.set_cons_succ])
    refine RegG.wpG.one 5 (by kernel_rfl) rfl rfl (fun K hK => ?_)
    go_simp
    refine hK.out _ _ (fun _ => trivial) ?_
    clear hK K
    (try simp only [Act.put, List.setIfInBounds_toArray, List.set_cons_zero, List.set_cons_succ])
    refine RegG.wpG.one 6 (by kernel_rfl) rfl rfl (fun K hK => ?_)
    have hg := pool_obj hp2 2 (e := 48) (size := 6) (g := w.heap.size) (xs := [.int .i64 0, .int .i64 0, .int .i64 0, .int .i64 0, .slice none 0 0, .slice none 0 0]) (by rw [up_ne _ _ (by decide), up_ne _ _ (by decide)]; exact up_self _ _ _)
    refine wp_store_row 48 (.tmp 6) (.tmp 12) rfl w.heap.size #[.int .i64 (n : Nat), .int .i64 0, .int .i64 0, .int .i64 0, .slice (some ⟨g, 0, none⟩) t t, .slice (some ⟨g2, 0, none⟩) p p] rfl rfl 48 #[.int .i64 0, .int .i64 0, .int .i64 0, .int .i64 0, .slice none 0 0, .slice none 0 0] hg info_ref rfl (by simp [Value.oneCell']) ?_
    refine hK.out _ _ (fun _ => trivial) ?_
    clear hK K
    (try simp only [Act.put, List.setIfInBounds_toArray, List.set_cons_zero, List.set_cons_succ])
    refine RegG.wpG.done (by kernel_rfl) ?_ _
    go_wp2_with fail
    refine ref_new_fin HT.out HPP.out (F := up (up (up (fun _ => noEnt) 2 _) 0 _) 1 _) ⟨hp2, ⟨xs, by rw [up_ne _ _ (by decide)]; exact up_self _ _ _, hg1⟩, ⟨xs2, up_self _ _ _, hg2⟩, by rw [up_ne _ _ (by decide), up_ne _ _ (by decide)]; exact up_self _ _ _⟩ (fun a q ha hq => tOf_new ha hq) (fun a q ha hq => pOf_new ha hq) ((hB'.trans (hb1.mono hz')).trans (hb2.mono (Nat.le_trans hz' hb1.size))) rfl _ rfl
  · obtain ⟨g2, xs2, w1, hr, hp1, hg1, hb1⟩ := make_grid (n := p) Try.underlying46 info_part (by decide) HPP.out (by decide) rfl hP' hz' 1
    refine wp_make 46 (.tmp 10) (.tmp 10) rfl rfl rfl hr ?_
    refine hK.out _ _ (fun _ => trivial) ?_
    clear hK K
    (try simp only [Act.put, List.setIfInBounds_toArray, List.set_cons_zero, List.set_cons_succ])
    refine RegG.wpG.one 2 (by kernel_rfl) rfl rfl (fun K hK => ?_)
    obtain ⟨g, xs, w2, hr2, hp2, hg2, hb2⟩ := make_grid (n := t) Try.underlying45 info_task (by decide) HT.out (by decide) rfl hp1 (Nat.le_trans hz' hb1.size) 0
    refine wp_make 45 (.tmp 8) (.tmp 8) rfl rfl rfl hr2 ?_
    refine hK.out _ _ (fun _ => trivial) ?_
    clear hK K
    (try simp only [Act.put, List.setIfInBounds_toArray, List.set_cons_zero, List.set_cons_succ])
    refine RegG.wpG.one 5 (by kernel_rfl) rfl rfl (fun K hK => ?_)
    go_simp
    refine hK.out _ _ (fun _ => trivial) ?_
    clear hK K
    (try simp only [Act.put, List.setIfInBounds_toArray, List.set_cons_zero, List.set_cons_succ])
    refine RegG.wpG.one 6 (by kernel_rfl) rfl rfl (fun K hK => ?_)
    have hg := pool_obj hp2 2 (e := 48) (size := 6) (g := w.heap.size) (xs := [.int .i64 0, .int .i64 0, .int .i64 0, .int .i64 0, .slice none 0 0, .slice none 0 0]) (by rw [up_ne _ _ (by decide), up_ne _ _ (by decide)]; exact up_self _ _ _)
    refine wp_store_row 48 (.tmp 6) (.tmp 12) rfl w.heap.size #[.int .i64 (n : Nat), .int .i64 0, .int .i64 0, .int .i64 0, .slice (some ⟨g, 0, none⟩) t t, .slice (some ⟨g2, 0, none⟩) p p] rfl rfl 48 #[.int .i64 0, .int .i64 0, .int .i64 0, .int .i64 0, .slice none 0 0, .slice none 0 0] hg info_ref rfl (by simp [Value.oneCell']) ?_
    refine hK.out _ _ (fun _ => trivial) ?_
    clear hK K
    (try simp only [Act.put, List.setIfInBounds_toArray, List.set_cons_zero, List.set_cons_succ])
    refine RegG.wpG.done (by kernel_rfl) ?_ _
    go_wp2_with fail
    refine ref_new_fin HT.out HPP.out (F := up (up (up (fun _ => noEnt) 2 _) 1 _) 0 _) ⟨hp2, ⟨xs, up_self _ _ _, hg2⟩, ⟨xs2, by rw [up_ne _ _ (by decide)]; exact up_self _ _ _, hg1⟩, by rw [up_ne _ _ (by decide), up_ne _ _ (by decide)]; exact up_self _ _ _⟩ (fun a q ha hq => tOf_new ha hq) (fun a q ha hq => pOf_new ha hq) ((hB'.trans (hb1.mono hz')).trans (hb2.mono (Nat.le_trans hz' hb1.size))) rfl _ rfl
end Go.Proofs.Ytmlemichkeomjaa.LedW

/- stookref20.Do walked: the copies. -/
set_option linter.unusedVariables false
set_option linter.unusedSimpArgs false
namespace Go.Proofs.Ytmlemichkeomjaa.LedW
open Go.RowKit Go.Proofs.Ytmlemichkeomjaa.Base Go.Proofs.Ytmlemichkeomjaa.MendW Go.Proofs.Ytmlemichkeomjaa.ManP Go.Proofs.Ytmlemichkeomjaa.ManW Go.Proofs.Ytmlemichkeomjaa.LedP
def rowT (s : LS) (vs : Nat → MV) : List Value := (List.range (s.done.length * 7)).map fun j => tOf s vs (j / 7) (j % 7)
def rowP (s : LS) : List Value := (List.range (s.has.length * 4)).map fun j => pOf s (j / 4) (j % 4)
theorem rowT_length (s : LS) (vs : Nat → MV) : (rowT s vs).length = s.done.length * 7 := by simp [rowT]
theorem rowP_length (s : LS) : (rowP s).length = s.has.length * 4 := by simp [rowP]
theorem tOf_one (s : LS) (vs : Nat → MV) (t q : Nat) : (tOf s vs t q).oneCell' = true := by
  unfold tOf tcell
  repeat' split
  all_goals rfl
theorem pOf_one (s : LS) (t q : Nat) : (pOf s t q).oneCell' = true := by
  unfold pOf pcell
  repeat' split
  all_goals rfl
theorem rowT_one (s : LS) (vs : Nat → MV) : ∀ u ∈ rowT s vs, u.oneCell' = true := fun u hu => by
  obtain ⟨j, _, rfl⟩ := List.mem_map.1 hu
  exact tOf_one _ _ _ _
theorem rowP_one (s : LS) : ∀ u ∈ rowP s, u.oneCell' = true := fun u hu => by
  obtain ⟨j, _, rfl⟩ := List.mem_map.1 hu
  exact pOf_one _ _ _
theorem rowT_grid (s : LS) (vs : Nat → MV) : Grid (rowT s vs) s.done.length 7 (tOf s vs) := fun t q ht hq => by
  have h1 : (t * 7 + q) / 7 = t := by omega
  have h2 : (t * 7 + q) % 7 = q := by omega
  have h3 : t * 7 + q < s.done.length * 7 := by omega
  simp [rowT, h1, h2, h3]
theorem rowP_grid (s : LS) : Grid (rowP s) s.has.length 4 (pOf s) := fun t q ht hq => by
  have h1 : (t * 4 + q) / 4 = t := by omega
  have h2 : (t * 4 + q) % 4 = q := by omega
  have h3 : t * 4 + q < s.has.length * 4 := by omega
  simp [rowP, h1, h2, h3]
theorem RefW.srcT {w : World} {y : RV} {s : LS} (h : RefW w y s) (h0 : 0 < s.done.length) : ∃ b off, y.B = some ⟨b, off, none⟩ ∧ ∀ j u, (rowT s y.vs)[j]? = some u → w.cell? ((⟨b, off, none⟩ : Addr).add j) = some u := by
  rcases h.t with h1 | ⟨b, off, e, hc⟩
  · omega
  · refine ⟨b, off, e, fun j u hu => ?_⟩
    have hj : j < s.done.length * 7 := by have := (List.getElem?_eq_some_iff.1 hu).1; rwa [rowT_length] at this
    have h2 := rowT_grid s y.vs (j / 7) (j % 7) (by omega) (by omega)
    rw [show j / 7 * 7 + j % 7 = j by omega, hu] at h2
    have h3 := hc (j / 7) (j % 7) (by omega) (by omega)
    rw [show j / 7 * 7 + j % 7 = j by omega] at h3
    rw [add_off, h3]
    exact h2.symm
theorem RefW.srcP {w : World} {y : RV} {s : LS} (h : RefW w y s) (h0 : 0 < s.has.length) : ∃ b off, y.C = some ⟨b, off, none⟩ ∧ ∀ j u, (rowP s)[j]? = some u → w.cell? ((⟨b, off, none⟩ : Addr).add j) = some u := by
  rcases h.p with h1 | ⟨b, off, e, hc⟩
  · omega
  · refine ⟨b, off, e, fun j u hu => ?_⟩
    have hj : j < s.has.length * 4 := by have := (List.getElem?_eq_some_iff.1 hu).1; rwa [rowP_length] at this
    have h2 := rowP_grid s (j / 4) (j % 4) (by omega) (by omega)
    rw [show j / 4 * 4 + j % 4 = j by omega, hu] at h2
    have h3 := hc (j / 4) (j % 4) (by omega) (by omega)
    rw [show j / 4 * 4 + j % 4 = j by omega] at h3
    rw [add_off, h3]
    exact h2.symm
theorem RefC.mono {m lo hi lo' hi' : Nat} {w : World} {y : RV} {s : LS} (h : RefC m lo hi w y s) (h1 : lo' ≤ lo) (h2 : hi ≤ hi') : RefC m lo' hi' w y s := ⟨h.rd.mono h1 h2, h.man⟩
/-- Do's end. -/
theorem do_fin {m0 : Nat} {w W : World} {s' : LS} {ob bT cT bP cP nT nP : Nat} {F : Nat → Ent} {fT fP : Nat → Nat → Value} {os : List Value} {vs : Nat → MV} {z : Array Value} (h : RfE W ob ob bT cT nT bP cP nP fT fP os F) (hT : s'.done.length = nT) (hP : s'.has.length = nP) (hob : w.heap.size + 2 < ob)
    (eT : ∀ t q, t < nT → q < 7 → fT t q = tOf s' vs t q) (eP : ∀ p q, p < nP → q < 4 → fP p q = pOf s' p q) (hm : ∀ t, t < nT → ManB (fun k => k < m0) W (vs t) (s'.ms.getD t noMan)) (hm0 : m0 ≤ w.heap.size) (ok : Ok s') (hB : Below w.heap.size w W) (hg : W.heap[w.heap.size + 2]? = some (.cells z 48 (0, 0)))
    (tmps : Array Value) (h4 : tmps.getD 4 undef = .pointer (some ⟨w.heap.size + 2, 0, none⟩)) :
    bodyPost Try.prog Try.f24 (RefPost m0 w s') .ret { tmps := tmps, defers := [] } (W.setRow (w.heap.size + 2) #[.int .i64 s'.n, .int .i64 s'.ep, .int .i64 s'.fin, .int .i64 s'.er, .slice (some ⟨bT, 0, none⟩) nT cT, .slice (some ⟨bP, 0, none⟩) nP cP]) := by
  subst hT
  subst hP
  refine bodyPost_ret (results_cell_one rfl _ _ (w.heap.size + 2) 48 _ (0, 0) _ h4 (setRow_heap _ _ _ _ _ _ hg) Try.underlying48 rfl info_ref) rfl ?_
  have hr := h.read (m := m0) (s := s') (vs := vs) rfl rfl eT eP hm ok
  refine ⟨⟨some ⟨bT, 0, none⟩, cT, some ⟨bP, 0, none⟩, cP, vs⟩, rfl, ?_, below_put hB (by omega) _⟩
  exact (hr.keep (w' := W.setRow (w.heap.size + 2) _) fun k hk => setRow_other _ _ k _ (by omega)).mono (by omega) (by simp)
theorem chain7 (f : Nat → Nat → Value) (t : Nat) (c : Nat → Value) : ∀ a q, q < 7 → upd2 (upd2 (upd2 (upd2 (upd2 (upd2 (upd2 f t 0 (c 0)) t 1 (c 1)) t 2 (c 2)) t 3 (c 3)) t 4 (c 4)) t 5 (c 5)) t 6 (c 6) a q = if a = t then c q else f a q := fun a q hq => by
  unfold upd2
  by_cases e : a = t
  · have h : q = 0 ∨ q = 1 ∨ q = 2 ∨ q = 3 ∨ q = 4 ∨ q = 5 ∨ q = 6 := by omega
    rcases h with rfl | rfl | rfl | rfl | rfl | rfl | rfl <;> simp [e]
  · simp [e]
theorem chain7' {f : Nat → Nat → Value} {t : Nat} (c : Nat → Value) {u0 u1 u2 u3 u4 u5 u6 : Value} (h0 : u0 = c 0) (h1 : u1 = c 1) (h2 : u2 = c 2) (h3 : u3 = c 3) (h4 : u4 = c 4) (h5 : u5 = c 5) (h6 : u6 = c 6) : ∀ a q, q < 7 → upd2 (upd2 (upd2 (upd2 (upd2 (upd2 (upd2 f t 0 u0) t 1 u1) t 2 u2) t 3 u3) t 4 u4) t 5 u5) t 6 u6 a q = if a = t then c q else f a q := by
  subst h0 h1 h2 h3 h4 h5 h6
  exact chain7 f t c
theorem RfE.congrT {w : World} {lo ob bT cT nT bP cP nP : Nat} {fT fT' fP : Nat → Nat → Value} {os : List Value} {F : Nat → Ent} (h : RfE w lo ob bT cT nT bP cP nP fT fP os F) (e : ∀ t q, q < 7 → fT t q = fT' t q) : RfE w lo ob bT cT nT bP cP nP fT' fP os F := by
  obtain ⟨xs, hF, hg⟩ := h.t
  exact ⟨h.pool, ⟨xs, hF, fun a q ha hq => by rw [hg a q ha hq, e a q hq]⟩, h.p, h.o⟩
theorem upd_te {s : LS} {vs : Nat → MV} {t : Nat} {re : Int} (hl : t < s.te.length) : ∀ a q, q < 7 → upd2 (tOf s vs) t 6 (.int .i64 re) a q = tOf { s with te := s.te.set t re } vs a q := fun a q hq => by
  unfold upd2 tOf
  dsimp only
  by_cases e : a = t
  · subst e
    rw [getD_set_self _ _ _ _ hl]
    have h : q = 0 ∨ q = 1 ∨ q = 2 ∨ q = 3 ∨ q = 4 ∨ q = 5 ∨ q = 6 := by omega
    rcases h with rfl | rfl | rfl | rfl | rfl | rfl | rfl <;> simp [tcell]
  · rw [getD_set_ne' _ _ _ (fun h => e h.symm)]
    simp [e]
theorem upd_pe {s : LS} {t : Nat} {re : Int} (hl : t < s.pe.length) : ∀ a q, q < 4 → upd2 (pOf s) t 2 (.int .i64 re) a q = pOf { s with pe := s.pe.set t re } a q := fun a q hq => by
  unfold upd2 pOf
  dsimp only
  by_cases e : a = t
  · subst e
    rw [getD_set_self _ _ _ _ hl]
    have h : q = 0 ∨ q = 1 ∨ q = 2 ∨ q = 3 := by omega
    rcases h with rfl | rfl | rfl | rfl <;> simp [pcell]
  · rw [getD_set_ne' _ _ _ (fun h => e h.symm)]
    simp [e]
theorem upd_com {s : LS} {t : Nat} (hl : t < s.com.length) : ∀ a q, q < 4 → upd2 (pOf s) t 3 (.bool true) a q = pOf { s with com := s.com.set t true } a q := fun a q hq => by
  unfold upd2 pOf
  dsimp only
  by_cases e : a = t
  · subst e
    rw [getD_set_self _ _ _ _ hl]
    have h : q = 0 ∨ q = 1 ∨ q = 2 ∨ q = 3 := by omega
    rcases h with rfl | rfl | rfl | rfl <;> simp [pcell]
  · rw [getD_set_ne' _ _ _ (fun h => e h.symm)]
    simp [e]
theorem upd_task {s : LS} {vs : Nat → MV} {t : Nat} {d : Bool} {m : Man} {v : MV} (hd : t < s.done.length) (hm : t < s.ms.length) (he : s.te.getD t 0 = 0) : ∀ a q, q < 7 → (if a = t then tcell d m v 0 q else tOf s vs a q) = tOf { s with done := s.done.set t d, ms := s.ms.set t m } (upv vs t v) a q := fun a q hq => by
  unfold tOf upv
  dsimp only
  by_cases e : a = t
  · subst e
    rw [getD_set_self _ _ _ _ hd, getD_set_self _ _ _ _ hm, he]
    simp
  · rw [getD_set_ne' _ _ _ (fun h => e h.symm), getD_set_ne' _ _ _ (fun h => e h.symm)]
    simp [e]
theorem upd_res {s : LS} {t : Nat} {x : ByteArray} (hh : t < s.has.length) (hr : t < s.res.length) (hp : s.pe.getD t 0 = 0) (hc : s.com.getD t false = false) : ∀ a q, q < 4 → (if a = t then pcell true x 0 false q else pOf s a q) = pOf { s with has := s.has.set t true, res := s.res.set t x } a q := fun a q hq => by
  unfold pOf
  dsimp only
  by_cases e : a = t
  · subst e
    rw [getD_set_self _ _ _ _ hh, getD_set_self _ _ _ _ hr, hp, hc]
    simp
  · rw [getD_set_ne' _ _ _ (fun h => e h.symm), getD_set_ne' _ _ _ (fun h => e h.symm)]
    simp [e]
theorem chain4 (f : Nat → Nat → Value) (t : Nat) (c : Nat → Value) : ∀ a q, q < 4 → upd2 (upd2 (upd2 (upd2 f t 0 (c 0)) t 1 (c 1)) t 2 (c 2)) t 3 (c 3) a q = if a = t then c q else f a q := fun a q hq => by
  unfold upd2
  by_cases e : a = t
  · have h : q = 0 ∨ q = 1 ∨ q = 2 ∨ q = 3 := by omega
    rcases h with rfl | rfl | rfl | rfl <;> simp [e]
  · simp [e]
set_option maxRecDepth 100000 in
set_option maxHeartbeats 16000000 in
theorem do_any (m0 lo hi : Nat) (y : RV) (s s' : LS) (rk rn re : Int) (rt : ByteArray) (m : Man) (v : MV) (w : World) (h : RefC m0 lo hi w y s) (hm0 : m0 ≤ w.heap.size) (hv : ManB (fun k => k < m0) w v m) (h0 : 0 < s.done.length) (h1 : 0 < s.has.length) (hI : RInv s) (hc : DoCase s ⟨rk, rn, re, rt, m⟩ s') (hok : Ok s') :
    Calls Try.prog 24 #[.agg #[.int .i64 s.n, .int .i64 s.ep, .int .i64 s.fin, .int .i64 s.er, .slice y.B s.done.length y.cb, .slice y.C s.has.length y.cc], .agg #[.int .i64 rk, .int .i64 rn, .int .i64 re, .string rt, .int .i64 m.task, .int .i64 m.att, .slice v.A2 m.sz.length v.c2, .slice v.A3 m.sm.length v.c3, .slice v.A4 m.hm.length v.c4]] w (RefPost m0 w s') := by
  have HH := Lib.hid h.here
  have HMN := Lib.hid h.man
  have HMV := Lib.hid hv
  have HM0 := Lib.hid hm0
  have HI := Lib.hid hI
  have HC := Lib.hid hc
  have HOK := Lib.hid hok
  have fd := h.here.ok.few
  have fp := h.here.ok.fewp
  have H0 := Lib.hid h0
  have H1 := Lib.hid h1
  clear h h0 h1 hm0 hv hI hc hok
  go_enter Try.func24, Try.ntmps24
  go_upto_region 1 with fail
  obtain ⟨sz2, hsz2⟩ : ∃ W, W = ((w.alloc (.cells #[.int .i64 s.n, .int .i64 s.ep, .int .i64 s.fin, .int .i64 s.er, .slice y.B s.done.length y.cb, .slice y.C s.has.length y.cc] 48)).alloc (.cells #[.int .i64 rk, .int .i64 rn, .int .i64 re, .string rt, .int .i64 m.task, .int .i64 m.att, .slice v.A2 m.sz.length v.c2, .slice v.A3 m.sm.length v.c3, .slice v.A4 m.hm.length v.c4] 56)).alloc (.cells #[.int .i64 0, .int .i64 0, .int .i64 0, .int .i64 0, .slice none 0 0, .slice none 0 0] 48) := ⟨_, rfl⟩
  obtain ⟨hA0, hA1, hA2, hsz, hB⟩ := three_boxes w _ _ _ _ _ _ hsz2
  rw [← hsz2]
  clear hsz2
  have hW := HH.out.below (Below.mono hB (Nat.le_refl _))
  have p0 : sz2.cell? ⟨w.heap.size, 0, none⟩ = some (.int .i64 s.n) := by rw [cell_of_row _ _ _ _ _ _ hA0]; rfl
  have p1 : sz2.cell? ⟨w.heap.size, 1, none⟩ = some (.int .i64 s.ep) := by rw [cell_of_row _ _ _ _ _ _ hA0]; rfl
  have p2 : sz2.cell? ⟨w.heap.size, 2, none⟩ = some (.int .i64 s.fin) := by rw [cell_of_row _ _ _ _ _ _ hA0]; rfl
  have p3 : sz2.cell? ⟨w.heap.size, 3, none⟩ = some (.int .i64 s.er) := by rw [cell_of_row _ _ _ _ _ _ hA0]; rfl
  have p4 : sz2.cell? ⟨w.heap.size, 4, none⟩ = some (.slice y.B s.done.length y.cb) := by rw [cell_of_row _ _ _ _ _ _ hA0]; rfl
  have p5 : sz2.cell? ⟨w.heap.size, 5, none⟩ = some (.slice y.C s.has.length y.cc) := by rw [cell_of_row _ _ _ _ _ _ hA0]; rfl
  have HSZ := Lib.hid hsz
  clear hsz
  go_upto_region 2 with fail
  have hsz := HSZ.out
  have HP := pool_alloc (Pool.nil (κ := Nat) sz2 sz2.heap.size) 2 (Nat.le_refl _) 48 6 #[.int .i64 s.n, .int .i64 s.ep, .int .i64 s.fin, .int .i64 s.er, .slice y.B s.done.length y.cb, .slice y.C s.has.length y.cc] rfl
  have hb := (Below.refl sz2.heap.size sz2).alloc (Nat.le_refl _) (.cells #[.int .i64 s.n, .int .i64 s.ep, .int .i64 s.fin, .int .i64 s.er, .slice y.B s.done.length y.cb, .slice y.C s.has.length y.cc] 48)
  obtain ⟨ob, hob⟩ : ∃ n, n = sz2.heap.size := ⟨_, rfl⟩
  rw [← hob] at HP ⊢
  replace hA1 := (hb.block _ (by omega)).trans hA1
  replace hA2 := (hb.block _ (by omega)).trans hA2
  replace hW := hW.below hb
  replace hB := hB.trans (hb.mono hB.size)
  replace p4 := cell_below hb p4
  have hlo : ob ≤ (sz2.alloc (.cells #[.int .i64 s.n, .int .i64 s.ep, .int .i64 s.fin, .int .i64 s.er, .slice y.B s.done.length y.cb, .slice y.C s.has.length y.cc] 48)).heap.size := by rw [hob]; exact hb.size
  replace hA0 := (hb.block _ (by omega)).trans hA0
  clear hb p0 p1 p2 p3 p5
  generalize sz2.alloc (.cells #[.int .i64 s.n, .int .i64 s.ep, .int .i64 s.fin, .int .i64 s.er, .slice y.B s.done.length y.cb, .slice y.C s.has.length y.cc] 48) = W3 at HP hA0 hA1 hA2 hW hB p4 hlo ⊢
  obtain ⟨bB, oB, eB, srcB⟩ := hW.srcT H0.out
  rw [eB] at p4
  obtain ⟨i0, hi, hzz⟩ := Option.map_eq_some_iff.1 info_task
  simp only [Prod.mk.injEq] at hzz
  obtain ⟨hz0, hz1, hz2⟩ := hzz
  have HO : (W3.alloc (.cells #[] 106)).ownsRow W3.heap.size 106 7 (.slice (some ⟨W3.heap.size, 0, none⟩) 0 0) 0 [] := World.ownsRow_made W3 #[] 0 (Nat.le_refl _) (by unfold maxLen; omega) rfl
  have HN := Lib.hid (show ∀ j u, (rowT s y.vs)[j]? = some u → (W3.alloc (.cells #[] 106)).cell? ((⟨bB, oB, none⟩ : Addr).add j) = some u from fun j u h => cell_below ((Below.refl _ _).alloc (Nat.le_refl _) _) (srcB j u h))
  have hl7 := rowT_length s y.vs
  have h1x := rowT_one s y.vs
  have p4' := cell_below ((Below.refl W3.heap.size W3).alloc (Nat.le_refl _) (.cells #[] 106)) p4
  have HOB := Lib.hid (show ob = w.heap.size + 3 by omega)
  clear srcB hW eB hob hsz p4
  go_upto_region 3 with (at_builtin; refine wpList_append_own_at _ rfl (.tmp 7) (.tmp 9) 45 rfl W3.heap.size 106 i0 (.agg #[.bool false, .int .i64 0, .int .i64 0, .slice none 0 0, .slice none 0 0, .slice none 0 0, .int .i64 0]) 7 104 Try.underlying45 hi hz0 hz1 hz2 rfl (by omega) (.slice (some ⟨W3.heap.size, 0, none⟩) 0 0) 0 [] rfl HO ⟨bB, oB, none⟩ s.done.length y.cb (rowT s y.vs) rfl (by omega) HN.out h1x (by simp only [maxLen]; omega) (by omega) (by simp) ?_; intro v1 w1 HO2 hg2 _ _; rw [Nat.zero_add, List.nil_append] at HO2; have hd := ((Below.refl W3.heap.size W3).alloc (Nat.le_refl _) (.cells #[] 106)).grown hg2 (by simp) (own_lo HO); have HP1 := HP.new 0 hd hlo (E := ⟨106, 7, v1, s.done.length, rowT s y.vs⟩) HO2; obtain ⟨g1, c1, rfl⟩ := HP1.some 0 (up_self _ _ _) H0.out; have o4 := HP1.cell 2 (up_ne _ _ (by decide)) rfl (j := 4) rfl; have z4 := HP1.free 2 (up_ne _ _ (by decide)) rfl 4)
  have HP2 := HP1.store 2 (up_ne _ _ (by decide)) rfl 4 (.slice (some ⟨g1, 0, none⟩) s.done.length c1)
  have hdo := (hd.mono hlo).setCell (p := ⟨ob, 4, none⟩) (Nat.le_refl ob) (.slice (some ⟨g1, 0, none⟩) s.done.length c1)
  have hob := HOB.out
  replace hA0 := (hdo.block _ (by omega)).trans hA0
  replace hA1 := (hdo.block _ (by omega)).trans hA1
  replace hA2 := (hdo.block _ (by omega)).trans hA2
  replace hB := hB.trans (hdo.mono (by omega))
  replace hlo := Nat.le_trans hlo hdo.size
  clear HP HP1 hd hdo o4 z4 HO HO2 HN hl7 h1x p4' hi hz0 hz1 hz2 i0 hob hg2
  generalize w1.setCell ⟨ob, 4, none⟩ (.slice (some ⟨g1, 0, none⟩) s.done.length c1) = W4 at HP2 hA0 hA1 hA2 hB hlo ⊢
  obtain ⟨bC, oC, eC, srcC⟩ := HH.out.srcP H1.out
  have p5 : W4.cell? ⟨w.heap.size, 5, none⟩ = some (.slice y.C s.has.length y.cc) := by rw [cell_of_row _ _ _ _ _ _ hA0]; rfl
  rw [eC] at p5
  obtain ⟨i0, hi, hzz⟩ := Option.map_eq_some_iff.1 info_part
  simp only [Prod.mk.injEq] at hzz
  obtain ⟨hz0, hz1, hz2⟩ := hzz
  have HO : (W4.alloc (.cells #[] 108)).ownsRow W4.heap.size 108 4 (.slice (some ⟨W4.heap.size, 0, none⟩) 0 0) 0 [] := World.ownsRow_made W4 #[] 0 (Nat.le_refl _) (by unfold maxLen; omega) rfl
  have hbn := (Below.refl W4.heap.size W4).alloc (Nat.le_refl _) (.cells #[] 108)
  have HN := Lib.hid (show ∀ j u, (rowP s)[j]? = some u → (W4.alloc (.cells #[] 108)).cell? ((⟨bC, oC, none⟩ : Addr).add j) = some u from fun j u h => cell_below (hB.trans (hbn.mono hB.size)) (srcC j u h))
  have hl4 := rowP_length s
  have h1x := rowP_one s
  have p5' := cell_below hbn p5
  clear srcC eC p5 hbn
  go_upto_region 4 with (at_builtin; refine wpList_append_own_at _ rfl (.tmp 12) (.tmp 14) 46 rfl W4.heap.size 108 i0 (.agg #[.bool false, .string ByteArray.empty, .int .i64 0, .bool false]) 4 40 Try.underlying46 hi hz0 hz1 hz2 rfl (by omega) (.slice (some ⟨W4.heap.size, 0, none⟩) 0 0) 0 [] rfl HO ⟨bC, oC, none⟩ s.has.length y.cc (rowP s) rfl (by omega) HN.out h1x (by simp only [maxLen]; omega) (by omega) (by simp) ?_; intro v1 w1 HO2 hg2 _ _; rw [Nat.zero_add, List.nil_append] at HO2; have hd := ((Below.refl W4.heap.size W4).alloc (Nat.le_refl _) (.cells #[] 108)).grown hg2 (by simp) (own_lo HO); have HP1 := HP2.new 1 hd hlo (E := ⟨108, 4, v1, s.has.length, rowP s⟩) HO2; obtain ⟨g2, c2, rfl⟩ := HP1.some 1 (up_self _ _ _) H1.out; have o5 := HP1.cell 2 ((up_ne _ _ (by decide)).trans (up_self _ _ _)) rfl (j := 5) rfl; have z5 := HP1.free 2 ((up_ne _ _ (by decide)).trans (up_self _ _ _)) rfl 5)
  have HP3 := HP1.store 2 ((up_ne _ _ (by decide)).trans (up_self _ _ _)) rfl 5 (.slice (some ⟨g2, 0, none⟩) s.has.length c2)
  have hdo := (hd.mono hlo).setCell (p := ⟨ob, 5, none⟩) (Nat.le_refl ob) (.slice (some ⟨g2, 0, none⟩) s.has.length c2)
  have hob := HOB.out
  replace hA1 := (hdo.block _ (by omega)).trans hA1
  replace hA2 := (hdo.block _ (by omega)).trans hA2
  replace hB := hB.trans (hdo.mono (by omega))
  have HE : RfE (w1.setCell ⟨ob, 5, none⟩ (.slice (some ⟨g2, 0, none⟩) s.has.length c2)) ob ob g1 c1 s.done.length g2 c2 s.has.length (tOf s y.vs) (pOf s) [.int .i64 s.n, .int .i64 s.ep, .int .i64 s.fin, .int .i64 s.er, .slice (some ⟨g1, 0, none⟩) s.done.length c1, .slice (some ⟨g2, 0, none⟩) s.has.length c2] _ :=
    ⟨HP3, ⟨rowT s y.vs, by rw [up_ne _ _ (by decide), up_ne _ _ (by decide), up_ne _ _ (by decide)]; exact up_self _ _ _, rowT_grid s y.vs⟩, ⟨rowP s, by rw [up_ne _ _ (by decide)]; exact up_self _ _ _, rowP_grid s⟩, up_self _ _ _⟩
  clear HP2 HP1 HP3 hd hdo o5 z5 HO HO2 HN hl4 h1x p5' hi hz0 hz1 hz2 i0 hob hg2 hA0 hlo
  generalize w1.setCell ⟨ob, 5, none⟩ (.slice (some ⟨g2, 0, none⟩) s.has.length c2) = W6 at HE hA1 hA2 hB ⊢
  have R0 : W6.cell? ⟨w.heap.size + 1, 0, none⟩ = some (.int .i64 rk) := by rw [cell_of_row _ _ _ _ _ _ hA1]; rfl
  have R1 : W6.cell? ⟨w.heap.size + 1, 1, none⟩ = some (.int .i64 rn) := by rw [cell_of_row _ _ _ _ _ _ hA1]; rfl
  have R2 : W6.cell? ⟨w.heap.size + 1, 2, none⟩ = some (.int .i64 re) := by rw [cell_of_row _ _ _ _ _ _ hA1]; rfl
  have R3 : W6.cell? ⟨w.heap.size + 1, 3, none⟩ = some (.string rt) := by rw [cell_of_row _ _ _ _ _ _ hA1]; rfl
  have R4 : W6.cell? ⟨w.heap.size + 1, 4, none⟩ = some (.int .i64 m.task) := by rw [cell_of_row _ _ _ _ _ _ hA1]; rfl
  have R5 : W6.cell? ⟨w.heap.size + 1, 5, none⟩ = some (.int .i64 m.att) := by rw [cell_of_row _ _ _ _ _ _ hA1]; rfl
  have R6 : W6.cell? ⟨w.heap.size + 1, 6, none⟩ = some (.slice v.A2 m.sz.length v.c2) := by rw [cell_of_row _ _ _ _ _ _ hA1]; rfl
  have R7 : W6.cell? ⟨w.heap.size + 1, 7, none⟩ = some (.slice v.A3 m.sm.length v.c3) := by rw [cell_of_row _ _ _ _ _ _ hA1]; rfl
  have R8 : W6.cell? ⟨w.heap.size + 1, 8, none⟩ = some (.slice v.A4 m.hm.length v.c4) := by rw [cell_of_row _ _ _ _ _ _ hA1]; rfl
  have HMS := Lib.hid (fun t ht => (HMN.out t ht).keep (w1 := W6) fun k hk => hB.block k (by have := HM0.out; omega))
  have HMW := Lib.hid (HMV.out.keep (w1 := W6) fun k hk => hB.block k (by have := HM0.out; omega))
  have o0 := HE.cellO (j := 0) rfl
  have o1 := HE.cellO (j := 1) rfl
  have o2 := HE.cellO (j := 2) rfl
  have o3 := HE.cellO (j := 3) rfl
  have o4 := HE.cellO (j := 4) rfl
  have o5 := HE.cellO (j := 5) rfl
  clear hA1
  have hc := HC.out
  clear HC
  cases hc with
  | boot hk =>
    dsimp only at hk
    subst hk
    have z1 := HE.freeO 1
    go_upto_region 22 with fail
    obtain ⟨F', H7⟩ := HE.setO 1 (.int .i64 rn)
    have hBO := (Below.refl ob W6).setCell (p := ⟨ob, 1, none⟩) (Nat.le_refl ob) (.int .i64 rn)
    generalize W6.setCell ⟨ob, 1, none⟩ (.int .i64 rn) = W7 at H7 hBO ⊢
    replace hA2 := (hBO.block _ (by have := HOB.out; omega)).trans hA2
    replace hB := hB.trans (hBO.mono (by have := HOB.out; omega))
    clear o0 o1 o2 o3 o4 o5 R0 R1 R2 R3 R4 R5 R6 R7 R8
    have o0 := H7.cellO (j := 0) rfl
    have o1 := H7.cellO (j := 1) rfl
    have o2 := H7.cellO (j := 2) rfl
    have o3 := H7.cellO (j := 3) rfl
    have o4 := H7.cellO (j := 4) rfl
    have o5 := H7.cellO (j := 5) rfl
    have hone : (#[.int .i64 s.n, .int .i64 rn, .int .i64 s.fin, .int .i64 s.er, .slice (some ⟨g1, 0, none⟩) s.done.length c1, .slice (some ⟨g2, 0, none⟩) s.has.length c2] : Array Value).all (·.oneCell') = true := by simp [Value.oneCell']
    have HK := Lib.hid H7
    have HBO := Lib.hid hBO
    clear H7 hBO
    go_wp2_with (refine wpList_store_row rfl 48 (.tmp 4) (.tmp 89) rfl (w.heap.size + 2) #[.int .i64 s.n, .int .i64 rn, .int .i64 s.fin, .int .i64 s.er, .slice (some ⟨g1, 0, none⟩) s.done.length c1, .slice (some ⟨g2, 0, none⟩) s.has.length c2] rfl rfl 48 #[.int .i64 0, .int .i64 0, .int .i64 0, .int .i64 0, .slice none 0 0, .slice none 0 0] hA2 info_ref rfl hone ?_)
    have HKK := HK.out
    exact do_fin (s' := { s with ep := rn }) (vs := y.vs) HKK (by simp) (by simp) (by have := HOB.out; omega) (fun a q ha hq => rfl) (fun a q ha hq => rfl) (fun a ha => (HMS.out a ha).keep fun k hk => HBO.out.block k (by have := HM0.out; have := HOB.out; omega)) HM0.out HOK.out hB hA2 _ rfl
  | done t hk ht hl he =>
    dsimp only at hk ht
    subst hk
    rw [ht] at R4
    have HTK := Lib.hid ht
    have i0 : (0 : Int) ≤ (t : Int) := by omega
    have i1 : (t : Int) < (s.done.length : Int) := by omega
    have HTE := Lib.hid he
    clear ht he
    have hgT := HE.ltT.1
    have a0 := HE.cellT hl (q := 0) (by decide)
    have z0 := HE.freeT (t * 7 + 0)
    have a1 := HE.cellT hl (q := 1) (by decide)
    have z1 := HE.freeT (t * 7 + 1)
    have a2 := HE.cellT hl (q := 2) (by decide)
    have z2 := HE.freeT (t * 7 + 2)
    have a3 := HE.cellT hl (q := 3) (by decide)
    have z3 := HE.freeT (t * 7 + 3)
    have a4 := HE.cellT hl (q := 4) (by decide)
    have z4 := HE.freeT (t * 7 + 4)
    have a5 := HE.cellT hl (q := 5) (by decide)
    have z5 := HE.freeT (t * 7 + 5)
    have a6 := HE.cellT hl (q := 6) (by decide)
    have z6 := HE.freeT (t * 7 + 6)
    rw [Nat.add_zero] at a0 z0
    obtain ⟨F0, H0⟩ := HE.setT hl (q := 0) (by decide) (.bool true)
    rw [Nat.add_zero] at H0
    obtain ⟨F1, H1⟩ := H0.setT hl (q := 1) (by decide) (.int .i64 (t : Nat))
    obtain ⟨F2, H2⟩ := H1.setT hl (q := 2) (by decide) (.int .i64 m.att)
    obtain ⟨F3, H3⟩ := H2.setT hl (q := 3) (by decide) (.slice v.A2 m.sz.length v.c2)
    obtain ⟨F4, H4⟩ := H3.setT hl (q := 4) (by decide) (.slice v.A3 m.sm.length v.c3)
    obtain ⟨F5, H5⟩ := H4.setT hl (q := 5) (by decide) (.slice v.A4 m.hm.length v.c4)
    obtain ⟨F6, H6⟩ := H5.setT hl (q := 6) (by decide) (.int .i64 0)
    clear H0 H1 H2 H3 H4 H5
    go_upto_region 22 with fail
    clear a0 z0 a1 z1 a2 z2 a3 z3 a4 z4 a5 z5 a6 z6
    replace H6 := H6.congrT (chain7' (tcell true m v 0) rfl (by show Value.int .i64 _ = Value.int .i64 m.task; rw [HTK.out]) rfl rfl rfl rfl rfl)
    have hBO := ((((((((Below.refl ob W6).setCell (p := ⟨g1, t * 7, none⟩) hgT (.bool true)).setCell (p := ⟨g1, t * 7 + 1, none⟩) hgT (.int .i64 (t : Nat))).setCell (p := ⟨g1, t * 7 + 2, none⟩) hgT (.int .i64 m.att)).setCell (p := ⟨g1, t * 7 + 3, none⟩) hgT (.slice v.A2 m.sz.length v.c2)).setCell (p := ⟨g1, t * 7 + 4, none⟩) hgT (.slice v.A3 m.sm.length v.c3)).setCell (p := ⟨g1, t * 7 + 5, none⟩) hgT (.slice v.A4 m.hm.length v.c4)).setCell (p := ⟨g1, t * 7 + 6, none⟩) hgT (.int .i64 0))
    generalize ((((((W6.setCell ⟨g1, t * 7, none⟩ (.bool true)).setCell ⟨g1, t * 7 + 1, none⟩ (.int .i64 (t : Nat))).setCell ⟨g1, t * 7 + 2, none⟩ (.int .i64 m.att)).setCell ⟨g1, t * 7 + 3, none⟩ (.slice v.A2 m.sz.length v.c2)).setCell ⟨g1, t * 7 + 4, none⟩ (.slice v.A3 m.sm.length v.c3)).setCell ⟨g1, t * 7 + 5, none⟩ (.slice v.A4 m.hm.length v.c4)).setCell ⟨g1, t * 7 + 6, none⟩ (.int .i64 0) = W7 at H6 hBO ⊢
    replace hA2 := (hBO.block _ (by have := HOB.out; omega)).trans hA2
    replace hB := hB.trans (hBO.mono (by have := HOB.out; omega))
    clear o0 o1 o2 o3 o4 o5 R0 R1 R2 R3 R4 R5 R6 R7 R8
    have o0 := H6.cellO (j := 0) rfl
    have o1 := H6.cellO (j := 1) rfl
    have o2 := H6.cellO (j := 2) rfl
    have o3 := H6.cellO (j := 3) rfl
    have o4 := H6.cellO (j := 4) rfl
    have o5 := H6.cellO (j := 5) rfl
    have hone : (#[.int .i64 s.n, .int .i64 s.ep, .int .i64 s.fin, .int .i64 s.er, .slice (some ⟨g1, 0, none⟩) s.done.length c1, .slice (some ⟨g2, 0, none⟩) s.has.length c2] : Array Value).all (·.oneCell') = true := by simp [Value.oneCell']
    have HK := Lib.hid H6
    have HBO := Lib.hid hBO
    clear H6 hBO
    go_wp2_with (refine wpList_store_row rfl 48 (.tmp 4) (.tmp 89) rfl (w.heap.size + 2) #[.int .i64 s.n, .int .i64 s.ep, .int .i64 s.fin, .int .i64 s.er, .slice (some ⟨g1, 0, none⟩) s.done.length c1, .slice (some ⟨g2, 0, none⟩) s.has.length c2] rfl rfl 48 #[.int .i64 0, .int .i64 0, .int .i64 0, .int .i64 0, .slice none 0 0, .slice none 0 0] hA2 info_ref rfl hone ?_)
    have HKK := HK.out
    exact do_fin (s' := { s with done := s.done.set t true, ms := s.ms.set t m }) (vs := upv y.vs t v) HKK (by simp) (by simp) (by have := HOB.out; omega) (fun a q ha hq => (upd_task hl (by have := HH.out.ok.lm; omega) HTE.out a q hq)) (fun a q ha hq => rfl) (fun a ha => by
      by_cases e : a = t
      · subst e
        rw [show upv y.vs a v a = v from if_pos rfl, show (s.ms.set a m).getD a noMan = m from getD_set_self _ _ _ _ (by have := HH.out.ok.lm; omega)]
        exact HMW.out.keep fun k hk => HBO.out.block k (by have := HM0.out; have := HOB.out; omega)
      · rw [show upv y.vs t v a = y.vs a from if_neg e, show (s.ms.set t m).getD a noMan = s.ms.getD a noMan from getD_set_ne' _ _ _ (fun h => e h.symm)]
        exact (HMS.out a ha).keep fun k hk => HBO.out.block k (by have := HM0.out; have := HOB.out; omega)) HM0.out HOK.out hB hA2 _ rfl
  | lost t hk ht hl hd =>
    dsimp only at hk ht
    subst hk
    subst ht
    have i0 : (0 : Int) ≤ (t : Int) := by omega
    have i1 : (t : Int) < (s.done.length : Int) := by omega
    have HTE := Lib.hid (HI.out.task t hl hd).2
    clear hd
    have hgT := HE.ltT.1
    have a0 := HE.cellT hl (q := 0) (by decide)
    have z0 := HE.freeT (t * 7 + 0)
    have a1 := HE.cellT hl (q := 1) (by decide)
    have z1 := HE.freeT (t * 7 + 1)
    have a2 := HE.cellT hl (q := 2) (by decide)
    have z2 := HE.freeT (t * 7 + 2)
    have a3 := HE.cellT hl (q := 3) (by decide)
    have z3 := HE.freeT (t * 7 + 3)
    have a4 := HE.cellT hl (q := 4) (by decide)
    have z4 := HE.freeT (t * 7 + 4)
    have a5 := HE.cellT hl (q := 5) (by decide)
    have z5 := HE.freeT (t * 7 + 5)
    have a6 := HE.cellT hl (q := 6) (by decide)
    have z6 := HE.freeT (t * 7 + 6)
    rw [Nat.add_zero] at a0 z0
    obtain ⟨F0, H0⟩ := HE.setT hl (q := 0) (by decide) (.bool false)
    rw [Nat.add_zero] at H0
    obtain ⟨F1, H1⟩ := H0.setT hl (q := 1) (by decide) (.int .i64 0)
    obtain ⟨F2, H2⟩ := H1.setT hl (q := 2) (by decide) (.int .i64 0)
    obtain ⟨F3, H3⟩ := H2.setT hl (q := 3) (by decide) (.slice none 0 0)
    obtain ⟨F4, H4⟩ := H3.setT hl (q := 4) (by decide) (.slice none 0 0)
    obtain ⟨F5, H5⟩ := H4.setT hl (q := 5) (by decide) (.slice none 0 0)
    obtain ⟨F6, H6⟩ := H5.setT hl (q := 6) (by decide) (.int .i64 0)
    clear H0 H1 H2 H3 H4 H5
    go_upto_region 22 with fail
    clear a0 z0 a1 z1 a2 z2 a3 z3 a4 z4 a5 z5 a6 z6
    replace H6 := H6.congrT (chain7' (tcell false noMan noMV 0) rfl rfl rfl rfl rfl rfl rfl)
    have hBO := ((((((((Below.refl ob W6).setCell (p := ⟨g1, t * 7, none⟩) hgT (.bool false)).setCell (p := ⟨g1, t * 7 + 1, none⟩) hgT (.int .i64 0)).setCell (p := ⟨g1, t * 7 + 2, none⟩) hgT (.int .i64 0)).setCell (p := ⟨g1, t * 7 + 3, none⟩) hgT (.slice none 0 0)).setCell (p := ⟨g1, t * 7 + 4, none⟩) hgT (.slice none 0 0)).setCell (p := ⟨g1, t * 7 + 5, none⟩) hgT (.slice none 0 0)).setCell (p := ⟨g1, t * 7 + 6, none⟩) hgT (.int .i64 0))
    generalize ((((((W6.setCell ⟨g1, t * 7, none⟩ (.bool false)).setCell ⟨g1, t * 7 + 1, none⟩ (.int .i64 0)).setCell ⟨g1, t * 7 + 2, none⟩ (.int .i64 0)).setCell ⟨g1, t * 7 + 3, none⟩ (.slice none 0 0)).setCell ⟨g1, t * 7 + 4, none⟩ (.slice none 0 0)).setCell ⟨g1, t * 7 + 5, none⟩ (.slice none 0 0)).setCell ⟨g1, t * 7 + 6, none⟩ (.int .i64 0) = W7 at H6 hBO ⊢
    replace hA2 := (hBO.block _ (by have := HOB.out; omega)).trans hA2
    replace hB := hB.trans (hBO.mono (by have := HOB.out; omega))
    clear o0 o1 o2 o3 o4 o5 R0 R1 R2 R3 R4 R5 R6 R7 R8
    have o0 := H6.cellO (j := 0) rfl
    have o1 := H6.cellO (j := 1) rfl
    have o2 := H6.cellO (j := 2) rfl
    have o3 := H6.cellO (j := 3) rfl
    have o4 := H6.cellO (j := 4) rfl
    have o5 := H6.cellO (j := 5) rfl
    have hone : (#[.int .i64 s.n, .int .i64 s.ep, .int .i64 s.fin, .int .i64 s.er, .slice (some ⟨g1, 0, none⟩) s.done.length c1, .slice (some ⟨g2, 0, none⟩) s.has.length c2] : Array Value).all (·.oneCell') = true := by simp [Value.oneCell']
    have HK := Lib.hid H6
    have HBO := Lib.hid hBO
    clear H6 hBO
    go_wp2_with (refine wpList_store_row rfl 48 (.tmp 4) (.tmp 89) rfl (w.heap.size + 2) #[.int .i64 s.n, .int .i64 s.ep, .int .i64 s.fin, .int .i64 s.er, .slice (some ⟨g1, 0, none⟩) s.done.length c1, .slice (some ⟨g2, 0, none⟩) s.has.length c2] rfl rfl 48 #[.int .i64 0, .int .i64 0, .int .i64 0, .int .i64 0, .slice none 0 0, .slice none 0 0] hA2 info_ref rfl hone ?_)
    have HKK := HK.out
    exact do_fin (s' := { s with done := s.done.set t false, ms := s.ms.set t noMan }) (vs := upv y.vs t noMV) HKK (by simp) (by simp) (by have := HOB.out; omega) (fun a q ha hq => (upd_task hl (by have := HH.out.ok.lm; omega) HTE.out a q hq)) (fun a q ha hq => rfl) (fun a ha => by
      by_cases e : a = t
      · subst e
        rw [show upv y.vs a noMV a = noMV from if_pos rfl, show (s.ms.set a noMan).getD a noMan = noMan from getD_set_self _ _ _ _ (by have := HH.out.ok.lm; omega)]
        exact no_safe _ _
      · rw [show upv y.vs t noMV a = y.vs a from if_neg e, show (s.ms.set t noMan).getD a noMan = s.ms.getD a noMan from getD_set_ne' _ _ _ (fun h => e h.symm)]
        exact (HMS.out a ha).keep fun k hk => HBO.out.block k (by have := HM0.out; have := HOB.out; omega)) HM0.out HOK.out hB hA2 _ rfl
  | taskErr t hk ht hl hd =>
    dsimp only at hk ht
    subst hk
    subst ht
    have i0 : (0 : Int) ≤ (t : Int) := by omega
    have i1 : (t : Int) < (s.done.length : Int) := by omega
    have hgT := HE.ltT.1
    have a9 := HE.cellT hl (q := 6) (by decide)
    have z9 := HE.freeT (t * 7 + 6)
    obtain ⟨F9, H9⟩ := HE.setT hl (q := 6) (by decide) (.int .i64 re)
    go_upto_region 22 with fail
    clear a9 z9
    have hBO := (Below.refl ob W6).setCell (p := ⟨g1, t * 7 + 6, none⟩) hgT (.int .i64 re)
    generalize W6.setCell ⟨g1, t * 7 + 6, none⟩ (.int .i64 re) = W7 at H9 hBO ⊢
    replace hA2 := (hBO.block _ (by have := HOB.out; omega)).trans hA2
    replace hB := hB.trans (hBO.mono (by have := HOB.out; omega))
    clear o0 o1 o2 o3 o4 o5 R0 R1 R2 R3 R4 R5 R6 R7 R8
    have o0 := H9.cellO (j := 0) rfl
    have o1 := H9.cellO (j := 1) rfl
    have o2 := H9.cellO (j := 2) rfl
    have o3 := H9.cellO (j := 3) rfl
    have o4 := H9.cellO (j := 4) rfl
    have o5 := H9.cellO (j := 5) rfl
    have hone : (#[.int .i64 s.n, .int .i64 s.ep, .int .i64 s.fin, .int .i64 s.er, .slice (some ⟨g1, 0, none⟩) s.done.length c1, .slice (some ⟨g2, 0, none⟩) s.has.length c2] : Array Value).all (·.oneCell') = true := by simp [Value.oneCell']
    have HK := Lib.hid H9
    have HBO := Lib.hid hBO
    clear H9 hBO
    go_wp2_with (refine wpList_store_row rfl 48 (.tmp 4) (.tmp 89) rfl (w.heap.size + 2) #[.int .i64 s.n, .int .i64 s.ep, .int .i64 s.fin, .int .i64 s.er, .slice (some ⟨g1, 0, none⟩) s.done.length c1, .slice (some ⟨g2, 0, none⟩) s.has.length c2] rfl rfl 48 #[.int .i64 0, .int .i64 0, .int .i64 0, .int .i64 0, .slice none 0 0, .slice none 0 0] hA2 info_ref rfl hone ?_)
    have HKK := HK.out
    exact do_fin (s' := { s with te := s.te.set t re }) (vs := y.vs) HKK (by simp) (by simp) (by have := HOB.out; omega) (fun a q ha hq => upd_te (by have := HH.out.ok.lt; omega) a q hq) (fun a q ha hq => rfl) (fun a ha => (HMS.out a ha).keep fun k hk => HBO.out.block k (by have := HM0.out; have := HOB.out; omega)) HM0.out HOK.out hB hA2 _ rfl
  | partErr t hk ht hl =>
    dsimp only at hk ht
    subst hk
    subst ht
    have i0 : (0 : Int) ≤ (t : Int) := by omega
    have i1 : (t : Int) < (s.has.length : Int) := by omega
    have hgT := HE.ltP.1
    have a9 := HE.cellP hl (q := 2) (by decide)
    have z9 := HE.freeP (t * 4 + 2)
    obtain ⟨F9, H9⟩ := HE.setP hl (q := 2) (by decide) (.int .i64 re)
    go_upto_region 22 with fail
    clear a9 z9
    have hBO := (Below.refl ob W6).setCell (p := ⟨g2, t * 4 + 2, none⟩) hgT (.int .i64 re)
    generalize W6.setCell ⟨g2, t * 4 + 2, none⟩ (.int .i64 re) = W7 at H9 hBO ⊢
    replace hA2 := (hBO.block _ (by have := HOB.out; omega)).trans hA2
    replace hB := hB.trans (hBO.mono (by have := HOB.out; omega))
    clear o0 o1 o2 o3 o4 o5 R0 R1 R2 R3 R4 R5 R6 R7 R8
    have o0 := H9.cellO (j := 0) rfl
    have o1 := H9.cellO (j := 1) rfl
    have o2 := H9.cellO (j := 2) rfl
    have o3 := H9.cellO (j := 3) rfl
    have o4 := H9.cellO (j := 4) rfl
    have o5 := H9.cellO (j := 5) rfl
    have hone : (#[.int .i64 s.n, .int .i64 s.ep, .int .i64 s.fin, .int .i64 s.er, .slice (some ⟨g1, 0, none⟩) s.done.length c1, .slice (some ⟨g2, 0, none⟩) s.has.length c2] : Array Value).all (·.oneCell') = true := by simp [Value.oneCell']
    have HK := Lib.hid H9
    have HBO := Lib.hid hBO
    clear H9 hBO
    go_wp2_with (refine wpList_store_row rfl 48 (.tmp 4) (.tmp 89) rfl (w.heap.size + 2) #[.int .i64 s.n, .int .i64 s.ep, .int .i64 s.fin, .int .i64 s.er, .slice (some ⟨g1, 0, none⟩) s.done.length c1, .slice (some ⟨g2, 0, none⟩) s.has.length c2] rfl rfl 48 #[.int .i64 0, .int .i64 0, .int .i64 0, .int .i64 0, .slice none 0 0, .slice none 0 0] hA2 info_ref rfl hone ?_)
    have HKK := HK.out
    exact do_fin (s' := { s with pe := s.pe.set t re }) (vs := y.vs) HKK (by simp) (by simp) (by have := HOB.out; omega) (fun a q ha hq => rfl) (fun a q ha hq => upd_pe (by have := HH.out.ok.lp; omega) a q hq) (fun a ha => (HMS.out a ha).keep fun k hk => HBO.out.block k (by have := HM0.out; have := HOB.out; omega)) HM0.out HOK.out hB hA2 _ rfl
  | commit t hk ht hl hh =>
    dsimp only at hk ht
    subst hk
    subst ht
    have i0 : (0 : Int) ≤ (t : Int) := by omega
    have i1 : (t : Int) < (s.has.length : Int) := by omega
    have hgT := HE.ltP.1
    have a9 := HE.cellP hl (q := 3) (by decide)
    have z9 := HE.freeP (t * 4 + 3)
    obtain ⟨F9, H9⟩ := HE.setP hl (q := 3) (by decide) (.bool true)
    go_upto_region 22 with fail
    clear a9 z9
    have hBO := (Below.refl ob W6).setCell (p := ⟨g2, t * 4 + 3, none⟩) hgT (.bool true)
    generalize W6.setCell ⟨g2, t * 4 + 3, none⟩ (.bool true) = W7 at H9 hBO ⊢
    replace hA2 := (hBO.block _ (by have := HOB.out; omega)).trans hA2
    replace hB := hB.trans (hBO.mono (by have := HOB.out; omega))
    clear o0 o1 o2 o3 o4 o5 R0 R1 R2 R3 R4 R5 R6 R7 R8
    have o0 := H9.cellO (j := 0) rfl
    have o1 := H9.cellO (j := 1) rfl
    have o2 := H9.cellO (j := 2) rfl
    have o3 := H9.cellO (j := 3) rfl
    have o4 := H9.cellO (j := 4) rfl
    have o5 := H9.cellO (j := 5) rfl
    have hone : (#[.int .i64 s.n, .int .i64 s.ep, .int .i64 s.fin, .int .i64 s.er, .slice (some ⟨g1, 0, none⟩) s.done.length c1, .slice (some ⟨g2, 0, none⟩) s.has.length c2] : Array Value).all (·.oneCell') = true := by simp [Value.oneCell']
    have HK := Lib.hid H9
    have HBO := Lib.hid hBO
    clear H9 hBO
    go_wp2_with (refine wpList_store_row rfl 48 (.tmp 4) (.tmp 89) rfl (w.heap.size + 2) #[.int .i64 s.n, .int .i64 s.ep, .int .i64 s.fin, .int .i64 s.er, .slice (some ⟨g1, 0, none⟩) s.done.length c1, .slice (some ⟨g2, 0, none⟩) s.has.length c2] rfl rfl 48 #[.int .i64 0, .int .i64 0, .int .i64 0, .int .i64 0, .slice none 0 0, .slice none 0 0] hA2 info_ref rfl hone ?_)
    have HKK := HK.out
    exact do_fin (s' := { s with com := s.com.set t true }) (vs := y.vs) HKK (by simp) (by simp) (by have := HOB.out; omega) (fun a q ha hq => rfl) (fun a q ha hq => upd_com (by have := HH.out.ok.lc; omega) a q hq) (fun a ha => (HMS.out a ha).keep fun k hk => HBO.out.block k (by have := HM0.out; have := HOB.out; omega)) HM0.out HOK.out hB hA2 _ rfl
  | result t hk ht hl hh hp =>
    dsimp only at hk ht
    subst hk
    subst ht
    have i0 : (0 : Int) ≤ (t : Int) := by omega
    have i1 : (t : Int) < (s.has.length : Int) := by omega
    have HPE := Lib.hid hp
    have HCM := Lib.hid (show s.com.getD t false = false from by
      cases hq : s.com.getD t false
      · rfl
      · have := HI.out.part t hl hq; rw [hh] at this; cases this)
    clear hh hp
    have hgT := HE.ltP.1
    have a0 := HE.cellP hl (q := 0) (by decide)
    have z0 := HE.freeP (t * 4 + 0)
    have a1 := HE.cellP hl (q := 1) (by decide)
    have z1 := HE.freeP (t * 4 + 1)
    have a2 := HE.cellP hl (q := 2) (by decide)
    have z2 := HE.freeP (t * 4 + 2)
    have a3 := HE.cellP hl (q := 3) (by decide)
    have z3 := HE.freeP (t * 4 + 3)
    rw [Nat.add_zero] at a0 z0
    obtain ⟨F0, H0⟩ := HE.setP hl (q := 0) (by decide) (.bool true)
    rw [Nat.add_zero] at H0
    obtain ⟨F1, H1⟩ := H0.setP hl (q := 1) (by decide) (.string rt)
    obtain ⟨F2, H2⟩ := H1.setP hl (q := 2) (by decide) (.int .i64 0)
    obtain ⟨F3, H3⟩ := H2.setP hl (q := 3) (by decide) (.bool false)
    skip
    go_upto_region 22 with fail
    clear a0 z0 a1 z1 a2 z2 a3 z3
    have hBO := (((((Below.refl ob W6).setCell (p := ⟨g2, t * 4, none⟩) hgT (.bool true)).setCell (p := ⟨g2, t * 4 + 1, none⟩) hgT (.string rt)).setCell (p := ⟨g2, t * 4 + 2, none⟩) hgT (.int .i64 0)).setCell (p := ⟨g2, t * 4 + 3, none⟩) hgT (.bool false))
    generalize (((W6.setCell ⟨g2, t * 4, none⟩ (.bool true)).setCell ⟨g2, t * 4 + 1, none⟩ (.string rt)).setCell ⟨g2, t * 4 + 2, none⟩ (.int .i64 0)).setCell ⟨g2, t * 4 + 3, none⟩ (.bool false) = W7 at H3 hBO ⊢
    replace hA2 := (hBO.block _ (by have := HOB.out; omega)).trans hA2
    replace hB := hB.trans (hBO.mono (by have := HOB.out; omega))
    clear o0 o1 o2 o3 o4 o5 R0 R1 R2 R3 R4 R5 R6 R7 R8
    have o0 := H3.cellO (j := 0) rfl
    have o1 := H3.cellO (j := 1) rfl
    have o2 := H3.cellO (j := 2) rfl
    have o3 := H3.cellO (j := 3) rfl
    have o4 := H3.cellO (j := 4) rfl
    have o5 := H3.cellO (j := 5) rfl
    have hone : (#[.int .i64 s.n, .int .i64 s.ep, .int .i64 s.fin, .int .i64 s.er, .slice (some ⟨g1, 0, none⟩) s.done.length c1, .slice (some ⟨g2, 0, none⟩) s.has.length c2] : Array Value).all (·.oneCell') = true := by simp [Value.oneCell']
    have HK := Lib.hid H3
    have HBO := Lib.hid hBO
    clear H3 hBO
    go_wp2_with (refine wpList_store_row rfl 48 (.tmp 4) (.tmp 89) rfl (w.heap.size + 2) #[.int .i64 s.n, .int .i64 s.ep, .int .i64 s.fin, .int .i64 s.er, .slice (some ⟨g1, 0, none⟩) s.done.length c1, .slice (some ⟨g2, 0, none⟩) s.has.length c2] rfl rfl 48 #[.int .i64 0, .int .i64 0, .int .i64 0, .int .i64 0, .slice none 0 0, .slice none 0 0] hA2 info_ref rfl hone ?_)
    have HKK := HK.out
    exact do_fin (s' := { s with has := s.has.set t true, res := s.res.set t rt }) (vs := y.vs) HKK (by simp) (by simp) (by have := HOB.out; omega) (fun a q ha hq => rfl) (fun a q ha hq => (chain4 (pOf s) t (pcell true rt 0 false) a q hq).trans (upd_res hl (by have := HH.out.ok.lr; omega) HPE.out HCM.out a q hq)) (fun a ha => (HMS.out a ha).keep fun k hk => HBO.out.block k (by have := HM0.out; have := HOB.out; omega)) HM0.out HOK.out hB hA2 _ rfl
  | fin hk =>
    dsimp only at hk
    subst hk
    have z2 := HE.freeO 2
    have z3 := HE.freeO 3
    obtain ⟨F8, H8⟩ := HE.setO 2 (.int .i64 rn)
    obtain ⟨F9, H9⟩ := H8.setO 3 (.int .i64 re)
    have rr2 : (W6.setCell ⟨ob, 2, none⟩ (.int .i64 rn)).cell? ⟨w.heap.size + 1, 2, none⟩ = some (.int .i64 re) := by rw [cell_set_ne (by have := HOB.out; omega)]; exact R2
    have zz3 := H8.freeO 3
    have oo3 := H8.cellO (j := 3) rfl
    clear H8
    go_upto_region 22 with fail
    clear z2 z3 rr2 zz3 oo3
    have hBO := ((Below.refl ob W6).setCell (p := ⟨ob, 2, none⟩) (Nat.le_refl ob) (.int .i64 rn)).setCell (p := ⟨ob, 3, none⟩) (Nat.le_refl ob) (.int .i64 re)
    generalize (W6.setCell ⟨ob, 2, none⟩ (.int .i64 rn)).setCell ⟨ob, 3, none⟩ (.int .i64 re) = W7 at H9 hBO ⊢
    replace hA2 := (hBO.block _ (by have := HOB.out; omega)).trans hA2
    replace hB := hB.trans (hBO.mono (by have := HOB.out; omega))
    clear o0 o1 o2 o3 o4 o5 R0 R1 R2 R3 R4 R5 R6 R7 R8
    have o0 := H9.cellO (j := 0) rfl
    have o1 := H9.cellO (j := 1) rfl
    have o2 := H9.cellO (j := 2) rfl
    have o3 := H9.cellO (j := 3) rfl
    have o4 := H9.cellO (j := 4) rfl
    have o5 := H9.cellO (j := 5) rfl
    have hone : (#[.int .i64 s.n, .int .i64 s.ep, .int .i64 rn, .int .i64 re, .slice (some ⟨g1, 0, none⟩) s.done.length c1, .slice (some ⟨g2, 0, none⟩) s.has.length c2] : Array Value).all (·.oneCell') = true := by simp [Value.oneCell']
    have HK := Lib.hid H9
    have HBO := Lib.hid hBO
    clear H9 hBO
    go_wp2_with (refine wpList_store_row rfl 48 (.tmp 4) (.tmp 89) rfl (w.heap.size + 2) #[.int .i64 s.n, .int .i64 s.ep, .int .i64 rn, .int .i64 re, .slice (some ⟨g1, 0, none⟩) s.done.length c1, .slice (some ⟨g2, 0, none⟩) s.has.length c2] rfl rfl 48 #[.int .i64 0, .int .i64 0, .int .i64 0, .int .i64 0, .slice none 0 0, .slice none 0 0] hA2 info_ref rfl hone ?_)
    have HKK := HK.out
    exact do_fin (s' := { s with fin := rn, er := re }) (vs := y.vs) HKK (by simp) (by simp) (by have := HOB.out; omega) (fun a q ha hq => rfl) (fun a q ha hq => rfl) (fun a ha => (HMS.out a ha).keep fun k hk => HBO.out.block k (by have := HM0.out; have := HOB.out; omega)) HM0.out HOK.out hB hA2 _ rfl
end Go.Proofs.Ytmlemichkeomjaa.LedW

