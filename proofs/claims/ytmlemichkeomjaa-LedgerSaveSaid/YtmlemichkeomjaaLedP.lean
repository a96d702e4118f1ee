/- The ledger's states and records, and what a record does: plain. -/
import Derived.Test.YtmlemichkeomjaaManP
import Derived.Test.YtmlemichkeomjaaM7
set_option linter.unusedVariables false
set_option linter.unusedSimpArgs false
namespace Go.Proofs.Ytmlemichkeomjaa.LedP
open Go.Proofs.Ytmlemichkeomjaa.ManP Go.Proofs.Ytmlemichkeomjaa.MendW
/-- What is known. -/
structure LS where
  n : Int
  ep : Int
  done : List Bool
  ms : List Man
  te : List Int
  has : List Bool
  res : List ByteArray
  pe : List Int
  com : List Bool
  fin : Int
  er : Int
/-- A record. -/
structure LR where
  kind : Int
  n : Int
  e : Int
  text : ByteArray
  m : Man
noncomputable def right (m : Man) (parts n : Int) : Bool := rightB m.task m.att m.sz.length m.sm.length m.hm.length m.sz m.hm parts n
noncomputable def doneP (s : LS) (r : LR) : LS × Nat :=
  if right r.m s.has.length s.n = false ∨ (s.done.length : Int) ≤ r.m.task then (s, 1)
  else if s.te.getD r.m.task.toNat 0 ≠ 0 ∨ (s.done.getD r.m.task.toNat false = true ∧ ((s.ms.getD r.m.task.toNat noMan).att ≠ r.m.att ∨ (s.ms.getD r.m.task.toNat noMan).sz ≠ r.m.sz ∨ (s.ms.getD r.m.task.toNat noMan).sm ≠ r.m.sm)) then (s, 18)
  else ({ s with done := s.done.set r.m.task.toNat true, ms := s.ms.set r.m.task.toNat r.m }, 0)
def taskErrP (s : LS) (r : LR) : LS × Nat :=
  if r.e = 0 then (s, 1) else if s.done.getD r.n.toNat false = true ∨ s.te.getD r.n.toNat 0 ≠ 0 then (s, 18) else ({ s with te := s.te.set r.n.toNat r.e }, 0)
def lostP (s : LS) (r : LR) : LS × Nat :=
  if s.done.getD r.n.toNat false = false then (s, 19) else ({ s with done := s.done.set r.n.toNat false, ms := s.ms.set r.n.toNat noMan }, 0)
def resultP (s : LS) (r : LR) : LS × Nat :=
  if 1048576 < r.text.size then (s, 3) else if s.has.getD r.n.toNat false = true ∨ s.pe.getD r.n.toNat 0 ≠ 0 then (s, 18) else ({ s with has := s.has.set r.n.toNat true, res := s.res.set r.n.toNat r.text }, 0)
def partErrP (s : LS) (r : LR) : LS × Nat :=
  if r.e = 0 then (s, 1) else if s.has.getD r.n.toNat false = true ∨ s.pe.getD r.n.toNat 0 ≠ 0 then (s, 18) else ({ s with pe := s.pe.set r.n.toNat r.e }, 0)
def commitP (s : LS) (r : LR) : LS × Nat :=
  if false ∈ s.has then (s, 19) else if s.com.getD r.n.toNat false = true then (s, 18) else ({ s with com := s.com.set r.n.toNat true }, 0)
def endP (s : LS) (r : LR) : LS × Nat :=
  if r.n < 1 ∨ 3 < r.n ∨ ¬ (r.e = 0 ↔ r.n = 1) then (s, 1)
  else if (r.n = 1 ∧ false ∈ s.com) ∨ (r.n ≠ 1 ∧ true ∈ s.com) then (s, 19)
  else ({ s with fin := r.n, er := r.e }, 0)
def badR (r : LR) : Prop := r.kind < 0 ∨ 7 < r.kind ∨ r.e < 0 ∨ 255 < r.e ∨ r.n < 0 ∨ 2147483647 < r.n
/-- How many things the number tells one of. -/
def mostP (s : LS) (r : LR) : Int := if r.kind = 2 ∨ r.kind = 3 then s.done.length else if r.kind = 4 ∨ r.kind = 5 ∨ r.kind = 6 then s.has.length else -1
noncomputable def methP (s : LS) (r : LR) : LS × Nat :=
  if r.kind = 1 then doneP s r else if r.kind = 2 then taskErrP s r else if r.kind = 3 then lostP s r else if r.kind = 4 then resultP s r else if r.kind = 5 then partErrP s r else if r.kind = 6 then commitP s r else endP s r
open Classical in
noncomputable def applyP (s : LS) (r : LR) : LS × Nat :=
  if badR r then (s, 1)
  else if r.kind = 0 then (if r.n ≤ s.ep then (s, 17) else ({ s with ep := r.n }, 0))
  else if s.fin ≠ 0 then (s, 19)
  else if 0 ≤ mostP s r ∧ mostP s r ≤ r.n then (s, 1)
  else methP s r
/-- A manifest of few things. -/
structure Slim (m : Man) : Prop where
  sz : m.sz.length ≤ 30
  sm : m.sm.length ≤ 30
  hm : m.hm.length ≤ 30
  row : ∀ l ∈ m.hm, l.length ≤ 30
theorem slim_no : Slim noMan := ⟨Nat.zero_le _, Nat.zero_le _, Nat.zero_le _, fun l h => by cases h⟩
/-- A state that is one. -/
structure Ok (s : LS) : Prop where
  lm : s.ms.length = s.done.length
  lt : s.te.length = s.done.length
  lr : s.res.length = s.has.length
  lp : s.pe.length = s.has.length
  lc : s.com.length = s.has.length
  few : s.done.length ≤ 16
  fewp : s.has.length ≤ 16
  slim : ∀ m ∈ s.ms, Slim m
theorem Ok.meth {s : LS} {r : LR} (h : Ok s) (hr : Slim r.m) : Ok (methP s r).1 := by
  unfold methP
  split
  · unfold doneP; split
    · exact h
    · split
      · exact h
      · refine ⟨by simp [h.lm], by simp [h.lt], h.lr, h.lp, h.lc, by simpa using h.few, h.fewp, fun m hm => ?_⟩
        rcases List.mem_or_eq_of_mem_set hm with h1 | rfl
        · exact h.slim m h1
        · exact hr
  · split
    · unfold taskErrP; split
      · exact h
      · split
        · exact h
        · exact ⟨h.lm, by simp [h.lt], h.lr, h.lp, h.lc, h.few, h.fewp, h.slim⟩
    · split
      · unfold lostP; split
        · exact h
        · refine ⟨by simp [h.lm], by simp [h.lt], h.lr, h.lp, h.lc, by simpa using h.few, h.fewp, fun m hm => ?_⟩
          rcases List.mem_or_eq_of_mem_set hm with h1 | rfl
          · exact h.slim m h1
          · exact slim_no
      · split
        · unfold resultP; split
          · exact h
          · split
            · exact h
            · exact ⟨h.lm, h.lt, by simp [h.lr], by simp [h.lp], by simp [h.lc], h.few, by simpa using h.fewp, h.slim⟩
        · split
          · unfold partErrP; split
            · exact h
            · split
              · exact h
              · exact ⟨h.lm, h.lt, h.lr, by simp [h.lp], h.lc, h.few, h.fewp, h.slim⟩
          · split
            · unfold commitP; split
              · exact h
              · split
                · exact h
                · exact ⟨h.lm, h.lt, h.lr, h.lp, by simp [h.lc], h.few, h.fewp, h.slim⟩
            · unfold endP; split
              · exact h
              · split
                · exact h
                · exact ⟨h.lm, h.lt, h.lr, h.lp, h.lc, h.few, h.fewp, h.slim⟩
theorem Ok.apply {s : LS} {r : LR} (h : Ok s) (hr : Slim r.m) : Ok (applyP s r).1 := by
  unfold applyP
  split
  · exact h
  · split
    · split
      · exact h
      · exact ⟨h.lm, h.lt, h.lr, h.lp, h.lc, h.few, h.fewp, h.slim⟩
    · split
      · exact h
      · split
        · exact h
        · exact h.meth hr
end Go.Proofs.Ytmlemichkeomjaa.LedP
