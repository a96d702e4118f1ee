/- A pool: rows of one's own under keys, no two of which lie in one block. -/
import Derived.Test.YtpologlcfohjeaaOwn
import Derived.Deep.OwnRows
import Derived.Maps.AppendAt
set_option linter.unusedVariables false
set_option linter.unusedSimpArgs false
namespace Go.Proofs.Ytpologlcfohjeaa.Base
open Go.RowKit
/-- A row of one's own. -/
structure Ent where
  e : TypeId
  size : Nat
  v : Value
  n : Nat
  xs : List Value
def Ent.own (E : Ent) (w : World) (lo : Nat) : Prop := w.ownsRow lo E.e E.size E.v E.n E.xs
/-- No row. -/
def noEnt : Ent := ⟨0, 0, .slice none 0 0, 0, []⟩
theorem noEnt_own (w : World) (lo : Nat) : noEnt.own w lo := ⟨rfl, .inl ⟨rfl, rfl⟩⟩
def up {κ : Type} [DecidableEq κ] (F : κ → Ent) (a : κ) (E : Ent) : κ → Ent := fun b => if b = a then E else F b
theorem up_self {κ : Type} [DecidableEq κ] (F : κ → Ent) (a : κ) (E : Ent) : up F a E a = E := if_pos rfl
theorem up_ne {κ : Type} [DecidableEq κ] (F : κ → Ent) {a b : κ} (E : Ent) (h : b ≠ a) : up F a E b = F b := if_neg h
/-- Rows under keys, each in a block of its own. -/
structure Pool {κ : Type} (w : World) (lo : Nat) (F : κ → Ent) : Prop where
  own : ∀ a, (F a).own w lo
  ne : ∀ a b g, (F a).v.ownBlock = some g → (F b).v.ownBlock = some g → a = b
theorem Pool.nil {κ : Type} (w : World) (lo : Nat) : Pool w lo (fun _ : κ => noEnt) := ⟨fun _ => noEnt_own w lo, fun a b g h => by simp [noEnt, Value.ownBlock] at h⟩
theorem pool_heap {w w' : World} {base e size n : Nat} {v : Value} {xs : List Value} (h : w.ownsRow base e size v n xs) (hb : ∀ g, v.ownBlock = some g → w'.heap[g]? = w.heap[g]?) : w'.ownsRow base e size v n xs := by
  obtain ⟨hl, h0 | ⟨g, cap, cur, rfl, h1, hh, r⟩⟩ := h
  · exact ⟨hl, .inl h0⟩
  · exact ⟨hl, .inr ⟨g, cap, cur, rfl, h1, (hb g rfl).trans hh, r⟩⟩
theorem pool_mono {w : World} {base base' e size n : Nat} {v : Value} {xs : List Value} (h : w.ownsRow base e size v n xs) (hb : base' ≤ base) : w.ownsRow base' e size v n xs := by
  obtain ⟨hl, h0 | ⟨g, cap, cur, rfl, h1, hh, r⟩⟩ := h
  · exact ⟨hl, .inl h0⟩
  · exact ⟨hl, .inr ⟨g, cap, cur, rfl, Nat.le_trans hb h1, hh, r⟩⟩
theorem Pool.lt {κ : Type} {w : World} {lo : Nat} {F : κ → Ent} (h : Pool w lo F) (a : κ) {g : Nat} (hg : (F a).v.ownBlock = some g) : lo ≤ g ∧ g < w.heap.size := World.ownsRow.lt (h.own a) g hg
theorem Pool.below {κ : Type} {w w' : World} {lo : Nat} {F : κ → Ent} (h : Pool w lo F) (hb : Below w.heap.size w w') : Pool w' lo F :=
  ⟨fun a => pool_heap (h.own a) fun g hg => hb.block g (h.lt a hg).2, h.ne⟩
theorem Pool.drew {κ : Type} {w : World} {lo : Nat} {F : κ → Ent} (h : Pool w lo F) : Pool w.drew lo F := h.below ((Below.refl _ _).drew)
theorem Pool.mono {κ : Type} {w : World} {lo lo' : Nat} {F : κ → Ent} (h : Pool w lo F) (hl : lo' ≤ lo) : Pool w lo' F := ⟨fun a => pool_mono (h.own a) hl, h.ne⟩
section
variable {κ : Type} [DecidableEq κ] {w w' : World} {lo : Nat} {F : κ → Ent}
/-- The row under a turns, in its own block or into a new one. -/
theorem Pool.chg (h : Pool w lo F) (a : κ) {row : Option Nat} (hg : w.grownBy w' row) (hrow : row = none ∨ row = (F a).v.ownBlock) {E : Ent} (hE : E.own w' lo) (hv : E.v.ownBlock = (F a).v.ownBlock ∨ ∀ g, E.v.ownBlock = some g → w.heap.size ≤ g) : Pool w' lo (up F a E) := by
  have keep : ∀ b, b ≠ a → ∀ g, (F b).v.ownBlock = some g → w'.heap[g]? = w.heap[g]? := fun b hb g hgb => by
    refine hg.block g (h.lt b hgb).2 fun e => ?_
    rcases hrow with rfl | rfl
    · cases e
    · exact hb (h.ne b a g hgb e.symm)
  refine ⟨fun b => ?_, fun b c g hb hc => ?_⟩
  · by_cases e : b = a
    · subst e; rw [up_self]; exact hE
    · rw [up_ne _ _ e]; exact pool_heap (h.own b) (keep b e)
  · by_cases e1 : b = a
    · by_cases e2 : c = a
      · rw [e1, e2]
      · subst e1
        rw [up_self] at hb
        rw [up_ne _ _ e2] at hc
        rcases hv with hv | hv
        · exact (h.ne c b g hc (hv ▸ hb)).symm
        · have := hv g hb; have := (h.lt c hc).2; omega
    · rw [up_ne _ _ e1] at hb
      by_cases e2 : c = a
      · subst e2
        rw [up_self] at hc
        rcases hv with hv | hv
        · exact h.ne b c g hb (hv ▸ hc)
        · have := hv g hc; have := (h.lt b hb).2; omega
      · rw [up_ne _ _ e2] at hc
        exact h.ne b c g hb hc
/-- A new row under a. -/
theorem Pool.new (h : Pool w lo F) (a : κ) (hb : Below w.heap.size w w') (hlo : lo ≤ w.heap.size) {E : Ent} (hE : E.own w' w.heap.size) : Pool w' lo (up F a E) :=
  h.chg a (row := none) ⟨hb.os, hb.tape, hb.output, hb.size, fun k hk _ => hb.block k hk⟩ (.inl rfl) (pool_mono hE hlo) (.inr fun g hg => (World.ownsRow.lt hE g hg).1)
/-- A store into the row under a. -/
theorem Pool.store (h : Pool w lo F) (a : κ) {e size n c g : Nat} {v : Value} {xs : List Value} (hE : F a = ⟨e, size, v, n, xs⟩) (hv : v = .slice (some ⟨g, 0, none⟩) n c) (j : Nat) (u : Value) : Pool (w.setCell ⟨g, j, none⟩ u) lo (up F a ⟨e, size, v, n, xs.set j u⟩) := by
  have ho := h.own a
  rw [hE, hv] at ho
  obtain ⟨h1, h2⟩ := World.ownsRow.stored ho j u
  refine h.chg a h2 (.inr (by rw [hE, hv]; rfl)) ?_ (.inl (by rw [hE]))
  unfold Ent.own
  simp only [hv]
  exact h1
/-- Behind append. -/
theorem Pool.app (h : Pool w lo F) (a : κ) (hg : w.grownBy w' (F a).v.ownBlock) {E : Ent} (hE : E.own w' lo) (hat : E.v.ownBlock = (F a).v.ownBlock ∨ E.v.ownBlock = some w.heap.size) : Pool w' lo (up F a E) :=
  h.chg a hg (.inr rfl) hE (hat.imp id fun e g hg => by rw [e] at hg; simp at hg; omega)
end
section
variable {κ : Type} {w w' : World} {lo : Nat} {F : κ → Ent}
theorem Pool.cell (h : Pool w lo F) (a : κ) {e size n c g : Nat} {v : Value} {xs : List Value} (hE : F a = ⟨e, size, v, n, xs⟩) (hv : v = .slice (some ⟨g, 0, none⟩) n c) {j : Nat} {u : Value} (hu : xs[j]? = some u) : w.cell? ⟨g, j, none⟩ = some u := by
  have ho := h.own a
  rw [hE, hv] at ho
  have hl : xs.length = n * size := ho.1
  have hj : j < xs.length := (List.getElem?_eq_some_iff.1 hu).1
  rw [World.ownsRow.cellAt ho j (by show j < n * size; omega)]
  exact hu
theorem Pool.free (h : Pool w lo F) (a : κ) {e size n c g : Nat} {v : Value} {xs : List Value} (hE : F a = ⟨e, size, v, n, xs⟩) (hv : v = .slice (some ⟨g, 0, none⟩) n c) (j : Nat) : w.frozen? ⟨g, j, none⟩ = false := by
  have ho := h.own a
  rw [hE, hv] at ho
  exact World.ownsRow.frozenAt ho j
theorem Pool.slice (h : Pool w lo F) (a : κ) {e size n : Nat} {v : Value} {xs : List Value} (hE : F a = ⟨e, size, v, n, xs⟩) : ∃ A c, v = .slice A n c := by
  have ho := h.own a
  rw [hE] at ho
  rcases ho.2 with ⟨h1, h2⟩ | ⟨g, cap, cur, h1, _⟩
  · exact ⟨none, 0, by rw [show v = _ from h1, show n = 0 from h2]⟩
  · exact ⟨_, _, h1⟩
theorem Pool.some (h : Pool w lo F) (a : κ) {e size n : Nat} {v : Value} {xs : List Value} (hE : F a = ⟨e, size, v, n, xs⟩) (hn : 0 < n) : ∃ g c, v = .slice (some ⟨g, 0, none⟩) n c := by
  have ho := h.own a
  rw [hE] at ho
  rcases ho.2 with ⟨h1, h2⟩ | ⟨g, cap, cur, h1, _⟩
  · have : n = 0 := h2
    omega
  · exact ⟨_, _, h1⟩
/-- Two pools, the second one made behind the first. -/
theorem Pool.merge {F' : κ → Ent} (h : Pool w lo F) (hb : Below w.heap.size w w') (h' : Pool w' w.heap.size F') (hlo : lo ≤ w.heap.size) (s : κ → Bool) : Pool w' lo (fun k => if s k = true then F' k else F k) := by
  refine ⟨fun a => ?_, fun a b g ha hb' => ?_⟩
  · by_cases e : s a = true
    · simp only [e, if_true]; exact pool_mono (h'.own a) hlo
    · simp only [e]; exact (h.below hb).own a
  · by_cases e1 : s a = true
    · by_cases e2 : s b = true
      · simp only [e1, e2, if_true] at ha hb'; exact h'.ne a b g ha hb'
      · simp only [e1, if_true] at ha
        simp only [e2] at hb'
        have := (h'.lt a ha).1
        have := (h.lt b hb').2
        omega
    · simp only [e1] at ha
      by_cases e2 : s b = true
      · simp only [e2, if_true] at hb'
        have := (h'.lt b hb').1
        have := (h.lt a ha).2
        omega
      · simp only [e2] at hb'; exact h.ne a b g ha hb'
end
end Go.Proofs.Ytpologlcfohjeaa.Base
