/- A map of one's own from whole numbers to anything. -/
import Derived.Test.YtmlemichkeomjaaManS
import Derived.Test.YtmlemichkeomjaaLedP
import Derived.Maps.Views
import Derived.Maps.OwnSet
set_option linter.unusedVariables false
set_option linter.unusedSimpArgs false
namespace Go.Proofs.Ytmlemichkeomjaa.LedW
open Go.ChangeMaps (setBlock)
open Go.RowKit Go.Proofs.Ytmlemichkeomjaa.Base Go.Proofs.Ytmlemichkeomjaa.MendW
section
variable {P : Program}
/-- The block b holds the values l under their keys. -/
def FMap (w : World) (b : Nat) (l : List (Int × Value)) : Prop := ∃ es clock, w.heap[b]? = some (.map es clock) ∧ es.toList.map (fun e => (e.key, e.val)) = l.map (fun p => (Value.int .i64 p.1, p.2))
theorem FMap.start (w : World) : FMap (w.alloc (.map #[] 0)) w.heap.size [] := ⟨#[], 0, heap_alloc_new w _, rfl⟩
theorem wf_i64 {x : Int} (h : -9223372036854775808 ≤ x ∧ x ≤ 9223372036854775807) : (Lit.int .i64 x).wf = true := by
  have h1 : IntKind.i64.min = -9223372036854775808 := rfl
  have h2 : IntKind.i64.max = 9223372036854775807 := rfl
  simp [Lit.wf, h1, h2]
  omega
theorem FMap.keys {w : World} {b : Nat} {l : List (Int × Value)} {es : Array MapEntry} (h : es.toList.map (fun e => (e.key, e.val)) = l.map (fun p => (Value.int .i64 p.1, p.2))) : ∀ e ∈ es.toList, ∃ p ∈ l, e.key = .int .i64 p.1 ∧ e.val = p.2 := fun e he => by
  have h1 : (e.key, e.val) ∈ es.toList.map (fun e => (e.key, e.val)) := List.mem_map.2 ⟨e, he, rfl⟩
  rw [h] at h1
  obtain ⟨p, hp, e1⟩ := List.mem_map.1 h1
  simp only [Prod.mk.injEq] at e1
  exact ⟨p, hp, e1.1.symm, e1.2.symm⟩
theorem FMap.put {w : World} {b : Nat} {l : List (Int × Value)} (h : FMap w b l) {t k e : TypeId} (ht : P.underlying t = some (.map k e)) (hk : P.underlying k = some (.int .i64)) (x : Int) (v : Value) (hx : -9223372036854775808 ≤ x ∧ x ≤ 9223372036854775807) (hl : ∀ p ∈ l, p.1 ≠ x ∧ -9223372036854775808 ≤ p.1 ∧ p.1 ≤ 9223372036854775807) :
    ∃ w', (Instr.mapUpdate t (.map (some b)) (.int .i64 x) v).run P w = .ok () w' ∧ FMap w' b (l ++ [(x, v)]) ∧ w.grownBy w' (some b) := by
  obtain ⟨es, clock, hb, he⟩ := h
  have K := Maps.int_keyed hk
  have hkey := Maps.keyOf_int_mk hk (wf_i64 hx)
  have hks : ∀ e ∈ es.toList, ∃ l, keyOf P k e.key = some l := fun e hee => by
    obtain ⟨p, hp, e1, _⟩ := FMap.keys (w := w) (b := b) he e hee
    rw [e1]
    exact ⟨_, Maps.keyOf_int_mk hk (wf_i64 (hl p hp).2)⟩
  rcases K.find w hkey es.toList hks with ⟨h1, _⟩ | ⟨j, e, h1, h2, h3⟩
  · refine ⟨setBlock w b (.map (es.push { key := .int .i64 x, val := v, born := clock }) (clock + 1)), ?_, ⟨es.push { key := .int .i64 x, val := v, born := clock }, clock + 1, ?_, ?_⟩, ?_⟩
    · simp [Instr.mapUpdate, run_underlying ht, MapKept.run_getObj_map hb, K.check w false hkey, h1, MapKept.run_setObj_map _ hb, Result.andThen, setBlock]
    · have hlt : b < w.heap.size := by
        rcases Nat.lt_or_ge b w.heap.size with h' | h'
        · exact h'
        · simp [Array.getElem?_eq_none h'] at hb
      simp [setBlock, hlt]
    · rw [Array.toList_push, List.map_append, he, List.map_append]; rfl
    · exact ⟨rfl, rfl, rfl, by simp [setBlock], fun i hi hne => by
        have : b ≠ i := fun e => hne (by rw [e])
        simp [setBlock, this]⟩
  · exfalso
    have hm : e ∈ es.toList := List.mem_of_getElem? h2
    obtain ⟨p, hp, e1, _⟩ := FMap.keys (w := w) (b := b) he e hm
    rw [h3] at e1
    simp only [Value.int.injEq, true_and] at e1
    exact (hl p hp).1 e1.symm
theorem FMap.look {w : World} {b : Nat} {l : List (Int × Value)} (h : FMap w b l) {t k e : TypeId} (ht : P.underlying t = some (.map k e)) (hk : P.underlying k = some (.int .i64)) (x : Int) (v : Value) (hx : -9223372036854775808 ≤ x ∧ x ≤ 9223372036854775807) (hl : ∀ p ∈ l, (p.1 = x → p.2 = v) ∧ -9223372036854775808 ≤ p.1 ∧ p.1 ≤ 9223372036854775807) (hm : (x, v) ∈ l) :
    (Instr.lookup t (.map (some b)) (.int .i64 x) false).run P w = .ok v w := by
  obtain ⟨es, clock, hb, he⟩ := h
  have K := Maps.int_keyed hk
  have hkey := Maps.keyOf_int_mk hk (wf_i64 hx)
  have hks : ∀ e ∈ es.toList, ∃ l, keyOf P k e.key = some l := fun e hee => by
    obtain ⟨p, hp, e1, _⟩ := FMap.keys (w := w) (b := b) he e hee
    rw [e1]
    exact ⟨_, Maps.keyOf_int_mk hk (wf_i64 (hl p hp).2)⟩
  rcases K.find w hkey es.toList hks with ⟨_, h1⟩ | ⟨j, e', h1, h2, h3⟩
  · exfalso
    have h4 : (Value.int .i64 x, v) ∈ es.toList.map (fun e => (e.key, e.val)) := by rw [he]; exact List.mem_map.2 ⟨(x, v), hm, rfl⟩
    obtain ⟨e', he', e1⟩ := List.mem_map.1 h4
    simp only [Prod.mk.injEq] at e1
    exact h1 e' he' e1.1
  · have hmm : e' ∈ es.toList := List.mem_of_getElem? h2
    obtain ⟨p, hp, e1, e2⟩ := FMap.keys (w := w) (b := b) he e' hmm
    rw [h3] at e1
    simp only [Value.int.injEq, true_and] at e1
    have h5 := (hl p hp).1 e1.symm
    simp [Instr.lookup, run_underlying ht, MapKept.run_getObj_map hb, K.check w _ hkey, h1, Result.andThen, e2, h5]
theorem FMap.below {w w' : World} {b : Nat} {l : List (Int × Value)} (h : FMap w b l) (hb : Below w.heap.size w w') : FMap w' b l := by
  obtain ⟨es, c, h1, h2⟩ := h
  refine ⟨es, c, (hb.block b ?_).trans h1, h2⟩
  rcases Nat.lt_or_ge b w.heap.size with h' | h'
  · exact h'
  · simp [Array.getElem?_eq_none h'] at h1
end
def meth (ob : Nat) (f : Nat) : Value := .func (.func f) #[.pointer (some ⟨ob, 0, none⟩)] #[]
/-- The methods under their kinds. -/
def meths (ob : Nat) : List (Int × Value) := [(1, meth ob 84), (2, meth ob 85), (3, meth ob 86), (4, meth ob 87), (5, meth ob 88), (6, meth ob 89), (7, meth ob 90)]
def fnOf (k : Int) : Nat := if k = 1 then 84 else if k = 2 then 85 else if k = 3 then 86 else if k = 4 then 87 else if k = 5 then 88 else if k = 6 then 89 else 90
def kindMost (k : Int) (nT nP : Nat) : Int := if k = 2 ∨ k = 3 then nT else if k = 4 ∨ k = 5 ∨ k = 6 then nP else -1
end Go.Proofs.Ytmlemichkeomjaa.LedW
