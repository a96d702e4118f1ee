/- The law CrcBursts of chapter 4 walked. -/
import Derived.Test.YtmlemichkeomjaaCrcSum
import Derived.Test.YtmlemichkeomjaaCrcBurstP
import Derived.Lib.ConvBytes
set_option linter.unusedVariables false
set_option linter.unusedSimpArgs false
namespace Go.Proofs.Ytmlemichkeomjaa.CrcL
open Go.RowKit Go.Proofs.Ytmlemichkeomjaa.Base Go.Proofs.Ytmlemichkeomjaa.CrcP Go.Proofs.Ytmlemichkeomjaa.CrcW Go.Proofs.Ytmlemichkeomjaa.CrcR

/-- A text that lies in a block of one's own. -/
structure Mine (w : World) (B : Nat) (l : List UInt8) : Prop where
  cell : ∀ j (h : j < l.length), w.cell? ⟨B, j, none⟩ = some (.int .u8 ((l[j].toNat : Nat) : Int))
  free : ∀ j, j < l.length → w.frozen? ⟨B, j, none⟩ = false
theorem Mine.conv (w : World) (e : TypeId) (s : ByteArray) : Mine (Lib.bytesWorld w e s) w.heap.size s.data.toList := by
  refine ⟨fun j h => ?_, fun j h => ?_⟩
  · rw [Lib.bytesWorld_cell w e s j (by rw [list_size] at h; exact h)]
    simp only [List.getD_eq_getElem?_getD, List.getElem?_eq_getElem h, Option.getD_some]
  · unfold World.frozen?
    rw [Lib.bytesWorld_at_new]
    have : s.data.toList.length ≤ (Lib.bytesCells w e s).size := by
      rw [list_size]
      simp [Lib.bytesCells]
    simp only [Bool.and_eq_false_iff, decide_eq_false_iff_not]
    left; omega
theorem Mine.set {w : World} {B : Nat} {l : List UInt8} (h : Mine w B l) (j : Nat) (hj : j < l.length) (v : UInt8) : Mine (w.setCell ⟨B, j, none⟩ (.int .u8 ((v.toNat : Nat) : Int))) B (l.set j v) := by
  refine ⟨fun i hi => ?_, fun i hi => ?_⟩
  · rw [cell_set (h.cell j hj), List.getElem_set]
    split
    · rename_i e; subst e; simp
    · rename_i e
      have := h.cell i (by simpa using hi)
      simp [this, Ne.symm e, e]
  · rw [World.frozen?_setCell]; exact h.free i (by simpa using hi)
theorem Mine.drew {w : World} {B : Nat} {l : List UInt8} (h : Mine w B l) : Mine w.drew B l := ⟨h.cell, h.free⟩
theorem Mine.lt {w : World} {B : Nat} {l : List UInt8} (h : Mine w B l) (h0 : 0 < l.length) : B < w.heap.size := World.block_lt_of_cell? w _ (h.cell 0 h0)
theorem Mine.bytes {w : World} {B : Nat} {l : List UInt8} (h : Mine w B l) (hl : l.length ≤ 140737488355328) : Bytes w (some ⟨B, 0, none⟩) (l.map UInt8.toNat) := by
  refine ⟨fun x hx => ?_, by simpa using hl, .inr ⟨B, 0, rfl, fun j hj => ?_⟩⟩
  · obtain ⟨b, _, rfl⟩ := List.mem_map.1 hx
    have := b.toNat_lt
    omega
  · have hj' : j < l.length := by simpa using hj
    rw [Nat.zero_add, h.cell j hj']
    simp [List.getD_eq_getElem?_getD, hj']
theorem Mine.below {w w' : World} {B : Nat} {l : List UInt8} (h : Mine w B l) (hb : Below w.heap.size w w') : Mine w' B l :=
  ⟨fun j hj => cell_below hb (h.cell j hj), fun j hj => (frozen_below hb (h.cell j hj)).trans (h.free j hj)⟩
theorem Mine.conv_str {w : World} {B n c : Nat} {l : List UInt8} (h : Mine w B l) (hl : l.length = n) (hn : n ≤ 140737488355328) : (convert 70 9 (.slice (some ⟨B, 0, none⟩) n c)).run Try.prog w = .ok (.string (str l)) w := by
  rw [Base.conv_str Try.underlying70 Try.underlying5 Try.underlying9 w _ _ n c (h.bytes (by omega)) (by simpa using hl), List.map_map]
  have : (UInt8.ofNat ∘ UInt8.toNat) = id := by funext b; simp
  rw [this, List.map_id]
theorem bytes_below (w : World) (e : TypeId) (s : ByteArray) : Below w.heap.size w (Lib.bytesWorld w e s) :=
  ⟨rfl, rfl, rfl, by rw [Lib.bytesWorld_size]; omega, fun k hk => Lib.bytesWorld_at_old w e s k hk⟩

end Go.Proofs.Ytmlemichkeomjaa.CrcL
