/- Slices of slices of bytes, and slices of whole numbers, that come in. -/
import Derived.Test.YtmlemichkeomjaaRow
import Derived.Test.YtmlemichkeomjaaM1
import Derived.Deep.Matrix
set_option linter.unusedVariables false
set_option linter.unusedSimpArgs false
namespace Go.Proofs.Ytmlemichkeomjaa.RowK
open Go.ChangeShapes Go.WideShapes Go.ChangeAt Go.RowKit Go.Proofs.Ytmlemichkeomjaa.Base

section
variable {H : Type} {enc : TypeId × Value → H} {P : Program} {W : World} {base : Nat} {held : Bool}
theorem spot_none {w : World} {x : Addr} {v : Value} (h : w.cell? (x.add 0) = some v) : ∃ b off, x = ⟨b, off, none⟩ := by
  obtain ⟨b, off, spot⟩ := x
  have hsp : spot = none := by
    cases spot with
    | none => rfl
    | some q => exact absurd h (by simp only [Addr.add, World.cell?]; intro h; split at h <;> simp at h)
  subst hsp
  exact ⟨b, off, rfl⟩
theorem add_none (b off j : Nat) : (⟨b, off, none⟩ : Addr).add j = ⟨b, off + j, none⟩ := by unfold Addr.add; split <;> simp_all
theorem open_rows {t e q : TypeId} {a : Option Addr} {len cap : Nat} {d : DataW H} {ps : List MemPlace}
    (hu : P.underlying t = some (.slice e)) (he : P.underlying e = some (.slice q)) (hq : P.underlying q = some (.int .u8)) (ce : P.cellsOf e = 1) (cq : P.cellsOf q = 1)
    (h : DataW.Trod enc P W base (fun _ => true) held t (.slice a len cap) d ps) : ∃ ls : List (List Nat), Base.Rows W a ls ∧ ls.length = len ∧ len ≤ cap ∧ cap ≤ maxLen ∧ ∀ i (h : i < ls.length), ls[i].length ≤ maxLen := by
  obtain ⟨fuel, hf⟩ := h
  rcases Go.Deep.open_int_rows hu he hq ce cq hf with ⟨hcs, _⟩ | ⟨x, l, c, A, L, C, Z, hcs, _, hl, hm, hx, hr⟩
  · simp [Value.cells] at hcs
    obtain ⟨rfl, rfl, rfl⟩ := hcs
    exact ⟨[], Base.Rows.nil _ _, rfl, by omega, by simp [maxLen], fun i h => by simp at h⟩
  · simp [Value.cells] at hcs
    obtain ⟨rfl, rfl, rfl⟩ := hcs
    have hlen : ((List.range len).map fun r => ((Z r).take (L r)).map Int.toNat).length = len := by simp
    have hget : ∀ j (h : j < ((List.range len).map fun r => ((Z r).take (L r)).map Int.toNat).length), ((List.range len).map fun r => ((Z r).take (L r)).map Int.toNat)[j] = ((Z j).take (L j)).map Int.toNat := fun j h => by simp
    refine ⟨(List.range len).map fun r => ((Z r).take (L r)).map Int.toNat, Base.Rows.mk ?_, hlen, hl, hm, fun i hi => ?_⟩
    · by_cases h0 : len = 0
      · subst h0; exact .inl rfl
      · obtain ⟨b, off, rfl⟩ := spot_none (hr 0 (by omega)).1
        refine .inr ⟨b, off, rfl, fun j hj => ?_⟩
        have hj2 : j < len := by rw [hlen] at hj; exact hj
        obtain ⟨h1, h2, h3, h4, h5, h6, h7⟩ := hr j (by omega)
        rw [hget j hj]
        have hL : (((Z j).take (L j)).map Int.toNat).length = L j := by rw [List.length_map, List.length_take]; omega
        rw [add_none] at h1
        refine ⟨A j, C j, by rw [hL]; exact h1, fun x hx => ?_, ?_⟩
        · obtain ⟨n, hn, rfl⟩ := List.mem_map.1 hx
          obtain ⟨y, hy, hy2⟩ := byte_of (h5 n (List.mem_of_mem_take hn))
          omega
        · by_cases hL0 : L j = 0
          · left; exact List.eq_nil_of_length_eq_zero (by rw [hL]; exact hL0)
          · cases hA : A j with
            | none => have := h6 hA; omega
            | some a' =>
              obtain ⟨_, h8⟩ := h7 a' hA
              obtain ⟨b', off', rfl⟩ := spot_none (h8 0 (by omega))
              refine .inr ⟨b', off', rfl, fun i hi => ?_⟩
              rw [hL] at hi
              have := h8 i (by omega)
              rw [add_none] at this
              rw [this]
              have hi2 : i < (Z j).length := by omega
              obtain ⟨y, hy, hy2⟩ := byte_of (h5 (Z j)[i] (List.getElem_mem hi2))
              simp only [List.getD_eq_getElem?_getD, List.getElem?_eq_getElem hi2, List.getElem?_map, List.getElem?_take_of_lt hi, Option.getD_some, Option.map_some]
              rw [hy]
              simp
    · have hj2 : i < len := by rw [hlen] at hi; exact hi
      obtain ⟨h1, h2, h3, h4, h5, h6, h7⟩ := hr i (by omega)
      rw [hget i hi, List.length_map, List.length_take]
      omega
theorem open_intl {t e : TypeId} {spare : Nat → Bool} {a : Option Addr} {len cap : Nat} {d : DataW H} {ps : List MemPlace}
    (hu : P.underlying t = some (.slice e)) (he : P.underlying e = some (.int .i64)) (hc : P.cellsOf e = 1)
    (h : DataW.Trod enc P W base spare held t (.slice a len cap) d ps) : ∃ l : List Int, Ints W a l ∧ l.length = len ∧ len ≤ cap ∧ cap ≤ maxLen := by
  obtain ⟨fuel, hf⟩ := h
  rcases open_ints hu he hc hf with ⟨hcs, _⟩ | ⟨x, l, c, zs, hcs, _, hl, hm, hz, hx, hcell, hwz⟩
  · simp [Value.cells] at hcs
    obtain ⟨rfl, rfl, rfl⟩ := hcs
    exact ⟨[], Ints.nil _ _, rfl, by omega, by simp [maxLen]⟩
  · simp [Value.cells] at hcs
    obtain ⟨rfl, rfl, rfl⟩ := hcs
    have hl2 : len ≤ zs.length := by
      rw [hz]
      split
      · exact hl
      · exact Nat.le_refl _
    have hlen : (zs.take len).length = len := by simp; omega
    refine ⟨zs.take len, ⟨fun n hn => i64_of (hwz n (List.mem_of_mem_take hn)), ?_⟩, hlen, hl, hm⟩
    by_cases h0 : len = 0
    · subst h0; exact .inl (by simp)
    · obtain ⟨b, off, rfl, hcc⟩ := ints_at hcell (by omega)
      refine .inr ⟨b, off, rfl, fun i hi => ?_⟩
      rw [hlen] at hi
      have hi2 : i < zs.length := by omega
      rw [hcc i (by omega), List.getElem_take]
      simp [List.getD_eq_getElem?_getD, List.getElem?_eq_getElem hi2]
end
end Go.Proofs.Ytmlemichkeomjaa.RowK
