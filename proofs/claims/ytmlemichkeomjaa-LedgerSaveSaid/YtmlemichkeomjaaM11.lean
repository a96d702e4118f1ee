/- Texts of this claim in one. -/
import Derived.Test.YtmlemichkeomjaaM1
import Derived.ProofKit
import Derived.OpenShut
import Derived.ShutString
import Derived.ChangeOld
import Derived.Below
import Derived.SizedLaws
import Derived.Deep.Matrix
import Derived.Test.YtmlemichkeomjaaM7
import Derived.Deep.Grids
import Derived.Lib.SmallJoins
import Derived.Test.YtmlemichkeomjaaLedRec
/- What the rows' proofs share: a parameter's reading turned into what the walks take. -/
set_option linter.unusedVariables false
set_option linter.unusedSimpArgs false
namespace Go.Proofs.Ytmlemichkeomjaa.RowK
open Go.ChangeShapes Go.WideShapes Go.ChangeAt Go.RowKit Go.Proofs.Ytmlemichkeomjaa.Base

theorem byte_of {a : Int} (h : (Lit.int .u8 a).wf = true) : ∃ x : Nat, a = (x : Int) ∧ x ≤ 255 := by
  have hx : 0 ≤ a ∧ a ≤ 255 := by simpa [Lit.wf, IntKind.min, IntKind.max, IntKind.signed, IntKind.bits] using h
  exact ⟨a.toNat, by omega, by omega⟩
theorem u16_of {a : Int} (h : (Lit.int .u16 a).wf = true) : ∃ x : Nat, a = (x : Int) ∧ x ≤ 65535 := by
  have hx : 0 ≤ a ∧ a ≤ 65535 := by simpa [Lit.wf, IntKind.min, IntKind.max, IntKind.signed, IntKind.bits] using h
  exact ⟨a.toNat, by omega, by omega⟩
theorem u32_of {a : Int} (h : (Lit.int .u32 a).wf = true) : ∃ x : Nat, a = (x : Int) ∧ x ≤ 4294967295 := by
  have hx : 0 ≤ a ∧ a ≤ 4294967295 := by simpa [Lit.wf, IntKind.min, IntKind.max, IntKind.signed, IntKind.bits] using h
  exact ⟨a.toNat, by omega, by omega⟩
theorem i64_of {a : Int} (h : (Lit.int .i64 a).wf = true) : -9223372036854775808 ≤ a ∧ a ≤ 9223372036854775807 := by
  simpa [Lit.wf, IntKind.min, IntKind.max, IntKind.signed, IntKind.bits] using h

section
variable {H : Type} {enc : TypeId × Value → H} {P : Program} {W : World} {base : Nat} {spare : Nat → Bool} {held : Bool}
/-- A slice of bytes that comes in. -/
theorem open_bytes {t e : TypeId} {a : Option Addr} {len cap : Nat} {d : DataW H} {ps : List MemPlace} {ts : List TypeId} {ds : List (DataW H)} {j : Nat}
    (hsz : (DataW.weightsEach P ts ds).all (· ≤ reachBytes) = true) (ht : ts[j]? = some t) (hd : ds[j]? = some d) (hu : P.underlying t = some (.slice e)) (he : P.underlying e = some (.int .u8)) (hc : P.cellsOf e = 1) (hB : P.bytesOf e = 1)
    (h : DataW.Trod enc P W base spare held t (.slice a len cap) d ps) : ∃ l : List Nat, l.length = len ∧ Bytes W a l ∧ len ≤ cap ∧ cap ≤ maxLen := by
  obtain ⟨fuel, hf⟩ := h
  rcases open_ints hu he hc hf with ⟨hcs, _⟩ | ⟨x, l, c, zs, hcs, _, hl, hm, hz, hx, hcell, hwz⟩
  · simp [Value.cells] at hcs
    obtain ⟨rfl, rfl, rfl⟩ := hcs
    exact ⟨[], rfl, Bytes.nil _ _, by omega, by simp [maxLen]⟩
  · simp [Value.cells] at hcs
    obtain ⟨rfl, rfl, rfl⟩ := hcs
    obtain ⟨hx, _⟩ := Prod.mk.inj hx
    subst hx
    have z := sized_slice hsz ht hd hu
    rw [hB] at z
    have hl2 : len ≤ zs.length := by
      rw [hz]
      split
      · exact hl
      · exact Nat.le_refl _
    have h1 : (lits (H := H) .u8 (zs.take len)).length + (lits (H := H) .u8 (zs.drop len)).length = zs.length := by
      simp [lits]
      omega
    rw [h1] at z
    have h2 := reachBytes_lt
    have hlen : ((zs.take len).map Int.toNat).length = len := by simp; omega
    refine ⟨(zs.take len).map Int.toNat, hlen, ⟨fun x hx => ?_, by rw [hlen]; omega, ?_⟩, hl, hm⟩
    · obtain ⟨n, hn, rfl⟩ := List.mem_map.1 hx
      obtain ⟨y, hy, hy2⟩ := byte_of (hwz n (List.mem_of_mem_take hn))
      omega
    · by_cases h0 : len = 0
      · subst h0; exact Or.inl (by simp)
      · obtain ⟨b, off, rfl, hcc⟩ := ints_at hcell (by omega)
        refine Or.inr ⟨b, off, rfl, fun i hi => ?_⟩
        rw [hlen] at hi
        rw [hcc i (by omega)]
        have hi2 : i < zs.length := by omega
        obtain ⟨y, hy, hy2⟩ := byte_of (hwz zs[i] (List.getElem_mem hi2))
        simp only [List.getD_eq_getElem?_getD, List.getElem?_eq_getElem hi2, List.getElem?_map, List.getElem?_take_of_lt hi, Option.getD_some, Option.map_some]
        rw [hy]
        simp
end
end Go.Proofs.Ytmlemichkeomjaa.RowK

/- Slices of slices of bytes, and slices of whole numbers, that come in. -/
set_option linter.unusedVariables false
set_option linter.unusedSimpArgs false
namespace Go.Proofs.Ytmlemichkeomjaa.RowK
open Go.ChangeShapes Go.WideShapes Go.ChangeAt Go.RowKit Go.Proofs.Ytmlemichkeomjaa.Base

section
variable {H : Type} {enc : TypeId × Value → H} {P : Program} {W : World} {base : Nat} {held : Bool}
theorem spot_none {w : World} {x : Addr} {v : Value} (h : w.cell? (x.add 0) = some v) : ∃ b off, x = ⟨b, off, none⟩ := by
  obtain ⟨b, off, spot⟩ := x
  have hsp : spot = none := by
    cases spot with
    | none => rfl
    | some q => exact absurd h (by simp only [Addr.add, World.cell?]; intro h; split at h <;> simp at h)
  subst hsp
  exact ⟨b, off, rfl⟩
theorem add_none (b off j : Nat) : (⟨b, off, none⟩ : Addr).add j = ⟨b, off + j, none⟩ := by unfold Addr.add; split <;> simp_all
theorem open_rows {t e q : TypeId} {a : Option Addr} {len cap : Nat} {d : DataW H} {ps : List MemPlace}
    (hu : P.underlying t = some (.slice e)) (he : P.underlying e = some (.slice q)) (hq : P.underlying q = some (.int .u8)) (ce : P.cellsOf e = 1) (cq : P.cellsOf q = 1)
    (h : DataW.Trod enc P W base (fun _ => true) held t (.slice a len cap) d ps) : ∃ ls : List (List Nat), Base.Rows W a ls ∧ ls.length = len ∧ len ≤ cap ∧ cap ≤ maxLen ∧ ∀ i (h : i < ls.length), ls[i].length ≤ maxLen := by
  obtain ⟨fuel, hf⟩ := h
  rcases Go.Deep.open_int_rows hu he hq ce cq hf with ⟨hcs, _⟩ | ⟨x, l, c, A, L, C, Z, hcs, _, hl, hm, hx, hr⟩
  · simp [Value.cells] at hcs
    obtain ⟨rfl, rfl, rfl⟩ := hcs
    exact ⟨[], Base.Rows.nil _ _, rfl, by omega, by simp [maxLen], fun i h => by simp at h⟩
  · simp [Value.cells] at hcs
    obtain ⟨rfl, rfl, rfl⟩ := hcs
    have hlen : ((List.range len).map fun r => ((Z r).take (L r)).map Int.toNat).length = len := by simp
    have hget : ∀ j (h : j < ((List.range len).map fun r => ((Z r).take (L r)).map Int.toNat).length), ((List.range len).map fun r => ((Z r).take (L r)).map Int.toNat)[j] = ((Z j).take (L j)).map Int.toNat := fun j h => by simp
    refine ⟨(List.range len).map fun r => ((Z r).take (L r)).map Int.toNat, Base.Rows.mk ?_, hlen, hl, hm, fun i hi => ?_⟩
    · by_cases h0 : len = 0
      · subst h0; exact .inl rfl
      · obtain ⟨b, off, rfl⟩ := spot_none (hr 0 (by omega)).1
        refine .inr ⟨b, off, rfl, fun j hj => ?_⟩
        have hj2 : j < len := by rw [hlen] at hj; exact hj
        obtain ⟨h1, h2, h3, h4, h5, h6, h7⟩ := hr j (by omega)
        rw [hget j hj]
        have hL : (((Z j).take (L j)).map Int.toNat).length = L j := by rw [List.length_map, List.length_take]; omega
        rw [add_none] at h1
        refine ⟨A j, C j, by rw [hL]; exact h1, fun x hx => ?_, ?_⟩
        · obtain ⟨n, hn, rfl⟩ := List.mem_map.1 hx
          obtain ⟨y, hy, hy2⟩ := byte_of (h5 n (List.mem_of_mem_take hn))
          omega
        · by_cases hL0 : L j = 0
          · left; exact List.eq_nil_of_length_eq_zero (by rw [hL]; exact hL0)
          · cases hA : A j with
            | none => have := h6 hA; omega
            | some a' =>
              obtain ⟨_, h8⟩ := h7 a' hA
              obtain ⟨b', off', rfl⟩ := spot_none (h8 0 (by omega))
              refine .inr ⟨b', off', rfl, fun i hi => ?_⟩
              rw [hL] at hi
              have := h8 i (by omega)
              rw [add_none] at this
              rw [this]
              have hi2 : i < (Z j).length := by omega
              obtain ⟨y, hy, hy2⟩ := byte_of (h5 (Z j)[i] (List.getElem_mem hi2))
              simp only [List.getD_eq_getElem?_getD, List.getElem?_eq_getElem hi2, List.getElem?_map, List.getElem?_take_of_lt hi, Option.getD_some, Option.map_some]
              rw [hy]
              simp
    · have hj2 : i < len := by rw [hlen] at hi; exact hi
      obtain ⟨h1, h2, h3, h4, h5, h6, h7⟩ := hr i (by omega)
      rw [hget i hi, List.length_map, List.length_take]
      omega
theorem open_intl {t e : TypeId} {spare : Nat → Bool} {a : Option Addr} {len cap : Nat} {d : DataW H} {ps : List MemPlace}
    (hu : P.underlying t = some (.slice e)) (he : P.underlying e = some (.int .i64)) (hc : P.cellsOf e = 1)
    (h : DataW.Trod enc P W base spare held t (.slice a len cap) d ps) : ∃ l : List Int, Ints W a l ∧ l.length = len ∧ len ≤ cap ∧ cap ≤ maxLen := by
  obtain ⟨fuel, hf⟩ := h
  rcases open_ints hu he hc hf with ⟨hcs, _⟩ | ⟨x, l, c, zs, hcs, _, hl, hm, hz, hx, hcell, hwz⟩
  · simp [Value.cells] at hcs
    obtain ⟨rfl, rfl, rfl⟩ := hcs
    exact ⟨[], Ints.nil _ _, rfl, by omega, by simp [maxLen]⟩
  · simp [Value.cells] at hcs
    obtain ⟨rfl, rfl, rfl⟩ := hcs
    have hl2 : len ≤ zs.length := by
      rw [hz]
      split
      · exact hl
      · exact Nat.le_refl _
    have hlen : (zs.take len).length = len := by simp; omega
    refine ⟨zs.take len, ⟨fun n hn => i64_of (hwz n (List.mem_of_mem_take hn)), ?_⟩, hlen, hl, hm⟩
    by_cases h0 : len = 0
    · subst h0; exact .inl (by simp)
    · obtain ⟨b, off, rfl, hcc⟩ := ints_at hcell (by omega)
      refine .inr ⟨b, off, rfl, fun i hi => ?_⟩
      rw [hlen] at hi
      have hi2 : i < zs.length := by omega
      rw [hcc i (by omega), List.getElem_take]
      simp [List.getD_eq_getElem?_getD, List.getElem?_eq_getElem hi2]
end
end Go.Proofs.Ytmlemichkeomjaa.RowK

/- Manifests, rows of bools and bools that come in. -/
set_option linter.unusedVariables false
set_option linter.unusedSimpArgs false
namespace Go.Proofs.Ytmlemichkeomjaa.RowK
open Go.ChangeShapes Go.WideShapes Go.ChangeAt Go.RowKit Go.Proofs.Ytmlemichkeomjaa.Base Go.Proofs.Ytmlemichkeomjaa.MendW

section
variable {H : Type} {enc : TypeId × Value → H} {P : Program} {W : World} {base : Nat} {held : Bool}
theorem open_u32l {t e : TypeId} {spare : Nat → Bool} {a : Option Addr} {len cap : Nat} {d : DataW H} {ps : List MemPlace}
    (hu : P.underlying t = some (.slice e)) (he : P.underlying e = some (.int .u32)) (hc : P.cellsOf e = 1)
    (h : DataW.Trod enc P W base spare held t (.slice a len cap) d ps) : ∃ l : List Int, U32s W a l ∧ l.length = len ∧ len ≤ cap ∧ cap ≤ maxLen := by
  obtain ⟨fuel, hf⟩ := h
  rcases open_ints hu he hc hf with ⟨hcs, _⟩ | ⟨x, l, c, zs, hcs, _, hl, hm, hz, hx, hcell, hwz⟩
  · simp [Value.cells] at hcs
    obtain ⟨rfl, rfl, rfl⟩ := hcs
    exact ⟨[], ⟨fun x h => by (cases h), .inl rfl⟩, rfl, by omega, by simp [maxLen]⟩
  · simp [Value.cells] at hcs
    obtain ⟨rfl, rfl, rfl⟩ := hcs
    have hl2 : len ≤ zs.length := by
      rw [hz]
      split
      · exact hl
      · exact Nat.le_refl _
    have hlen : (zs.take len).length = len := by simp; omega
    refine ⟨zs.take len, ⟨fun n hn => ?_, ?_⟩, hlen, hl, hm⟩
    · obtain ⟨y, hy, hy2⟩ := u32_of (hwz n (List.mem_of_mem_take hn))
      omega
    by_cases h0 : len = 0
    · subst h0; exact .inl (by simp)
    · obtain ⟨b, off, rfl, hcc⟩ := ints_at hcell (by omega)
      refine .inr ⟨b, off, rfl, fun i hi => ?_⟩
      rw [hlen] at hi
      have hi2 : i < zs.length := by omega
      rw [hcc i (by omega), List.getElem_take]
      simp [List.getD_eq_getElem?_getD, List.getElem?_eq_getElem hi2]
theorem open_irows {t e q : TypeId} {a : Option Addr} {len cap : Nat} {d : DataW H} {ps : List MemPlace}
    (hu : P.underlying t = some (.slice e)) (he : P.underlying e = some (.slice q)) (hq : P.underlying q = some (.int .i64)) (ce : P.cellsOf e = 1) (cq : P.cellsOf q = 1)
    (h : DataW.Trod enc P W base (fun _ => true) held t (.slice a len cap) d ps) : ∃ ls : List (List Int), IRows W a ls ∧ ls.length = len ∧ len ≤ cap ∧ cap ≤ maxLen ∧ ∀ i (h : i < ls.length), ls[i].length ≤ maxLen := by
  obtain ⟨fuel, hf⟩ := h
  rcases Go.Deep.open_int_rows hu he hq ce cq hf with ⟨hcs, _⟩ | ⟨x, l, c, A, L, C, Z, hcs, _, hl, hm, hx, hr⟩
  · simp [Value.cells] at hcs
    obtain ⟨rfl, rfl, rfl⟩ := hcs
    exact ⟨[], IRows.nil _ _, rfl, by omega, by simp [maxLen], fun i h => by simp at h⟩
  · simp [Value.cells] at hcs
    obtain ⟨rfl, rfl, rfl⟩ := hcs
    have hlen : ((List.range len).map fun r => (Z r).take (L r)).length = len := by simp
    have hget : ∀ j (h : j < ((List.range len).map fun r => (Z r).take (L r)).length), ((List.range len).map fun r => (Z r).take (L r))[j] = (Z j).take (L j) := fun j h => by simp
    refine ⟨(List.range len).map fun r => (Z r).take (L r), ⟨?_⟩, hlen, hl, hm, fun i hi => ?_⟩
    · by_cases h0 : len = 0
      · subst h0; exact .inl rfl
      · obtain ⟨b, off, rfl⟩ := spot_none (hr 0 (by omega)).1
        refine .inr ⟨b, off, rfl, fun j hj => ?_⟩
        have hj2 : j < len := by rw [hlen] at hj; exact hj
        obtain ⟨h1, h2, h3, h4, h5, h6, h7⟩ := hr j (by omega)
        rw [hget j hj]
        have hL : ((Z j).take (L j)).length = L j := by rw [List.length_take]; omega
        rw [add_none] at h1
        refine ⟨A j, C j, by rw [hL]; exact h1, by rw [hL]; exact h2, fun x hx => i64_of (h5 x (List.mem_of_mem_take hx)), ?_⟩
        by_cases hL0 : L j = 0
        · left; exact List.eq_nil_of_length_eq_zero (by rw [hL]; exact hL0)
        · cases hA : A j with
          | none => have := h6 hA; omega
          | some a' =>
            obtain ⟨_, h8⟩ := h7 a' hA
            obtain ⟨b', off', rfl⟩ := spot_none (h8 0 (by omega))
            refine .inr ⟨b', off', rfl, fun i hi => ?_⟩
            rw [hL] at hi
            have := h8 i (by omega)
            rw [add_none] at this
            rw [this]
            have hi2 : i < (Z j).length := by omega
            simp [List.getD_eq_getElem?_getD, List.getElem?_eq_getElem hi2]
    · have hj2 : i < len := by rw [hlen] at hi; exact hi
      obtain ⟨h1, h2, h3, h4, h5, h6, h7⟩ := hr i (by omega)
      rw [hget i hi, List.length_take]
      omega
theorem open_boolsl {t e : TypeId} {a : Option Addr} {len cap : Nat} {d : DataW H} {ps : List MemPlace}
    (hu : P.underlying t = some (.slice e)) (he : P.underlying e = some .bool) (hc : P.cellsOf e = 1)
    (h : DataW.Trod enc P W base (fun _ => true) held t (.slice a len cap) d ps) : ∃ l : List Bool, Bools W a l ∧ l.length = len ∧ len ≤ cap ∧ cap ≤ maxLen := by
  obtain ⟨fuel, hf⟩ := h
  rcases Go.Deep.open_bools hu he hc hf with ⟨hcs, _⟩ | ⟨x, l, c, Z, hcs, _, hl, hm, hx, hr⟩
  · simp [Value.cells] at hcs
    obtain ⟨rfl, rfl, rfl⟩ := hcs
    exact ⟨[], Bools.nil _ _, rfl, by omega, by simp [maxLen]⟩
  · simp [Value.cells] at hcs
    obtain ⟨rfl, rfl, rfl⟩ := hcs
    refine ⟨(List.range len).map Z, ⟨?_⟩, by simp, hl, hm⟩
    by_cases h0 : len = 0
    · subst h0; exact .inl rfl
    · obtain ⟨b, off, rfl⟩ := spot_none (hr 0 (by omega))
      refine .inr ⟨b, off, rfl, fun j hj => ?_⟩
      have hj2 : j < len := by simpa using hj
      have := hr j (by omega)
      rw [add_none] at this
      rw [this]
      simp
theorem open_brows {t e q : TypeId} {a : Option Addr} {len cap : Nat} {d : DataW H} {ps : List MemPlace}
    (hu : P.underlying t = some (.slice e)) (he : P.underlying e = some (.slice q)) (hq : P.underlying q = some .bool) (ce : P.cellsOf e = 1) (cq : P.cellsOf q = 1)
    (h : DataW.Trod enc P W base (fun _ => true) held t (.slice a len cap) d ps) : ∃ ls : List (List Bool), BRows W a ls ∧ ls.length = len ∧ len ≤ cap ∧ cap ≤ maxLen ∧ ∀ i (h : i < ls.length), ls[i].length ≤ maxLen := by
  obtain ⟨fuel, hf⟩ := h
  rcases Go.Deep.open_bool_rows hu he hq ce cq hf with ⟨hcs, _⟩ | ⟨x, l, c, A, L, C, Z, hcs, _, hl, hm, hx, hr⟩
  · simp [Value.cells] at hcs
    obtain ⟨rfl, rfl, rfl⟩ := hcs
    exact ⟨[], BRows.nil _ _, rfl, by omega, by simp [maxLen], fun i h => by simp at h⟩
  · simp [Value.cells] at hcs
    obtain ⟨rfl, rfl, rfl⟩ := hcs
    have hlen : ((List.range len).map fun r => (List.range (L r)).map (Z r)).length = len := by simp
    have hget : ∀ j (h : j < ((List.range len).map fun r => (List.range (L r)).map (Z r)).length), ((List.range len).map fun r => (List.range (L r)).map (Z r))[j] = (List.range (L j)).map (Z j) := fun j h => by simp
    refine ⟨(List.range len).map fun r => (List.range (L r)).map (Z r), ⟨?_⟩, hlen, hl, hm, fun i hi => ?_⟩
    · by_cases h0 : len = 0
      · subst h0; exact .inl rfl
      · obtain ⟨b, off, rfl⟩ := spot_none (hr 0 (by omega)).1
        refine .inr ⟨b, off, rfl, fun j hj => ?_⟩
        have hj2 : j < len := by rw [hlen] at hj; exact hj
        obtain ⟨h1, h2, h3, h6, h7⟩ := hr j (by omega)
        rw [hget j hj]
        have hL : ((List.range (L j)).map (Z j)).length = L j := by simp
        rw [add_none] at h1
        refine ⟨A j, C j, by rw [hL]; exact h1, by rw [hL]; exact h2, ⟨?_⟩⟩
        by_cases hL0 : L j = 0
        · left; exact List.eq_nil_of_length_eq_zero (by rw [hL]; exact hL0)
        · cases hA : A j with
          | none => have := h6 hA; omega
          | some a' =>
            obtain ⟨_, h8⟩ := h7 a' hA
            obtain ⟨b', off', rfl⟩ := spot_none (h8 0 (by omega))
            refine .inr ⟨b', off', rfl, fun i hi => ?_⟩
            rw [hL] at hi
            have := h8 i (by omega)
            rw [add_none] at this
            rw [this]
            simp
    · have hj2 : i < len := by rw [hlen] at hi; exact hi
      obtain ⟨h1, h2, h3, h6, h7⟩ := hr i (by omega)
      rw [hget i hi]
      simp
      omega
theorem list5 {α : Type} {l : List α} (h : l.length = 5) : ∃ c0 c1 c2 c3 c4, l = [c0, c1, c2, c3, c4] := by
  match l, h with
  | [c0, c1, c2, c3, c4], _ => exact ⟨_, _, _, _, _, rfl⟩
theorem int_one' {spare : Nat → Bool} {e : TypeId} {m : Nat} {c : Value} {y : DataW H × List MemPlace} (he : P.underlying e = some (.int .i64)) (h : DataW.trod enc P W base spare held m e [c] = some y) : ∃ n : Int, c = .int .i64 n ∧ -9223372036854775808 ≤ n ∧ n ≤ 9223372036854775807 := by
  obtain ⟨n, h1, _, h2⟩ := DataW.trod_int he h
  have := i64_of h2
  exact ⟨n, by simpa using h1, this.1, this.2⟩
/-- A manifest by its value. -/
theorem open_man {r : Reach} {b0 : Nat} {t q2 q3 q4 q5 : TypeId} {f0 f1 f2 f3 f4 : Field} {v : Value} {d : DataW H} {ps : List MemPlace} (hs : P.underlying t = some (.struct #[f0, f1, f2, f3, f4])) (hC : P.cellsOf t = 5)
    (o0 : f0.offset = 0) (k0 : P.cellsOf f0.type = 1) (u0 : P.underlying f0.type = some (.int .i64))
    (o1 : f1.offset = 1) (k1 : P.cellsOf f1.type = 1) (u1 : P.underlying f1.type = some (.int .i64))
    (o2 : f2.offset = 2) (k2 : P.cellsOf f2.type = 1) (u2 : P.underlying f2.type = some (.slice q2)) (uq2 : P.underlying q2 = some (.int .i64)) (kq2 : P.cellsOf q2 = 1)
    (o3 : f3.offset = 3) (k3 : P.cellsOf f3.type = 1) (u3 : P.underlying f3.type = some (.slice q3)) (uq3 : P.underlying q3 = some (.int .u32)) (kq3 : P.cellsOf q3 = 1)
    (o4 : f4.offset = 4) (k4 : P.cellsOf f4.type = 1) (u4 : P.underlying f4.type = some (.slice q4)) (uq4 : P.underlying q4 = some (.slice q5)) (uq5 : P.underlying q5 = some (.int .i64)) (kq4 : P.cellsOf q4 = 1) (kq5 : P.cellsOf q5 = 1)
    (hv : Value.okWide P W r b0 t v) (h : DataW.Trod enc P W base (fun _ => true) held t v d ps) :
    ∃ (n0 n1 : Int) (A2 : Option Addr) (l2 c2 : Nat) (A3 : Option Addr) (l3 c3 : Nat) (A4 : Option Addr) (l4 c4 : Nat) (sz sm : List Int) (hm : List (List Int)), v = .agg #[.int .i64 n0, .int .i64 n1, .slice A2 l2 c2, .slice A3 l3 c3, .slice A4 l4 c4] ∧
      (-9223372036854775808 ≤ n0 ∧ n0 ≤ 9223372036854775807) ∧ (-9223372036854775808 ≤ n1 ∧ n1 ≤ 9223372036854775807) ∧ Ints W A2 sz ∧ sz.length = l2 ∧ l2 ≤ maxLen ∧ U32s W A3 sm ∧ sm.length = l3 ∧ l3 ≤ maxLen ∧ IRows W A4 hm ∧ hm.length = l4 ∧ l4 ≤ maxLen ∧ ∀ i (h : i < hm.length), hm[i].length ≤ maxLen := by
  obtain ⟨cs, rfl, hsz⟩ := okWide_struct hs hv
  obtain ⟨l⟩ := cs
  have hl : l.length = 5 := hsz.trans hC
  obtain ⟨c0, c1, c2, c3, c4, rfl⟩ := list5 hl
  obtain ⟨fuel, hf⟩ := h
  obtain ⟨xs, n, _, hxx, _, hlen, hx⟩ := DataW.trod_struct hs hf
  have g : ∀ i (f : Field), (#[f0, f1, f2, f3, f4] : Array Field)[i]? = some f → i < 5 → ∃ y, DataW.trod enc P W base (fun _ => true) held n f.type (([c0, c1, c2, c3, c4].drop f.offset).take (P.cellsOf f.type)) = some y := fun i f hi hi5 => by
    have h0 := hx i f hi
    have hx0 : xs[i]? ≠ none := by rw [ne_eq, List.getElem?_eq_none_iff, hlen]; simp; omega
    obtain ⟨y0, e0⟩ := Option.ne_none_iff_exists'.1 hx0
    rw [e0] at h0
    exact ⟨y0, by simpa [Value.cells] using h0⟩
  obtain ⟨y0, h0⟩ := g 0 f0 rfl (by omega)
  obtain ⟨y1, h1⟩ := g 1 f1 rfl (by omega)
  obtain ⟨y2, h2⟩ := g 2 f2 rfl (by omega)
  obtain ⟨y3, h3⟩ := g 3 f3 rfl (by omega)
  obtain ⟨y4, h4⟩ := g 4 f4 rfl (by omega)
  rw [o0, k0] at h0
  rw [o1, k1] at h1
  rw [o2, k2] at h2
  rw [o3, k3] at h3
  rw [o4, k4] at h4
  simp only [List.drop_zero, List.drop_succ_cons, List.take_succ_cons, List.take_zero] at h0 h1 h2 h3 h4
  obtain ⟨n0, rfl, a0⟩ := int_one' u0 h0
  obtain ⟨n1, rfl, a1⟩ := int_one' u1 h1
  obtain ⟨A2, l2, d2, hA2⟩ := Go.Joins.slice_form u2 h2
  obtain ⟨A3, l3, d3, hA3⟩ := Go.Joins.slice_form u3 h3
  obtain ⟨A4, l4, d4, hA4⟩ := Go.Joins.slice_form u4 h4
  obtain rfl : c2 = .slice A2 l2 d2 := by simpa using hA2
  obtain rfl : c3 = .slice A3 l3 d3 := by simpa using hA3
  obtain rfl : c4 = .slice A4 l4 d4 := by simpa using hA4
  obtain ⟨sz, s1, s2, s3, s4⟩ := open_intl (W := W) (base := base) (held := held) (enc := enc) (d := y2.1) (ps := y2.2) u2 uq2 kq2 ⟨n, by simpa [Value.cells] using h2⟩
  obtain ⟨sm, q1, q2', q3', q4'⟩ := open_u32l (W := W) (base := base) (held := held) (enc := enc) (d := y3.1) (ps := y3.2) u3 uq3 kq3 ⟨n, by simpa [Value.cells] using h3⟩
  obtain ⟨hm, r1, r2, r3, r4, r5⟩ := open_irows (W := W) (base := base) (held := held) (enc := enc) (d := y4.1) (ps := y4.2) u4 uq4 uq5 kq4 kq5 ⟨n, by simpa [Value.cells] using h4⟩
  exact ⟨n0, n1, A2, l2, d2, A3, l3, d3, A4, l4, d4, sz, sm, hm, rfl, a0, a1, s1, s2, by omega, q1, q2', by omega, r1, r2, by omega, r5⟩
end
end Go.Proofs.Ytmlemichkeomjaa.RowK

/- Slices of the ledger's records that come in. -/
set_option linter.unusedVariables false
set_option linter.unusedSimpArgs false
namespace Go.Proofs.Ytmlemichkeomjaa.RowK
open Go.ChangeShapes Go.WideShapes Go.ChangeAt Go.RowKit Go.Proofs.Ytmlemichkeomjaa.Base Go.Proofs.Ytmlemichkeomjaa.MendW Go.Proofs.Ytmlemichkeomjaa.ManP Go.Proofs.Ytmlemichkeomjaa.ManW Go.Proofs.Ytmlemichkeomjaa.LedP Go.Proofs.Ytmlemichkeomjaa.LedW

section
variable {H : Type} {enc : TypeId × Value → H} {P : Program} {W : World} {base : Nat} {held : Bool}
def FitM (m : Man) : Prop := m.sz.length ≤ maxLen ∧ m.sm.length ≤ maxLen ∧ m.hm.length ≤ maxLen ∧ ∀ i (h2 : i < m.hm.length), m.hm[i].length ≤ maxLen
/-- A manifest by its cells. -/
theorem man_cells {t q2 q3 q4 q5 : TypeId} {f0 f1 f2 f3 f4 : Field} {fuel : Nat} {l : List Value} {y : DataW H × List MemPlace} (hs : P.underlying t = some (.struct #[f0, f1, f2, f3, f4])) (hC : P.cellsOf t = 5)
    (o0 : f0.offset = 0) (k0 : P.cellsOf f0.type = 1) (u0 : P.underlying f0.type = some (.int .i64))
    (o1 : f1.offset = 1) (k1 : P.cellsOf f1.type = 1) (u1 : P.underlying f1.type = some (.int .i64))
    (o2 : f2.offset = 2) (k2 : P.cellsOf f2.type = 1) (u2 : P.underlying f2.type = some (.slice q2)) (uq2 : P.underlying q2 = some (.int .i64)) (kq2 : P.cellsOf q2 = 1)
    (o3 : f3.offset = 3) (k3 : P.cellsOf f3.type = 1) (u3 : P.underlying f3.type = some (.slice q3)) (uq3 : P.underlying q3 = some (.int .u32)) (kq3 : P.cellsOf q3 = 1)
    (o4 : f4.offset = 4) (k4 : P.cellsOf f4.type = 1) (u4 : P.underlying f4.type = some (.slice q4)) (uq4 : P.underlying q4 = some (.slice q5)) (uq5 : P.underlying q5 = some (.int .i64)) (kq4 : P.cellsOf q4 = 1) (kq5 : P.cellsOf q5 = 1)
    (hf : DataW.trod enc P W base (fun _ => true) held fuel t l = some y) :
    ∃ (m : Man) (v : MV), l = mcells m v ∧ ManV W v m ∧ FitM m := by
  obtain ⟨xs, n, _, hxx, hcl, hlen, hx⟩ := DataW.trod_struct hs hf
  obtain ⟨c0, c1, c2, c3, c4, rfl⟩ := list5 (hcl.trans hC)
  have g : ∀ i (f : Field), (#[f0, f1, f2, f3, f4] : Array Field)[i]? = some f → i < 5 → ∃ y, DataW.trod enc P W base (fun _ => true) held n f.type (([c0, c1, c2, c3, c4].drop f.offset).take (P.cellsOf f.type)) = some y := fun i f hi hi5 => by
    have h0 := hx i f hi
    have hx0 : xs[i]? ≠ none := by rw [ne_eq, List.getElem?_eq_none_iff, hlen]; simp; omega
    obtain ⟨y0, e0⟩ := Option.ne_none_iff_exists'.1 hx0
    rw [e0] at h0
    exact ⟨y0, by simpa [Value.cells] using h0⟩
  obtain ⟨y0, h0⟩ := g 0 f0 rfl (by omega)
  obtain ⟨y1, h1⟩ := g 1 f1 rfl (by omega)
  obtain ⟨y2, h2⟩ := g 2 f2 rfl (by omega)
  obtain ⟨y3, h3⟩ := g 3 f3 rfl (by omega)
  obtain ⟨y4, h4⟩ := g 4 f4 rfl (by omega)
  rw [o0, k0] at h0
  rw [o1, k1] at h1
  rw [o2, k2] at h2
  rw [o3, k3] at h3
  rw [o4, k4] at h4
  simp only [List.drop_zero, List.drop_succ_cons, List.take_succ_cons, List.take_zero] at h0 h1 h2 h3 h4
  obtain ⟨n0, rfl, a0⟩ := int_one' u0 h0
  obtain ⟨n1, rfl, a1⟩ := int_one' u1 h1
  obtain ⟨A2, l2, d2, hA2⟩ := Go.Joins.slice_form u2 h2
  obtain ⟨A3, l3, d3, hA3⟩ := Go.Joins.slice_form u3 h3
  obtain ⟨A4, l4, d4, hA4⟩ := Go.Joins.slice_form u4 h4
  obtain rfl : c2 = .slice A2 l2 d2 := by simpa using hA2
  obtain rfl : c3 = .slice A3 l3 d3 := by simpa using hA3
  obtain rfl : c4 = .slice A4 l4 d4 := by simpa using hA4
  obtain ⟨sz, s1, rfl, s3, s4⟩ := open_intl (W := W) (base := base) (held := held) (enc := enc) (d := y2.1) (ps := y2.2) u2 uq2 kq2 ⟨n, by simpa [Value.cells] using h2⟩
  obtain ⟨sm, q1, rfl, q3', q4'⟩ := open_u32l (W := W) (base := base) (held := held) (enc := enc) (d := y3.1) (ps := y3.2) u3 uq3 kq3 ⟨n, by simpa [Value.cells] using h3⟩
  obtain ⟨hm, r1, rfl, r3, r4, r5⟩ := open_irows (W := W) (base := base) (held := held) (enc := enc) (d := y4.1) (ps := y4.2) u4 uq4 uq5 kq4 kq5 ⟨n, by simpa [Value.cells] using h4⟩
  exact ⟨⟨n0, n1, sz, sm, hm⟩, ⟨A2, d2, A3, d3, A4, d4⟩, rfl, ⟨⟨s1, rfl, q1, rfl, r1, rfl⟩, a0, a1⟩, by show sz.length ≤ maxLen; omega, by show sm.length ≤ maxLen; omega, by show hm.length ≤ maxLen; omega, r5⟩
def cells9 (q : LR × MV) : List Value := .int .i64 q.1.kind :: .int .i64 q.1.n :: .int .i64 q.1.e :: .string q.1.text :: mcells q.1.m q.2
theorem list9 {α : Type} {l : List α} (h : l.length = 9) : ∃ c0 c1 c2 c3 l', l = c0 :: c1 :: c2 :: c3 :: l' ∧ l'.length = 5 := by
  match l, h with
  | c0 :: c1 :: c2 :: c3 :: l', h => exact ⟨_, _, _, _, l', rfl, by simpa using h⟩
theorem text_one' {spare : Nat → Bool} {e : TypeId} {m : Nat} {c : Value} {y : DataW H × List MemPlace} (he : P.underlying e = some .string) (h : DataW.trod enc P W base spare held m e [c] = some y) : ∃ s : ByteArray, c = .string s := by
  obtain ⟨s, h1, _⟩ := DataW.trod_string he h
  exact ⟨s, by simpa using h1⟩
/-- A slice of records. -/
theorem open_recs {t e q2 q3 q4 q5 : TypeId} {e0 e1 e2 e3 e4 f0 f1 f2 f3 f4 : Field} {a : Option Addr} {len cap : Nat} {d : DataW H} {ps : List MemPlace}
    (hu : P.underlying t = some (.slice e)) (he : P.underlying e = some (.struct #[e0, e1, e2, e3, e4])) (hE : P.cellsOf e = 9)
    (p0 : e0.offset = 0) (w0 : P.cellsOf e0.type = 1) (v0 : P.underlying e0.type = some (.int .i64))
    (p1 : e1.offset = 1) (w1 : P.cellsOf e1.type = 1) (v1 : P.underlying e1.type = some (.int .i64))
    (p2 : e2.offset = 2) (w2 : P.cellsOf e2.type = 1) (v2 : P.underlying e2.type = some (.int .i64))
    (p3 : e3.offset = 3) (w3 : P.cellsOf e3.type = 1) (v3 : P.underlying e3.type = some .string)
    (p4 : e4.offset = 4) (w4 : P.cellsOf e4.type = 5) (hs : P.underlying e4.type = some (.struct #[f0, f1, f2, f3, f4]))
    (o0 : f0.offset = 0) (k0 : P.cellsOf f0.type = 1) (u0 : P.underlying f0.type = some (.int .i64))
    (o1 : f1.offset = 1) (k1 : P.cellsOf f1.type = 1) (u1 : P.underlying f1.type = some (.int .i64))
    (o2 : f2.offset = 2) (k2 : P.cellsOf f2.type = 1) (u2 : P.underlying f2.type = some (.slice q2)) (uq2 : P.underlying q2 = some (.int .i64)) (kq2 : P.cellsOf q2 = 1)
    (o3 : f3.offset = 3) (k3 : P.cellsOf f3.type = 1) (u3 : P.underlying f3.type = some (.slice q3)) (uq3 : P.underlying q3 = some (.int .u32)) (kq3 : P.cellsOf q3 = 1)
    (o4 : f4.offset = 4) (k4 : P.cellsOf f4.type = 1) (u4 : P.underlying f4.type = some (.slice q4)) (uq4 : P.underlying q4 = some (.slice q5)) (uq5 : P.underlying q5 = some (.int .i64)) (kq4 : P.cellsOf q4 = 1) (kq5 : P.cellsOf q5 = 1)
    (h : DataW.Trod enc P W base (fun _ => true) held t (.slice a len cap) d ps) : ∃ (rs : List LR) (vs : Nat → MV), RecsV W a rs vs ∧ rs.length = len ∧ len ≤ cap ∧ cap ≤ maxLen := by
  obtain ⟨fuel, hf⟩ := h
  rcases Go.Deep.open_slice hu hf with ⟨hcs, _⟩ | ⟨x, ln, cp, m, n, D, Pl, hcs, _, hl, hm, hmm, _, hr⟩
  · simp [Value.cells] at hcs
    obtain ⟨rfl, rfl, rfl⟩ := hcs
    exact ⟨[], fun _ => noMV, ⟨.inl rfl, fun j hj => by simp at hj, fun j hj => by simp at hj⟩, rfl, by omega, by simp [maxLen]⟩
  · simp [Value.cells] at hcs
    obtain ⟨rfl, rfl, rfl⟩ := hcs
    have hlm : len ≤ m := by rw [hmm]; split <;> omega
    have each : ∀ i, ∃ q : LR × MV, i < len → (∀ k u, (cells9 q)[k]? = some u → W.cell? (x.add (i * 9 + k)) = some u) ∧ ManV W q.2 q.1.m ∧ FitM q.1.m := by
      intro i
      by_cases hi : i < len
      · obtain ⟨cs', z1, z2⟩ := hr i (by omega)
        rw [hE] at z1
        obtain ⟨_, hlen, hcell⟩ := World.cells?_some z1
        obtain ⟨xs, n', _, _, _, hxl, hx⟩ := DataW.trod_struct he z2
        obtain ⟨c0, c1, c2, c3, l', rfl, hl5⟩ := list9 hlen
        have g : ∀ i (f : Field), (#[e0, e1, e2, e3, e4] : Array Field)[i]? = some f → i < 5 → ∃ y, DataW.trod enc P W base (fun _ => true) held n' f.type (((c0 :: c1 :: c2 :: c3 :: l').drop f.offset).take (P.cellsOf f.type)) = some y := fun i f hi hi5 => by
          have h0 := hx i f hi
          have hx0 : xs[i]? ≠ none := by rw [ne_eq, List.getElem?_eq_none_iff, hxl]; simp; omega
          obtain ⟨y0, e0⟩ := Option.ne_none_iff_exists'.1 hx0
          rw [e0] at h0
          exact ⟨y0, h0⟩
        obtain ⟨y0, h0⟩ := g 0 e0 rfl (by omega)
        obtain ⟨y1, h1⟩ := g 1 e1 rfl (by omega)
        obtain ⟨y2, h2⟩ := g 2 e2 rfl (by omega)
        obtain ⟨y3, h3⟩ := g 3 e3 rfl (by omega)
        obtain ⟨y4, h4⟩ := g 4 e4 rfl (by omega)
        rw [p0, w0] at h0
        rw [p1, w1] at h1
        rw [p2, w2] at h2
        rw [p3, w3] at h3
        rw [p4, w4] at h4
        simp only [List.drop_zero, List.drop_succ_cons, List.take_succ_cons, List.take_zero] at h0 h1 h2 h3
        rw [show (c0 :: c1 :: c2 :: c3 :: l').drop 4 = l' from rfl, List.take_of_length_le (by omega)] at h4
        obtain ⟨n0, rfl, _⟩ := int_one' v0 h0
        obtain ⟨n1, rfl, _⟩ := int_one' v1 h1
        obtain ⟨n2, rfl, _⟩ := int_one' v2 h2
        obtain ⟨s, rfl⟩ := text_one' v3 h3
        obtain ⟨mm, v, rfl, hM, hF⟩ := man_cells hs w4 o0 k0 u0 o1 k1 u1 o2 k2 u2 uq2 kq2 o3 k3 u3 uq3 kq3 o4 k4 u4 uq4 uq5 kq4 kq5 h4
        refine ⟨(⟨n0, n1, n2, s, mm⟩, v), fun _ => ⟨fun k u hu => ?_, hM, hF⟩⟩
        have hk : k < 9 := (List.getElem?_eq_some_iff.1 hu).1
        have e1 := hcell k hk
        rw [Go.Deep.add_add] at e1
        rw [e1]
        exact hu
      · exact ⟨(⟨0, 0, 0, ByteArray.empty, noMan⟩, noMV), fun h => absurd h hi⟩
    obtain ⟨q, hq⟩ := Classical.axiomOfChoice each
    have hget : ∀ j (h : j < ((List.range len).map fun i => (q i).1).length), ((List.range len).map fun i => (q i).1)[j] = (q j).1 := fun j h => by simp
    have hlen : ((List.range len).map fun i => (q i).1).length = len := by simp
    refine ⟨(List.range len).map fun i => (q i).1, fun i => (q i).2, ⟨?_, fun j hj => ?_, fun j hj => ?_⟩, hlen, hl, hm⟩
    · by_cases h0 : len = 0
      · subst h0; exact .inl rfl
      · have h1 := (hq 0 (by omega)).1 0 _ rfl
        obtain ⟨b, off, rfl⟩ := spot_none h1
        refine .inr ⟨b, off, rfl, fun j hj => ?_⟩
        have hj2 : j < len := by rw [hlen] at hj; exact hj
        have hc := (hq j hj2).1
        rw [hget j hj]
        have ad : ∀ k, (⟨b, off, none⟩ : Addr).add (j * 9 + k) = ⟨b, off + j * 9 + k, none⟩ := fun k => by rw [add_none, Nat.add_assoc]
        exact ⟨by have := hc 0 _ rfl; rwa [ad] at this, by have := hc 1 _ rfl; rwa [ad] at this, by have := hc 2 _ rfl; rwa [ad] at this, by have := hc 3 _ rfl; rwa [ad] at this, by have := hc 4 _ rfl; rwa [ad] at this, by have := hc 5 _ rfl; rwa [ad] at this, by have := hc 6 _ rfl; rwa [ad] at this, by have := hc 7 _ rfl; rwa [ad] at this, by have := hc 8 _ rfl; rwa [ad] at this⟩
    · rw [hget j hj]; exact (hq j (by rw [hlen] at hj; exact hj)).2.1
    · have e := hget j hj
      have := (hq j (by rw [hlen] at hj; exact hj)).2.2
      rw [← e] at this
      exact this
end
end Go.Proofs.Ytmlemichkeomjaa.RowK

