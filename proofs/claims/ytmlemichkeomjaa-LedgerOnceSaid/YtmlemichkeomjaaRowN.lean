/- Manifests, rows of bools and bools that come in. -/
import Derived.Test.YtmlemichkeomjaaRowM
import Derived.Test.YtmlemichkeomjaaM7
import Derived.Deep.Grids
import Derived.Lib.SmallJoins
set_option linter.unusedVariables false
set_option linter.unusedSimpArgs false
namespace Go.Proofs.Ytmlemichkeomjaa.RowK
open Go.ChangeShapes Go.WideShapes Go.ChangeAt Go.RowKit Go.Proofs.Ytmlemichkeomjaa.Base Go.Proofs.Ytmlemichkeomjaa.MendW

section
variable {H : Type} {enc : TypeId × Value → H} {P : Program} {W : World} {base : Nat} {held : Bool}
theorem open_u32l {t e : TypeId} {spare : Nat → Bool} {a : Option Addr} {len cap : Nat} {d : DataW H} {ps : List MemPlace}
    (hu : P.underlying t = some (.slice e)) (he : P.underlying e = some (.int .u32)) (hc : P.cellsOf e = 1)
    (h : DataW.Trod enc P W base spare held t (.slice a len cap) d ps) : ∃ l : List Int, U32s W a l ∧ l.length = len ∧ len ≤ cap ∧ cap ≤ maxLen := by
  obtain ⟨fuel, hf⟩ := h
  rcases open_ints hu he hc hf with ⟨hcs, _⟩ | ⟨x, l, c, zs, hcs, _, hl, hm, hz, hx, hcell, hwz⟩
  · simp [Value.cells] at hcs
    obtain ⟨rfl, rfl, rfl⟩ := hcs
    exact ⟨[], ⟨fun x h => by (cases h), .inl rfl⟩, rfl, by omega, by simp [maxLen]⟩
  · simp [Value.cells] at hcs
    obtain ⟨rfl, rfl, rfl⟩ := hcs
    have hl2 : len ≤ zs.length := by
      rw [hz]
      split
      · exact hl
      · exact Nat.le_refl _
    have hlen : (zs.take len).length = len := by simp; omega
    refine ⟨zs.take len, ⟨fun n hn => ?_, ?_⟩, hlen, hl, hm⟩
    · obtain ⟨y, hy, hy2⟩ := u32_of (hwz n (List.mem_of_mem_take hn))
      omega
    by_cases h0 : len = 0
    · subst h0; exact .inl (by simp)
    · obtain ⟨b, off, rfl, hcc⟩ := ints_at hcell (by omega)
      refine .inr ⟨b, off, rfl, fun i hi => ?_⟩
      rw [hlen] at hi
      have hi2 : i < zs.length := by omega
      rw [hcc i (by omega), List.getElem_take]
      simp [List.getD_eq_getElem?_getD, List.getElem?_eq_getElem hi2]
theorem open_irows {t e q : TypeId} {a : Option Addr} {len cap : Nat} {d : DataW H} {ps : List MemPlace}
    (hu : P.underlying t = some (.slice e)) (he : P.underlying e = some (.slice q)) (hq : P.underlying q = some (.int .i64)) (ce : P.cellsOf e = 1) (cq : P.cellsOf q = 1)
    (h : DataW.Trod enc P W base (fun _ => true) held t (.slice a len cap) d ps) : ∃ ls : List (List Int), IRows W a ls ∧ ls.length = len ∧ len ≤ cap ∧ cap ≤ maxLen ∧ ∀ i (h : i < ls.length), ls[i].length ≤ maxLen := by
  obtain ⟨fuel, hf⟩ := h
  rcases Go.Deep.open_int_rows hu he hq ce cq hf with ⟨hcs, _⟩ | ⟨x, l, c, A, L, C, Z, hcs, _, hl, hm, hx, hr⟩
  · simp [Value.cells] at hcs
    obtain ⟨rfl, rfl, rfl⟩ := hcs
    exact ⟨[], IRows.nil _ _, rfl, by omega, by simp [maxLen], fun i h => by simp at h⟩
  · simp [Value.cells] at hcs
    obtain ⟨rfl, rfl, rfl⟩ := hcs
    have hlen : ((List.range len).map fun r => (Z r).take (L r)).length = len := by simp
    have hget : ∀ j (h : j < ((List.range len).map fun r => (Z r).take (L r)).length), ((List.range len).map fun r => (Z r).take (L r))[j] = (Z j).take (L j) := fun j h => by simp
    refine ⟨(List.range len).map fun r => (Z r).take (L r), ⟨?_⟩, hlen, hl, hm, fun i hi => ?_⟩
    · by_cases h0 : len = 0
      · subst h0; exact .inl rfl
      · obtain ⟨b, off, rfl⟩ := spot_none (hr 0 (by omega)).1
        refine .inr ⟨b, off, rfl, fun j hj => ?_⟩
        have hj2 : j < len := by rw [hlen] at hj; exact hj
        obtain ⟨h1, h2, h3, h4, h5, h6, h7⟩ := hr j (by omega)
        rw [hget j hj]
        have hL : ((Z j).take (L j)).length = L j := by rw [List.length_take]; omega
        rw [add_none] at h1
        refine ⟨A j, C j, by rw [hL]; exact h1, by rw [hL]; exact h2, fun x hx => i64_of (h5 x (List.mem_of_mem_take hx)), ?_⟩
        by_cases hL0 : L j = 0
        · left; exact List.eq_nil_of_length_eq_zero (by rw [hL]; exact hL0)
        · cases hA : A j with
          | none => have := h6 hA; omega
          | some a' =>
            obtain ⟨_, h8⟩ := h7 a' hA
            obtain ⟨b', off', rfl⟩ := spot_none (h8 0 (by omega))
            refine .inr ⟨b', off', rfl, fun i hi => ?_⟩
            rw [hL] at hi
            have := h8 i (by omega)
            rw [add_none] at this
            rw [this]
            have hi2 : i < (Z j).length := by omega
            simp [List.getD_eq_getElem?_getD, List.getElem?_eq_getElem hi2]
    · have hj2 : i < len := by rw [hlen] at hi; exact hi
      obtain ⟨h1, h2, h3, h4, h5, h6, h7⟩ := hr i (by omega)
      rw [hget i hi, List.length_take]
      omega
theorem open_boolsl {t e : TypeId} {a : Option Addr} {len cap : Nat} {d : DataW H} {ps : List MemPlace}
    (hu : P.underlying t = some (.slice e)) (he : P.underlying e = some .bool) (hc : P.cellsOf e = 1)
    (h : DataW.Trod enc P W base (fun _ => true) held t (.slice a len cap) d ps) : ∃ l : List Bool, Bools W a l ∧ l.length = len ∧ len ≤ cap ∧ cap ≤ maxLen := by
  obtain ⟨fuel, hf⟩ := h
  rcases Go.Deep.open_bools hu he hc hf with ⟨hcs, _⟩ | ⟨x, l, c, Z, hcs, _, hl, hm, hx, hr⟩
  · simp [Value.cells] at hcs
    obtain ⟨rfl, rfl, rfl⟩ := hcs
    exact ⟨[], Bools.nil _ _, rfl, by omega, by simp [maxLen]⟩
  · simp [Value.cells] at hcs
    obtain ⟨rfl, rfl, rfl⟩ := hcs
    refine ⟨(List.range len).map Z, ⟨?_⟩, by simp, hl, hm⟩
    by_cases h0 : len = 0
    · subst h0; exact .inl rfl
    · obtain ⟨b, off, rfl⟩ := spot_none (hr 0 (by omega))
      refine .inr ⟨b, off, rfl, fun j hj => ?_⟩
      have hj2 : j < len := by simpa using hj
      have := hr j (by omega)
      rw [add_none] at this
      rw [this]
      simp
theorem open_brows {t e q : TypeId} {a : Option Addr} {len cap : Nat} {d : DataW H} {ps : List MemPlace}
    (hu : P.underlying t = some (.slice e)) (he : P.underlying e = some (.slice q)) (hq : P.underlying q = some .bool) (ce : P.cellsOf e = 1) (cq : P.cellsOf q = 1)
    (h : DataW.Trod enc P W base (fun _ => true) held t (.slice a len cap) d ps) : ∃ ls : List (List Bool), BRows W a ls ∧ ls.length = len ∧ len ≤ cap ∧ cap ≤ maxLen ∧ ∀ i (h : i < ls.length), ls[i].length ≤ maxLen := by
  obtain ⟨fuel, hf⟩ := h
  rcases Go.Deep.open_bool_rows hu he hq ce cq hf with ⟨hcs, _⟩ | ⟨x, l, c, A, L, C, Z, hcs, _, hl, hm, hx, hr⟩
  · simp [Value.cells] at hcs
    obtain ⟨rfl, rfl, rfl⟩ := hcs
    exact ⟨[], BRows.nil _ _, rfl, by omega, by simp [maxLen], fun i h => by simp at h⟩
  · simp [Value.cells] at hcs
    obtain ⟨rfl, rfl, rfl⟩ := hcs
    have hlen : ((List.range len).map fun r => (List.range (L r)).map (Z r)).length = len := by simp
    have hget : ∀ j (h : j < ((List.range len).map fun r => (List.range (L r)).map (Z r)).length), ((List.range len).map fun r => (List.range (L r)).map (Z r))[j] = (List.range (L j)).map (Z j) := fun j h => by simp
    refine ⟨(List.range len).map fun r => (List.range (L r)).map (Z r), ⟨?_⟩, hlen, hl, hm, fun i hi => ?_⟩
    · by_cases h0 : len = 0
      · subst h0; exact .inl rfl
      · obtain ⟨b, off, rfl⟩ := spot_none (hr 0 (by omega)).1
        refine .inr ⟨b, off, rfl, fun j hj => ?_⟩
        have hj2 : j < len := by rw [hlen] at hj; exact hj
        obtain ⟨h1, h2, h3, h6, h7⟩ := hr j (by omega)
        rw [hget j hj]
        have hL : ((List.range (L j)).map (Z j)).length = L j := by simp
        rw [add_none] at h1
        refine ⟨A j, C j, by rw [hL]; exact h1, by rw [hL]; exact h2, ⟨?_⟩⟩
        by_cases hL0 : L j = 0
        · left; exact List.eq_nil_of_length_eq_zero (by rw [hL]; exact hL0)
        · cases hA : A j with
          | none => have := h6 hA; omega
          | some a' =>
            obtain ⟨_, h8⟩ := h7 a' hA
            obtain ⟨b', off', rfl⟩ := spot_none (h8 0 (by omega))
            refine .inr ⟨b', off', rfl, fun i hi => ?_⟩
            rw [hL] at hi
            have := h8 i (by omega)
            rw [add_none] at this
            rw [this]
            simp
    · have hj2 : i < len := by rw [hlen] at hi; exact hi
      obtain ⟨h1, h2, h3, h6, h7⟩ := hr i (by omega)
      rw [hget i hi]
      simp
      omega
theorem list5 {α : Type} {l : List α} (h : l.length = 5) : ∃ c0 c1 c2 c3 c4, l = [c0, c1, c2, c3, c4] := by
  match l, h with
  | [c0, c1, c2, c3, c4], _ => exact ⟨_, _, _, _, _, rfl⟩
theorem int_one' {spare : Nat → Bool} {e : TypeId} {m : Nat} {c : Value} {y : DataW H × List MemPlace} (he : P.underlying e = some (.int .i64)) (h : DataW.trod enc P W base spare held m e [c] = some y) : ∃ n : Int, c = .int .i64 n ∧ -9223372036854775808 ≤ n ∧ n ≤ 9223372036854775807 := by
  obtain ⟨n, h1, _, h2⟩ := DataW.trod_int he h
  have := i64_of h2
  exact ⟨n, by simpa using h1, this.1, this.2⟩
/-- A manifest by its value. -/
theorem open_man {r : Reach} {b0 : Nat} {t q2 q3 q4 q5 : TypeId} {f0 f1 f2 f3 f4 : Field} {v : Value} {d : DataW H} {ps : List MemPlace} (hs : P.underlying t = some (.struct #[f0, f1, f2, f3, f4])) (hC : P.cellsOf t = 5)
    (o0 : f0.offset = 0) (k0 : P.cellsOf f0.type = 1) (u0 : P.underlying f0.type = some (.int .i64))
    (o1 : f1.offset = 1) (k1 : P.cellsOf f1.type = 1) (u1 : P.underlying f1.type = some (.int .i64))
    (o2 : f2.offset = 2) (k2 : P.cellsOf f2.type = 1) (u2 : P.underlying f2.type = some (.slice q2)) (uq2 : P.underlying q2 = some (.int .i64)) (kq2 : P.cellsOf q2 = 1)
    (o3 : f3.offset = 3) (k3 : P.cellsOf f3.type = 1) (u3 : P.underlying f3.type = some (.slice q3)) (uq3 : P.underlying q3 = some (.int .u32)) (kq3 : P.cellsOf q3 = 1)
    (o4 : f4.offset = 4) (k4 : P.cellsOf f4.type = 1) (u4 : P.underlying f4.type = some (.slice q4)) (uq4 : P.underlying q4 = some (.slice q5)) (uq5 : P.underlying q5 = some (.int .i64)) (kq4 : P.cellsOf q4 = 1) (kq5 : P.cellsOf q5 = 1)
    (hv : Value.okWide P W r b0 t v) (h : DataW.Trod enc P W base (fun _ => true) held t v d ps) :
    ∃ (n0 n1 : Int) (A2 : Option Addr) (l2 c2 : Nat) (A3 : Option Addr) (l3 c3 : Nat) (A4 : Option Addr) (l4 c4 : Nat) (sz sm : List Int) (hm : List (List Int)), v = .agg #[.int .i64 n0, .int .i64 n1, .slice A2 l2 c2, .slice A3 l3 c3, .slice A4 l4 c4] ∧
      (-9223372036854775808 ≤ n0 ∧ n0 ≤ 9223372036854775807) ∧ (-9223372036854775808 ≤ n1 ∧ n1 ≤ 9223372036854775807) ∧ Ints W A2 sz ∧ sz.length = l2 ∧ l2 ≤ maxLen ∧ U32s W A3 sm ∧ sm.length = l3 ∧ l3 ≤ maxLen ∧ IRows W A4 hm ∧ hm.length = l4 ∧ l4 ≤ maxLen ∧ ∀ i (h : i < hm.length), hm[i].length ≤ maxLen := by
  obtain ⟨cs, rfl, hsz⟩ := okWide_struct hs hv
  obtain ⟨l⟩ := cs
  have hl : l.length = 5 := hsz.trans hC
  obtain ⟨c0, c1, c2, c3, c4, rfl⟩ := list5 hl
  obtain ⟨fuel, hf⟩ := h
  obtain ⟨xs, n, _, hxx, _, hlen, hx⟩ := DataW.trod_struct hs hf
  have g : ∀ i (f : Field), (#[f0, f1, f2, f3, f4] : Array Field)[i]? = some f → i < 5 → ∃ y, DataW.trod enc P W base (fun _ => true) held n f.type (([c0, c1, c2, c3, c4].drop f.offset).take (P.cellsOf f.type)) = some y := fun i f hi hi5 => by
    have h0 := hx i f hi
    have hx0 : xs[i]? ≠ none := by rw [ne_eq, List.getElem?_eq_none_iff, hlen]; simp; omega
    obtain ⟨y0, e0⟩ := Option.ne_none_iff_exists'.1 hx0
    rw [e0] at h0
    exact ⟨y0, by simpa [Value.cells] using h0⟩
  obtain ⟨y0, h0⟩ := g 0 f0 rfl (by omega)
  obtain ⟨y1, h1⟩ := g 1 f1 rfl (by omega)
  obtain ⟨y2, h2⟩ := g 2 f2 rfl (by omega)
  obtain ⟨y3, h3⟩ := g 3 f3 rfl (by omega)
  obtain ⟨y4, h4⟩ := g 4 f4 rfl (by omega)
  rw [o0, k0] at h0
  rw [o1, k1] at h1
  rw [o2, k2] at h2
  rw [o3, k3] at h3
  rw [o4, k4] at h4
  simp only [List.drop_zero, List.drop_succ_cons, List.take_succ_cons, List.take_zero] at h0 h1 h2 h3 h4
  obtain ⟨n0, rfl, a0⟩ := int_one' u0 h0
  obtain ⟨n1, rfl, a1⟩ := int_one' u1 h1
  obtain ⟨A2, l2, d2, hA2⟩ := Go.Joins.slice_form u2 h2
  obtain ⟨A3, l3, d3, hA3⟩ := Go.Joins.slice_form u3 h3
  obtain ⟨A4, l4, d4, hA4⟩ := Go.Joins.slice_form u4 h4
  obtain rfl : c2 = .slice A2 l2 d2 := by simpa using hA2
  obtain rfl : c3 = .slice A3 l3 d3 := by simpa using hA3
  obtain rfl : c4 = .slice A4 l4 d4 := by simpa using hA4
  obtain ⟨sz, s1, s2, s3, s4⟩ := open_intl (W := W) (base := base) (held := held) (enc := enc) (d := y2.1) (ps := y2.2) u2 uq2 kq2 ⟨n, by simpa [Value.cells] using h2⟩
  obtain ⟨sm, q1, q2', q3', q4'⟩ := open_u32l (W := W) (base := base) (held := held) (enc := enc) (d := y3.1) (ps := y3.2) u3 uq3 kq3 ⟨n, by simpa [Value.cells] using h3⟩
  obtain ⟨hm, r1, r2, r3, r4, r5⟩ := open_irows (W := W) (base := base) (held := held) (enc := enc) (d := y4.1) (ps := y4.2) u4 uq4 uq5 kq4 kq5 ⟨n, by simpa [Value.cells] using h4⟩
  exact ⟨n0, n1, A2, l2, d2, A3, l3, d3, A4, l4, d4, sz, sm, hm, rfl, a0, a1, s1, s2, by omega, q1, q2', by omega, r1, r2, by omega, r5⟩
end
end Go.Proofs.Ytmlemichkeomjaa.RowK
