/- A message that comes in: nine numbers, a text, texts. -/
import Derived.Test.YtdjgdhpncocahaaRowS
import Derived.Lib.SmallJoins
set_option linter.unusedVariables false
set_option linter.unusedSimpArgs false
namespace Go.Proofs.Ytdjgdhpncocahaa.RowK
open Go.ChangeShapes Go.WideShapes Go.ChangeAt Go.RowKit Go.Proofs.Ytdjgdhpncocahaa.Base

section
variable {H : Type} {enc : TypeId × Value → H} {P : Program} {W : World} {base : Nat} {spare : Nat → Bool} {held : Bool}
theorem list11 {α : Type} {l : List α} (h : l.length = 11) : ∃ c0 c1 c2 c3 c4 c5 c6 c7 c8 c9 c10, l = [c0, c1, c2, c3, c4, c5, c6, c7, c8, c9, c10] := by
  match l, h with
  | [c0, c1, c2, c3, c4, c5, c6, c7, c8, c9, c10], _ => exact ⟨_, _, _, _, _, _, _, _, _, _, _, rfl⟩
theorem int_one {e : TypeId} {m : Nat} {c : Value} {y : DataW H × List MemPlace} (he : P.underlying e = some (.int .i64)) (h : DataW.trod enc P W base spare held m e [c] = some y) : ∃ n : Int, c = .int .i64 n ∧ -9223372036854775808 ≤ n ∧ n ≤ 9223372036854775807 := by
  obtain ⟨n, h1, _, h2⟩ := DataW.trod_int he h
  have := i64_of h2
  exact ⟨n, by simpa using h1, this.1, this.2⟩
theorem open_msg {r : Reach} {b0 : Nat} {t e q : TypeId} {f0 f1 f2 : Field} {v : Value} {d : DataW H} {ps : List MemPlace} (hs : P.underlying t = some (.struct #[f0, f1, f2])) (hC : P.cellsOf t = 11)
    (o0 : f0.offset = 0) (k0 : P.cellsOf f0.type = 9) (u0 : P.underlying f0.type = some (.array 9 e)) (ke : P.cellsOf e = 1) (ue : P.underlying e = some (.int .i64))
    (o1 : f1.offset = 9) (k1 : P.cellsOf f1.type = 1) (u1 : P.underlying f1.type = some .string)
    (o2 : f2.offset = 10) (k2 : P.cellsOf f2.type = 1) (u2 : P.underlying f2.type = some (.slice q)) (uq : P.underlying q = some .string) (kq : P.cellsOf q = 1)
    (hv : Value.okWide P W r b0 t v) (hw : ∀ n, n ∈ d.weights P t → n ≤ reachBytes) (h : DataW.Trod enc P W base spare held t v d ps) :
    ∃ (n0 n1 n2 n3 n4 n5 n6 n7 n8 : Int) (s : ByteArray) (A : Option Addr) (ln cp : Nat) (ss : List ByteArray), v = .agg #[.int .i64 n0, .int .i64 n1, .int .i64 n2, .int .i64 n3, .int .i64 n4, .int .i64 n5, .int .i64 n6, .int .i64 n7, .int .i64 n8, .string s, .slice A ln cp] ∧
      s.size ≤ 140737488351232 ∧ Strs W A ln ss ∧ ln ≤ cp ∧ cp ≤ maxLen ∧
      (∀ x, x ∈ [n0, n1, n2, n3, n4, n5, n6, n7, n8] → -9223372036854775808 ≤ x ∧ x ≤ 9223372036854775807) := by
  obtain ⟨cs, rfl, hsz⟩ := okWide_struct hs hv
  obtain ⟨l⟩ := cs
  have hl : l.length = 11 := hsz.trans hC
  obtain ⟨c0, c1, c2, c3, c4, c5, c6, c7, c8, c9, c10, rfl⟩ := list11 hl
  obtain ⟨fuel, hf⟩ := h
  obtain ⟨xs, n, _, hxx, _, hlen, hx⟩ := DataW.trod_struct hs hf
  obtain ⟨hd, _⟩ := Prod.mk.inj hxx
  have h0 := hx 0 f0 rfl
  have h1 := hx 1 f1 rfl
  have h2 := hx 2 f2 rfl
  rw [o0, k0] at h0
  rw [o1, k1] at h1
  rw [o2, k2] at h2
  have hx0 : xs[0]? ≠ none := by rw [ne_eq, List.getElem?_eq_none_iff, hlen]; simp
  have hx1 : xs[1]? ≠ none := by rw [ne_eq, List.getElem?_eq_none_iff, hlen]; simp
  have hx2 : xs[2]? ≠ none := by rw [ne_eq, List.getElem?_eq_none_iff, hlen]; simp
  obtain ⟨y0, e0⟩ := Option.ne_none_iff_exists'.1 hx0
  obtain ⟨y1, e1⟩ := Option.ne_none_iff_exists'.1 hx1
  obtain ⟨y2, e2⟩ := Option.ne_none_iff_exists'.1 hx2
  rw [e0] at h0
  rw [e1] at h1
  rw [e2] at h2
  simp [Value.cells] at h0 h1 h2
  obtain ⟨zs, m, _, _, _, hzl, hz⟩ := DataW.trod_array u0 h0
  have one : ∀ (i : Nat) (hi : i < 9), ∃ z, zs[i]? = some z := fun i hi => ⟨zs[i]'(by omega), List.getElem?_eq_getElem (by omega)⟩
  have g : ∀ (i : Nat) (c : Value), i < 9 → ([c0, c1, c2, c3, c4, c5, c6, c7, c8].drop (i * 1)).take 1 = [c] → ∃ n : Int, c = .int .i64 n ∧ -9223372036854775808 ≤ n ∧ n ≤ 9223372036854775807 := by
    intro i c hi hc
    have h3 := hz i hi
    obtain ⟨z, hz2⟩ := one i hi
    rw [ke, hc, hz2] at h3
    exact int_one ue h3
  obtain ⟨n0, rfl, a0⟩ := g 0 c0 (by omega) rfl
  obtain ⟨n1, rfl, a1⟩ := g 1 c1 (by omega) rfl
  obtain ⟨n2, rfl, a2⟩ := g 2 c2 (by omega) rfl
  obtain ⟨n3, rfl, a3⟩ := g 3 c3 (by omega) rfl
  obtain ⟨n4, rfl, a4⟩ := g 4 c4 (by omega) rfl
  obtain ⟨n5, rfl, a5⟩ := g 5 c5 (by omega) rfl
  obtain ⟨n6, rfl, a6⟩ := g 6 c6 (by omega) rfl
  obtain ⟨n7, rfl, a7⟩ := g 7 c7 (by omega) rfl
  obtain ⟨n8, rfl, a8⟩ := g 8 c8 (by omega) rfl
  obtain ⟨s, hs1, hs3, hs2⟩ := DataW.trod_string u1 h1
  have hsz2 : s.size ≤ 140737488351232 := by
    have hm : s.data.toList.length ∈ d.weights P t := by
      rw [hd]
      unfold DataW.weights
      rw [hs]
      refine DataW.weights_mem_each (j := 1) (t := f1.type) (d := y1.1) rfl (by rw [List.getElem?_map, e1]; rfl) _ ?_
      rw [hs3]
      simp [DataW.weights]
    have := hw _ hm
    rw [list_size] at this
    exact this
  obtain ⟨A, ln, cp, hA⟩ := Go.Joins.slice_form u2 h2
  obtain rfl : c9 = .string s := by simpa using hs1
  obtain rfl : c10 = .slice A ln cp := by simpa using hA
  obtain ⟨ss, hS, hl1, hl2, _⟩ := open_strs (W := W) (base := base) (spare := spare) (held := held) (enc := enc) (d := y2.1) (ps := y2.2) u2 uq kq ⟨n, by simpa [Value.cells] using h2⟩
  refine ⟨n0, n1, n2, n3, n4, n5, n6, n7, n8, s, A, ln, cp, ss, rfl, hsz2, hS, hl1, hl2, fun x hx => ?_⟩
  simp only [List.mem_cons, List.mem_nil_iff, or_false] at hx
  rcases hx with rfl | rfl | rfl | rfl | rfl | rfl | rfl | rfl | rfl <;> assumption
theorem weights_le {ts : List TypeId} {ds : List (DataW H)} (hsz : (DataW.weightsEach P ts ds).all (· ≤ reachBytes) = true) {j : Nat} {t : TypeId} {d : DataW H} (ht : ts[j]? = some t) (hd : ds[j]? = some d) : ∀ n, n ∈ d.weights P t → n ≤ reachBytes := by
  intro n hn
  have := DataW.weights_mem_each (P := P) ht hd n hn
  rw [List.all_eq_true] at hsz
  simpa using hsz n this
end
end Go.Proofs.Ytdjgdhpncocahaa.RowK
