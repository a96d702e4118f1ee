/- Present walked. -/
import Derived.Test.YtpologlcfohjeaaMend3
set_option linter.unusedVariables false
set_option linter.unusedSimpArgs false
namespace Go.Proofs.Ytpologlcfohjeaa.MendW
open Go.RowKit Go.Proofs.Ytpologlcfohjeaa.Base

theorem info_int : (Try.prog.info? 3).map (fun i => (i.zero, i.size, i.bytes)) = some (some (.int .i64 0), 1, 8) := by kernel_rfl
/-- The pieces of a row that are present, up to a place. -/
def presK (hv : List (List Bool)) (live : List Bool) (row : List Int) (p : Nat) (k : Nat) : List Nat := (List.range k).filter fun a => hasB hv p a && livesB live (row.getD a 0)
def castL (l : List Nat) : List Int := l.map fun x : Nat => (x : Int)
theorem castL_length (l : List Nat) : (castL l).length = l.length := by simp [castL]
theorem presK_succ (hv : List (List Bool)) (live : List Bool) (row : List Int) (p k : Nat) : presK hv live row p (k + 1) = presK hv live row p k ++ (if hasB hv p k && livesB live (row.getD k 0) then [k] else []) := by
  unfold presK
  rw [List.range_succ, List.filter_append]
  simp only [List.filter_cons, List.filter_nil]
theorem presK_lt (hv : List (List Bool)) (live : List Bool) (row : List Int) (p k : Nat) : ∀ x, x ∈ presK hv live row p k → x < k ∧ hasB hv p x = true ∧ livesB live (row.getD x 0) = true := fun x hx => by
  obtain ⟨h1, h2⟩ := List.mem_filter.1 hx
  rw [Bool.and_eq_true] at h2
  exact ⟨List.mem_range.1 h1, h2.1, h2.2⟩
theorem presK_length (hv : List (List Bool)) (live : List Bool) (row : List Int) (p k : Nat) : (presK hv live row p k).length ≤ k := by
  have := List.length_filter_le (fun a => hasB hv p a && livesB live (row.getD a 0)) (List.range k)
  rw [List.length_range] at this
  exact this
def presOf (hv : List (List Bool)) (live : List Bool) (hm : List (List Int)) (p : Nat) : List Nat := presK hv live (hm.getD p []) p (hm.getD p []).length
theorem castL_le {l : List Nat} {k : Nat} (h : ∀ x, x ∈ l → x < k) (hk : k ≤ 1000000) : ∀ x, x ∈ castL l → -9223372036854775808 ≤ x ∧ x ≤ 9223372036854775807 := fun x hx => by
  obtain ⟨i, hi, rfl⟩ := List.mem_map.1 hx
  have := h i hi
  omega
section
variable (t a : Int) (A2 : Option Addr) (n2 c2 : Nat) (A3 : Option Addr) (n3 c3 : Nat) (A4 : Option Addr) (n4 c4 : Nat) (hm : List (List Int)) (Ah : Option Addr) (nh ch : Nat) (hv : List (List Bool)) (Al : Option Addr) (nl cl : Nat) (live : List Bool) (w : World)
theorem present_out (x : Int) (hl : hm.length = n4) (hx : x < 0 ∨ n4 ≤ x) :
    Calls Try.prog 9 #[.agg #[.int .i64 t, .int .i64 a, .slice A2 n2 c2, .slice A3 n3 c3, .slice A4 n4 c4], .slice Ah nh ch, .slice Al nl cl, .int .i64 x] w fun e w' => e = .returned (.slice none 0 0) ∧ Below w.heap.size w w' := by
  go_enter Try.func9, Try.ntmps9
  go_upto_region 1 with fail
  have q4 : (w.alloc (.cells #[.int .i64 t, .int .i64 a, .slice A2 n2 c2, .slice A3 n3 c3, .slice A4 n4 c4] 26)).cell? ⟨w.heap.size, 4, none⟩ = some (.slice A4 n4 c4) := by rw [cell_of_row _ _ _ _ _ _ (heap_alloc_new w _)]; rfl
  have hWb : Below w.heap.size w (w.alloc (.cells #[.int .i64 t, .int .i64 a, .slice A2 n2 c2, .slice A3 n3 c3, .slice A4 n4 c4] 26)) := (Below.refl _ _).alloc (Nat.le_refl _) _
  generalize w.alloc (.cells #[.int .i64 t, .int .i64 a, .slice A2 n2 c2, .slice A3 n3 c3, .slice A4 n4 c4] 26) = W at q4 hWb ⊢
  by_cases h1 : x < 0
  · have t1 : decide (x < 0) = true := by simp [h1]
    clear hx h1
    go_wp2
    go_ret
    exact ⟨rfl, hWb⟩
  · have t1 : decide (x < 0) = false := by simp [h1]
    have t2 : decide ((n4 : Int) ≤ x) = true := by simp; omega
    clear hx h1
    go_wp2
    go_ret
    exact ⟨rfl, hWb⟩
set_option maxRecDepth 100000 in
set_option maxHeartbeats 1000000 in
theorem present_own (p : Nat) (hp : p < n4) (hH : IRows w A4 hm) (hl : hm.length = n4) (hr : ∀ i (h : i < hm.length), hm[i].length ≤ 1000000) (hV : BRows w Ah hv) (hvl : hv.length = nh) (hB : Bools w Al live) (hll : live.length = nl) :
    Calls Try.prog 9 #[.agg #[.int .i64 t, .int .i64 a, .slice A2 n2 c2, .slice A3 n3 c3, .slice A4 n4 c4], .slice Ah nh ch, .slice Al nl cl, .int .i64 (p : Nat)] w fun e w' => ∃ A' c', e = .returned (.slice A' (presOf hv live hm p).length c') ∧ (presOf hv live hm p).length ≤ c' ∧ w'.ownsRow w.heap.size 3 1 (.slice A' (presOf hv live hm p).length c') (presOf hv live hm p).length (zv (castL (presOf hv live hm p))) ∧ Ints w' A' (castL (presOf hv live hm p)) ∧ Below w.heap.size w w' := by
  go_enter Try.func9, Try.ntmps9
  go_upto_region 1 with fail
  have q4 : (w.alloc (.cells #[.int .i64 t, .int .i64 a, .slice A2 n2 c2, .slice A3 n3 c3, .slice A4 n4 c4] 26)).cell? ⟨w.heap.size, 4, none⟩ = some (.slice A4 n4 c4) := by rw [cell_of_row _ _ _ _ _ _ (heap_alloc_new w _)]; rfl
  have hWb : Below w.heap.size w (w.alloc (.cells #[.int .i64 t, .int .i64 a, .slice A2 n2 c2, .slice A3 n3 c3, .slice A4 n4 c4] 26)) := (Below.refl _ _).alloc (Nat.le_refl _) _
  generalize w.alloc (.cells #[.int .i64 t, .int .i64 a, .slice A2 n2 c2, .slice A3 n3 c3, .slice A4 n4 c4] 26) = W at q4 hWb ⊢
  obtain ⟨b, off, rfl, hc⟩ := hH.block (by omega)
  obtain ⟨B, cb, g1, hcb, hI⟩ := hc p (by omega)
  have hq9 := hr p (by omega)
  have e1 : hm.getD p [] = hm[p]'(by omega) := by rw [List.getD_eq_getElem?_getD, List.getElem?_eq_getElem (by omega)]; rfl
  obtain ⟨row, hrow⟩ : ∃ row, row = hm[p]'(by omega) := ⟨_, rfl⟩
  have HPO := Lib.hid (show presOf hv live hm p = presK hv live row p row.length by rw [hrow, presOf, e1])
  replace g1 := cell_below hWb g1
  rw [← hrow] at g1 hcb hI hq9
  obtain ⟨q, hq⟩ : ∃ q, row.length = q := ⟨_, rfl⟩
  rw [hq] at g1 hcb hq9
  have HRQ := Lib.hid hq
  have t1 : decide (((p : Nat) : Int) < 0) = false := by simp
  have t2 : decide (((n4 : Nat) : Int) ≤ ((p : Nat) : Int)) = false := by simp; omega
  have t2' : decide (n4 ≤ p) = false := by simp; omega
  have HV := Lib.hid hV
  have HB9 := Lib.hid hB
  clear hc hrow e1 hr hq
  go_wp2
  go_loopw [9, 10, 11, 27] (fun d _ _ i wr => ∃ k : Nat, k ≤ q ∧ i = .int .i64 k ∧ wr.ownsRow w.heap.size 3 1 d (presK hv live row p k).length (zv (castL (presK hv live row p k))) ∧ Below w.heap.size w wr) (fun _ _ _ i _ => q - (intOf i).toNat)
  case atStart => exact ⟨0, by omega, rfl, World.ownsRow_nil _ _ _ _, hWb⟩
  case round =>
    obtain ⟨k, hk, rfl, HO, HB⟩ := hrel
    by_cases hlt : k < q
    · have hkl : k < row.length := by have := HRQ.out; omega
      obtain ⟨b2, off2, rfl, hc2⟩ := (hI.below HB).block (by omega)
      have g2 := hc2 k hkl
      have hle := hI.le row[k] (List.getElem_mem hkl)
      have HS := Lib.hid (presK_succ hv live row p k)
      have e2 : row.getD k 0 = row[k] := by rw [List.getD_eq_getElem?_getD, List.getElem?_eq_getElem hkl]; rfl
      rw [e2] at HS
      clear hc2 e2
      obtain ⟨x, hx⟩ : ∃ x, x = row[k] := ⟨_, rfl⟩
      rw [← hx] at g2 hle HS
      clear hx
      obtain ⟨s, hs⟩ : ∃ s, s = presK hv live row p k := ⟨_, rfl⟩
      rw [← hs] at HO HS
      have hsl : s.length ≤ k := by rw [hs]; exact presK_length hv live row p k
      clear hs
      have HH := Lib.hid (fun Wx (h : BRows Wx Ah hv) => has_any Ah nh ch hv p k Wx h hvl)
      have HLV := Lib.hid (fun Wx (h : Bools Wx Al live) => lives_any Al nl cl live x Wx h hll hle)
      obtain ⟨f1, hf1⟩ : ∃ f, f = hasB hv p k := ⟨_, rfl⟩
      obtain ⟨f2, hf2⟩ : ∃ f, f = livesB live x := ⟨_, rfl⟩
      rw [← hf1] at HH HS
      rw [← hf2] at HLV HS
      clear hf1 hf2
      have hlen : (zv (castL s)).length = s.length := by rw [zv_length, castL_length]
      cases f1
      · go_wp2_with (go_at_call 20; (with_reducible refine (HH.out _ (HV.out.below HB)).mono ?_); rintro e w3 ⟨rfl, rfl⟩)
        go_roundw
        case rel => exact ⟨k + 1, by omega, by go_num, by rw [HS.out]; simpa using HO, HB⟩
        case measure => simp [intOf]; omega
      · cases f2
        · go_wp2_with (first | (go_at_call 20; (with_reducible refine (HH.out _ (HV.out.below HB)).mono ?_); rintro e w3 ⟨rfl, rfl⟩) | (go_at_call 21; (with_reducible refine (HLV.out _ (HB9.out.below HB)).mono ?_); rintro e w4 ⟨rfl, rfl⟩))
          go_roundw
          case rel => exact ⟨k + 1, by omega, by go_num, by rw [HS.out]; simpa using HO, HB⟩
          case measure => simp [intOf]; omega
        · go_wp2_with (first | (go_at_call 20; (with_reducible refine (HH.out _ (HV.out.below HB)).mono ?_); rintro e w3 ⟨rfl, rfl⟩) | (go_at_call 21; (with_reducible refine (HLV.out _ (HB9.out.below HB)).mono ?_); rintro e w4 ⟨rfl, rfl⟩) | (at_builtin; refine app_one w.heap.size rfl (.tmp 41) (.tmp 43) 22 3 (.int .i64 0) 8 rfl Try.underlying22 info_int rfl (by omega) _ (zv (castL s)) (.int .i64 (k : Nat)) s.length hlen rfl rfl rfl HO HB HB.size (by omega) ?_; intro v1 w1 HO2 HB3 hg2))
          go_roundw
          case rel => exact ⟨k + 1, by omega, by go_num, by rw [HS.out]; simpa [castL, zv] using HO2, HB3⟩
          case measure => simp [intOf]; omega
    · obtain rfl : k = q := by omega
      obtain ⟨A9, c9, rfl, hl9, hc9, hI9⟩ := own_ints HO (castL_le (fun x hx => (presK_lt hv live row p k x hx).1) hq9)
      go_wp2
      go_ret
      rw [HPO.out, HRQ.out]
      exact ⟨A9, c9, rfl, hc9, HO, hI9, HB⟩
theorem present_any (p : Nat) (hp : p < n4) (hH : IRows w A4 hm) (hl : hm.length = n4) (hr : ∀ i (h : i < hm.length), hm[i].length ≤ 1000000) (hV : BRows w Ah hv) (hvl : hv.length = nh) (hB : Bools w Al live) (hll : live.length = nl) :
    Calls Try.prog 9 #[.agg #[.int .i64 t, .int .i64 a, .slice A2 n2 c2, .slice A3 n3 c3, .slice A4 n4 c4], .slice Ah nh ch, .slice Al nl cl, .int .i64 (p : Nat)] w fun e w' => ∃ A' c', e = .returned (.slice A' (presOf hv live hm p).length c') ∧ (presOf hv live hm p).length ≤ c' ∧ Ints w' A' (castL (presOf hv live hm p)) ∧ Below w.heap.size w w' :=
  (present_own t a A2 n2 c2 A3 n3 c3 A4 n4 c4 hm Ah nh ch hv Al nl cl live w p hp hH hl hr hV hvl hB hll).mono fun e w' ⟨A', c', h1, h2, _, h4, h5⟩ => ⟨A', c', h1, h2, h4, h5⟩
end
end Go.Proofs.Ytpologlcfohjeaa.MendW
