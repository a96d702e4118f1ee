/- Once all moves are done, and live workers are enough, nothing is left to be moved. -/
import Derived.Test.YtpologlcfohjeaaRows
import Derived.Test.YtpologlcfohjeaaMendV
import Derived.Test.YtpologlcfohjeaaRowN
set_option linter.unusedVariables false
set_option linter.unusedSimpArgs false
namespace Go.Proofs.Ytpologlcfohjeaa.mendEnough
open Go.Proofs.Ytpologlcfohjeaa.MendW Go.ChangeShapes Go.WideShapes Go.ChangeAt Go.RowKit Go.Proofs.Ytpologlcfohjeaa.Base Go.Proofs.Ytpologlcfohjeaa.RowK
open Go.ChangeMaps (open_string shut_string)
theorem own : ownKnob Try.prog.godebug = none := by kernel_rfl
theorem laidOut : laidOutB Try.prog = true := by kernel_rfl
set_option maxRecDepth 100000 in
theorem lifted (os : Os) (started : os.Started) (H : Type) (enc : TypeId × Value → H) :
    ReturnsInHanded {} Try.checked os 5 .any (Rows.mendEnoughSpec.pre6 enc Try.prog Try.f5 Rows.mendEnoughRow.domain false) (Rows.mendEnoughSpec.post enc Try.prog Try.f5 false true false false) := by
  refine returnsInHanded_of_change_sized (C := Try.checked) own started (by kernel_rfl) Try.func5
    (ChangeSpec.witness6 (enc := enc) (C := Try.checked) false ⟨#[], #[.agg #[.int .i64 0, .int .i64 0, .slice none 0 0, .slice none 0 0, .slice none 0 0], .int .i64 0, .int .i64 0, .slice none 0 0, .slice none 0 0, .slice none 0 0], []⟩ 8 (by kernel_rfl) (by kernel_rfl) (by kernel_rfl) (by kernel_rfl)) ?_
  intro W base args ds gs before hval0 hW hcnd hsz0 _
  have hsz : (DataW.weightsEach Try.prog (Try.f5.params.toList ++ Rows.mendEnoughSpec.plain.varTypes Try.prog) (ds ++ gs)).all (· ≤ reachBytes) = true := hsz0
  have hval : ∀ (j : Nat) t v, Try.f5.params[j]? = some t → args[j]? = some v → Value.okWide Try.prog W .any base t v := hval0
  have hW' := hW
  obtain ⟨p, q, hA0, hV, rfl, hfz, hnd⟩ := hW
  have hA : DataW.TrodAll enc Try.prog W 0 (fun _ => true) true Try.f5.params.toList args.toList ds p := hA0
  rw [Try.params5] at hA hval hsz
  obtain ⟨v0, vs0, d0, ds0, p0, q0, hargs, rfl, rfl, h0, r0⟩ := trodAll_cons hA
  obtain ⟨v1, vs1, d1, ds1, p1, q1, rfl, rfl, rfl, h1, r1⟩ := trodAll_cons r0
  obtain ⟨v2, vs2, d2, ds2, p2, q2, rfl, rfl, rfl, h2, r2⟩ := trodAll_cons r1
  obtain ⟨v3, vs3, d3, ds3, p3, q3, rfl, rfl, rfl, h3, r3⟩ := trodAll_cons r2
  obtain ⟨v4, vs4, d4, ds4, p4, q4, rfl, rfl, rfl, h4, r4⟩ := trodAll_cons r3
  obtain ⟨v5, vs5, d5, ds5, p5, q5, rfl, rfl, rfl, h5, r5⟩ := trodAll_cons r4
  obtain ⟨rfl, rfl, rfl⟩ := trodAll_nil r5
  obtain rfl : args = #[v0, v1, v2, v3, v4, v5] := by cases args; simp_all
  obtain ⟨rfl, rfl⟩ := trodVars_none hV
  have k0 := h0
  have lt0 : ∀ x ∈ p0, x.block < W.heap.size := by obtain ⟨m, hm⟩ := k0; exact DataW.trod_lt m _ _ _ hm
  obtain ⟨t0, s0, A02, n02, c02, A03, n03, c03, A04, n04, c04, x02, x03, x04, rfl, rt0, rs0, y02, w02, z02, y03, w03, z03, y04, w04, z04, b04⟩ := open_man (P := Try.prog) Try.underlying26 (by kernel_rfl) rfl (by kernel_rfl) Try.underlying3 rfl (by kernel_rfl) Try.underlying3 rfl (by kernel_rfl) Try.underlying22 Try.underlying3 (by kernel_rfl) rfl (by kernel_rfl) Try.underlying23 Try.underlying49 (by kernel_rfl) rfl (by kernel_rfl) Try.underlying24 Try.underlying22 Try.underlying3 (by kernel_rfl) (by kernel_rfl) (hval 0 26 v0 rfl rfl) h0
  have k1 := h1
  have lt1 : ∀ x ∈ p1, x.block < W.heap.size := by obtain ⟨m, hm⟩ := k1; exact DataW.trod_lt m _ _ _ hm
  obtain ⟨x1, rfl, rfl, rfl, w1⟩ := open_int Try.underlying3 (hval 1 3 v1 rfl rfl) h1
  have y1 := i64_of w1
  have k2 := h2
  have lt2 : ∀ x ∈ p2, x.block < W.heap.size := by obtain ⟨m, hm⟩ := k2; exact DataW.trod_lt m _ _ _ hm
  obtain ⟨x2, rfl, rfl, rfl, w2⟩ := open_int Try.underlying3 (hval 2 3 v2 rfl rfl) h2
  have y2 := i64_of w2
  have k3 := h3
  have lt3 : ∀ x ∈ p3, x.block < W.heap.size := by obtain ⟨m, hm⟩ := k3; exact DataW.trod_lt m _ _ _ hm
  obtain ⟨A3, n3, c3, rfl⟩ := okWide_slice Try.underlying27 (hval 3 27 v3 rfl rfl)
  obtain ⟨x3, y3, w3, z3, b3, s3⟩ := open_brows (P := Try.prog) Try.underlying27 Try.underlying28 Try.underlying4 (by kernel_rfl) (by kernel_rfl) h3
  have k4 := h4
  have lt4 : ∀ x ∈ p4, x.block < W.heap.size := by obtain ⟨m, hm⟩ := k4; exact DataW.trod_lt m _ _ _ hm
  obtain ⟨A4, n4, c4, rfl⟩ := okWide_slice Try.underlying28 (hval 4 28 v4 rfl rfl)
  obtain ⟨x4, y4, w4, z4, b4⟩ := open_boolsl (P := Try.prog) Try.underlying28 Try.underlying4 (by kernel_rfl) h4
  have k5 := h5
  have lt5 : ∀ x ∈ p5, x.block < W.heap.size := by obtain ⟨m, hm⟩ := k5; exact DataW.trod_lt m _ _ _ hm
  obtain ⟨A5, n5, c5, rfl⟩ := okWide_slice Try.underlying22 (hval 5 22 v5 rfl rfl)
  obtain ⟨x5, y5, w5, z5, b5⟩ := open_intl (P := Try.prog) Try.underlying22 Try.underlying3 (by kernel_rfl) h5
  clear hA0 hval0 hsz0
  refine (enough_any t0 s0 A02 n02 c02 A03 n03 c03 A04 n04 c04 A3 n3 c3 A4 n4 c4 A5 n5 c5 x02 x03 x04 x3 x4 x5 W x1 x2 y02 w02 y03 w03 y04 w04 ⟨(by simp only [maxLen] at z02; omega), (by simp only [maxLen] at z03; omega), (by simp only [maxLen] at z04; omega)⟩ (fun i hi => by have := b04 i hi; simp only [maxLen] at this; omega) y3 w3 (fun i hi => by have := s3 i hi; simp only [maxLen] at this; omega) y4 w4 y5 w5 ⟨(by simp only [maxLen] at b3; omega), (by simp only [maxLen] at b4; omega), (by simp only [maxLen] at b5; omega)⟩).mono fun e W' ⟨he, bel⟩ => ?_
  subst he
  exact ⟨_, rfl, _, _, _, [], _, [], hW', trodAll_mk1 (shut_bool Try.underlying4 _), (trodAll_cons_mk (Below.trod laidOut (by kernel_rfl) (of_decide_eq_true (by kernel_rfl)) k0 bel lt0) (trodAll_cons_mk (Below.trod laidOut (by kernel_rfl) (of_decide_eq_true (by kernel_rfl)) k1 bel lt1) (trodAll_cons_mk (Below.trod laidOut (by kernel_rfl) (of_decide_eq_true (by kernel_rfl)) k2 bel lt2) (trodAll_cons_mk (Below.trod laidOut (by kernel_rfl) (of_decide_eq_true (by kernel_rfl)) k3 bel lt3) (trodAll_cons_mk (Below.trod laidOut (by kernel_rfl) (of_decide_eq_true (by kernel_rfl)) k4 bel lt4) (trodAll_cons_mk (Below.trod laidOut (by kernel_rfl) (of_decide_eq_true (by kernel_rfl)) k5 bel lt5) trodAll_mk0)))))), rfl, bel.frame _, fun h => by cases h⟩
theorem over : Rows.mendEnoughRow.holds Try.pinned (OpenSpec.ofChange Rows.mendEnoughSpec) :=
  OpenClaim.holds_of_wide 5 Try.f5 rfl rfl rfl rfl rfl rfl rfl ⟨rfl, rfl, rfl, rfl, rfl⟩ rfl rfl rfl rfl rfl (by kernel_rfl) Try.func5 (by kernel_rfl)
    (of_decide_eq_true (by kernel_rfl)) (by unfold Func.isWrapper; first | (rw [if_pos (by decide +kernel)]; kernel_rfl) | (rw [if_neg (by decide +kernel)]; exact ⟨rfl, rfl⟩))
    (fun os started H enc _ => lifted os started H enc)
theorem proved : Rows.MendEnoughSaid := over
end Go.Proofs.Ytpologlcfohjeaa.mendEnough
namespace Go.Proofs.Ytpologlcfohjeaa
/-- The row, under a short name, for the claim. -/
theorem mendEnough_holds : Rows.MendEnoughSaid := mendEnough.proved
#print axioms mendEnough_holds
end Go.Proofs.Ytpologlcfohjeaa
