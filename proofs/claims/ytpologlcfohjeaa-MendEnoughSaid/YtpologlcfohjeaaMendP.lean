/- stooklaw18.awake walked. -/
import Derived.Test.YtpologlcfohjeaaMendO
set_option linter.unusedVariables false
set_option linter.unusedSimpArgs false
namespace Go.Proofs.Ytpologlcfohjeaa.MendW
open Go.RowKit Go.Proofs.Ytpologlcfohjeaa.Base
theorem ints_new (w : World) (l : List Int) (h : ∀ x, x ∈ l → -9223372036854775808 ≤ x ∧ x ≤ 9223372036854775807) (g : Nat) (hg : g = w.heap.size) : Ints (w.alloc (.cells (zv l).toArray 3)) (some ⟨g, 0, none⟩) l := by
  subst hg
  refine ⟨h, .inr ⟨_, 0, rfl, fun j hj => ?_⟩⟩
  rw [cell_of_row _ _ _ _ _ _ (heap_alloc_new w _)]
  simp [zv, hj]
theorem u32s_new (w : World) (l : List Int) (h : ∀ x, x ∈ l → 0 ≤ x ∧ x ≤ 4294967295) (g : Nat) (hg : g = w.heap.size) : U32s (w.alloc (.cells (uv l).toArray 49)) (some ⟨g, 0, none⟩) l := by
  subst hg
  refine ⟨h, .inr ⟨_, 0, rfl, fun j hj => ?_⟩⟩
  rw [cell_of_row _ _ _ _ _ _ (heap_alloc_new w _)]
  simp [uv, hj]
theorem bools_new (w : World) (l : List Bool) (g : Nat) (hg : g = w.heap.size) : Bools (w.alloc (.cells (l.map Value.bool).toArray 4)) (some ⟨g, 0, none⟩) l := by
  subst hg
  refine ⟨.inr ⟨_, 0, rfl, fun j hj => ?_⟩⟩
  rw [cell_of_row _ _ _ _ _ _ (heap_alloc_new w _)]
  simp [hj]
theorem irows_one {w : World} {B : Option Addr} {l : List Int} {n c : Nat} (h : Ints w B l) (hl : l.length = n) (hc : n ≤ c) (g : Nat) (hg : g = w.heap.size) : IRows (w.alloc (.cells #[.slice B n c] 22)) (some ⟨g, 0, none⟩) [l] := by
  subst hg
  subst hl
  refine ⟨.inr ⟨_, 0, rfl, fun j hj => ?_⟩⟩
  have : j = 0 := by simpa using hj
  subst this
  exact ⟨B, c, by rw [cell_of_row _ _ _ _ _ _ (heap_alloc_new w _)]; rfl, hc, h.below ((Below.refl _ _).alloc (Nat.le_refl _) _)⟩
theorem brows_one {w : World} {B : Option Addr} {l : List Bool} {n c : Nat} (h : Bools w B l) (hl : l.length = n) (hc : n ≤ c) (g : Nat) (hg : g = w.heap.size) : BRows (w.alloc (.cells #[.slice B n c] 28)) (some ⟨g, 0, none⟩) [l] := by
  subst hg
  subst hl
  refine ⟨.inr ⟨_, 0, rfl, fun j hj => ?_⟩⟩
  have : j = 0 := by simpa using hj
  subst this
  exact ⟨B, c, by rw [cell_of_row _ _ _ _ _ _ (heap_alloc_new w _)]; rfl, hc, h.below ((Below.refl _ _).alloc (Nat.le_refl _) _)⟩
theorem bel1 (w : World) (o : Obj) : Below w.heap.size w (w.alloc o) := (Below.refl _ _).alloc (Nat.le_refl _) o
def exLive : List Bool := [true, false, true, true]
def exHave : List (List Bool) := [[true, true, true]]
def exHomes : List (List Int) := [[1, 2, 3]]
theorem awake_plan {ms : List Mv} {ls : List Int} {X : List (List Int)} (h : PlanRel exLive exHave exHomes 2 1 ms ls X) : (∃ fv, ms = [⟨0, 1, 4, fv, [0, 2]⟩]) ∧ X = [[1, 4, 3]] := by
  have hp : presOf exHave exLive exHomes 0 = [0, 2] := by decide +kernel
  cases h with
  | lost _ hl => rw [hp] at hl; simp at hl
  | part h0 hk hfl hpr =>
    cases h0
    rw [hp] at hpr hfl
    rename_i ms1
    have e1 : ([0, 2] : List Nat).map (fun j => (exHomes.getD 0 []).getD j 0) = [1, 3] := by decide +kernel
    have e2 : (exHomes.getD 0 []).length = 3 := by decide +kernel
    rw [e1, e2] at hpr
    obtain ⟨c1, c2, c3, c4⟩ := hpr.count
    have e3 : freeN exLive [1, 3] = 1 := by decide +kernel
    have e4 : absent [0, 2] 3 = [1] := by decide +kernel
    rw [e3, e4, List.length_singleton] at c3
    rw [e4, List.length_singleton] at c2 c4
    have hl : (ms1.map fun m => (m.at_, m.dst)).length = 1 := by
      rcases Nat.lt_or_ge (ms1.map fun m => (m.at_, m.dst)).length 1 with h | h
      · have := c3 h; omega
      · omega
    have h4 := c4 hl
    rw [List.length_map] at hl
    obtain ⟨m, rfl⟩ := List.length_eq_one_iff.1 hl
    simp only [List.map_cons, List.map_nil, List.cons.injEq, and_true] at h4
    obtain ⟨f1, f2⟩ := hfl m (by simp)
    obtain ⟨_, _, q3, q4, q5, q6⟩ := hpr.facts.mem (m.at_, m.dst) (by simp)
    dsimp only at q3 q4 q5 q6
    have hd : m.dst = 4 := by
      have q4' : m.dst ≤ 4 := q4
      have h9 : m.dst = 1 ∨ m.dst = 2 ∨ m.dst = 3 ∨ m.dst = 4 := by omega
      rcases h9 with h | h | h | h
      · rw [h] at q6; exact absurd (by simp) q6
      · rw [h] at q5; exact absurd q5 (by decide)
      · rw [h] at q6; exact absurd (by simp) q6
      · exact h
    obtain ⟨a1, a2, a3, a4, a5⟩ := m
    dsimp only at h4 f1 f2 hd
    subst h4 f1 f2 hd
    exact ⟨⟨a4, rfl⟩, rfl⟩
/-- A block that holds a plan. -/
structure PBox (w : World) (b : Nat) (t a : Int) (Am : Option Addr) (nm cm : Nat) (Ax : Option Addr) (nx cx : Nat) (A2 : Option Addr) (n2 c2 : Nat) (A3 : Option Addr) (n3 c3 : Nat) (A4 : Option Addr) (n4 c4 : Nat) : Prop where
  f0 : w.cell? ⟨b, 0, none⟩ = some (.slice Am nm cm)
  f1 : w.cell? ⟨b, 1, none⟩ = some (.slice Ax nx cx)
  f2 : w.cell? ⟨b, 2, none⟩ = some (.int .i64 t)
  f3 : w.cell? ⟨b, 3, none⟩ = some (.int .i64 a)
  f4 : w.cell? ⟨b, 4, none⟩ = some (.slice A2 n2 c2)
  f5 : w.cell? ⟨b, 5, none⟩ = some (.slice A3 n3 c3)
  f6 : w.cell? ⟨b, 6, none⟩ = some (.slice A4 n4 c4)
theorem PBox.below {w w' : World} {b : Nat} {t a : Int} {Am : Option Addr} {nm cm : Nat} {Ax : Option Addr} {nx cx : Nat} {A2 : Option Addr} {n2 c2 : Nat} {A3 : Option Addr} {n3 c3 : Nat} {A4 : Option Addr} {n4 c4 : Nat} (h : PBox w b t a Am nm cm Ax nx cx A2 n2 c2 A3 n3 c3 A4 n4 c4) (hb : Below w.heap.size w w') : PBox w' b t a Am nm cm Ax nx cx A2 n2 c2 A3 n3 c3 A4 n4 c4 :=
  ⟨cell_below hb h.f0, cell_below hb h.f1, cell_below hb h.f2, cell_below hb h.f3, cell_below hb h.f4, cell_below hb h.f5, cell_below hb h.f6⟩
theorem PBox.mk' (w : World) (t a : Int) (Am : Option Addr) (nm cm : Nat) (Ax : Option Addr) (nx cx : Nat) (A2 : Option Addr) (n2 c2 : Nat) (A3 : Option Addr) (n3 c3 : Nat) (A4 : Option Addr) (n4 c4 : Nat) :
    PBox (w.alloc (.cells #[.slice Am nm cm, .slice Ax nx cx, .int .i64 t, .int .i64 a, .slice A2 n2 c2, .slice A3 n3 c3, .slice A4 n4 c4] 33)) w.heap.size t a Am nm cm Ax nx cx A2 n2 c2 A3 n3 c3 A4 n4 c4 := by
  constructor <;> (rw [cell_of_row _ _ _ _ _ _ (heap_alloc_new w _)]; rfl)
theorem awake_make (W : World) (A1 A2 A3 : Option Addr) (j1 : Ints W A1 [1]) (j2 : U32s W A2 [1]) (j3 : IRows W A3 exHomes) :
    Calls Try.prog 8 #[.agg #[.int .i64 0, .int .i64 0, .slice A1 1 1, .slice A2 1 1, .slice A3 1 1], .int .i64 2, .slice (some ⟨W.heap.size + 1, 0, none⟩) 1 1, .slice (some ⟨W.heap.size + 1 + 1, 0, none⟩) 4 4, .slice (some ⟨W.heap.size + 1 + 1 + 1, 0, none⟩) 4 4] ((((W.alloc (.cells #[.bool true, .bool true, .bool true] 4)).alloc (.cells #[.slice (some ⟨W.heap.size, 0, none⟩) 3 3] 28)).alloc (.cells #[.bool true, .bool false, .bool true, .bool true] 4)).alloc (.cells #[.int .i64 0, .int .i64 0, .int .i64 0, .int .i64 0] 3))
      fun e w' => ∃ Am cm Ax cx A2 c2 A3 c3 A4 c4 fv nx, e = .returned (.tuple #[.agg #[.slice Am 1 cm, .slice Ax nx cx, .int .i64 0, .int .i64 0, .slice A2 1 c2, .slice A3 1 c3, .slice A4 1 c4], .int .i64 0]) ∧ Moves w' Am [⟨0, 1, 4, fv, [0, 2]⟩] ∧ IRows w' A4 [[1, 4, 3]] ∧ Below W.heap.size W w' := by
  have k1 := bools_new W [true, true, true] W.heap.size rfl
  have c1 := bel1 W (.cells ([true, true, true].map Value.bool).toArray 4)
  have k2 := brows_one k1 (n := 3) (c := 3) rfl (by omega) (W.heap.size + 1) (by simp)
  have c2 := bel1 (W.alloc (.cells ([true, true, true].map Value.bool).toArray 4)) (.cells #[.slice (some ⟨W.heap.size, 0, none⟩) 3 3] 28)
  have k3 := bools_new ((W.alloc (.cells ([true, true, true].map Value.bool).toArray 4)).alloc (.cells #[.slice (some ⟨W.heap.size, 0, none⟩) 3 3] 28)) exLive (W.heap.size + 1 + 1) (by simp)
  have c3 := bel1 ((W.alloc (.cells ([true, true, true].map Value.bool).toArray 4)).alloc (.cells #[.slice (some ⟨W.heap.size, 0, none⟩) 3 3] 28)) (.cells (exLive.map Value.bool).toArray 4)
  have k4 := ints_new (((W.alloc (.cells ([true, true, true].map Value.bool).toArray 4)).alloc (.cells #[.slice (some ⟨W.heap.size, 0, none⟩) 3 3] 28)).alloc (.cells (exLive.map Value.bool).toArray 4)) [0, 0, 0, 0] (by decide) (W.heap.size + 1 + 1 + 1) (by simp)
  have c4 := bel1 (((W.alloc (.cells ([true, true, true].map Value.bool).toArray 4)).alloc (.cells #[.slice (some ⟨W.heap.size, 0, none⟩) 3 3] 28)).alloc (.cells (exLive.map Value.bool).toArray 4)) (.cells (zv [0, 0, 0, 0]).toArray 3)
  have cc : Below W.heap.size W ((((W.alloc (.cells #[.bool true, .bool true, .bool true] 4)).alloc (.cells #[.slice (some ⟨W.heap.size, 0, none⟩) 3 3] 28)).alloc (.cells #[.bool true, .bool false, .bool true, .bool true] 4)).alloc (.cells #[.int .i64 0, .int .i64 0, .int .i64 0, .int .i64 0] 3)) := bt (bt (bt c1 c1.size c2) (by simp; omega) c3) (by simp; omega) c4
  refine (make_post 0 0 A1 1 1 A2 1 1 A3 1 1 2 (some ⟨W.heap.size + 1, 0, none⟩) 1 1 (some ⟨W.heap.size + 1 + 1, 0, none⟩) 4 4 (some ⟨W.heap.size + 1 + 1 + 1, 0, none⟩) 4 [1] [1] exHomes exHave exLive [0, 0, 0, 0] ((((W.alloc (.cells #[.bool true, .bool true, .bool true] 4)).alloc (.cells #[.slice (some ⟨W.heap.size, 0, none⟩) 3 3] 28)).alloc (.cells #[.bool true, .bool false, .bool true, .bool true] 4)).alloc (.cells #[.int .i64 0, .int .i64 0, .int .i64 0, .int .i64 0] 3)) (by omega) (by omega) (by omega) (j1.below cc) rfl (by omega) (j2.below cc) rfl (by omega) (j3.below cc) rfl (by omega) (by decide) ((k2.below c3).below c4) rfl (k3.below c4) rfl k4 rfl).mono ?_
  rintro e w' ⟨Am, cm, Ax, cx, B2, d2, B3, d3, B4, d4, ms, ls, X, rfl, h1, h2, h3, h4, h5, h6, h7⟩
  obtain ⟨⟨fv, rfl⟩, rfl⟩ := awake_plan h6
  exact ⟨Am, cm, Ax, cx, B2, d2, B3, d3, B4, d4, fv, ls.length, rfl, h1, h5, bt cc cc.size h7⟩
set_option maxRecDepth 100000 in
set_option maxHeartbeats 4000000 in
theorem awake_any (w : World) : Calls Try.prog 6 #[] w fun e w' => e = .returned (.bool true) ∧ Below w.heap.size w w' := by
  go_enter Try.func6, Try.ntmps6
  go_upto_region 2 with fail
  obtain ⟨s, hs⟩ : ∃ s, s = w.heap.size := ⟨_, rfl⟩
  have i1 := ints_new w [1] (by decide) s hs
  have b1 := bel1 w (.cells (zv [1]).toArray 3)
  have s1 : (w.alloc (.cells (zv [1]).toArray 3)).heap.size = s + 1 := by simp [hs]
  rw [← hs]
  change _ at i1
  generalize hW1 : w.alloc (.cells (zv [1]).toArray 3) = W1 at i1 b1 s1
  have hW1' : w.alloc (.cells #[.int .i64 1] 3) = W1 := hW1
  rw [hW1']
  clear hW1 hW1'
  have i2 := u32s_new W1 [1] (by decide) (s + 1) s1.symm
  have b2 := bel1 W1 (.cells (uv [1]).toArray 49)
  have s2 : (W1.alloc (.cells (uv [1]).toArray 49)).heap.size = s + 1 + 1 := by simp [s1]
  generalize hW2 : W1.alloc (.cells (uv [1]).toArray 49) = W2 at i2 b2 s2
  have hW2' : W1.alloc (.cells #[.int .u32 1] 49) = W2 := hW2
  rw [hW2']
  clear hW2 hW2'
  have i3 := ints_new W2 [1, 2, 3] (by decide) (s + 1 + 1) s2.symm
  have b3 := bel1 W2 (.cells (zv [1, 2, 3]).toArray 3)
  have s3 : (W2.alloc (.cells (zv [1, 2, 3]).toArray 3)).heap.size = s + 1 + 1 + 1 := by simp [s2]
  generalize hW3 : W2.alloc (.cells (zv [1, 2, 3]).toArray 3) = W3 at i3 b3 s3
  have hW3' : W2.alloc (.cells #[.int .i64 1, .int .i64 2, .int .i64 3] 3) = W3 := hW3
  rw [hW3']
  clear hW3 hW3'
  have i4 := irows_one i3 (n := 3) (c := 3) rfl (by omega) (s + 1 + 1 + 1) s3.symm
  have b4 := bel1 W3 (.cells #[.slice (some ⟨s + 1 + 1, 0, none⟩) 3 3] 22)
  have s4 : (W3.alloc (.cells #[.slice (some ⟨s + 1 + 1, 0, none⟩) 3 3] 22)).heap.size = s + 1 + 1 + 1 + 1 := by simp [s3]
  generalize W3.alloc (.cells #[.slice (some ⟨s + 1 + 1, 0, none⟩) 3 3] 22) = W4 at i4 b4 s4 ⊢
  have HM := ManBox.mk' W4 0 0 (some ⟨s, 0, none⟩) 1 1 (some ⟨s + 1, 0, none⟩) 1 1 (some ⟨s + 1 + 1 + 1, 0, none⟩) 1 1
  rw [s4] at HM
  have b5 := bel1 W4 (.cells #[.int .i64 0, .int .i64 0, .slice (some ⟨s, 0, none⟩) 1 1, .slice (some ⟨s + 1, 0, none⟩) 1 1, .slice (some ⟨s + 1 + 1 + 1, 0, none⟩) 1 1] 26)
  have s5 : (W4.alloc (.cells #[.int .i64 0, .int .i64 0, .slice (some ⟨s, 0, none⟩) 1 1, .slice (some ⟨s + 1, 0, none⟩) 1 1, .slice (some ⟨s + 1 + 1 + 1, 0, none⟩) 1 1] 26)).heap.size = s + 1 + 1 + 1 + 1 + 1 := by simp [s4]
  generalize W4.alloc (.cells #[.int .i64 0, .int .i64 0, .slice (some ⟨s, 0, none⟩) 1 1, .slice (some ⟨s + 1, 0, none⟩) 1 1, .slice (some ⟨s + 1 + 1 + 1, 0, none⟩) 1 1] 26) = W5 at HM b5 s5 ⊢
  have j1 : Ints W5 (some ⟨s, 0, none⟩) [1] := (((i1.below b2).below b3).below b4).below b5
  have j2 : U32s W5 (some ⟨s + 1, 0, none⟩) [1] := ((i2.below b3).below b4).below b5
  have j3 : IRows W5 (some ⟨s + 1 + 1 + 1, 0, none⟩) exHomes := i4.below b5
  have HB : Below w.heap.size w W5 := bt (bt (bt (bt b1 b1.size b2) (by omega) b3) (by omega) b4) (by omega) b5
  clear b1 b2 b3 b4 b5 i1 i2 i3 i4 s1 s2 s3 s4
  obtain ⟨m0, m1, m2, m3, m4⟩ := HM
  have HMK := Lib.hid (awake_make W5 _ _ _ j1 j2 j3)
  clear j1 j2 j3 s5 hs
  go_upto_region 3 with (go_at_call 8; (with_reducible refine (HMK.out).mono ?_); rintro e w6 ⟨Am, cm, Ax, cx, A2, c2, A3, c3, A4, c4, fv, nx, rfl, hM, hR, hd⟩)
  have HPB := PBox.mk' w6 0 0 Am 1 cm Ax nx cx A2 1 c2 A3 1 c3 A4 1 c4
  have hb6 := bel1 w6 (.cells #[.slice Am 1 cm, .slice Ax nx cx, .int .i64 0, .int .i64 0, .slice A2 1 c2, .slice A3 1 c3, .slice A4 1 c4] 33)
  replace hM := hM.below hb6
  replace hR := hR.below hb6
  replace HB := bt (bt HB HB.size hd) (bt HB HB.size hd).size hb6
  generalize w6.alloc (.cells #[.slice Am 1 cm, .slice Ax nx cx, .int .i64 0, .int .i64 0, .slice A2 1 c2, .slice A3 1 c3, .slice A4 1 c4] 33) = W7 at HPB hM hR HB ⊢
  generalize w6.heap.size = pb at HPB ⊢
  obtain ⟨f0, f1, f2, f3, f4, f5, f6⟩ := HPB
  obtain ⟨b, off, rfl, hcm⟩ := hM.block (by simp)
  obtain ⟨q0, q1, q2, Af, cf, q3, hIf⟩ := hcm 0 (by simp)
  obtain ⟨b4, off4, rfl, hcr⟩ := hR.block (by simp)
  obtain ⟨Br, cr, r0, hcr9, hIr⟩ := hcr 0 (by simp)
  simp at q0 q1 q2 q3 hIf r0 hIr
  clear hcm hcr hM hR hd hb6 m0 m1 m2 m3 m4
  have n1 := Lib.hid (show Ints (W7.alloc (.cells #[.int .i64 0, .int .i64 2] 3)) (some ⟨W7.heap.size, 0, none⟩) [0, 2] from ints_new W7 [0, 2] (by decide) _ rfl)
  have n2 := Lib.hid (fun W : World => show Ints (W.alloc (.cells #[.int .i64 1, .int .i64 4, .int .i64 3] 3)) (some ⟨W.heap.size, 0, none⟩) [1, 4, 3] from ints_new W [1, 4, 3] (by decide) _ rfl)
  go_wp2_with (first | (go_at_call 12; (with_reducible refine (equal_any Af (some ⟨W7.heap.size, 0, none⟩) 2 2 cf 2 [0, 2] [0, 2] _ (hIf.below (bel1 _ _)) rfl n1.out rfl (by omega)).mono ?_); rintro e w8 ⟨rfl, hd8⟩; have HB8 := bt (HB.alloc HB.size _) (HB.alloc HB.size _).size hd8; have f6' := cell_below hd8 (cell_old _ f6); have r0' := cell_below hd8 (cell_old _ r0); have hIr' := (hIr.below (bel1 _ _)).below hd8) | (go_at_call 12; go_loud (with_reducible refine (equal_any Br (some ⟨w8.heap.size, 0, none⟩) 3 3 cr 3 [1, 4, 3] [1, 4, 3] _ (hIr'.below (bel1 _ _)) rfl (n2.out w8) rfl (by omega)).mono ?_); rintro e w9 ⟨rfl, hd9⟩; have HB9 := bt (HB8.alloc HB8.size _) (HB8.alloc HB8.size _).size hd9))
  go_ret
  exact ⟨rfl, HB9⟩
end Go.Proofs.Ytpologlcfohjeaa.MendW
