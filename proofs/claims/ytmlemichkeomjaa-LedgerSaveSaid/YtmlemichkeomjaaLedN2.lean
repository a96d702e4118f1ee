/- ledger.New walked, second part. -/
import Derived.Test.YtmlemichkeomjaaLedN
set_option linter.unusedVariables false
set_option linter.unusedSimpArgs false
namespace Go.Proofs.Ytmlemichkeomjaa.LedW
open Go.RowKit Go.Proofs.Ytmlemichkeomjaa.Base Go.Proofs.Ytmlemichkeomjaa.MendW Go.Proofs.Ytmlemichkeomjaa.ManP Go.Proofs.Ytmlemichkeomjaa.ManW Go.Proofs.Ytmlemichkeomjaa.LedP
theorem rep_false (m i : Nat) : ¬ (Array.replicate m false).getD i false = true := by
  by_cases h : i < m <;> simp [h]
theorem clash {l : Array Bool} {i : Nat} (h : l.getD i true = false) (h2 : l.getD i false = true) : False := by
  rcases Nat.lt_or_ge i l.size with h1 | h1
  · simp [h1] at h h2
    rw [h] at h2
    exact absurd h2 (by decide)
  · simp [Array.getElem?_eq_none h1] at h
/-- The return. -/
theorem new_fin {w W : World} {t p n : Nat} {G : Nat → Value} {F : Nat → Ent} {l : Array Bool} {a : Act} (ht : t ≤ 16) (hp : p ≤ 16) (H : NewI w t p n G F l a W) (hall : ∀ i, i < 18 → l.getD i false = true) :
    bodyPost Try.prog Try.f18 (ApplyPost w (newS t p n) 0) .ret a W := by
  have hk : ∀ q, q < 7 → F q = ent t p q (G q) := fun q hq => H.keys q hq (hall _ (by omega))
  obtain ⟨cs, hcs, _, hc⟩ := H.bx
  have hc := hc (hall 16 (by decide))
  have hO : OwnR W (w.heap.size + 1) F (G 0) (G 1) (G 2) (G 3) (G 4) (G 5) (G 6) (fun _ => noMV) (newS t p n) := by
    refine ⟨H.pool, ?_, ?_, ?_, ?_, ?_, ?_, ?_, fun j hj => ?_, fun x hx => ?_, fun x hx => ?_, newS_ok ht hp⟩
    · rw [hk 0 (by decide)]; simp [ent, newS]
    · rw [hk 1 (by decide)]; simp [ent, newS]
    · rw [hk 2 (by decide)]; simp [ent, newS]
    · rw [hk 3 (by decide)]; simp [ent, newS]
    · rw [hk 4 (by decide)]; simp [ent, newS]
    · rw [hk 5 (by decide)]; simp [ent, newS]
    · rw [hk 6 (by decide)]; simp [ent, newS]
    · have e1 : (newS t p n).ms[j] = noMan := List.eq_of_mem_replicate (show (newS t p n).ms[j] ∈ List.replicate t noMan from List.getElem_mem hj)
      rw [e1]
      exact no_safe _ _
    · rw [List.eq_of_mem_replicate (show x ∈ List.replicate t 0 from hx)]; decide
    · rw [List.eq_of_mem_replicate (show x ∈ List.replicate p 0 from hx)]; decide
  have h7 := H.ti.m17 (hall 17 (by decide))
  have h6 := H.r6
  have hb := H.below
  obtain ⟨A2, c2, A3, c3, A4, c4, A5, c5, A6, c6, A7, c7, A8, c8, e0, e1, e2, e3, e4, e5, e6, HS⟩ := hO.readB
  rw [e0, e1, e2, e3, e4, e5, e6] at hc
  subst hc
  refine bodyPost_ret (results_cell_two rfl _ _ w.heap.size 42 _ (0, 0) _ h6 hcs Try.underlying42 rfl info_state h7) H.ti.df ?_
  exact ⟨A2, c2, A3, c3, A4, c4, A5, c5, A6, c6, A7, c7, A8, c8, _, rfl, HS.mono (by omega) (Nat.le_refl _), hb⟩
theorem ent_0 (t p : Nat) (v : Value) : ent t p 0 v = ⟨4, 1, v, t, (madeCells (Value.cells (.bool false)) (t * 1)).toList⟩ := by
  rw [made_one _ rfl]
  simp [ent, bvs]
theorem ent_1 (t p : Nat) (v : Value) : ent t p 1 v = ⟨26, 5, v, t, (madeCells (Value.cells (.agg #[.int .i64 0, .int .i64 0, .slice none 0 0, .slice none 0 0, .slice none 0 0])) (t * 5)).toList⟩ := by
  rw [made_flat]
  simp [ent]
theorem ent_2 (t p : Nat) (v : Value) : ent t p 2 v = ⟨30, 1, v, t, (madeCells (Value.cells (.int .i64 0)) (t * 1)).toList⟩ := by
  rw [made_one _ rfl]
  simp [ent, zv]
theorem ent_3 (t p : Nat) (v : Value) : ent t p 3 v = ⟨4, 1, v, p, (madeCells (Value.cells (.bool false)) (p * 1)).toList⟩ := by
  rw [made_one _ rfl]
  simp [ent, bvs]
theorem ent_4 (t p : Nat) (v : Value) : ent t p 4 v = ⟨9, 1, v, p, (madeCells (Value.cells (.string ByteArray.empty)) (p * 1)).toList⟩ := by
  rw [made_one _ rfl]
  simp [ent, svs]
theorem ent_5 (t p : Nat) (v : Value) : ent t p 5 v = ⟨30, 1, v, p, (madeCells (Value.cells (.int .i64 0)) (p * 1)).toList⟩ := by
  rw [made_one _ rfl]
  simp [ent, zv]
theorem ent_6 (t p : Nat) (v : Value) : ent t p 6 v = ⟨4, 1, v, p, (madeCells (Value.cells (.bool false)) (p * 1)).toList⟩ := by
  rw [made_one _ rfl]
  simp [ent, bvs]
set_option maxRecDepth 100000 in
set_option maxHeartbeats 4000000 in
theorem new_ok (t p n : Nat) (ht : 1 ≤ t ∧ t ≤ 16) (hp : 1 ≤ p ∧ p ≤ 16) (hn : 1 ≤ n ∧ n ≤ 16) (w : World) :
    Calls Try.prog 18 #[.int .i64 (t : Nat), .int .i64 (p : Nat), .int .i64 (n : Nat)] w (ApplyPost w (newS t p n) 0) := by
  have W1 : ∀ (k : Nat) (W : World), 1 ≤ k ∧ k ≤ 16 → Calls Try.prog 48 #[.int .i64 (k : Nat), .int .i64 16] W fun e w' => e = .returned (.bool true) ∧ W = w' := fun k W hk => (within_any k 16 W).mono fun e w' h => ⟨by
    rw [h.1, show decide (1 ≤ (k : Int)) = true from by simp; omega, show decide ((k : Int) ≤ 16) = true from by simp; omega]; rfl, h.2⟩
  have HT := Lib.hid ht
  have HP := Lib.hid hp
  have HN := Lib.hid hn
  clear ht hp hn
  go_enter Try.func18, Try.ntmps18
  go_upto_region 3 with (go_at_call 48; (first | (with_reducible refine (W1 t _ HT.out).mono ?_) | (with_reducible refine (W1 p _ HP.out).mono ?_) | (with_reducible refine (W1 n _ HN.out).mono ?_)); rintro e w' ⟨rfl, rfl⟩)
  have hB := (Below.refl w.heap.size w).alloc (Nat.le_refl _) (.cells #[.int .i64 0, .int .i64 0, .slice none 0 0, .slice none 0 0, .slice none 0 0, .slice none 0 0, .slice none 0 0, .slice none 0 0, .slice none 0 0, .int .i64 0, .int .i64 0] 42)
  have hA := heap_alloc_new w (.cells #[.int .i64 0, .int .i64 0, .slice none 0 0, .slice none 0 0, .slice none 0 0, .slice none 0 0, .slice none 0 0, .slice none 0 0, .slice none 0 0, .int .i64 0, .int .i64 0] 42)
  have hS : (w.alloc (.cells #[.int .i64 0, .int .i64 0, .slice none 0 0, .slice none 0 0, .slice none 0 0, .slice none 0 0, .slice none 0 0, .slice none 0 0, .slice none 0 0, .int .i64 0, .int .i64 0] 42)).heap.size = w.heap.size + 1 := World.size_alloc _ _
  generalize w.alloc (.cells #[.int .i64 0, .int .i64 0, .slice none 0 0, .slice none 0 0, .slice none 0 0, .slice none 0 0, .slice none 0 0, .slice none 0 0, .slice none 0 0, .int .i64 0, .int .i64 0] 42) = W at hB hA hS ⊢
  refine RegI.wp_region_inv (by kernel_rfl) (by kernel_rfl) (fun l a W' => ∃ G F, NewI w t p n G F l a W' ∧ w.heap.size + 1 ≤ W'.heap.size) ?_ ?_ ?_
  · refine ⟨fun _ => .slice none 0 0, fun _ => noEnt, ⟨⟨rfl, rfl, rfl, rfl, rfl, fun h => absurd h (rep_false _ _), fun h => absurd h (rep_false _ _), fun h => absurd h (rep_false _ _), fun h => absurd h (rep_false _ _), fun h => absurd h (rep_false _ _), fun h => absurd h (rep_false _ _), fun h => absurd h (rep_false _ _), fun h => absurd h (rep_false _ _), fun h => absurd h (rep_false _ _), fun h => absurd h (rep_false _ _), fun h => absurd h (rep_false _ _), fun h => absurd h (rep_false _ _), fun h => absurd h (rep_false _ _), fun h => absurd h (rep_false _ _), fun h => absurd h (rep_false _ _), fun h => absurd h (rep_false _ _), fun h => absurd h (rep_false _ _)⟩, rfl, fun _ => ⟨_, _, _, rfl⟩, Pool.nil _ _, fun q _ h => absurd h (rep_false _ _), fun h => absurd h (rep_false _ _), ⟨_, hA, rfl, fun h => absurd h (rep_false _ _)⟩, fun h => absurd h (rep_false _ _), hB.drew⟩, by show w.heap.size + 1 ≤ W.heap.size; omega⟩
  · rintro l a W' i o ⟨G, F, H, hW⟩ hl hli ho hready
    have hi : i < 18 := (Array.getElem?_eq_some_iff.1 ho).1
    have hcase : i = 0 ∨ i = 1 ∨ i = 2 ∨ i = 3 ∨ i = 4 ∨ i = 5 ∨ i = 6 ∨ i = 7 ∨ i = 8 ∨ i = 9 ∨ i = 10 ∨ i = 11 ∨ i = 12 ∨ i = 13 ∨ i = 14 ∨ i = 15 ∨ i = 16 ∨ i = 17 := by omega
    rcases hcase with rfl | rfl | rfl | rfl | rfl | rfl | rfl | rfl | rfl | rfl | rfl | rfl | rfl | rfl | rfl | rfl | rfl | rfl
    · -- 0
      obtain rfl := Option.some.inj ho
      refine ⟨rfl, fun K hK => ?_⟩
      show K (a.put (some 22) (a.tmps.getD 2 undef)) W'
      exact hK _ _ ⟨G, F, H.move (by decide) (fun q _ => by omega) (by decide) (H.ti.s0 H.ti.r2), hW⟩
    · -- 1
      obtain rfl := Option.some.inj ho
      refine ⟨rfl, fun K hK => ?_⟩
      show K (a.put (some 23) (a.tmps.getD 0 undef)) W'
      exact hK _ _ ⟨G, F, H.move (by decide) (fun q _ => by omega) (by decide) (H.ti.s1 H.ti.r0), hW⟩
    · -- 2
      obtain rfl := Option.some.inj ho
      refine ⟨rfl, fun K hK => ?_⟩
      have n15 : ¬ l.getD 15 false = true := fun h => clash hli (H.all h 0 (by decide))
      have hx : a.eval (.tmp 23) = .int .i64 (t : Nat) := H.ti.m1 (hready ⟨1, .data⟩ (by simp) rfl)
      obtain ⟨v, W2, hr, h1, hp2, hb⟩ := make_key (t := t) (p := p) (q := 0) (k := t) Try.underlying37 info_clone_bool (by decide) HT.out.2 (ent_0 t p) H.pool hW
      refine wp_make 37 (.tmp 23) (.tmp 23) rfl hx hx hr ?_
      exact hK _ _ ⟨_, _, H.make (by decide) (by decide) (H.ti.s2 n15) n15 h1 hp2 hb, Nat.le_trans hW hb.size⟩
    · -- 3
      obtain rfl := Option.some.inj ho
      refine ⟨rfl, fun K hK => ?_⟩
      show K (a.put (some 25) (a.tmps.getD 0 undef)) W'
      exact hK _ _ ⟨G, F, H.move (by decide) (fun q _ => by omega) (by decide) (H.ti.s3 H.ti.r0), hW⟩
    · -- 4
      obtain rfl := Option.some.inj ho
      refine ⟨rfl, fun K hK => ?_⟩
      have n15 : ¬ l.getD 15 false = true := fun h => clash hli (H.all h 1 (by decide))
      have hx : a.eval (.tmp 25) = .int .i64 (t : Nat) := H.ti.m3 (hready ⟨3, .data⟩ (by simp) rfl)
      obtain ⟨v, W2, hr, h1, hp2, hb⟩ := make_key (t := t) (p := p) (q := 1) (k := t) Try.underlying38 info_clone_mans (by decide) HT.out.2 (ent_1 t p) H.pool hW
      refine wp_make 38 (.tmp 25) (.tmp 25) rfl hx hx hr ?_
      exact hK _ _ ⟨_, _, H.make (by decide) (by decide) (H.ti.s4 n15) n15 h1 hp2 hb, Nat.le_trans hW hb.size⟩
    · -- 5
      obtain rfl := Option.some.inj ho
      refine ⟨rfl, fun K hK => ?_⟩
      show K (a.put (some 27) (a.tmps.getD 0 undef)) W'
      exact hK _ _ ⟨G, F, H.move (by decide) (fun q _ => by omega) (by decide) (H.ti.s5 H.ti.r0), hW⟩
    · -- 6
      obtain rfl := Option.some.inj ho
      refine ⟨rfl, fun K hK => ?_⟩
      have n15 : ¬ l.getD 15 false = true := fun h => clash hli (H.all h 2 (by decide))
      have hx : a.eval (.tmp 27) = .int .i64 (t : Nat) := H.ti.m5 (hready ⟨5, .data⟩ (by simp) rfl)
      obtain ⟨v, W2, hr, h1, hp2, hb⟩ := make_key (t := t) (p := p) (q := 2) (k := t) Try.underlying39 info_clone_errs (by decide) HT.out.2 (ent_2 t p) H.pool hW
      refine wp_make 39 (.tmp 27) (.tmp 27) rfl hx hx hr ?_
      exact hK _ _ ⟨_, _, H.make (by decide) (by decide) (H.ti.s6 n15) n15 h1 hp2 hb, Nat.le_trans hW hb.size⟩
    · -- 7
      obtain rfl := Option.some.inj ho
      refine ⟨rfl, fun K hK => ?_⟩
      show K (a.put (some 29) (a.tmps.getD 1 undef)) W'
      exact hK _ _ ⟨G, F, H.move (by decide) (fun q _ => by omega) (by decide) (H.ti.s7 H.ti.r1), hW⟩
    · -- 8
      obtain rfl := Option.some.inj ho
      refine ⟨rfl, fun K hK => ?_⟩
      have n15 : ¬ l.getD 15 false = true := fun h => clash hli (H.all h 3 (by decide))
      have hx : a.eval (.tmp 29) = .int .i64 (p : Nat) := H.ti.m7 (hready ⟨7, .data⟩ (by simp) rfl)
      obtain ⟨v, W2, hr, h1, hp2, hb⟩ := make_key (t := t) (p := p) (q := 3) (k := p) Try.underlying37 info_clone_bool (by decide) HP.out.2 (ent_3 t p) H.pool hW
      refine wp_make 37 (.tmp 29) (.tmp 29) rfl hx hx hr ?_
      exact hK _ _ ⟨_, _, H.make (by decide) (by decide) (H.ti.s8 n15) n15 h1 hp2 hb, Nat.le_trans hW hb.size⟩
    · -- 9
      obtain rfl := Option.some.inj ho
      refine ⟨rfl, fun K hK => ?_⟩
      show K (a.put (some 31) (a.tmps.getD 1 undef)) W'
      exact hK _ _ ⟨G, F, H.move (by decide) (fun q _ => by omega) (by decide) (H.ti.s9 H.ti.r1), hW⟩
    · -- 10
      obtain rfl := Option.some.inj ho
      refine ⟨rfl, fun K hK => ?_⟩
      have n15 : ¬ l.getD 15 false = true := fun h => clash hli (H.all h 4 (by decide))
      have hx : a.eval (.tmp 31) = .int .i64 (p : Nat) := H.ti.m9 (hready ⟨9, .data⟩ (by simp) rfl)
      obtain ⟨v, W2, hr, h1, hp2, hb⟩ := make_key (t := t) (p := p) (q := 4) (k := p) Try.underlying40 info_clone_strs (by decide) HP.out.2 (ent_4 t p) H.pool hW
      refine wp_make 40 (.tmp 31) (.tmp 31) rfl hx hx hr ?_
      exact hK _ _ ⟨_, _, H.make (by decide) (by decide) (H.ti.s10 n15) n15 h1 hp2 hb, Nat.le_trans hW hb.size⟩
    · -- 11
      obtain rfl := Option.some.inj ho
      refine ⟨rfl, fun K hK => ?_⟩
      show K (a.put (some 33) (a.tmps.getD 1 undef)) W'
      exact hK _ _ ⟨G, F, H.move (by decide) (fun q _ => by omega) (by decide) (H.ti.s11 H.ti.r1), hW⟩
    · -- 12
      obtain rfl := Option.some.inj ho
      refine ⟨rfl, fun K hK => ?_⟩
      have n15 : ¬ l.getD 15 false = true := fun h => clash hli (H.all h 5 (by decide))
      have hx : a.eval (.tmp 33) = .int .i64 (p : Nat) := H.ti.m11 (hready ⟨11, .data⟩ (by simp) rfl)
      obtain ⟨v, W2, hr, h1, hp2, hb⟩ := make_key (t := t) (p := p) (q := 5) (k := p) Try.underlying39 info_clone_errs (by decide) HP.out.2 (ent_5 t p) H.pool hW
      refine wp_make 39 (.tmp 33) (.tmp 33) rfl hx hx hr ?_
      exact hK _ _ ⟨_, _, H.make (by decide) (by decide) (H.ti.s12 n15) n15 h1 hp2 hb, Nat.le_trans hW hb.size⟩
    · -- 13
      obtain rfl := Option.some.inj ho
      refine ⟨rfl, fun K hK => ?_⟩
      show K (a.put (some 35) (a.tmps.getD 1 undef)) W'
      exact hK _ _ ⟨G, F, H.move (by decide) (fun q _ => by omega) (by decide) (H.ti.s13 H.ti.r1), hW⟩
    · -- 14
      obtain rfl := Option.some.inj ho
      refine ⟨rfl, fun K hK => ?_⟩
      have n15 : ¬ l.getD 15 false = true := fun h => clash hli (H.all h 6 (by decide))
      have hx : a.eval (.tmp 35) = .int .i64 (p : Nat) := H.ti.m13 (hready ⟨13, .data⟩ (by simp) rfl)
      obtain ⟨v, W2, hr, h1, hp2, hb⟩ := make_key (t := t) (p := p) (q := 6) (k := p) Try.underlying37 info_clone_bool (by decide) HP.out.2 (ent_6 t p) H.pool hW
      refine wp_make 37 (.tmp 35) (.tmp 35) rfl hx hx hr ?_
      exact hK _ _ ⟨_, _, H.make (by decide) (by decide) (H.ti.s14 n15) n15 h1 hp2 hb, Nat.le_trans hW hb.size⟩
    · -- 15
      obtain rfl := Option.some.inj ho
      refine ⟨rfl, fun K hK => ?_⟩
      have d0 := hready ⟨0, .data⟩ (by simp) rfl
      have d2 := hready ⟨2, .data⟩ (by simp) rfl
      have d4 := hready ⟨4, .data⟩ (by simp) rfl
      have d6 := hready ⟨6, .data⟩ (by simp) rfl
      have d8 := hready ⟨8, .data⟩ (by simp) rfl
      have d10 := hready ⟨10, .data⟩ (by simp) rfl
      have d12 := hready ⟨12, .data⟩ (by simp) rfl
      have d14 := hready ⟨14, .data⟩ (by simp) rfl
      have ha : ∀ q, q < 7 → l.getD (2 + 2 * q) false = true := fun q hq => by
        have hc : q = 0 ∨ q = 1 ∨ q = 2 ∨ q = 3 ∨ q = 4 ∨ q = 5 ∨ q = 6 := by omega
        rcases hc with rfl | rfl | rfl | rfl | rfl | rfl | rfl
        · exact d2
        · exact d4
        · exact d6
        · exact d8
        · exact d10
        · exact d12
        · exact d14
      have hb : Try.prog.built 42 ((#[(0, Operand.tmp 22), (2, Operand.tmp 24), (3, Operand.tmp 26), (4, Operand.tmp 28), (5, Operand.tmp 30), (6, Operand.tmp 32), (7, Operand.tmp 34), (8, Operand.tmp 36)] : Array (Nat × Operand)).map fun (i, x) => (i, a.eval x)).toList = some #[.int .i64 (n : Nat), .int .i64 0, G 0, G 1, G 2, G 3, G 4, G 5, G 6, .int .i64 0, .int .i64 0] := by
        rw [Array.toList_map]
        show Try.prog.built 42 [(0, a.tmps.getD 22 undef), (2, a.tmps.getD 24 undef), (3, a.tmps.getD 26 undef), (4, a.tmps.getD 28 undef), (5, a.tmps.getD 30 undef), (6, a.tmps.getD 32 undef), (7, a.tmps.getD 34 undef), (8, a.tmps.getD 36 undef)] = _
        rw [H.ti.m0 d0, H.ti.m2 d2, H.ti.m4 d4, H.ti.m6 d6, H.ti.m8 d8, H.ti.m10 d10, H.ti.m12 d12, H.ti.m14 d14]
        obtain ⟨A0, m0, c0, g0⟩ := H.one 0
        obtain ⟨A1, m1, c1, g1⟩ := H.one 1
        obtain ⟨A2, m2, c2, g2⟩ := H.one 2
        obtain ⟨A3, m3, c3, g3⟩ := H.one 3
        obtain ⟨A4, m4, c4, g4⟩ := H.one 4
        obtain ⟨A5, m5, c5, g5⟩ := H.one 5
        obtain ⟨A6, m6, c6, g6⟩ := H.one 6
        rw [g0, g1, g2, g3, g4, g5, g6]
        kernel_rfl
      refine wp_build 42 _ rfl (by rw [hb]; rfl) ?_
      rw [hb]
      exact hK _ _ ⟨G, F, H.lit (H.ti.s15 rfl) ha (by rw [hl]; decide), hW⟩
    · -- 16
      obtain rfl := Option.some.inj ho
      refine ⟨rfl, fun K hK => ?_⟩
      have d15 := hready ⟨15, .data⟩ (by simp) rfl
      obtain ⟨cs, hcs, hsz, _⟩ := H.bx
      refine wp_store_row 42 (.tmp 6) (.tmp 37) rfl w.heap.size _ H.r6 (H.ti.m15 d15) 42 cs hcs info_state hsz ?_ ?_
      · obtain ⟨A0, m0, c0, g0⟩ := H.one 0; obtain ⟨A1, m1, c1, g1⟩ := H.one 1; obtain ⟨A2, m2, c2, g2⟩ := H.one 2; obtain ⟨A3, m3, c3, g3⟩ := H.one 3; obtain ⟨A4, m4, c4, g4⟩ := H.one 4; obtain ⟨A5, m5, c5, g5⟩ := H.one 5; obtain ⟨A6, m6, c6, g6⟩ := H.one 6; rw [g0, g1, g2, g3, g4, g5, g6]; simp [Value.oneCell']
      · exact hK _ _ ⟨G, F, H.store (H.ti.s16) d15, by simpa using hW⟩
    · -- 17
      obtain rfl := Option.some.inj ho
      refine ⟨rfl, fun K hK => ?_⟩
      show K (a.put (some 7) (.int .i64 0)) W'
      exact hK _ _ ⟨G, F, H.last (H.ti.s17 rfl), hW⟩
  · rintro l ⟨tmps, defers⟩ W' hl hall ⟨G, F, H, hW⟩
    obtain rfl : defers = [] := H.ti.df
    go_wp2_with fail
    exact new_fin HT.out.2 HP.out.2 H hall
end Go.Proofs.Ytmlemichkeomjaa.LedW
