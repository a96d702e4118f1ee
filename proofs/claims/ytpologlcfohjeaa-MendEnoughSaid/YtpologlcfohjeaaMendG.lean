/- mend.copied walked: a manifest of one's own. -/
import Derived.Test.YtpologlcfohjeaaMendF
import Derived.Test.YtpologlcfohjeaaPool
import Derived.Lib.Builder
import Derived.Deep.DeepCutAuto
set_option linter.unusedVariables false
set_option linter.unusedSimpArgs false
namespace Go.Proofs.Ytpologlcfohjeaa.MendW
open Go.RowKit Go.Proofs.Ytpologlcfohjeaa.Base
theorem heap_below {w w' : World} {b : Nat} {o : Obj} (hb : Below w.heap.size w w') (h : w.heap[b]? = some o) : w'.heap[b]? = some o := by
  refine (hb.block b ?_).trans h
  rcases Nat.lt_or_ge b w.heap.size with h' | h'
  · exact h'
  · simp [Array.getElem?_eq_none h'] at h
theorem own_sl {w : World} {base e n : Nat} {v : Value} {xs : List Value} (h : w.ownsRow base e 1 v n xs) : ∃ A c, v = .slice A n c := by
  rcases h.2 with ⟨rfl, h0⟩ | ⟨g, cap, cur, rfl, _⟩
  · exact ⟨none, 0, by rw [h0]⟩
  · exact ⟨_, _, rfl⟩
/-- A block of one struct in a pool. -/
theorem pool_obj {w : World} {lo : Nat} {F : Nat → Ent} (h : Pool w lo F) (a : Nat) {e size g : Nat} {xs : List Value} (hE : F a = ⟨e, size, .slice (some ⟨g, 0, none⟩) 1 1, 1, xs⟩) : w.heap[g]? = some (.cells xs.toArray e (0, 0)) := by
  have ho := h.own a
  rw [hE] at ho
  unfold Ent.own at ho
  dsimp only at ho
  rcases ho.2 with ⟨h1, _⟩ | ⟨g', cap, cur, h1, _, hg, _, _, hcs, ht⟩
  · cases h1
  · simp only [Value.slice.injEq, Option.some.injEq, Addr.mk.injEq, and_true, true_and] at h1
    obtain ⟨rfl, rfl⟩ := h1
    rw [hg, ← ht, List.take_of_length_le (by rw [Array.length_toList]; omega)]
theorem pool_setRow {w : World} {lo : Nat} {F : Nat → Ent} (h : Pool w lo F) (a : Nat) {e size g : Nat} {xs : List Value} (hE : F a = ⟨e, size, .slice (some ⟨g, 0, none⟩) 1 1, 1, xs⟩) (cs : Array Value) (hs : cs.size = size) : Pool (w.setRow g cs) lo (up F a ⟨e, size, .slice (some ⟨g, 0, none⟩) 1 1, 1, cs.toList⟩) := by
  have hg := pool_obj h a hE
  refine h.chg a (w' := w.setRow g cs) (row := some g) ⟨rfl, rfl, rfl, by simp, fun k _ hk => setRow_other w g k _ (fun e => hk (by rw [e]))⟩ (.inr (by rw [hE]; rfl)) ?_ (.inl (by rw [hE]))
  refine ⟨by show cs.toList.length = 1 * size; rw [Array.length_toList]; omega, .inr ⟨g, 1, cs, rfl, (h.lt a (g := g) (by rw [hE]; rfl)).1, setRow_heap w g _ cs e _ hg, Nat.le_refl _, by simp [maxLen], by show cs.size = 1 * size; omega, ?_⟩⟩
  exact List.take_of_length_le (by show cs.toList.length ≤ 1 * size; rw [Array.length_toList]; omega)
theorem pool_alloc {w : World} {lo : Nat} {F : Nat → Ent} (h : Pool w lo F) (a : Nat) (hlo : lo ≤ w.heap.size) (e size : Nat) (cs : Array Value) (hs : cs.size = size) : Pool (w.alloc (.cells cs e)) lo (up F a ⟨e, size, .slice (some ⟨w.heap.size, 0, none⟩) 1 1, 1, cs.toList⟩) :=
  h.new a ((Below.refl _ _).alloc (Nat.le_refl _) _) hlo (World.ownsRow_lit w cs 1 (Nat.le_refl _) (by simp [maxLen]) (by show cs.size = 1 * size; omega))
/-- The keys: 0 sizes, 1 sums, 2 the rows' slices, 3 loads, 4 what is lost, 5 moves, 6 the planner, 7, 8 variables, 2 i + 10 row i, 2 i + 11 what move i is from. -/
structure ManP (F : Nat → Ent) (v2 v3 v4 : Value) (x2 x3 : List Value) (hm : List (List Int)) (rv : Nat → Value) : Prop where
  sz : F 0 = ⟨3, 1, v2, x2.length, x2⟩
  sm : F 1 = ⟨49, 1, v3, x3.length, x3⟩
  top : F 2 = ⟨22, 1, v4, hm.length, (List.range hm.length).map rv⟩
  row : ∀ i (h : i < hm.length), F (2 * i + 10) = ⟨3, 1, rv i, hm[i].length, zv hm[i]⟩
/-- Under way: k rows are one's own. -/
structure ManK (F : Nat → Ent) (b r : Nat) (t a : Int) (v2 v3 v4 : Value) (n2 n3 n4 : Nat) (x2 x3 x4 : List Value) (hm : List (List Int)) (k : Nat) (rv : Nat → Value) : Prop where
  sz : F 0 = ⟨3, 1, v2, n2, x2⟩
  sm : F 1 = ⟨49, 1, v3, n3, x3⟩
  top : F 2 = ⟨22, 1, v4, n4, (List.range k).map rv ++ x4.drop k⟩
  box : F 7 = ⟨26, 5, .slice (some ⟨b, 0, none⟩) 1 1, 1, [.int .i64 t, .int .i64 a, v2, v3, v4]⟩
  res : F 8 = ⟨26, 5, .slice (some ⟨r, 0, none⟩) 1 1, 1, [.int .i64 0, .int .i64 0, .slice none 0 0, .slice none 0 0, .slice none 0 0]⟩
  row : ∀ i (h : i < hm.length), i < k → F (2 * i + 10) = ⟨3, 1, rv i, hm[i].length, zv hm[i]⟩
theorem copied_leaf {w w3 : World} {F : Nat → Ent} {r : Nat} {t a : Int} {u2 u3 u4 : Value} {A5 B2 B3 : Option Addr} {n2 n3 n4 c2 c3 c5 : Nat} {x2 x3 x4 : List Value} {hm : List (List Int)} (HP : Pool w3 w.heap.size F) (HB : Below w.heap.size w w3)
    (h0 : F 0 = ⟨3, 1, .slice B2 n2 c2, n2, x2⟩) (h1 : F 1 = ⟨49, 1, .slice B3 n3 c3, n3, x3⟩) (h2 : F 2 = ⟨22, 1, .slice A5 n4 c5, n4, x4⟩)
    (h7 : F 7 = ⟨26, 5, .slice (some ⟨w.heap.size, 0, none⟩) 1 1, 1, [.int .i64 t, .int .i64 a, u2, u3, u4]⟩)
    (h8 : F 8 = ⟨26, 5, .slice (some ⟨r, 0, none⟩) 1 1, 1, [.int .i64 0, .int .i64 0, .slice none 0 0, .slice none 0 0, .slice none 0 0]⟩) :
    Below w.heap.size w (((w3.setCell ⟨w.heap.size, 2, none⟩ (.slice B2 n2 c2)).setCell ⟨w.heap.size, 3, none⟩ (.slice B3 n3 c3)).setCell ⟨w.heap.size, 4, none⟩ (.slice A5 n4 c5)) ∧
    ∃ F v2 v3 A6 c6, Pool (((w3.setCell ⟨w.heap.size, 2, none⟩ (.slice B2 n2 c2)).setCell ⟨w.heap.size, 3, none⟩ (.slice B3 n3 c3)).setCell ⟨w.heap.size, 4, none⟩ (.slice A5 n4 c5)) w.heap.size F ∧ ManK F w.heap.size r t a v2 v3 (.slice A6 n4 c6) n2 n3 n4 x2 x3 x4 hm 0 (fun _ => .slice none 0 0) := by
  have s1 := HP.store 7 h7 rfl 2 (.slice B2 n2 c2)
  have s2 := s1.store 7 (up_self _ _ _) rfl 3 (.slice B3 n3 c3)
  have s3 := s2.store 7 (up_self _ _ _) rfl 4 (.slice A5 n4 c5)
  refine ⟨((HB.setCell (p := ⟨w.heap.size, 2, none⟩) (Nat.le_refl _) _).setCell (p := ⟨w.heap.size, 3, none⟩) (Nat.le_refl _) _).setCell (p := ⟨w.heap.size, 4, none⟩) (Nat.le_refl _) _, _, .slice B2 n2 c2, .slice B3 n3 c3, A5, c5, s3, ⟨?_, ?_, ?_, ?_, ?_, fun i _ h => by omega⟩⟩
  · exact h0
  · exact h1
  · simpa [up] using h2
  · rw [up_self]; rfl
  · exact h8
theorem map_snoc {x4 : List Value} {k : Nat} (hk : k < x4.length) (rv : Nat → Value) (u : Value) : ((List.range k).map rv ++ x4.drop k).set k u = (List.range (k + 1)).map (fun i => if i = k then u else rv i) ++ x4.drop (k + 1) := by
  rw [List.drop_eq_getElem_cons hk, List.set_append_right _ _ (by simp), List.range_succ, List.map_append]
  simp only [List.length_map, List.length_range, Nat.sub_self, List.set_cons_zero, List.map_cons, List.map_nil, if_true, List.append_assoc, List.singleton_append]
  congr 1
  refine List.map_congr_left fun i hi => ?_
  rw [if_neg (by have := List.mem_range.1 hi; omega)]
theorem copied_step {w w3 : World} {F : Nat → Ent} {r g k : Nat} {t a : Int} {v2 v3 : Value} {B : Option Addr} {n2 n3 n4 c5 cq : Nat} {x2 x3 x4 : List Value} {hm : List (List Int)} {rv : Nat → Value}
    (HP : Pool w3 w.heap.size (up F (2 * k + 10) ⟨3, 1, .slice B hm[k]!.length cq, hm[k]!.length, zv hm[k]!⟩)) (HK : ManK F w.heap.size r t a v2 v3 (.slice (some ⟨g, 0, none⟩) n4 c5) n2 n3 n4 x2 x3 x4 hm k rv) (hk : k < x4.length) (hl : hm.length = x4.length) :
    ∃ F rv, Pool (w3.setCell ⟨g, k, none⟩ (.slice B hm[k]!.length cq)) w.heap.size F ∧ ManK F w.heap.size r t a v2 v3 (.slice (some ⟨g, 0, none⟩) n4 c5) n2 n3 n4 x2 x3 x4 hm (k + 1) rv := by
  have s1 := HP.store 2 ((up_ne _ _ (by omega)).trans HK.top) rfl k (.slice B hm[k]!.length cq)
  refine ⟨_, fun i => if i = k then .slice B hm[k]!.length cq else rv i, s1, ⟨?_, ?_, ?_, ?_, ?_, fun i hi hik => ?_⟩⟩
  · rw [up_ne _ _ (by omega), up_ne _ _ (by omega)]; exact HK.sz
  · rw [up_ne _ _ (by omega), up_ne _ _ (by omega)]; exact HK.sm
  · rw [up_self, map_snoc hk]
  · rw [up_ne _ _ (by omega), up_ne _ _ (by omega)]; exact HK.box
  · rw [up_ne _ _ (by omega), up_ne _ _ (by omega)]; exact HK.res
  · rw [up_ne _ _ (by omega)]
    by_cases e : i = k
    · subst e
      rw [up_self, if_pos rfl]
      simp [hi]
    · rw [up_ne _ _ (by omega), if_neg e]
      exact HK.row i hi (by omega)
theorem results_cell_one {P : Program} {fn : Func} {p : Tmp} {ty : TypeId} (h : fn.results = #[.cell p ty]) (tmps : Array Value) (w : World) (g : Nat) (t : TypeId) (cs : Array Value) (fr : Nat × Nat) (d : TypeDesc)
    (hp : tmps.getD p undef = .pointer (some ⟨g, 0, none⟩)) (hg : w.heap[g]? = some (.cells cs t fr))
    (hu : P.underlying ty = some d) (hd : (match d with | .struct _ | .array _ _ => true | _ => false) = true) (hi : (P.info? ty).map (·.size) = some cs.size) :
    (results fn tmps).run P w = .ok (.agg cs) w := by
  have hp' : tmps[p]?.getD undef = .pointer (some ⟨g, 0, none⟩) := by simpa using hp
  simp [results, h, hp', asAddr, run_loadVar_row w g t ty cs fr d hg hu hd hi]
/-- The slices of rows that came in, as values. -/
structure Slices (w : World) (A : Option Addr) (hm : List (List Int)) (xs : List Value) : Prop where
  cells_ : xs = [] ∨ ∃ b off, A = some ⟨b, off, none⟩ ∧ ∀ j u, xs[j]? = some u → w.cell? ⟨b, off + j, none⟩ = some u
  row : ∀ k (h : k < hm.length), ∃ B c, xs[k]? = some (.slice B hm[k].length c) ∧ Ints w B hm[k]
theorem irows_values {w : World} {A : Option Addr} {hm : List (List Int)} {n : Nat} (hH : IRows w A hm) (hl : hm.length = n) : ∃ xs : List Value, xs.length = n ∧ Slices w A hm xs ∧ ∀ u ∈ xs, u.oneCell' = true := by
  by_cases h0 : hm.length = 0
  · have : hm = [] := List.eq_nil_of_length_eq_zero h0
    subst this
    exact ⟨[], by simpa using hl, ⟨.inl rfl, fun k h => by simp at h⟩, fun u hu => by cases hu⟩
  obtain ⟨b, off, rfl, hc⟩ := hH.block h0
  have hp : ∀ i, ∃ p : Option Addr × Nat, ∀ h : i < hm.length, w.cell? ⟨b, off + i, none⟩ = some (.slice p.1 hm[i].length p.2) ∧ Ints w p.1 hm[i] := fun i => by
    by_cases hi : i < hm.length
    · obtain ⟨B, c, h1, _, h3⟩ := hc i hi; exact ⟨(B, c), fun _ => ⟨h1, h3⟩⟩
    · exact ⟨(none, 0), fun h => absurd h hi⟩
  obtain ⟨f, hf⟩ := Classical.axiomOfChoice hp
  have hg : ∀ j u, ((List.range hm.length).map fun i => Value.slice (f i).1 (hm.getD i []).length (f i).2)[j]? = some u → ∃ h : j < hm.length, u = .slice (f j).1 hm[j].length (f j).2 := fun j u hu => by
    rw [List.getElem?_map] at hu
    by_cases hj : j < hm.length
    · rw [List.getElem?_range hj] at hu
      simp only [Option.map_some, Option.some.injEq] at hu
      exact ⟨hj, by rw [← hu, List.getD_eq_getElem?_getD, List.getElem?_eq_getElem hj]; rfl⟩
    · rw [List.getElem?_eq_none (by simp; omega)] at hu; cases hu
  refine ⟨(List.range hm.length).map fun i => Value.slice (f i).1 (hm.getD i []).length (f i).2, by simp [hl], ⟨.inr ⟨b, off, rfl, fun j u hu => ?_⟩, fun k hk => ⟨(f k).1, (f k).2, ?_, (hf k hk).2⟩⟩, fun u hu => ?_⟩
  · obtain ⟨hj, rfl⟩ := hg j u hu
    exact (hf j hj).1
  · rw [List.getElem?_map, List.getElem?_range hk, Option.map_some, List.getD_eq_getElem?_getD, List.getElem?_eq_getElem hk]; rfl
  · obtain ⟨i, _, rfl⟩ := List.mem_map.1 hu
    rfl
theorem own_form {w : World} {lo : Nat} {E : Ent} (h : E.own w lo) (h0 : 0 < E.n) : ∃ g cap, E.v = .slice (some ⟨g, 0, none⟩) E.n cap := by
  rcases h.2 with ⟨_, h1⟩ | ⟨g, cap, cur, h1, _⟩
  · omega
  · exact ⟨g, cap, h1⟩
theorem add_off (b off j : Nat) : (⟨b, off, none⟩ : Addr).add j = ⟨b, off + j, none⟩ := by unfold Addr.add; split <;> simp_all
theorem Slices.cells {w W : World} {A : Option Addr} {hm : List (List Int)} {xs : List Value} (h : Slices w A hm xs) (hb : Below w.heap.size w W) : xs = [] ∨ ∃ b off, A = some ⟨b, off, none⟩ ∧ ∀ j u, xs[j]? = some u → W.cell? ((⟨b, off, none⟩ : Addr).add j) = some u := by
  rcases h.cells_ with h1 | ⟨b, off, e, hc⟩
  · exact .inl h1
  · exact .inr ⟨b, off, e, fun j u hu => by rw [add_off]; exact cell_below hb (hc j u hu)⟩
theorem Slices.clone {w : World} {A : Option Addr} {hm : List (List Int)} {xs : List Value} (h : Slices w A hm xs) (k : Nat) (hk : k < hm.length) (hr : hm[k].length ≤ 1000000) : ∃ B c, xs[k]? = some (.slice B hm[k].length c) ∧
    ∀ W, Below w.heap.size w W → Calls Try.prog 17 #[.slice B hm[k].length c] W fun e w' => ∃ v, e = .returned v ∧ w'.ownsRow W.heap.size 3 1 v hm[k].length (zv hm[k]) ∧ Below W.heap.size W w' := by
  obtain ⟨B, c, h1, h2⟩ := h.row k hk
  refine ⟨B, c, h1, fun W hb => clone_int B _ c (zv hm[k]) W ?_ (fun u hu => ?_) (zv_length _) hr⟩
  · rcases h2.at_ with h3 | ⟨b, off, e, hc⟩
    · exact .inl (by rw [h3]; rfl)
    · refine .inr ⟨b, off, e, fun j u hu => ?_⟩
      obtain ⟨hj, rfl⟩ := List.getElem?_eq_some_iff.1 hu
      rw [add_off]
      have hj' : j < hm[k].length := by rw [zv_length] at hj; exact hj
      rw [cell_below hb (hc j hj')]
      simp [zv]
  · obtain ⟨x, _, rfl⟩ := List.mem_map.1 hu
    rfl
/-- What copied answers. -/
def CopiedPost (w : World) (t a : Int) (x2 x3 : List Value) (hm : List (List Int)) (e : Ending) (w' : World) : Prop := ∃ F v2 v3 v4 rv, e = .returned (.agg #[.int .i64 t, .int .i64 a, v2, v3, v4]) ∧ Pool w' w.heap.size F ∧ ManP F v2 v3 v4 x2 x3 hm rv ∧ Below w.heap.size w w'
set_option maxRecDepth 100000 in
set_option maxHeartbeats 2000000 in
theorem copied_any (t a : Int) (A2 : Option Addr) (n2 c2 : Nat) (A3 : Option Addr) (n3 c3 : Nat) (A4 : Option Addr) (n4 c4 : Nat) (x2 x3 : List Value) (hm : List (List Int)) (w : World)
    (l2 : x2.length = n2) (l3 : x3.length = n3) (hn4 : n4 ≤ 1000000) (hH : IRows w A4 hm) (hl : hm.length = n4) (hr : ∀ i (h : i < hm.length), hm[i].length ≤ 1000000)
    (H2 : ∀ W, Below w.heap.size w W → Calls Try.prog 17 #[.slice A2 n2 c2] W fun e w' => ∃ v, e = .returned v ∧ w'.ownsRow W.heap.size 3 1 v n2 x2 ∧ Below W.heap.size W w')
    (H3 : ∀ W, Below w.heap.size w W → Calls Try.prog 31 #[.slice A3 n3 c3] W fun e w' => ∃ v, e = .returned v ∧ w'.ownsRow W.heap.size 49 1 v n3 x3 ∧ Below W.heap.size W w') :
    Calls Try.prog 18 #[.agg #[.int .i64 t, .int .i64 a, .slice A2 n2 c2, .slice A3 n3 c3, .slice A4 n4 c4]] w (CopiedPost w t a x2 x3 hm) := by
  obtain ⟨x4, l4, hx4, hone⟩ := irows_values hH hl
  have K4 := Lib.hid (fun W (h : Below w.heap.size w W) => clone_rows A4 n4 c4 x4 W (hx4.cells h) hone l4 hn4)
  have KR := Lib.hid (fun k (hk : k < hm.length) => hx4.clone k hk (hr k hk))
  have K2 := Lib.hid H2
  have K3 := Lib.hid H3
  have L2 := Lib.hid l2
  have L3 := Lib.hid l3
  have L4 := Lib.hid l4
  have LH := Lib.hid hl
  clear H2 H3 l2 l3 l4 hl hr hx4 hone hH
  go_enter Try.func18, Try.ntmps18
  go_upto_region 1 with fail
  have HP := Lib.hid (pool_alloc (Pool.nil w w.heap.size (κ := Nat)) 7 (Nat.le_refl _) 26 5 #[.int .i64 t, .int .i64 a, .slice A2 n2 c2, .slice A3 n3 c3, .slice A4 n4 c4] rfl)
  have hx : (w.alloc (.cells #[.int .i64 t, .int .i64 a, .slice A2 n2 c2, .slice A3 n3 c3, .slice A4 n4 c4] 26)).heap[w.heap.size]? = some (.cells #[.int .i64 t, .int .i64 a, .slice A2 n2 c2, .slice A3 n3 c3, .slice A4 n4 c4] 26 (0, 0)) := heap_alloc_new w _
  have hs1 : (w.alloc (.cells #[.int .i64 t, .int .i64 a, .slice A2 n2 c2, .slice A3 n3 c3, .slice A4 n4 c4] 26)).heap.size = w.heap.size + 1 := by simp
  have HM := ManBox.mk' w t a A2 n2 c2 A3 n3 c3 A4 n4 c4
  have HB : Below w.heap.size w (w.alloc (.cells #[.int .i64 t, .int .i64 a, .slice A2 n2 c2, .slice A3 n3 c3, .slice A4 n4 c4] 26)) := (Below.refl _ _).alloc (Nat.le_refl _) _
  generalize w.alloc (.cells #[.int .i64 t, .int .i64 a, .slice A2 n2 c2, .slice A3 n3 c3, .slice A4 n4 c4] 26) = W0 at hx HM HB HP hs1 ⊢
  replace hx := heap_below ((Below.refl _ _).alloc (Nat.le_refl _) (.cells #[.int .i64 0, .int .i64 0, .slice none 0 0, .slice none 0 0, .slice none 0 0] 26)) hx
  replace HM := HM.below ((Below.refl _ _).alloc (Nat.le_refl _) (.cells #[.int .i64 0, .int .i64 0, .slice none 0 0, .slice none 0 0, .slice none 0 0] 26))
  replace HP := Lib.hid (pool_alloc HP.out 8 HB.size 26 5 #[.int .i64 0, .int .i64 0, .slice none 0 0, .slice none 0 0, .slice none 0 0] rfl)
  rw [hs1] at HP
  replace HB := HB.alloc HB.size (.cells #[.int .i64 0, .int .i64 0, .slice none 0 0, .slice none 0 0, .slice none 0 0] 26)
  generalize W0.alloc (.cells #[.int .i64 0, .int .i64 0, .slice none 0 0, .slice none 0 0, .slice none 0 0] 26) = W at hx HM HB HP ⊢
  clear hs1
  replace HB := HB.drew
  replace HP := Lib.hid HP.out.drew
  obtain ⟨p0, p1, p2, p3, p4⟩ := HM
  go_cut [1, 2] (fun s1 s2 wx => s1 = .pointer (some ⟨w.heap.size, 0, none⟩) ∧ s2 = .pointer (some ⟨w.heap.size + 1, 0, none⟩) ∧ Below w.heap.size w wx ∧ ∃ F v2 v3 A5 c5, Pool wx w.heap.size F ∧ ManK F w.heap.size (w.heap.size + 1) t a v2 v3 (.slice A5 n4 c5) n2 n3 n4 x2 x3 x4 hm 0 (fun _ => .slice none 0 0))
  case first =>
    go_region_law (first | (go_simp; go_at_call 17; (with_reducible refine (K2.out _ HB).mono ?_); rintro e w3 ⟨v2, rfl, O2, hd⟩; obtain ⟨B2, e2, rfl⟩ := own_sl O2; replace HP := Lib.hid (HP.out.new 0 hd HB.size (E := ⟨3, 1, .slice B2 n2 e2, n2, x2⟩) O2); replace hx := heap_below hd hx; have z2 := Lib.frozen_of_heap hx 2; have z3 := Lib.frozen_of_heap hx 3; have z4 := Lib.frozen_of_heap hx 4; replace p0 := cell_below hd p0; replace p1 := cell_below hd p1; replace p2 := cell_below hd p2; replace p3 := cell_below hd p3; replace p4 := cell_below hd p4; replace HB := bt HB HB.size hd; clear hd; clear O2) | (go_simp; go_at_call 31; (with_reducible refine (K3.out _ HB).mono ?_); rintro e w3 ⟨v3, rfl, O3, hd⟩; obtain ⟨B3, e3, rfl⟩ := own_sl O3; replace HP := Lib.hid (HP.out.new 1 hd HB.size (E := ⟨49, 1, .slice B3 n3 e3, n3, x3⟩) O3); replace hx := heap_below hd hx; have z2 := Lib.frozen_of_heap hx 2; have z3 := Lib.frozen_of_heap hx 3; have z4 := Lib.frozen_of_heap hx 4; replace p0 := cell_below hd p0; replace p1 := cell_below hd p1; replace p2 := cell_below hd p2; replace p3 := cell_below hd p3; replace p4 := cell_below hd p4; replace HB := bt HB HB.size hd; clear hd; clear O3) | (go_simp; go_at_call 32; (with_reducible refine (K4.out _ HB).mono ?_); rintro e w3 ⟨v4, rfl, O4, hd⟩; obtain ⟨B4, e4, rfl⟩ := own_sl O4; replace HP := Lib.hid (HP.out.new 2 hd HB.size (E := ⟨22, 1, .slice B4 n4 e4, n4, x4⟩) O4); replace hx := heap_below hd hx; have z2 := Lib.frozen_of_heap hx 2; have z3 := Lib.frozen_of_heap hx 3; have z4 := Lib.frozen_of_heap hx 4; replace p0 := cell_below hd p0; replace p1 := cell_below hd p1; replace p2 := cell_below hd p2; replace p3 := cell_below hd p3; replace p4 := cell_below hd p4; replace HB := bt HB HB.size hd; clear hd; clear O4))
    all_goals (go_wp2_with fail; go_meet)
    all_goals exact ⟨rfl, rfl, copied_leaf HP.out HB rfl rfl rfl rfl rfl⟩
  case rest =>
    clear HP HB
    obtain ⟨rfl, rfl, HB, F, v2, v3, A5, c5, HP, HK⟩ := hcut
    clear p0 p1 p2 p3 p4 hx
    have q4 := HP.cell 7 HK.box rfl (j := 4) rfl
    have HPP := Lib.hid HP
    have HKK := Lib.hid HK
    clear HP HK
    go_wp2
    clear q4
    go_loopw [3, 19] (fun _ i wr => ∃ k : Nat, k ≤ n4 ∧ i = .int .i64 k ∧ Below w.heap.size w wr ∧ ∃ F rv, Pool wr w.heap.size F ∧ ManK F w.heap.size (w.heap.size + 1) t a v2 v3 (.slice A5 n4 c5) n2 n3 n4 x2 x3 x4 hm k rv) (fun _ i _ => n4 - (intOf i).toNat)
    case atStart => exact ⟨0, by omega, rfl, HB, F, _, HPP.out, HKK.out⟩
    case round =>
      clear HPP HKK HB F
      obtain ⟨k, hk, rfl, HB, F, rv, HP, HK⟩ := hrel
      have q4 := HP.cell 7 HK.box rfl (j := 4) rfl
      have HKK := Lib.hid HK
      by_cases hlt : k < n4
      · have hkl : k < hm.length := by have := LH.out; omega
        have hk4 : k < x4.length := by have := L4.out; omega
        have hle := Lib.hid (LH.out.trans L4.out.symm)
        obtain ⟨g, cap, hv⟩ := own_form (HP.own 2) (by rw [HK.top]; exact Nat.lt_of_le_of_lt (Nat.zero_le k) hlt)
        rw [HK.top] at hv
        simp only [Value.slice.injEq] at hv
        obtain ⟨rfl, _, rfl⟩ := hv
        obtain ⟨B, cq, hxk, hKR⟩ := KR.out k hkl
        have KW := Lib.hid hKR
        have g1 := HP.cell 2 HK.top rfl (j := k) (u := .slice B hm[k].length cq) (by rw [List.getElem?_append_right (by simp)]; simpa using hxk)
        have z1 := HP.free 2 HK.top rfl k
        have HPP := Lib.hid HP.drew
        have HBD := HB.drew
        have HIX := Lib.hid (show hm[k]! = hm[k] by simp [hkl])
        clear hKR HP HK HB hxk
        obtain ⟨q, hq⟩ : ∃ q, q = hm[k].length := ⟨_, rfl⟩
        rw [← hq] at g1
        rw [← hq] at KW
        have HQ := Lib.hid hq
        clear hq
        go_upto_region 5 with fail
        go_region_law (go_simp; go_at_call 17; (with_reducible refine (KW.out _ HBD).mono ?_); rintro e w3 ⟨v2, rfl, O2, hd⟩; obtain ⟨B2, e2, rfl⟩ := own_sl O2; replace HPP := Lib.hid (HPP.out.new (2 * k + 10) hd HBD.size (E := ⟨3, 1, .slice B2 q e2, q, zv hm[k]⟩) O2); replace q4 := cell_below hd q4; replace z1 := (hd.frozen (p := ⟨g, k, none⟩) (World.block_lt_of_cell? _ _ g1)).trans z1; replace g1 := cell_below hd g1; replace HBD := bt HBD HBD.size hd; clear hd O2)
        all_goals (obtain ⟨F9, rv9, HP9, HK9⟩ := copied_step (B := B2) (cq := e2) (by rw [HIX.out, ← HQ.out]; exact HPP.out) HKK.out hk4 hle.out; rw [HIX.out, ← HQ.out] at HP9; replace HBD := HBD.setCell (p := ⟨g, k, none⟩) (own_lo (HPP.out.own 2) g (by rw [up_ne _ _ (by omega), HKK.out.top]; rfl)) (.slice B2 q e2); have HF9 := Lib.hid (And.intro HP9 HK9); clear HP9 HK9 q4 z1 g1)
        all_goals go_wp2
        all_goals go_roundw
        case' rel => exact ⟨k + 1, by omega, by go_num, HBD, F9, rv9, HF9.out.1, HF9.out.2⟩
        all_goals (first | exact ⟨k + 1, by omega, by go_num, HBD, F9, rv9, HF9.out.1, HF9.out.2⟩ | (simp [intOf]; omega))
      · obtain rfl : k = n4 := by omega
        obtain ⟨B2, c2', rfl⟩ := own_sl (show wr.ownsRow w.heap.size 3 1 v2 n2 x2 by have := HP.own 0; rw [HK.sz] at this; exact this)
        obtain ⟨B3, c3', rfl⟩ := own_sl (show wr.ownsRow w.heap.size 49 1 v3 n3 x3 by have := HP.own 1; rw [HK.sm] at this; exact this)
        have HPP := Lib.hid HP
        have b0 := HP.cell 7 HK.box rfl (j := 0) rfl
        have b1 := HP.cell 7 HK.box rfl (j := 1) rfl
        have b2 := HP.cell 7 HK.box rfl (j := 2) rfl
        have b3 := HP.cell 7 HK.box rfl (j := 3) rfl
        have hA := pool_obj HP 8 HK.res
        have hone : (#[.int .i64 t, .int .i64 a, .slice B2 n2 c2', .slice B3 n3 c3', .slice A5 k c5] : Array Value).all (·.oneCell') = true := by simp [Value.oneCell']
        have hi33 : (Try.prog.info? 26).map (·.size) = some 5 := by kernel_rfl
        have HS := Lib.hid (pool_setRow HP 8 HK.res #[.int .i64 t, .int .i64 a, .slice B2 n2 c2', .slice B3 n3 c3', .slice A5 k c5] rfl)
        clear HP HK
        go_wp2_with (refine wpList_store_row rfl 26 (.tmp 2) (.tmp 33) rfl (w.heap.size + 1) #[.int .i64 t, .int .i64 a, .slice B2 n2 c2', .slice B3 n3 c3', .slice A5 k c5] rfl rfl 26 #[.int .i64 0, .int .i64 0, .slice none 0 0, .slice none 0 0, .slice none 0 0] hA hi33 rfl hone ?_)
        have hR := setRow_heap _ _ _ #[.int .i64 t, .int .i64 a, .slice B2 n2 c2', .slice B3 n3 c3', .slice A5 k c5] _ _ hA
        refine bodyPost_ret (results_cell_one rfl _ _ (w.heap.size + 1) 26 _ (0, 0) _ rfl hR Try.underlying26 rfl hi33) rfl ?_
        refine ⟨_, .slice B2 n2 c2', .slice B3 n3 c3', .slice A5 k c5, rv, rfl, HS.out, ⟨?_, ?_, ?_, fun i hi => ?_⟩, ?_⟩
        · rw [up_ne _ _ (by omega), HKK.out.sz, L2.out]
        · rw [up_ne _ _ (by omega), HKK.out.sm, L3.out]
        · rw [up_ne _ _ (by omega), HKK.out.top, LH.out, List.drop_eq_nil_of_le (by have := L4.out; omega), List.append_nil]
        · rw [up_ne _ _ (by omega)]
          exact HKK.out.row i hi (by have := LH.out; omega)
        · exact HB.trans ⟨rfl, rfl, rfl, by simp, fun k hk => setRow_other wr _ k _ (by omega)⟩
end Go.Proofs.Ytpologlcfohjeaa.MendW
