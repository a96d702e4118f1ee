/- (*coder.Coder).times walked. -/
import Derived.Test.YtalinkpfklhgaaaCodCol
set_option linter.unusedVariables false
set_option linter.unusedSimpArgs false
namespace Go.Proofs.Ytalinkpfklhgaaa.CodW
open Go.RowKit Go.Proofs.Ytalinkpfklhgaaa.Base Go.Proofs.Ytalinkpfklhgaaa.GfP Go.Proofs.Ytalinkpfklhgaaa.GfW Go.Proofs.Ytalinkpfklhgaaa.Lin Go.Proofs.Ytalinkpfklhgaaa.RowsW Go.Proofs.Ytalinkpfklhgaaa.CodP

theorem info_str : (Try.prog.info? 9).map (fun i => (i.zero, i.size, i.bytes)) = some (some (.string ByteArray.empty), 1, 16) := by kernel_rfl
theorem bv_br_succ (L : Nat) (f : Nat → F) : bv (br (L + 1) f) = bv (br L f) ++ [.int .u8 (((f L).v : Nat) : Int)] := by
  rw [br_succ, bv_append]
  unfold bv
  rw [List.map_cons, List.map_nil, ofNat_v]
/-- Texts as values. -/
def sv (ss : List ByteArray) : List Value := ss.map Value.string
theorem sv_length (ss : List ByteArray) : (sv ss).length = ss.length := by simp [sv]
theorem sv_snoc (ss : List ByteArray) (s : ByteArray) : sv (ss ++ [s]) = sv ss ++ [.string s] := by simp [sv]
theorem own_strs {w : World} {base e n : Nat} {v : Value} {ss : List ByteArray} (h : w.ownsRow base e 1 v n (sv ss)) : ∃ A c, v = .slice A n c ∧ Strs w A n ss ∧ n ≤ c ∧ (0 < n → ∃ g, A = some ⟨g, 0, none⟩ ∧ base ≤ g) := by
  have hl : ss.length = n := by have := h.1; rw [sv_length] at this; omega
  rcases h.2 with ⟨rfl, h0⟩ | ⟨g, cap, cur, rfl, hb, hg, hc, _⟩
  · subst h0
    have : ss = [] := List.eq_nil_of_length_eq_zero hl
    subst this
    exact ⟨none, 0, rfl, Strs.nil _ _, Nat.le_refl _, fun h => by omega⟩
  · refine ⟨_, cap, rfl, ⟨hl, .inr ⟨g, 0, rfl, fun j hj => ?_⟩⟩, hc, fun _ => ⟨g, rfl, hb⟩⟩
    have hcl := h.cells (g := g) rfl j (.string ss[j]) (by simp [sv, hj])
    have ha : (⟨g, 0, none⟩ : Addr).add j = ⟨g, 0 + j, none⟩ := by unfold Addr.add; split <;> simp_all
    rw [ha] at hcl
    exact hcl
/-- append(v, y), and where what comes back lies. -/
theorem app_one_at {P : Program} {ops : Array Oper} {rest : List Oper} {o : Oper} {a : Act} {Q : Exit → Act → World → Prop} {w0 W : World} (base : Nat) (hgd : o.guard = none) (s x : Operand) (t e : TypeId) (z : Value) (bytes : Nat)
    (ho : o.op = .call { callee := .builtin .append, args := #[s, x], argTypes := #[t, t] })
    (ht : P.underlying t = some (.slice e)) (hinfo : (P.info? e).map (fun i => (i.zero, i.size, i.bytes)) = some (some z, 1, bytes)) (hz : z.cells.size = 1) (hb0 : 0 < bytes)
    (v : Value) (xs : List Value) (y : Value) (n : Nat) (hn : xs.length = n) (hs : a.eval s = v) (hx : a.eval x = .slice (some ⟨W.heap.size, 0, none⟩) 1 1) (h1 : y.oneCell' = true)
    (HO : W.ownsRow base e 1 v n xs) (HB : Below base w0 W) (hbase : base ≤ W.heap.size) (hl : (n + 1) * bytes ≤ 140737488355328)
    (h : ∀ g1 c1 w1, w1.ownsRow base e 1 (.slice (some ⟨g1, 0, none⟩) (n + 1) c1) (n + 1) (xs ++ [y]) → Below base w0 w1 → W.grownBy w1 v.ownBlock → (v.ownBlock = some g1 ∨ W.heap.size ≤ g1) → wpList P ops Q rest (a.put o.dst (.slice (some ⟨g1, 0, none⟩) (n + 1) c1)) w1) :
    wpList P ops Q (o :: rest) a (W.alloc (.cells #[y] e)) := by
  obtain ⟨i0, hi, hzz⟩ := Option.map_eq_some_iff.1 hinfo
  simp only [Prod.mk.injEq] at hzz
  obtain ⟨hz0, hz1, hz2⟩ := hzz
  have hlen : n + 1 ≤ 140737488355328 := Nat.le_trans (Nat.le_mul_of_pos_right _ hb0) hl
  refine wpList_append_own_at (W.alloc (.cells #[y] e)) hgd s x t ho base e i0 z 1 bytes ht hi hz0 hz1 hz2 hz (by omega) v n xs hs (HO.alloc _) ⟨W.heap.size, 0, none⟩ 1 1 [y] hx rfl
    (World.news_of_block (cs := #[y]) (t := e) (fr := (0, 0)) (heap_alloc_new W _)) (by simpa using h1) (by simp only [maxLen]; omega) hl (by simp; omega) ?_
  intro v1 w1 hown hg _ hat
  obtain ⟨g1, c1, rfl⟩ := own_form hown (by omega)
  refine h g1 c1 w1 hown ((HB.alloc hbase _).grown hg (by simp; omega) (own_lo HO)) (World.grownBy.trans (World.grownBy_alloc W _ _) hg) ?_
  rcases hat with h2 | h2
  · exact .inl (h2.symm.trans rfl)
  · right
    have : g1 = (W.alloc (.cells #[y] e)).heap.size := by simpa [Value.ownBlock] using h2
    rw [World.size_alloc] at this
    omega
/-- What times has made so far: in the block g m slices, slice i with so many bytes. -/
structure Outs (w0 w : World) (g m : Nat) (vs : Nat → Value) (ln : Nat → Nat) (X : M) : Prop where
  top : ∀ i, i < m → w.cell? ⟨g, i, none⟩ = some (vs i)
  blk : ∃ cur : Array Value, w.heap[g]? = some (.cells cur 29 (0, 0))
  lo : w0.heap.size ≤ g
  row : ∀ i, i < m → w.ownsRow w0.heap.size 5 1 (vs i) (ln i) (bv (br (ln i) (X i)))
  dis : ∀ i j, i < m → j < m → i ≠ j → (vs i).ownBlock = none ∨ (vs i).ownBlock ≠ (vs j).ownBlock
  below : Below w0.heap.size w0 w
theorem Outs.lt {w0 w : World} {g m : Nat} {vs : Nat → Value} {ln : Nat → Nat} {X : M} (h : Outs w0 w g m vs ln X) : g < w.heap.size := by
  obtain ⟨cur, hg⟩ := h.blk
  rcases Nat.lt_or_ge g w.heap.size with h1 | h1
  · exact h1
  · rw [Array.getElem?_eq_none h1] at hg; cases hg
theorem Outs.later {w0 w w' : World} {g m : Nat} {vs : Nat → Value} {ln : Nat → Nat} {X : M} (h : Outs w0 w g m vs ln X) (hb : Below w.heap.size w w') : Outs w0 w' g m vs ln X :=
  ⟨fun i hi => cell_below hb (h.top i hi), by obtain ⟨cur, hg⟩ := h.blk; exact ⟨cur, (hb.block g h.lt).trans hg⟩, h.lo, fun i hi => own_below (h.row i hi) hb, h.dis, bt h.below h.below.size hb⟩
theorem own_not {w : World} {g b e size n : Nat} {t : TypeId} {cur : Array Value} {v : Value} {xs : List Value} (hg : w.heap[g]? = some (.cells cur t (0, 0))) (h : w.ownsRow b e size v n xs) (ht : t ≠ e) : some g ≠ v.ownBlock := by
  rcases h.2 with ⟨rfl, _⟩ | ⟨g2, cap, cur2, rfl, _, hg2, _⟩
  · simp [Value.ownBlock]
  · intro e'
    obtain rfl : g = g2 := by simpa [Value.ownBlock] using e'
    rw [hg] at hg2
    simp at hg2
    exact ht hg2.2
theorem own_set {w : World} {g i base e size n : Nat} {v u : Value} {xs : List Value} (h : w.ownsRow base e size v n xs) (hne : some g ≠ v.ownBlock) : (w.setCell ⟨g, i, none⟩ u).ownsRow base e size v n xs := by
  obtain ⟨hl, h0 | ⟨g2, cap, cur, rfl, h1, hh, r⟩⟩ := h
  · exact ⟨hl, .inl h0⟩
  · refine ⟨hl, .inr ⟨g2, cap, cur, rfl, h1, (Below.heap_setCell _ _ _ _ ?_).trans hh, r⟩⟩
    intro e'
    apply hne
    simp only [Value.ownBlock]
    exact congrArg some e'.symm
/-- A byte more behind row k. -/
theorem Outs.step {w0 w W w1 : World} {g m k g1 c1 : Nat} {vs : Nat → Value} {ln : Nat → Nat} {X : M} (h : Outs w0 w g m vs ln X) (hk : k < m) (hb : Below w.heap.size w W)
    (ho : w1.ownsRow w0.heap.size 5 1 (.slice (some ⟨g1, 0, none⟩) (ln k + 1) c1) (ln k + 1) (bv (br (ln k) (X k)) ++ [.int .u8 (((X k (ln k)).v : Nat) : Int)])) (hB : Below w0.heap.size w0 w1) (hgr : W.grownBy w1 (vs k).ownBlock) (hat : (vs k).ownBlock = some g1 ∨ W.heap.size ≤ g1) :
    Outs w0 (w1.setCell ⟨g, k, none⟩ (.slice (some ⟨g1, 0, none⟩) (ln k + 1) c1)) g m (fun i => if i = k then .slice (some ⟨g1, 0, none⟩) (ln k + 1) c1 else vs i) (fun i => if i = k then ln k + 1 else ln i) X := by
  have hW := h.later hb
  obtain ⟨cur, hg⟩ := hW.blk
  have hgk : some g ≠ (vs k).ownBlock := own_not hg (hW.row k hk) (by decide)
  have hgl := hW.lt
  have hg1 : w1.heap[g]? = some (.cells cur 29 (0, 0)) := (hgr.block g hgl hgk).trans hg
  have htop : ∀ i, i < m → w1.cell? ⟨g, i, none⟩ = some (vs i) := fun i hi => (World.cell?_of_block (a := ⟨g, i, none⟩) (w := W) (hgr.block g hgl hgk)).trans (hW.top i hi)
  have hown : ∀ i, i < m → i ≠ k → w1.ownsRow w0.heap.size 5 1 (vs i) (ln i) (bv (br (ln i) (X i))) := fun i hi e => own_grown (hW.row i hi) hgr (hW.dis i k hi hk e)
  have hg1v : some g ≠ (Value.slice (some ⟨g1, 0, none⟩) (ln k + 1) c1).ownBlock := own_not hg1 ho (by decide)
  have hlt : ∀ i, i < m → ∀ b, (vs i).ownBlock = some b → b < W.heap.size := fun i hi b e => ((hW.row i hi).lt b e).2
  refine ⟨fun i hi => ?_, ⟨_, heap_setCell_same w1 g k cur _ _ hg1⟩, h.lo, fun i hi => ?_, fun i j hi hj hij => ?_, hB.setCell h.lo _⟩
  · rw [cell_set (htop k hk)]
    by_cases e : i = k
    · rw [if_pos e, if_pos e]
    · rw [if_neg e, if_neg e, htop i hi]
  · by_cases e : i = k
    · subst e
      simp only [if_pos]
      rw [bv_br_succ]
      exact own_set ho hg1v
    · simp only [if_neg e]
      exact own_set (hown i hi e) (own_not hg1 (hown i hi e) (by decide))
  · by_cases ei : i = k
    · subst ei
      have ej : j ≠ i := Ne.symm hij
      simp only [if_pos, if_neg ej]
      right
      intro e
      have e' : (vs j).ownBlock = some g1 := e.symm
      rcases hat with h2 | h2
      · rcases hW.dis j i hj hi ej with h3 | h3
        · rw [h3] at e'; cases e'
        · exact h3 (e'.trans h2.symm)
      · have := hlt j hj g1 e'; omega
    · simp only [if_neg ei]
      by_cases ej : j = k
      · subst ej
        simp only [if_pos]
        rcases hW.dis i j hi hj ei with h3 | h3
        · exact .inl h3
        · right
          intro e
          have e' : (vs i).ownBlock = some g1 := e
          rcases hat with h2 | h2
          · exact h3 (e'.trans h2.symm)
          · have := hlt i hi g1 e'; omega
      · simp only [if_neg ej]
        exact hW.dis i j hi hj hij
end Go.Proofs.Ytalinkpfklhgaaa.CodW
