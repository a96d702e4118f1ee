/- Two tables of one's own side by side; a row copied; rows that change places. -/
import Derived.Test.YtalinkpfklhgaaaRowsPick
import Derived.Laws.CopyOwn
set_option linter.unusedVariables false
set_option linter.unusedSimpArgs false
namespace Go.Proofs.Ytalinkpfklhgaaa.RowsW
open Go.RowKit Go.Proofs.Ytalinkpfklhgaaa.Base Go.Proofs.Ytalinkpfklhgaaa.GfP Go.Proofs.Ytalinkpfklhgaaa.GfW Go.Proofs.Ytalinkpfklhgaaa.Lin

theorem RowAt.of_heap {w w' : World} {b q : Nat} {f : Nat → F} (h : RowAt w b q f) (hb : w'.heap[b]? = w.heap[b]?) (hs : w.heap.size ≤ w'.heap.size) : RowAt w' b q f :=
  ⟨fun j hj => (World.cell?_of_block (a := ⟨b, j, none⟩) (w := w) hb).trans (h.cell j hj), fun j => (World.frozen?_of_block (a := ⟨b, j, none⟩) (w := w) hb).trans (h.free j), Nat.lt_of_lt_of_le h.lt hs, by obtain ⟨cur, h1, h2⟩ := h.blk; exact ⟨cur, hb.trans h1, h2⟩⟩
theorem Mat.of_heap {w w' : World} {lo g n q : Nat} {bs : Nat → Nat} {A : M} (h : Mat w lo g n q bs A) (hg : w'.heap[g]? = w.heap[g]?) (hb : ∀ i, i < n → w'.heap[bs i]? = w.heap[bs i]?) (hs : w.heap.size ≤ w'.heap.size) : Mat w' lo g n q bs A :=
  ⟨fun i hi => (World.cell?_of_block (a := ⟨g, i, none⟩) (w := w) hg).trans (h.top i hi), fun i => (World.frozen?_of_block (a := ⟨g, i, none⟩) (w := w) hg).trans (h.free i), Nat.lt_of_lt_of_le h.lt hs, fun i hi => (h.row i hi).of_heap (hb i hi) hs, h.inj, h.ne, h.lo_g, h.lo_b⟩
theorem setCell_size (w : World) (a : Addr) (v : Value) : (w.setCell a v).heap.size = w.heap.size := by simp [World.setCell]
/-- A table whose blocks are others. -/
theorem Mat.other {w : World} {lo g n q h i : Nat} {bs : Nat → Nat} {A : M} (hM : Mat w lo g n q bs A) (hg : g ≠ h) (hb : ∀ i, i < n → bs i ≠ h) (v : Value) : Mat (w.setCell ⟨h, i, none⟩ v) lo g n q bs A :=
  hM.of_heap (Below.heap_setCell _ _ _ _ hg) (fun i hi => Below.heap_setCell _ _ _ _ (hb i hi)) (by rw [setCell_size]; exact Nat.le_refl _)
theorem Mat.swapped {w : World} {lo g n q c p : Nat} {bs : Nat → Nat} {A : M} (h : Mat w lo g n q bs A) (hc : c < n) (hp : p < n) :
    Mat ((w.setCell ⟨g, c, none⟩ (.slice (some ⟨bs p, 0, none⟩) q q)).setCell ⟨g, p, none⟩ (.slice (some ⟨bs c, 0, none⟩) q q)) lo g n q (fun i => bs (sw c p i)) (swp c p A) := by
  have e1 := cell_set (h.top c hc) (.slice (some ⟨bs p, 0, none⟩) q q)
  have e2 : (w.setCell ⟨g, c, none⟩ (.slice (some ⟨bs p, 0, none⟩) q q)).cell? ⟨g, p, none⟩ = some (.slice (some ⟨bs p, 0, none⟩) q q) := by
    rw [e1 p]
    by_cases e : p = c
    · rw [if_pos e]
    · rw [if_neg e, h.top p hp]
  have e3 := cell_set e2 (.slice (some ⟨bs c, 0, none⟩) q q)
  refine ⟨fun i hi => ?_, fun i => ?_, ?_, fun i hi => ?_, fun i j hi hj e => ?_, fun i hi => h.ne _ (sw_lt hc hp hi), h.lo_g, fun i hi => h.lo_b _ (sw_lt hc hp hi)⟩
  · rw [e3 i, e1 i]
    unfold sw
    by_cases a : i = p
    · subst a
      rw [if_pos rfl]
      by_cases b : i = c
      · subst b; simp
      · rw [if_neg b]; simp
    · rw [if_neg a]
      by_cases b : i = c
      · rw [if_pos b, if_pos b]
      · rw [if_neg b, if_neg b, if_neg a, h.top i hi]
  · rw [World.frozen?_setCell, World.frozen?_setCell]; exact h.free i
  · rw [setCell_size, setCell_size]; exact h.lt
  · have hk := sw_lt hc hp hi
    refine ((h.row _ hk).of_heap (w' := (w.setCell ⟨g, c, none⟩ (.slice (some ⟨bs p, 0, none⟩) q q)).setCell ⟨g, p, none⟩ (.slice (some ⟨bs c, 0, none⟩) q q)) ?_ (by rw [setCell_size, setCell_size]; exact Nat.le_refl _))
    rw [Below.heap_setCell _ _ _ _ (h.ne _ hk), Below.heap_setCell _ _ _ _ (h.ne _ hk)]
  · have := h.inj _ _ (sw_lt hc hp hi) (sw_lt hc hp hj) e
    have := congrArg (sw c p) this
    rwa [sw_sw, sw_sw] at this
/-- Two tables, none of whose blocks is the other's. -/
structure Two (w : World) (lo g h n : Nat) (bs cs : Nat → Nat) (W O : M) : Prop where
  a : Mat w lo g n n bs W
  b : Mat w lo h n n cs O
  gh : g ≠ h
  d1 : ∀ i, i < n → bs i ≠ h
  d2 : ∀ i, i < n → cs i ≠ g
  d3 : ∀ i j, i < n → j < n → bs i ≠ cs j
theorem Two.of_made {w w' : World} {lo g h n : Nat} {bs cs : Nat → Nat} {W O : M} (hO : Mat w lo h n n cs O) (hW : Mat w' w.heap.size g n n bs W) (hb : Below w.heap.size w w') (hlo : lo ≤ w.heap.size) : Two w' lo g h n bs cs W O :=
  ⟨hW.wide hlo, hO.below hb, by have := hW.lo_g; have := hO.lt; omega, fun i hi => by have := hW.lo_b i hi; have := hO.lt; omega, fun i hi => by have := hW.lo_g; have := (hO.row i hi).lt; omega, fun i j hi hj => by have := hW.lo_b i hi; have := (hO.row j hj).lt; omega⟩
theorem Two.below {w w' : World} {lo g h n : Nat} {bs cs : Nat → Nat} {W O : M} (hT : Two w lo g h n bs cs W O) (hb : Below w.heap.size w w') : Two w' lo g h n bs cs W O :=
  ⟨hT.a.below hb, hT.b.below hb, hT.gh, hT.d1, hT.d2, hT.d3⟩
theorem Two.congr {w : World} {lo g h n : Nat} {bs cs : Nat → Nat} {W O W' O' : M} (hT : Two w lo g h n bs cs W O) (h1 : Eqv n n W W') (h2 : Eqv n n O O') : Two w lo g h n bs cs W' O' :=
  ⟨hT.a.congr h1, hT.b.congr h2, hT.gh, hT.d1, hT.d2, hT.d3⟩
theorem only_heap {a b : Nat} {w w' : World} (ho : Only a b w w') {k : Nat} (hk : k < w.heap.size) (hx : k < a ∨ b ≤ k) : w'.heap[k]? = w.heap[k]? := ho.block k hk hx
theorem Two.row_a {w w' : World} {lo g h n k : Nat} {bs cs : Nat → Nat} {W O : M} {f : Nat → F} (hT : Two w lo g h n bs cs W O) (hk : k < n) (ho : Only (bs k) (bs k + 1) w w') (hr : RowAt w' (bs k) n f) :
    Two w' lo g h n bs cs (fun i => if i = k then f else W i) O :=
  ⟨hT.a.row_only hk ho hr, hT.b.of_heap (only_heap ho hT.b.lt (by have := hT.d1 k hk; omega)) (fun i hi => only_heap ho (hT.b.row i hi).lt (by have := hT.d3 k i hk hi; omega)) ho.size, hT.gh, hT.d1, hT.d2, hT.d3⟩
theorem Two.row_b {w w' : World} {lo g h n k : Nat} {bs cs : Nat → Nat} {W O : M} {f : Nat → F} (hT : Two w lo g h n bs cs W O) (hk : k < n) (ho : Only (cs k) (cs k + 1) w w') (hr : RowAt w' (cs k) n f) :
    Two w' lo g h n bs cs W (fun i => if i = k then f else O i) :=
  ⟨hT.a.of_heap (only_heap ho hT.a.lt (by have := hT.d2 k hk; omega)) (fun i hi => only_heap ho (hT.a.row i hi).lt (by have := hT.d3 i k hi hk; omega)) ho.size, hT.b.row_only hk ho hr, hT.gh, hT.d1, hT.d2, hT.d3⟩
theorem Two.swapped {w : World} {lo g h n c p : Nat} {bs cs : Nat → Nat} {W O : M} (hT : Two w lo g h n bs cs W O) (hc : c < n) (hp : p < n) :
    Two ((((w.setCell ⟨g, c, none⟩ (.slice (some ⟨bs p, 0, none⟩) n n)).setCell ⟨g, p, none⟩ (.slice (some ⟨bs c, 0, none⟩) n n)).setCell ⟨h, c, none⟩ (.slice (some ⟨cs p, 0, none⟩) n n)).setCell ⟨h, p, none⟩ (.slice (some ⟨cs c, 0, none⟩) n n))
      lo g h n (fun i => bs (sw c p i)) (fun i => cs (sw c p i)) (swp c p W) (swp c p O) := by
  have h1 := hT.a.swapped hc hp
  have h2 := ((hT.b.other (h := g) (i := c) (Ne.symm hT.gh) hT.d2 (.slice (some ⟨bs p, 0, none⟩) n n)).other (h := g) (i := p) (Ne.symm hT.gh) hT.d2 (.slice (some ⟨bs c, 0, none⟩) n n)).swapped hc hp
  exact ⟨(h1.other (h := h) (i := c) hT.gh (fun i hi => hT.d1 _ (sw_lt hc hp hi)) _).other (h := h) (i := p) hT.gh (fun i hi => hT.d1 _ (sw_lt hc hp hi)) _, h2, hT.gh, fun i hi => hT.d1 _ (sw_lt hc hp hi), fun i hi => hT.d2 _ (sw_lt hc hp hi), fun i j hi hj => hT.d3 _ _ (sw_lt hc hp hi) (sw_lt hc hp hj)⟩
theorem Mat.only_row {w w' : World} {lo g n q k : Nat} {bs : Nat → Nat} {A : M} {w0 : World} (h : Mat w lo g n q bs A) (hk : k < n) (hb : Below lo w0 w) (hlo : lo ≤ w.heap.size) (ho : Only (bs k) (bs k + 1) w w') : Below lo w0 w' :=
  hb.trans (ho.below (h.lo_b k hk) hlo)
/-- A row is copied whole, as one step of a region that draws its order. -/
theorem step_copy_row {P : Program} {ops : Array Oper} {o : Oper} {a : Act} {w : World} {K : Act → World → Prop} {Q : Exit → Act → World → Prop} {E : Prop} (hgd : o.guard = none) (d s : Operand) (dT sT : TypeId)
    (ho : o.op = .call { callee := .builtin .copy, args := #[d, s], argTypes := #[dT, sT] }) (elem : TypeId) (hu : P.underlying dT = some (.slice elem)) (hsz : (P.info? elem).map (·.size) = some 1)
    (b q c b2 off2 c2 : Nat) (f g : Nat → F) (hd : a.eval d = .slice (some ⟨b, 0, none⟩) q c) (hs : a.eval s = .slice (some ⟨b2, off2, none⟩) q c2)
    (hR : RowAt w b q g) (hsrc : ∀ j, j < q → w.cell? ⟨b2, off2 + j, none⟩ = some (.int .u8 (((f j).v : Nat) : Int)))
    (h : ∀ w', RowAt w' b q f → Only b (b + 1) w w' → K (a.put o.dst (goInt q)) w') :
    if Region.wanted o (yielded ops a.tmps) = true then Oper.wp P o a w K Q else E := by
  have hw : Region.wanted o (yielded ops a.tmps) = true := by simp [Region.wanted, hgd]
  rw [if_pos hw]
  obtain ⟨cur, hg, hsize⟩ := hR.blk
  have hcl : ((List.range q).map fun j => Value.int .u8 (((f j).v : Nat) : Int)).length = q := by simp
  have hrun := run_copy_row (P := P) w dT sT o.type elem b 0 q c ⟨b2, off2, none⟩ q c2 cur 5 ((List.range q).map fun j => Value.int .u8 (((f j).v : Nat) : Int)) hu hsz hg (by rw [hcl]; exact (Nat.min_self q).symm) (fun j v hj => by
    rcases Nat.lt_or_ge j q with h' | h'
    · rw [show (⟨b2, off2, none⟩ : Addr).add j = ⟨b2, off2 + j, none⟩ by cases j <;> simp [Addr.add], hsrc j h', ← hj]
      simp [h']
    · rw [List.getElem?_eq_none (by rw [hcl]; exact h')] at hj; cases hj) (by rw [hcl]; omega) (fun v hv => by obtain ⟨j, _, rfl⟩ := List.mem_map.1 hv; rfl)
  unfold Oper.wp
  simp only [execOp, ho, resolve, invoke, builtin, Sem.run_bind, Sem.run_pure, Result.andThen_ok, List.map_toArray, List.map_cons, List.map_nil, hd, hs, hrun]
  rw [hcl]
  have hd0 : cur.toList.drop (0 + q) = [] := List.drop_eq_nil_of_le (by simp; omega)
  have hrow := setRow_heap w b cur (((List.range q).map fun j => Value.int .u8 (((f j).v : Nat) : Int)).toArray) 5 (0, 0) hg
  have he : (cur.toList.take 0 ++ ((List.range q).map fun j => Value.int .u8 (((f j).v : Nat) : Int)) ++ cur.toList.drop (0 + q)).toArray = ((List.range q).map fun j => Value.int .u8 (((f j).v : Nat) : Int)).toArray := by rw [hd0]; simp
  rw [he]
  refine h _ ⟨fun j hj => ?_, fun j => frozen_of_row _ b j _ _ hrow, by rw [size_setRow]; exact hR.lt, ⟨_, hrow, by simp⟩⟩ ⟨rfl, rfl, rfl, by rw [size_setRow]; exact Nat.le_refl _, fun k hk hx => setRow_other w b k _ (by omega)⟩
  rw [cell_of_row _ b j _ _ _ hrow]
  simp [hj]
end Go.Proofs.Ytalinkpfklhgaaa.RowsW
