/- Tables of whole numbers of one's own; stookref02.Rank walked. -/
import Derived.Test.YtalinkpfklhgaaaRowsLaw6
set_option linter.unusedVariables false
set_option linter.unusedSimpArgs false
namespace Go.Proofs.Ytalinkpfklhgaaa.RowsW
open Go.RowKit Go.Proofs.Ytalinkpfklhgaaa.Base Go.Proofs.Ytalinkpfklhgaaa.GfP Go.Proofs.Ytalinkpfklhgaaa.GfW Go.Proofs.Ytalinkpfklhgaaa.GfR Go.Proofs.Ytalinkpfklhgaaa.Lin

theorem info_int : (Try.prog.info? 3).map (fun i => (i.zero, i.size, i.bytes)) = some (some (.int .i64 0), 1, 8) := by kernel_rfl
theorem info_ints : (Try.prog.info? 50).map (fun i => (i.zero, i.size, i.bytes)) = some (some (.slice none 0 0), 1, 24) := by kernel_rfl
/-- Whole numbers as values. -/
def iv (l : List Nat) : List Value := l.map fun x => Value.int .i64 ((x : Nat) : Int)
theorem iv_length (l : List Nat) : (iv l).length = l.length := by simp [iv]
theorem iv_rw1_succ (j : Nat) (f : Nat → F) : iv (rw1 (j + 1) f) = iv (rw1 j f) ++ [.int .i64 (((f j).v : Nat) : Int)] := by
  unfold rw1 iv
  rw [List.range_succ]
  simp
/-- The block g holds n slices of q whole numbers. -/
structure IM (w : World) (lo g n q : Nat) (bs cp : Nat → Nat) (A : M) : Prop where
  top : ∀ i, i < n → w.cell? ⟨g, i, none⟩ = some (.slice (some ⟨bs i, 0, none⟩) q (cp i))
  free : ∀ i, w.frozen? ⟨g, i, none⟩ = false
  lt : g < w.heap.size
  cell : ∀ i, i < n → ∀ j, j < q → w.cell? ⟨bs i, j, none⟩ = some (.int .i64 (((A i j).v : Nat) : Int))
  rfree : ∀ i, i < n → ∀ j, w.frozen? ⟨bs i, j, none⟩ = false
  rlt : ∀ i, i < n → bs i < w.heap.size
  inj : ∀ i j, i < n → j < n → bs i = bs j → i = j
  ne : ∀ i, i < n → bs i ≠ g
  lo_g : lo ≤ g
  lo_b : ∀ i, i < n → lo ≤ bs i
theorem IM.of_heap {w w' : World} {lo g n q : Nat} {bs cp : Nat → Nat} {A : M} (h : IM w lo g n q bs cp A) (hg : w'.heap[g]? = w.heap[g]?) (hb : ∀ i, i < n → w'.heap[bs i]? = w.heap[bs i]?) (hs : w.heap.size ≤ w'.heap.size) : IM w' lo g n q bs cp A :=
  ⟨fun i hi => (World.cell?_of_block (a := ⟨g, i, none⟩) (w := w) hg).trans (h.top i hi), fun i => (World.frozen?_of_block (a := ⟨g, i, none⟩) (w := w) hg).trans (h.free i), Nat.lt_of_lt_of_le h.lt hs,
    fun i hi j hj => (World.cell?_of_block (a := ⟨bs i, j, none⟩) (w := w) (hb i hi)).trans (h.cell i hi j hj), fun i hi j => (World.frozen?_of_block (a := ⟨bs i, j, none⟩) (w := w) (hb i hi)).trans (h.rfree i hi j), fun i hi => Nat.lt_of_lt_of_le (h.rlt i hi) hs, h.inj, h.ne, h.lo_g, h.lo_b⟩
theorem IM.below {w w' : World} {lo g n q : Nat} {bs cp : Nat → Nat} {A : M} (h : IM w lo g n q bs cp A) (hb : Below w.heap.size w w') : IM w' lo g n q bs cp A :=
  h.of_heap (hb.block g h.lt) (fun i hi => hb.block _ (h.rlt i hi)) hb.size
theorem IM.congr {w : World} {lo g n q : Nat} {bs cp : Nat → Nat} {A B : M} (h : IM w lo g n q bs cp A) (he : Eqv n q A B) : IM w lo g n q bs cp B :=
  ⟨h.top, h.free, h.lt, fun i hi j hj => by rw [h.cell i hi j hj, he i hi j hj], h.rfree, h.rlt, h.inj, h.ne, h.lo_g, h.lo_b⟩
theorem IM.set {w : World} {lo g n q : Nat} {bs cp : Nat → Nat} {A : M} (h : IM w lo g n q bs cp A) (k l : Nat) (hk : k < n) (hl : l < q) (v : F) :
    IM (w.setCell ⟨bs k, l, none⟩ (.int .i64 ((v.v : Nat) : Int))) lo g n q bs cp (fun i j => if i = k ∧ j = l then v else A i j) := by
  have hgk : g ≠ bs k := fun e => h.ne k hk e.symm
  refine ⟨fun i hi => (World.cell?_of_block (a := ⟨g, i, none⟩) (w := w) (Below.heap_setCell _ _ _ _ hgk)).trans (h.top i hi), fun i => by rw [World.frozen?_setCell]; exact h.free i, by rw [setCell_size]; exact h.lt, fun i hi j hj => ?_, fun i hi j => by rw [World.frozen?_setCell]; exact h.rfree i hi j, fun i hi => by rw [setCell_size]; exact h.rlt i hi, h.inj, h.ne, h.lo_g, h.lo_b⟩
  by_cases e : i = k
  · subst e
    rw [cell_set (h.cell i hi l hl)]
    by_cases e2 : j = l
    · subst e2; simp
    · rw [if_neg e2, if_neg (by omega), h.cell i hi j hj]
  · have hne : bs i ≠ bs k := fun e' => e (h.inj i k hi hk e')
    rw [if_neg (by omega)]
    exact (World.cell?_of_block (a := ⟨bs i, j, none⟩) (w := w) (Below.heap_setCell _ _ _ _ hne)).trans (h.cell i hi j hj)
theorem IM.swapped {w : World} {lo g n q c p : Nat} {bs cp : Nat → Nat} {A : M} (h : IM w lo g n q bs cp A) (hc : c < n) (hp : p < n) :
    IM ((w.setCell ⟨g, p, none⟩ (.slice (some ⟨bs c, 0, none⟩) q (cp c))).setCell ⟨g, c, none⟩ (.slice (some ⟨bs p, 0, none⟩) q (cp p))) lo g n q (fun i => bs (sw c p i)) (fun i => cp (sw c p i)) (swp c p A) := by
  have e1 := cell_set (h.top p hp) (.slice (some ⟨bs c, 0, none⟩) q (cp c))
  have e2 : ∃ u, (w.setCell ⟨g, p, none⟩ (.slice (some ⟨bs c, 0, none⟩) q (cp c))).cell? ⟨g, c, none⟩ = some u := by
    rw [e1 c]
    by_cases e : c = p
    · rw [if_pos e]; exact ⟨_, rfl⟩
    · rw [if_neg e, h.top c hc]; exact ⟨_, rfl⟩
  obtain ⟨u, hu⟩ := e2
  have e3 := cell_set hu (.slice (some ⟨bs p, 0, none⟩) q (cp p))
  have hbl : ∀ i, i < n → ((w.setCell ⟨g, p, none⟩ (.slice (some ⟨bs c, 0, none⟩) q (cp c))).setCell ⟨g, c, none⟩ (.slice (some ⟨bs p, 0, none⟩) q (cp p))).heap[bs i]? = w.heap[bs i]? := fun i hi => by
    rw [Below.heap_setCell _ _ _ _ (h.ne i hi), Below.heap_setCell _ _ _ _ (h.ne i hi)]
  refine ⟨fun i hi => ?_, fun i => ?_, ?_, fun i hi j hj => (World.cell?_of_block (a := ⟨bs (sw c p i), j, none⟩) (w := w) (hbl _ (sw_lt hc hp hi))).trans (h.cell _ (sw_lt hc hp hi) j hj), fun i hi j => ?_, fun i hi => ?_, fun i j hi hj e => ?_, fun i hi => h.ne _ (sw_lt hc hp hi), h.lo_g, fun i hi => h.lo_b _ (sw_lt hc hp hi)⟩
  · rw [e3 i, e1 i]
    unfold sw
    by_cases a : i = c
    · rw [if_pos a, if_pos a]
    · rw [if_neg a, if_neg a]
      by_cases b : i = p
      · rw [if_pos b, if_pos b]
      · rw [if_neg b, if_neg b, h.top i hi]
  · rw [World.frozen?_setCell, World.frozen?_setCell]; exact h.free i
  · rw [setCell_size, setCell_size]; exact h.lt
  · rw [World.frozen?_setCell, World.frozen?_setCell]; exact h.rfree _ (sw_lt hc hp hi) j
  · rw [setCell_size, setCell_size]; exact h.rlt _ (sw_lt hc hp hi)
  · have := h.inj _ _ (sw_lt hc hp hi) (sw_lt hc hp hj) e
    have := congrArg (sw c p) this
    rwa [sw_sw, sw_sw] at this
/-- What has been taken over so far. -/
structure IPicked (w0 w : World) (d : Value) (vs : List Value) (k q : Nat) (A : M) : Prop where
  own : w.ownsRow w0.heap.size 50 1 d k vs
  row : ∀ i, i < k → ∃ b c, vs[i]? = some (.slice (some ⟨b, 0, none⟩) q c) ∧ w0.heap.size ≤ b ∧ w.ownsRow 0 3 1 (.slice (some ⟨b, 0, none⟩) q c) q (iv (rw1 q (A i)))
  inj : ∀ i j, i < j → j < k → ∀ bi bj ci cj, vs[i]? = some (.slice (some ⟨bi, 0, none⟩) q ci) → vs[j]? = some (.slice (some ⟨bj, 0, none⟩) q cj) → bi ≠ bj
  below : Below w0.heap.size w0 w
theorem IPicked.start (w : World) (q : Nat) (A : M) : IPicked w w (.slice none 0 0) [] 0 q A := ⟨World.ownsRow_nil _ _ _ _, fun i h => by omega, fun i j _ h => by omega, Below.refl _ _⟩
theorem own_lt {w : World} {base e size n b c q : Nat} {xs : List Value} (h : w.ownsRow base e size (.slice (some ⟨b, 0, none⟩) q c) n xs) : base ≤ b ∧ b < w.heap.size := h.lt b rfl
theorem IPicked.step {w0 w W w1 : World} {d d1 : Value} {vs : List Value} {k q b c : Nat} {A : M} (h : IPicked w0 w d vs k q A) (hb : Below w.heap.size w W) (hv : W.ownsRow w.heap.size 3 1 (.slice (some ⟨b, 0, none⟩) q c) q (iv (rw1 q (A k))))
    (ho : w1.ownsRow w0.heap.size 50 1 d1 (k + 1) (vs ++ [.slice (some ⟨b, 0, none⟩) q c])) (hB : Below w0.heap.size w0 w1) (hg : W.grownBy w1 d.ownBlock) : IPicked w0 w1 d1 (vs ++ [.slice (some ⟨b, 0, none⟩) q c]) (k + 1) q A := by
  have hvl : vs.length = k := by have := h.own.1; omega
  have hlo := h.below.size
  refine ⟨ho, fun i hi => ?_, fun i j hij hj bi bj ci cj h1 h2 => ?_, hB⟩
  · by_cases e : i < k
    · obtain ⟨b', c', hu, hlb, hou⟩ := h.row i e
      exact ⟨b', c', by rw [List.getElem?_append_left (by omega)]; exact hu, hlb, own_grown (own_below hou hb) hg (own_ne_own (own_below hou hb) (own_below h.own hb) (by decide))⟩
    · obtain rfl : i = k := by omega
      exact ⟨b, c, by rw [← hvl]; simp, Nat.le_trans hlo (own_lt hv).1, own_mono (own_grown hv hg (own_ne_own hv (own_below h.own hb) (by decide))) (Nat.zero_le _)⟩
  · rw [List.getElem?_append_left (by omega)] at h1
    by_cases e : j < k
    · rw [List.getElem?_append_left (by omega)] at h2
      exact h.inj i j hij e bi bj ci cj h1 h2
    · obtain rfl : j = k := by omega
      have h3 : (vs ++ [Value.slice (some ⟨b, 0, none⟩) q c])[j]? = some (.slice (some ⟨b, 0, none⟩) q c) := by rw [← hvl]; simp
      rw [h3] at h2
      obtain ⟨b', c', hu, _, hou⟩ := h.row i (by omega)
      rw [hu] at h1
      have e1 : b' = bi := by simpa using congrArg (fun v : Option Value => match v with | some (.slice (some a) _ _) => a.block | _ => 0) h1
      have e2 : b = bj := by simpa using congrArg (fun v : Option Value => match v with | some (.slice (some a) _ _) => a.block | _ => 0) h2
      have l1 := (own_lt hou).2
      have l2 := (own_lt hv).1
      omega
theorem IPicked.im {w0 w : World} {d : Value} {vs : List Value} {k q : Nat} {A : M} (h : IPicked w0 w d vs k q A) (hk : 0 < k) : ∃ g c bs cp, d = .slice (some ⟨g, 0, none⟩) k c ∧ IM w w0.heap.size g k q bs cp A := by
  rcases h.own.2 with ⟨_, h0⟩ | ⟨g, cap, cur, rfl, hb, hg, hc, _⟩
  · omega
  have hr : ∀ i, i < k → ∃ p : Nat × Nat, vs[i]? = some (.slice (some ⟨p.1, 0, none⟩) q p.2) ∧ w0.heap.size ≤ p.1 ∧ w.ownsRow 0 3 1 (.slice (some ⟨p.1, 0, none⟩) q p.2) q (iv (rw1 q (A i))) := fun i hi => by
    obtain ⟨b, c, h1, h2, h3⟩ := h.row i hi
    exact ⟨(b, c), h1, h2, h3⟩
  have hp : ∀ i, ∃ p : Nat × Nat, i < k → vs[i]? = some (.slice (some ⟨p.1, 0, none⟩) q p.2) ∧ w0.heap.size ≤ p.1 ∧ w.ownsRow 0 3 1 (.slice (some ⟨p.1, 0, none⟩) q p.2) q (iv (rw1 q (A i))) := fun i => by
    by_cases hi : i < k
    · obtain ⟨p, h1⟩ := hr i hi; exact ⟨p, fun _ => h1⟩
    · exact ⟨(0, 0), fun h => absurd h hi⟩
  obtain ⟨f, hf⟩ := Classical.axiomOfChoice hp
  refine ⟨g, cap, fun i => (f i).1, fun i => (f i).2, rfl, fun i hi => ?_, fun i => Lib.frozen_of_heap hg i, ?_, fun i hi j hj => ?_, fun i hi j => ?_, fun i hi => (own_lt (hf i hi).2.2).2, fun i j hi hj e => ?_, fun i hi e => ?_, hb, fun i hi => (hf i hi).2.1⟩
  · have hcl := h.own.cells (g := g) rfl i _ (hf i hi).1
    have ha : (⟨g, 0, none⟩ : Addr).add i = ⟨g, i, none⟩ := by unfold Addr.add; split <;> simp_all
    rwa [ha] at hcl
  · rcases Nat.lt_or_ge g w.heap.size with h1 | h1
    · exact h1
    · rw [Array.getElem?_eq_none h1] at hg; cases hg
  · have hcl := (hf i hi).2.2.cells (g := (f i).1) rfl j (.int .i64 (((A i j).v : Nat) : Int)) (by simp [iv, rw1, hj])
    have ha : (⟨(f i).1, 0, none⟩ : Addr).add j = ⟨(f i).1, j, none⟩ := by unfold Addr.add; split <;> simp_all
    rwa [ha] at hcl
  · rcases (hf i hi).2.2.2 with ⟨h1, _⟩ | ⟨g', cap', cur', h1, _, hg', _⟩
    · cases h1
    · have : (f i).1 = g' := by simpa using congrArg (fun v : Value => match v with | .slice (some a) _ _ => a.block | _ => 0) h1
      rw [this]
      exact Lib.frozen_of_heap hg' j
  · rcases Nat.lt_trichotomy i j with hij | hij | hij
    · exact absurd e (h.inj i j hij hj _ _ _ _ (hf i hi).1 (hf j hj).1)
    · exact hij
    · exact absurd e.symm (h.inj j i hij hi _ _ _ _ (hf j hj).1 (hf i hi).1)
  · have h1 := own_ne_own (hf i hi).2.2 h.own (by decide)
    rcases h1 with h1 | h1
    · simp [Value.ownBlock] at h1
    · exact h1 (by simp [Value.ownBlock, e])
end Go.Proofs.Ytalinkpfklhgaaa.RowsW
