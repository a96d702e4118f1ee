/- A region that draws its order, by an invariant over what has come up. -/
import Derived.Deep.RegionHeld3
set_option linter.unusedVariables false
set_option linter.unusedSimpArgs false
namespace Go.Proofs.Ytmlemichkeomjaa.RegI
section
variable {P : Program} {ops : Array Oper} {Q : Exit → Act → World → Prop}
def inOrder (ops : Array Oper) : Bool := (List.range ops.size).all fun i => match ops[i]? with
  | some o => o.after.all fun e => decide (e.on < i)
  | none => true
theorem inOrder_spec (h : inOrder ops = true) {i : Nat} {o : Oper} (ho : ops[i]? = some o) : ∀ e ∈ o.after, e.on < i := fun e he => by
  have hi : i < ops.size := (Array.getElem?_eq_some_iff.1 ho).1
  have h1 := List.all_eq_true.1 h i (List.mem_range.2 hi)
  rw [ho] at h1
  obtain ⟨j, hj, rfl⟩ := Array.mem_iff_getElem.1 he
  have h2 := Array.all_eq_true.1 h1 j hj
  exact of_decide_eq_true h2
/-- Nothing may come up: all has. -/
theorem all_up (ho : inOrder ops = true) {md : Region.Mode} {l : Array Bool} (hr : Region.ready md ops l = []) (hl : l.size = ops.size) : ∀ i, i < ops.size → l.getD i false = true := by
  intro i
  induction i using Nat.strongRecOn with
  | ind i ih =>
    intro hi
    by_cases h : l.getD i false = true
    · exact h
    · exfalso
      have hf : l.getD i true = false := by
        have hlt : i < l.size := by omega
        simp [hlt] at h ⊢
        exact h
      have hm : i ∈ Region.ready md ops l := mem_ready.2 ⟨hf, ops[i], Array.getElem?_eq_getElem hi, fun e he _ => ih e.on (inOrder_spec ho (Array.getElem?_eq_getElem hi) e he) (by
        have := inOrder_spec ho (Array.getElem?_eq_getElem hi) e he
        omega)⟩
      rw [hr] at hm
      exact absurd hm List.not_mem_nil
theorem none_left {l : Array Bool} (h : l.toList.count false = 0) (hl : l.size = ops.size) {md : Region.Mode} : Region.ready md ops l = [] := by
  rw [List.eq_nil_iff_forall_not_mem]
  intro i hi
  obtain ⟨h1, _⟩ := mem_ready.1 hi
  have hlt : i < l.size := by
    rcases Nat.lt_or_ge i l.size with h2 | h2
    · exact h2
    · simp [Array.getElem?_eq_none h2] at h1
  have h3 : false ∈ l.toList := by
    have : l[i] = false := by simpa [hlt] using h1
    rw [← this]
    exact Array.getElem_mem_toList hlt
  exact absurd (List.count_pos_iff.2 h3) (by omega)
theorem count_up {l : Array Bool} {i : Nat} (h : l.getD i true = false) : (l.setIfInBounds i true).toList.count false + 1 = l.toList.count false := by
  have hlt : i < l.size := by
    rcases Nat.lt_or_ge i l.size with h2 | h2
    · exact h2
    · simp [Array.getElem?_eq_none h2] at h
  have hv : l.toList[i]'(by simpa using hlt) = false := by simpa [hlt] using h
  have hp : 0 < l.toList.count false := List.count_pos_iff.2 (by rw [← hv]; exact List.getElem_mem _)
  rw [Array.toList_setIfInBounds, List.count_set (by simpa using hlt), hv]
  simp only [beq_self_eq_true, if_true, show (true == false) = false from rfl, Bool.false_eq_true, if_false]
  omega
theorem any_inv (ho : inOrder ops = true) {md : Region.Mode} (I : Array Bool → Act → World → Prop)
    (hs : ∀ l a w i o, I l a w → l.size = ops.size → l.getD i true = false → ops[i]? = some o → (∀ e ∈ o.after, Region.binds md e = true → l.getD e.on false = true) → Region.wanted o (yielded ops a.tmps) = true ∧ ∀ K : Act → World → Prop, Go.Shut (∀ a w, I (l.setIfInBounds i true) a w → K a w) → Oper.wp P o a w K Q)
    (hf : ∀ l a w, l.size = ops.size → (∀ i, i < ops.size → l.getD i false = true) → I l a w → Q .normal a w) : ∀ (n : Nat) (l : Array Bool) (a : Act) (w : World), l.size = ops.size → l.toList.count false ≤ n → I l a w → wpAny P md ops Q n l a w := by
  intro n
  induction n with
  | zero =>
    intro l a w hl hc hI
    have hr := none_left (ops := ops) (md := md) (show l.toList.count false = 0 by omega) hl
    exact ⟨hr, hf l a w hl (all_up ho hr hl) hI⟩
  | succ n ih =>
    intro l a w hl hc hI
    refine ⟨fun hr => hf l a w hl (all_up ho hr hl) hI, fun i hi => ?_⟩
    obtain ⟨h1, o, ho2, h3⟩ := mem_ready.1 hi
    obtain ⟨hw, hk⟩ := hs l a w i o hI hl h1 ho2 h3
    have hc2 := count_up h1
    exact wpOp_step ho2 fun K hK => by
      rw [if_pos hw]
      exact hk K (fun a' w' h' => hK a' w' (ih _ _ _ (by simpa using hl) (by omega) h'))
theorem wp_region_inv {id : Nat} {a : Act} {w : World} (hm : P.follows .mixedOrders = true) (ho : inOrder ops = true) (I : Array Bool → Act → World → Prop) (h0 : I (Array.replicate ops.size false) a w.drew)
    (hs : ∀ l a w i o, I l a w → l.size = ops.size → l.getD i true = false → ops[i]? = some o → (∀ e ∈ o.after, Region.binds .any e = true → l.getD e.on false = true) → Region.wanted o (yielded ops a.tmps) = true ∧ ∀ K : Act → World → Prop, Go.Shut (∀ a w, I (l.setIfInBounds i true) a w → K a w) → Oper.wp P o a w K Q)
    (hf : ∀ l a w, l.size = ops.size → (∀ i, i < ops.size → l.getD i false = true) → I l a w → Q .normal a w) : (Code.region id ops true).wp P Q a w :=
  wp_region_any hm (any_inv ho I hs hf _ _ _ _ (by simp) (by rw [Array.toList_replicate, List.count_replicate_self]; exact Nat.le_refl _) h0)
end
end Go.Proofs.Ytmlemichkeomjaa.RegI
