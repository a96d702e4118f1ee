/- A region that draws its order and stores, at its end, where it loads: a load is taken first as long as loads are left. -/
import Derived.Deep.RegionHeld3
set_option linter.unusedVariables false
set_option linter.unusedSimpArgs false
namespace Go.Proofs.Ytmlemichkeomjaa.RegG
section
variable {P : Program} {ops : Array Oper} {Q : Exit → Act → World → Prop} {md : Region.Mode} {S : World → Prop} {c : Array Bool → Bool}
/-- Whatever comes up next; S is shown as long as c says so of what has come up. -/
def wpG (P : Program) (md : Region.Mode) (ops : Array Oper) (Q : Exit → Act → World → Prop) (S : World → Prop) (c : Array Bool → Bool) : Nat → Array Bool → Act → World → Prop
  | 0, l, a, w => Region.ready md ops l = [] ∧ Q .normal a w
  | n + 1, l, a, w => (Region.ready md ops l = [] → Q .normal a w) ∧
      ∀ i ∈ Region.ready md ops l, wpOp P ops Q i (fun a' w' => (c (l.setIfInBounds i true) = true → S w') ∧ wpG P md ops Q S c n (l.setIfInBounds i true) a' w') a w
theorem wpG.any : ∀ (n : Nat) (l : Array Bool) (a : Act) (w : World), wpG P md ops Q S c n l a w → wpAny P md ops Q n l a w := by
  intro n
  induction n with
  | zero => exact fun _ _ _ h => h
  | succ n ih => exact fun l a w h => ⟨h.1, fun i hi => wpOp_mono (fun a' w' h2 => ih _ _ _ h2.2) (h.2 i hi)⟩
theorem unset {l : Array Bool} {i j : Nat} (hij : j ≠ i) (h : l.getD i true = false) : (l.setIfInBounds j true).getD i true = false := by rw [getD_set_ne true hij]; exact h
theorem set_comm (l : Array Bool) {i j : Nat} (h : i ≠ j) : (l.setIfInBounds i true).setIfInBounds j true = (l.setIfInBounds j true).setIfInBounds i true := Array.setIfInBounds_comm _ _ h
/-- An operation may be taken first, where another one waits for it, and as long as that one is left its value is what it is. -/
theorem wpG.first {T : World → Prop} {i k : Nat} {o ok : Oper} {v : Value} (ho : ops[i]? = some o) (hk : ops[k]? = some ok) (hki : k ≠ i) (hwk : ∃ e ∈ ok.after, Region.binds md e = true ∧ e.on = i) (hT : ∀ l : Array Bool, l.getD k true = false → ∀ w, (c l = true → S w) → T w)
    (hci : ∀ l : Array Bool, c (l.setIfInBounds i true) = c l) (hns : ∀ (j : Nat) (o : Oper) cs b, ops[j]? = some o → o.op ≠ .select cs b) (hQ : ∀ k a w, Q (.panic k) (a.put o.dst v) w → Q (.panic k) a w) : ∀ (n : Nat) (l : Array Bool) (a : Act) (w : World), l.getD k true = false →
    (∀ j oj, ops[j]? = some oj → j ≠ i → l.getD j true = false → (∀ e ∈ oj.after, Region.binds md e = true → e.on ≠ i) → o.apart ops oj = true) → i ∈ Region.ready md ops l → YieldsIf P ops T o v a → T w → (c (l.setIfInBounds i true) = true → S w) →
    wpG P md ops Q S c n (l.setIfInBounds i true) (a.put o.dst v) w → wpG P md ops Q S c (n + 1) l a w := by
  intro n
  induction n with
  | zero =>
    intro l a w _ _ hr hy hS hS2 H
    refine ⟨fun e => absurd hr (by rw [e]; exact List.not_mem_nil), fun j hj => ?_⟩
    by_cases e : j = i
    · subst e; exact hy.wpOp ho hS ⟨hS2, H⟩
    · have h2 := ready_mono hj e
      rw [H.1] at h2
      exact absurd h2 List.not_mem_nil
  | succ n ih =>
    intro l a w uk hap hr hy hS hS2 H
    refine ⟨fun e => absurd hr (by rw [e]; exact List.not_mem_nil), fun j hj => ?_⟩
    by_cases e : j = i
    · subst e; exact hy.wpOp ho hS ⟨hS2, H⟩
    · obtain ⟨uj, oj, hoj, aj⟩ := mem_ready.1 hj
      have ui := (mem_ready.1 hr).1
      have uf : l.getD i false = false := by
        rcases Nat.lt_or_ge i l.size with h | h
        · simp [h] at ui ⊢; exact ui
        · simp [Array.getElem?_eq_none h] at ui
      have wait : ∀ x ∈ oj.after, Region.binds md x = true → x.on ≠ i := fun x hx hb hi => by
        have h3 := aj x hx hb
        rw [hi, uf] at h3
        exact absurd h3 (by decide)
      have hjk : j ≠ k := fun e2 => by
        subst e2
        obtain rfl : oj = ok := Option.some.inj (hoj.symm.trans hk)
        obtain ⟨x, hx, hb, hi⟩ := hwk
        exact wait x hx hb hi
      have step := wpOp_putIf hoj (hap j oj hoj e uj wait) (fun cs b => hns i o cs b ho) (fun cs b => hns j oj cs b hoj) hQ hy (H.2 j (ready_mono hj e))
      refine wpOp_mono (fun a' w' h3 => ?_) step
      obtain ⟨y3, s3, g3⟩ := h3
      have uk2 : ((l.setIfInBounds i true).setIfInBounds j true).getD k true = false := unset hjk (unset (Ne.symm hki) uk)
      have hw : T w' := hT _ uk2 w' s3
      refine ⟨fun h4 => ?_, ih _ a' w' (unset hjk uk) (fun q oq hq hqi uq wq => hap q oq hq hqi (by
        by_cases ejq : j = q
        · subst ejq; exact uj
        · rwa [getD_set_ne true ejq] at uq) wq) (ready_mono hr (Ne.symm e)) y3 hw (by rw [set_comm _ e]; exact s3) (by rw [set_comm _ e]; exact g3)⟩
      exact s3 (by rw [set_comm _ (Ne.symm e), hci]; exact h4)
/-- Some of the operations ks are left. -/
def left (ks : List Nat) (l : Array Bool) : Bool := ks.any fun k => !l.getD k true
theorem left_of {ks : List Nat} {k : Nat} (hk : k ∈ ks) {l : Array Bool} (h : l.getD k true = false) : left ks l = true := List.any_eq_true.2 ⟨k, hk, by rw [h]; rfl⟩
theorem left_set {ks : List Nat} {i : Nat} (hi : i ∉ ks) (l : Array Bool) : left ks (l.setIfInBounds i true) = left ks l := by
  unfold left
  induction ks with
  | nil => rfl
  | cons k ks ih =>
    rw [List.any_cons, List.any_cons, ih (fun h => hi (List.mem_cons_of_mem _ h)), getD_set_ne true (fun e => hi (by rw [e]; exact List.mem_cons_self))]
def waits (md : Region.Mode) (ops : Array Oper) (k i : Nat) : Bool := match ops[k]? with
  | some o => o.after.any fun e => Region.binds md e && e.on == i
  | none => false
theorem waits_spec {k i : Nat} (h : waits md ops k i = true) : ∃ ok, ops[k]? = some ok ∧ ∃ e ∈ ok.after, Region.binds md e = true ∧ e.on = i := by
  unfold waits at h
  split at h
  · rename_i o ho
    obtain ⟨e, he, hb⟩ := Array.any_eq_true'.1 h
    simp only [Bool.and_eq_true, beq_iff_eq] at hb
    exact ⟨o, ho, e, he, hb.1, hb.2⟩
  · cases h
/-- What may be asked of a step: number i may come up, nobody's temporaries are touched, number k waits for it and is left. -/
def okB (md : Region.Mode) (ops : Array Oper) (l : Array Bool) (i k : Nat) : Bool := Region.noSelect ops && Region.free md ops l i && (Region.ready md ops l).contains i && waits md ops k i && !l.getD k true && decide (k ≠ i)
theorem wpG.pure {ks : List Nat} (i k : Nat) {o : Oper} {v : Value} {n : Nat} {l : Array Bool} {a : Act} {w : World} (ho : ops[i]? = some o) (hB : okB md ops l i k = true) (hi : i ∉ ks) (hQ : ∀ k a w, Q (.panic k) (a.put o.dst v) w → Q (.panic k) a w)
    (hy : ∀ w, (execOp a.eval o).run P w = .ok (.value v) w) (hw : Region.wanted o (yielded ops a.tmps) = true) (hS : left ks (l.setIfInBounds i true) = true → S w)
    (h : wpG P md ops Q S (left ks) n (l.setIfInBounds i true) (a.put o.dst v) w) : wpG P md ops Q S (left ks) (n + 1) l a w := by
  simp only [okB, Bool.and_eq_true, decide_eq_true_eq, Bool.not_eq_true'] at hB
  obtain ⟨⟨⟨⟨⟨h1, h2⟩, h3⟩, h4⟩, h5⟩, h6⟩ := hB
  obtain ⟨ok, hk, hwk⟩ := waits_spec h4
  exact wpG.first (T := fun _ => True) ho hk h6 hwk (fun _ _ _ _ => trivial) (left_set hi) (Region.noSelect_spec h1) hQ n l a w h5 (Region.free_spec ho h2) (by simpa using h3) (.inl ⟨hw, fun w _ => hy w⟩) trivial hS h
theorem wpG.load {ks : List Nat} (i k : Nat) {o : Oper} {v : Value} {n : Nat} {l : Array Bool} {a : Act} {w : World} (ho : ops[i]? = some o) (hB : okB md ops l i k = true) (hi : i ∉ ks) (hk2 : k ∈ ks) (hQ : ∀ k a w, Q (.panic k) (a.put o.dst v) w → Q (.panic k) a w)
    (hy : ∀ w, S w → (execOp a.eval o).run P w = .ok (.value v) w) (hw : Region.wanted o (yielded ops a.tmps) = true) (hS : S w)
    (h : wpG P md ops Q S (left ks) n (l.setIfInBounds i true) (a.put o.dst v) w) : wpG P md ops Q S (left ks) (n + 1) l a w := by
  simp only [okB, Bool.and_eq_true, decide_eq_true_eq, Bool.not_eq_true'] at hB
  obtain ⟨⟨⟨⟨⟨h1, h2⟩, h3⟩, h4⟩, h5⟩, h6⟩ := hB
  obtain ⟨ok, hk, hwk⟩ := waits_spec h4
  exact wpG.first (T := S) ho hk h6 hwk (fun l hl w hc => hc (left_of hk2 hl)) (left_set hi) (Region.noSelect_spec h1) hQ n l a w h5 (Region.free_spec ho h2) (by simpa using h3) (.inl ⟨hw, hy⟩) hS (fun _ => hS) h
/-- One operation alone may come up. -/
theorem wpG.one {ks : List Nat} (j : Nat) {o : Oper} {n : Nat} {l : Array Bool} {a : Act} {w : World} (hr : Region.ready md ops l = [j]) (ho : ops[j]? = some o) (hw : Region.wanted o (yielded ops a.tmps) = true)
    (h : ∀ K : Act → World → Prop, Go.Shut (∀ a w, (left ks (l.setIfInBounds j true) = true → S w) → wpG P md ops Q S (left ks) n (l.setIfInBounds j true) a w → K a w) → Oper.wp P o a w K Q) : wpG P md ops Q S (left ks) (n + 1) l a w := by
  refine ⟨fun e => absurd (hr.symm.trans e) (by simp), fun i hi => ?_⟩
  rw [hr] at hi
  obtain rfl := List.mem_singleton.1 hi
  exact wpOp_step ho fun K hK => by rw [if_pos hw]; exact h K (fun a w h1 h2 => hK a w ⟨h1, h2⟩)
/-- One of two may come up. -/
theorem wpG.two {ks : List Nat} (i j : Nat) {oi oj : Oper} {n : Nat} {l : Array Bool} {a : Act} {w : World} (hr : Region.ready md ops l = [i, j]) (hoi : ops[i]? = some oi) (hoj : ops[j]? = some oj) (hwi : Region.wanted oi (yielded ops a.tmps) = true) (hwj : Region.wanted oj (yielded ops a.tmps) = true)
    (hi : ∀ K : Act → World → Prop, Go.Shut (∀ a w, (left ks (l.setIfInBounds i true) = true → S w) → wpG P md ops Q S (left ks) n (l.setIfInBounds i true) a w → K a w) → Oper.wp P oi a w K Q)
    (hj : ∀ K : Act → World → Prop, Go.Shut (∀ a w, (left ks (l.setIfInBounds j true) = true → S w) → wpG P md ops Q S (left ks) n (l.setIfInBounds j true) a w → K a w) → Oper.wp P oj a w K Q) : wpG P md ops Q S (left ks) (n + 1) l a w := by
  refine ⟨fun e => absurd (hr.symm.trans e) (by simp), fun q hq => ?_⟩
  rw [hr] at hq
  rcases List.mem_cons.1 hq with rfl | hq
  · exact wpOp_step hoi fun K hK => by rw [if_pos hwi]; exact hi K (fun a w h1 h2 => hK a w ⟨h1, h2⟩)
  · obtain rfl := List.mem_singleton.1 hq
    exact wpOp_step hoj fun K hK => by rw [if_pos hwj]; exact hj K (fun a w h1 h2 => hK a w ⟨h1, h2⟩)
theorem wpG.done {ks : List Nat} {l : Array Bool} {a : Act} {w : World} (hr : Region.ready md ops l = []) (h : Q .normal a w) : ∀ n, wpG P md ops Q S (left ks) n l a w
  | 0 => ⟨hr, h⟩
  | _ + 1 => ⟨fun _ => h, by rw [hr]; simp⟩
theorem wp_region_g {id : Nat} {a : Act} {w : World} (S : World → Prop) (ks : List Nat) (hm : P.follows .mixedOrders = true) (h : wpG P .any ops Q S (left ks) ops.size (Array.replicate ops.size false) a w.drew) : (Code.region id ops true).wp P Q a w :=
  wp_region_any hm (wpG.any _ _ _ _ h)
end
end Go.Proofs.Ytmlemichkeomjaa.RegG
