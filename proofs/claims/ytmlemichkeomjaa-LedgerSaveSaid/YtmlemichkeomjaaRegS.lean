/- Regions that draw their order, with operations that are not wanted: S holds all the way. -/
import Derived.Test.YtmlemichkeomjaaRegG
set_option linter.unusedVariables false
set_option linter.unusedSimpArgs false
namespace Go.Proofs.Ytmlemichkeomjaa.RegG
section
variable {P : Program} {ops : Array Oper} {Q : Exit → Act → World → Prop} {md : Region.Mode} {S : World → Prop} {c : Array Bool → Bool}
def always (_ : Array Bool) : Bool := true
theorem wpG.take (i k : Nat) {o : Oper} {v : Value} {n : Nat} {l : Array Bool} {a : Act} {w : World} (ho : ops[i]? = some o) (hB : okB md ops l i k = true) (hQ : ∀ k a w, Q (.panic k) (a.put o.dst v) w → Q (.panic k) a w)
    (hy : ∀ w, S w → (execOp a.eval o).run P w = .ok (.value v) w) (hw : Region.wanted o (yielded ops a.tmps) = true) (hS : S w)
    (h : wpG P md ops Q S always n (l.setIfInBounds i true) (a.put o.dst v) w) : wpG P md ops Q S always (n + 1) l a w := by
  simp only [okB, Bool.and_eq_true, decide_eq_true_eq, Bool.not_eq_true'] at hB
  obtain ⟨⟨⟨⟨⟨h1, h2⟩, h3⟩, h4⟩, h5⟩, h6⟩ := hB
  obtain ⟨ok, hk, hwk⟩ := waits_spec h4
  exact wpG.first (T := S) ho hk h6 hwk (fun l hl w hc => hc rfl) (fun _ => rfl) (Region.noSelect_spec h1) hQ n l a w h5 (Region.free_spec ho h2) (by simpa using h3) (.inl ⟨hw, hy⟩) hS (fun _ => hS) h
/-- An operation that is not wanted is passed over. -/
theorem wpG.skip (i k : Nat) {o : Oper} {n : Nat} {l : Array Bool} {a : Act} {w : World} (ho : ops[i]? = some o) (hB : okB md ops l i k = true) (hQ : ∀ k a w, Q (.panic k) (a.put o.dst undef) w → Q (.panic k) a w)
    (hw : Region.wanted o (yielded ops a.tmps) = false) (hS : S w)
    (h : wpG P md ops Q S always n (l.setIfInBounds i true) (a.put o.dst undef) w) : wpG P md ops Q S always (n + 1) l a w := by
  simp only [okB, Bool.and_eq_true, decide_eq_true_eq, Bool.not_eq_true'] at hB
  obtain ⟨⟨⟨⟨⟨h1, h2⟩, h3⟩, h4⟩, h5⟩, h6⟩ := hB
  obtain ⟨ok, hk, hwk⟩ := waits_spec h4
  exact wpG.first (T := S) ho hk h6 hwk (fun l hl w hc => hc rfl) (fun _ => rfl) (Region.noSelect_spec h1) hQ n l a w h5 (Region.free_spec ho h2) (by simpa using h3) (.inr ⟨hw, rfl⟩) hS (fun _ => hS) h
theorem wpG.step (j : Nat) {o : Oper} {n : Nat} {l : Array Bool} {a : Act} {w : World} (hr : Region.ready md ops l = [j]) (ho : ops[j]? = some o) (hw : Region.wanted o (yielded ops a.tmps) = true)
    (h : ∀ K : Act → World → Prop, Go.Shut (∀ a w, S w → wpG P md ops Q S always n (l.setIfInBounds j true) a w → K a w) → Oper.wp P o a w K Q) : wpG P md ops Q S always (n + 1) l a w := by
  refine ⟨fun e => absurd (hr.symm.trans e) (by simp), fun i hi => ?_⟩
  rw [hr] at hi
  obtain rfl := List.mem_singleton.1 hi
  exact wpOp_step ho fun K hK => by rw [if_pos hw]; exact h K (fun a w h1 h2 => hK a w ⟨fun _ => h1, h2⟩)
theorem wpG.end_ {l : Array Bool} {a : Act} {w : World} (hr : Region.ready md ops l = []) (h : Q .normal a w) : ∀ n, wpG P md ops Q S always n l a w
  | 0 => ⟨hr, h⟩
  | _ + 1 => ⟨fun _ => h, by rw [hr]; simp⟩
theorem wp_region_s {id : Nat} {a : Act} {w : World} (S : World → Prop) (hm : P.follows .mixedOrders = true) (h : wpG P .any ops Q S always ops.size (Array.replicate ops.size false) a w.drew) : (Code.region id ops true).wp P Q a w :=
  wp_region_any hm (wpG.any _ _ _ _ h)
end
end Go.Proofs.Ytmlemichkeomjaa.RegG
