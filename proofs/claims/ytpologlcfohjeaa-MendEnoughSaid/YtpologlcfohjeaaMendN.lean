/- What a plan is, in plain words: safe, enough. -/
import Derived.Test.YtpologlcfohjeaaMendM
set_option linter.unusedVariables false
set_option linter.unusedSimpArgs false
namespace Go.Proofs.Ytpologlcfohjeaa.MendW
open Go.RowKit Go.Proofs.Ytpologlcfohjeaa.Base
/-- What holds of a move. -/
structure MvOk (live : List Bool) (hv : List (List Bool)) (hm : List (List Int)) (k i : Nat) (X : List (List Int)) (m : Mv) : Prop where
  part_lt : m.part < i
  pres : k ≤ (presOf hv live hm m.part).length
  fl : m.fl = castL ((presOf hv live hm m.part).take k)
  at_lt : m.at_ < (hm.getD m.part []).length
  at_no : m.at_ ∉ presOf hv live hm m.part
  d1 : 1 ≤ m.dst
  d2 : m.dst ≤ live.length
  d3 : live.getD (m.dst - 1) false = true
  d4 : ((m.dst : Nat) : Int) ∉ (presOf hv live hm m.part).map fun j => (hm.getD m.part []).getD j 0
  got : (X.getD m.part [])[m.at_]? = some ((m.dst : Nat) : Int)
section
variable {live : List Bool} {hv : List (List Bool)} {hm : List (List Int)} {k i : Nat} {ms : List Mv} {ls : List Int} {X : List (List Int)}
theorem PlanRel.moves (h : PlanRel live hv hm k i ms ls X) (hi : i ≤ hm.length) : ∀ m, m ∈ ms → MvOk live hv hm k i X m := by
  induction h with
  | zero => intro m hm; cases hm
  | lost _ _ ih =>
    intro m hm
    have h := ih (by omega) m hm
    exact ⟨by have := h.part_lt; omega, h.pres, h.fl, h.at_lt, h.at_no, h.d1, h.d2, h.d3, h.d4, h.got⟩
  | @part i ms ms1 ls X hr hk hfl hp ih =>
    intro m hm9
    have hf := hp.facts
    have hX := hr.len
    rcases List.mem_append.1 hm9 with h1 | h1
    · have h := ih (by omega) m h1
      have hlt := h.part_lt
      exact ⟨by omega, h.pres, h.fl, h.at_lt, h.at_no, h.d1, h.d2, h.d3, h.d4, by rw [List.getD_eq_getElem?_getD, List.getElem?_set_ne (by omega), ← List.getD_eq_getElem?_getD]; exact h.got⟩
    · obtain ⟨e1, e2⟩ := hfl m h1
      have hx : (m.at_, m.dst) ∈ ms1.map fun m => (m.at_, m.dst) := List.mem_map.2 ⟨m, h1, rfl⟩
      obtain ⟨q1, q2, q3, q4, q5, q6⟩ := hf.mem _ hx
      dsimp only at q1 q2 q3 q4 q5 q6
      subst e1
      refine ⟨by omega, hk, e2, q1, q2, q3, q4, q5, q6, ?_⟩
      rw [List.getD_eq_getElem?_getD, List.getElem?_set_self (by omega)]
      exact hf.get _ _ hx q1
theorem PlanRel.pw (h : PlanRel live hv hm k i ms ls X) (hi : i ≤ hm.length) : ms.Pairwise fun x y => x.part = y.part → x.at_ ≠ y.at_ ∧ x.dst ≠ y.dst := by
  induction h with
  | zero => exact List.Pairwise.nil
  | lost _ _ ih => exact ih (by omega)
  | @part i ms ms1 ls X hr hk hfl hp ih =>
    rw [List.pairwise_append]
    refine ⟨ih (by omega), ?_, fun x hx y hy e => ?_⟩
    · have := hp.facts.pw
      rw [List.pairwise_map] at this
      exact this.imp (fun {a b} h (_ : a.part = b.part) => h)
    · have h1 := (hr.moves (by omega) x hx).part_lt
      have h2 := (hfl y hy).1
      omega
theorem PlanRel.lost_nil (h : PlanRel live hv hm k i ms ls X) : ls = [] ↔ ∀ j, j < i → k ≤ (presOf hv live hm j).length := by
  induction h with
  | zero => exact ⟨fun _ j h => by omega, fun _ => rfl⟩
  | @lost i _ ls _ _ hl ih =>
    constructor
    · intro h
      exact absurd h (by simp)
    · intro h
      have := h i (by omega)
      omega
  | @part i _ _ _ _ _ hk _ _ ih =>
    constructor
    · intro h j hj
      by_cases e : j = i
      · subst e; exact hk
      · exact ih.1 h j (by omega)
    · intro h
      exact ih.2 fun j hj => h j (by omega)
theorem presOf_all {j : Nat} (h : (presOf hv live hm j).length = (hm.getD j []).length) : ∀ a, a < (hm.getD j []).length → a ∈ presOf hv live hm j := by
  intro a ha
  unfold presOf presK at h ⊢
  have h2 : ((List.range (hm.getD j []).length).filter fun a => hasB hv j a && livesB live ((hm.getD j []).getD a 0)).length = (List.range (hm.getD j []).length).length := by rw [h, List.length_range]
  have h3 := List.length_filter_eq_length_iff.1 h2
  exact List.mem_filter.2 ⟨List.mem_range.2 ha, h3 a (List.mem_range.2 ha)⟩
theorem PlanRel.none_of (h : PlanRel live hv hm k i ms ls X) (hi : i ≤ hm.length) (ha : ∀ j, j < i → (presOf hv live hm j).length = (hm.getD j []).length) : ms = [] ∧ X = hm := by
  induction h with
  | zero => exact ⟨rfl, rfl⟩
  | lost _ _ ih => exact ih (by omega) fun j hj => ha j (by omega)
  | @part i ms ms1 ls X hr hk hfl hp ih =>
    obtain ⟨e1, e2⟩ := ih (by omega) fun j hj => ha j (by omega)
    have hP := hp.none_of (presOf_all (ha i (by omega)))
    have : ms1 = [] := by simpa using hP
    subst this
    refine ⟨by rw [e1]; rfl, ?_⟩
    rw [List.map_nil, show X.set i (ap (hm.getD i []) []) = X from set_same (hr.ahead i (Nat.le_refl _)) (by rw [hr.len]; omega)]
    exact e2
theorem PlanRel.rows (h : PlanRel live hv hm k i ms ls X) (hi : i ≤ hm.length) : ∀ j, j < i → k ≤ (presOf hv live hm j).length → ∃ P, Proc live ((presOf hv live hm j).map fun a => (hm.getD j []).getD a 0) (presOf hv live hm j) (hm.getD j []).length P ∧ X.getD j [] = ap (hm.getD j []) P := by
  induction h with
  | zero => intro j hj; omega
  | @lost i _ _ _ _ hl ih =>
    intro j hj hk
    by_cases e : j = i
    · subst e; omega
    · exact ih (by omega) j (by omega) hk
  | @part i ms ms1 ls X hr hk hfl hp ih =>
    intro j hj hk2
    by_cases e : j = i
    · subst e
      exact ⟨_, hp, by rw [List.getD_eq_getElem?_getD, List.getElem?_set_self (by rw [hr.len]; omega)]; rfl⟩
    · obtain ⟨P, h1, h2⟩ := ih (by omega) j (by omega) hk2
      exact ⟨P, h1, by rw [List.getD_eq_getElem?_getD, List.getElem?_set_ne (by omega), ← List.getD_eq_getElem?_getD]; exact h2⟩
end
theorem freeN_any (live : List Bool) (T : List Int) (x : Int) : freeN live T ≤ freeN live (T ++ [x]) + 1 := by
  by_cases h : ∃ r : Nat, r ≠ 0 ∧ x = (r : Nat) ∧ r ≤ live.length ∧ live.getD (r - 1) false = true ∧ ((r : Nat) : Int) ∉ T
  · obtain ⟨r, h0, rfl, h1, h2, h3⟩ := h
    have := freeN_take h0 h1 h2 h3
    omega
  · have : freeN live (T ++ [x]) = freeN live T := by
      unfold freeN
      congr 1
      refine List.filter_congr fun w hw => ?_
      have hw2 := List.mem_range.1 hw
      unfold freeF
      cases hl : live.getD w false with
      | false => simp
      | true =>
        by_cases h3 : ((w : Nat) : Int) + 1 ∈ T
        · simp [h3]
        · have : ((w : Nat) : Int) + 1 ≠ x := fun e => h ⟨w + 1, by omega, by rw [← e]; simp, by omega, by simpa using hl, by rw [Int.natCast_add]; exact h3⟩
          simp [h3, this]
    omega
theorem freeN_nil (live : List Bool) : freeN live [] = liveN live := by
  have h : ∀ n, n ≤ live.length → ((List.range n).filter (freeF live [])).length = liveN (live.take n) := by
    intro n
    induction n with
    | zero => intro _; simp [liveN]
    | succ n ih =>
      intro hn
      rw [List.range_succ, List.filter_append, List.length_append, ih (by omega), liveN_take (by omega)]
      congr 1
      have e : freeF live [] n = live[n]'(by omega) := by
        unfold freeF
        rw [List.getD_eq_getElem?_getD, List.getElem?_eq_getElem (by omega)]
        simp
      cases hb : live[n]'(by omega) with
      | false => rw [hb] at e; simp [e]
      | true => rw [hb] at e; simp [e]
  have := h live.length (Nat.le_refl _)
  rw [List.take_length] at this
  exact this
theorem freeN_base (live : List Bool) (base : List Int) : liveN live ≤ freeN live base + base.length := by
  have h : ∀ (B T : List Int), freeN live T ≤ freeN live (T ++ B) + B.length := by
    intro B
    induction B with
    | nil => intro T; simp
    | cons x B ih =>
      intro T
      have h1 := freeN_any live T x
      have h2 := ih (T ++ [x])
      rw [List.append_assoc, List.singleton_append] at h2
      rw [List.length_cons]
      omega
  have := h base []
  rw [freeN_nil, List.nil_append] at this
  exact this
theorem pw_mem {P : List (Nat × Nat)} (h : P.Pairwise fun x y => x.1 ≠ y.1 ∧ x.2 ≠ y.2) : ∀ x, x ∈ P → ∀ y, y ∈ P → x.1 ≠ y.1 → x.2 ≠ y.2 := by
  induction h with
  | nil => intro x hx; cases hx
  | @cons a l ha _ ih =>
    intro x hx y hy hne
    rcases List.mem_cons.1 hx with e1 | hx1
    · rcases List.mem_cons.1 hy with e2 | hy1
      · exact absurd (by rw [e1, e2]) hne
      · rw [e1]; exact (ha y hy1).2
    · rcases List.mem_cons.1 hy with e2 | hy1
      · rw [e2]; exact fun e => (ha x hx1).2 e.symm
      · exact ih x hx1 y hy1 hne
theorem absent_len {hv : List (List Bool)} {live : List Bool} {row : List Int} {p n : Nat} : (absent (presK hv live row p n) n).length + (presK hv live row p n).length = n := by
  have h : absent (presK hv live row p n) n = (List.range n).filter fun a => !(hasB hv p a && livesB live (row.getD a 0)) := by
    unfold absent
    refine List.filter_congr fun a ha => ?_
    unfold presK
    cases hb : (hasB hv p a && livesB live (row.getD a 0)) with
    | true =>
      refine decide_eq_false fun hn => hn ?_
      exact List.mem_filter.2 ⟨ha, by simpa using hb⟩
    | false =>
      simp only [Bool.not_false, decide_eq_true_eq]
      intro hm
      have := (List.mem_filter.1 hm).2
      rw [hb] at this
      cases this
  rw [h]
  unfold presK
  have := List.length_eq_countP_add_countP (fun a => hasB hv p a && livesB live (row.getD a 0)) (l := List.range n)
  rw [List.length_range, List.countP_eq_length_filter, List.countP_eq_length_filter] at this
  have e : (List.range n).filter (fun a => decide ¬(hasB hv p a && livesB live (row.getD a 0)) = true) = (List.range n).filter fun a => !(hasB hv p a && livesB live (row.getD a 0)) := List.filter_congr fun a _ => by
    cases (hasB hv p a && livesB live (row.getD a 0)) <;> rfl
  rw [e] at this
  omega
/-- Where live workers are enough all places are with live workers that differ. -/
theorem Proc.full {hv : List (List Bool)} {live : List Bool} {row : List Int} {p : Nat} {P : List (Nat × Nat)} (h : Proc live ((presK hv live row p row.length).map fun a => row.getD a 0) (presK hv live row p row.length) row.length P)
    (hne : ∀ i (h : i < row.length), ∀ j (hj : j < i), row[i] ≠ row[j]'(by omega)) (hl : row.length ≤ liveN live) (h16 : live.length ≤ 16) :
    Homely (ap row P) row.length ∧ ∀ a, a < row.length → livesB live ((ap row P).getD a 0) = true := by
  obtain ⟨c1, c2, c3, c4⟩ := h.count
  have hf := h.facts
  have hb := freeN_base live ((presK hv live row p row.length).map fun a => row.getD a 0)
  rw [List.length_map] at hb
  have ha := absent_len (hv := hv) (live := live) (row := row) (p := p) (n := row.length)
  have hP : P.map (·.1) = absent (presK hv live row p row.length) row.length := by
    apply c4
    rcases Nat.lt_or_ge P.length (absent (presK hv live row p row.length) row.length).length with h1 | h1
    · have := c3 h1; omega
    · omega
  have hval : ∀ a, a < row.length → (a ∈ presK hv live row p row.length ∧ (ap row P).getD a 0 = row.getD a 0 ∧ livesB live (row.getD a 0) = true) ∨ (∃ x, x ∈ P ∧ x.1 = a ∧ (ap row P).getD a 0 = ((x.2 : Nat) : Int)) := fun a hal => by
    by_cases hm : a ∈ presK hv live row p row.length
    · refine .inl ⟨hm, ?_, (presK_lt hv live row p row.length a hm).2.2⟩
      rw [List.getD_eq_getElem?_getD, hf.old row a fun x hx e => (hf.mem x hx).2.1 (e ▸ hm), ← List.getD_eq_getElem?_getD]
    · have : a ∈ P.map (·.1) := by rw [hP]; exact List.mem_filter.2 ⟨List.mem_range.2 hal, by simpa using hm⟩
      obtain ⟨x, hx, rfl⟩ := List.mem_map.1 this
      exact .inr ⟨x, hx, rfl, by rw [List.getD_eq_getElem?_getD, hf.get row x hx hal]; rfl⟩
  have hlive : ∀ a, a < row.length → livesB live ((ap row P).getD a 0) = true := fun a hal => by
    rcases hval a hal with ⟨_, e, h1⟩ | ⟨x, hx, _, e⟩
    · rw [e]; exact h1
    · obtain ⟨_, _, q3, _, q5, _⟩ := hf.mem x hx
      rw [e]
      unfold livesB
      rw [show (((x.2 : Nat) : Int) - 1).toNat = x.2 - 1 by omega, q5]
      simp
      omega
  have hgd : ∀ a (h : a < (ap row P).length), (ap row P)[a] = (ap row P).getD a 0 := fun a h => by rw [List.getD_eq_getElem?_getD, List.getElem?_eq_getElem h]; rfl
  have hgr : ∀ a (h : a < row.length), row[a] = row.getD a 0 := fun a h => by rw [List.getD_eq_getElem?_getD, List.getElem?_eq_getElem h]; rfl
  refine ⟨⟨by rw [ap_length], fun a hal => ?_, fun a hal b hb' => ?_⟩, hlive⟩
  · rw [ap_length] at hal
    have := livesB_le (hlive a hal)
    rw [hgd]
    omega
  · have hal2 : a < row.length := by rw [ap_length] at hal; exact hal
    rw [hgd, hgd]
    rcases hval a hal2 with ⟨m1, e1, _⟩ | ⟨x, hx, ex, e1⟩
    · rcases hval b (by omega) with ⟨m2, e2, _⟩ | ⟨y, hy, ey, e2⟩
      · rw [e1, e2, ← hgr a hal2, ← hgr b (by omega)]
        exact hne a hal2 b hb'
      · rw [e1, e2]
        intro e
        exact (hf.mem y hy).2.2.2.2.2 (List.mem_map.2 ⟨a, m1, e⟩)
    · rcases hval b (by omega) with ⟨m2, e2, _⟩ | ⟨y, hy, ey, e2⟩
      · rw [e1, e2]
        intro e
        exact (hf.mem x hx).2.2.2.2.2 (List.mem_map.2 ⟨b, m2, e.symm⟩)
      · rw [e1, e2]
        have := pw_mem hf.pw x hx y hy (by omega)
        omega
end Go.Proofs.Ytpologlcfohjeaa.MendW
