/- What is enough, in plain words; the rows of true. -/
import Derived.Test.YtpologlcfohjeaaMendS
set_option linter.unusedVariables false
set_option linter.unusedSimpArgs false
namespace Go.Proofs.Ytpologlcfohjeaa.MendW
open Go.RowKit Go.Proofs.Ytpologlcfohjeaa.Base
theorem rightB_yes {t a : Int} {n2 n3 n4 : Nat} {sz : List Int} {hm : List (List Int)} {parts m : Int} (h : rightB t a n2 n3 n4 sz hm parts m = true) :
    idB t = true ∧ idB a = true ∧ (n2 : Int) = parts ∧ (n3 : Int) = parts ∧ (n4 : Int) = parts ∧ sz.any badS = false ∧ ∀ l, l ∈ hm → Homely l m := by
  unfold rightB at h
  simp only [Bool.and_eq_true, decide_eq_true_eq, Bool.not_eq_true'] at h
  obtain ⟨⟨⟨⟨⟨⟨h1, h2⟩, h3⟩, h4⟩, h5⟩, h6⟩, h7⟩ := h
  refine ⟨h1, h2, h3, h4, h5, h6, fun l hl => ?_⟩
  apply Classical.byContradiction
  intro hn
  have : hm.any (badH m) = true := List.any_eq_true.2 ⟨l, hl, by unfold badH; rw [homelyD_false hn]; rfl⟩
  rw [h7] at this
  cases this
theorem rightB_mk {t a : Int} {n2 n3 n4 : Nat} {sz : List Int} {hm : List (List Int)} {parts m : Int} (h1 : idB t = true) (h2 : idB a = true) (h3 : (n2 : Int) = parts) (h4 : (n3 : Int) = parts) (h5 : (n4 : Int) = parts) (h6 : sz.any badS = false) (h7 : ∀ l, l ∈ hm → Homely l m) : rightB t a n2 n3 n4 sz hm parts m = true := by
  unfold rightB
  have : hm.any (badH m) = false := by
    rw [List.any_eq_false]
    intro l hl
    unfold badH
    rw [homelyD_true (h7 l hl)]
    simp
  rw [h1, h2, h6, this, decide_eq_true h3, decide_eq_true h4, decide_eq_true h5]
  rfl
theorem getD_mem {hm : List (List Int)} {j : Nat} (h : j < hm.length) : hm.getD j [] ∈ hm := by
  rw [List.getD_eq_getElem?_getD, List.getElem?_eq_getElem h]
  exact List.getElem_mem h
/-- Where live workers are enough and nothing is lost. -/
theorem PlanRel.enough {live : List Bool} {hv : List (List Bool)} {hm : List (List Int)} {k : Nat} {ms : List Mv} {ls : List Int} {X : List (List Int)} {n : Int} (h : PlanRel live hv hm k hm.length ms ls X) (hls : ls = []) (hh : ∀ l, l ∈ hm → Homely l n) (hl : n ≤ (liveN live : Int)) (h16 : live.length ≤ 16) :
    ∀ j, j < hm.length → Homely (X.getD j []) n ∧ ∀ a, a < (X.getD j []).length → livesB live ((X.getD j []).getD a 0) = true := by
  intro j hj
  obtain ⟨P, hP, hX⟩ := h.rows (Nat.le_refl _) j hj (h.lost_nil.1 hls j hj)
  have hom := hh _ (getD_mem hj)
  have hlen := hom.len
  obtain ⟨f1, f2⟩ := Proc.full (hv := hv) (p := j) hP hom.ne (by omega) h16
  rw [hX]
  refine ⟨⟨by have := f1.len; rw [this, hlen], f1.rng, f1.ne⟩, fun a ha => f2 a (by rw [ap_length] at ha; exact ha)⟩
/-- Rows of true. -/
def allT (n m : Nat) : List (List Bool) := List.replicate n (List.replicate m true)
theorem hasB_all {n m p a : Nat} (hp : p < n) (ha : a < m) : hasB (allT n m) p a = true := by
  unfold hasB allT
  simp [List.getD_eq_getElem?_getD, hp, ha]
theorem PlanRel.again {live : List Bool} {X : List (List Int)} {k : Nat} {ms : List Mv} {ls : List Int} {X2 : List (List Int)} {n : Nat} (h : PlanRel live (allT X.length n) X k X.length ms ls X2) (hx : ∀ j, j < X.length → (X.getD j []).length = n ∧ ∀ a, a < (X.getD j []).length → livesB live ((X.getD j []).getD a 0) = true) (hk : 0 < X.length → k ≤ n) : ms = [] ∧ ls = [] ∧ X2 = X := by
  have hp : ∀ j, j < X.length → (presOf (allT X.length n) live X j).length = (X.getD j []).length := fun j hj => by
    obtain ⟨h1, h2⟩ := hx j hj
    unfold presOf presK
    have : (List.range (X.getD j []).length).filter (fun a => hasB (allT X.length n) j a && livesB live ((X.getD j []).getD a 0)) = List.range (X.getD j []).length := by
      rw [List.filter_eq_self]
      intro a ha
      have ha2 := List.mem_range.1 ha
      rw [hasB_all hj (by omega), h2 a ha2]
      rfl
    rw [this, List.length_range]
  obtain ⟨e1, e2⟩ := h.none_of (Nat.le_refl _) hp
  exact ⟨e1, h.lost_nil.2 fun j hj => by rw [hp j hj, (hx j hj).1]; exact hk (by omega), e2⟩
/-- Rows of true under way: i rows are whole, the next has j. -/
structure AllK (F : Nat → Ent) (av lv : Value) (i m j : Nat) (rv : Nat → Value) : Prop where
  top : F 0 = ⟨28, 1, av, i, (List.range i).map rv⟩
  row : ∀ r, r < i → F (r + 1) = ⟨4, 1, rv r, m, List.replicate m (.bool true)⟩
  next : F (i + 1) = ⟨4, 1, lv, j, List.replicate j (.bool true)⟩
theorem info_bool : (Try.prog.info? 4).map (fun i => (i.zero, i.size, i.bytes)) = some (some (.bool false), 1, 1) := by kernel_rfl
theorem info_bools : (Try.prog.info? 28).map (fun i => (i.zero, i.size, i.bytes)) = some (some (.slice none 0 0), 1, 24) := by kernel_rfl
theorem AllK.more {F : Nat → Ent} {av lv : Value} {i m j : Nat} {rv : Nat → Value} (h : AllK F av lv i m j rv) (v : Value) : AllK (up F (i + 1) ⟨4, 1, v, j + 1, List.replicate j (.bool true) ++ [.bool true]⟩) av v i m (j + 1) rv :=
  ⟨(up_ne _ _ (by omega)).trans h.top, fun r hr => (up_ne _ _ (by omega)).trans (h.row r hr), by rw [up_self, List.replicate_succ']⟩
theorem AllK.turn {F : Nat → Ent} {av lv : Value} {i m : Nat} {rv : Nat → Value} (h : AllK F av lv i m m rv) (v : Value) : AllK (up (up F 0 ⟨28, 1, v, i + 1, (List.range i).map rv ++ [lv]⟩) (i + 1 + 1) ⟨4, 1, .slice none 0 0, 0, []⟩) v (.slice none 0 0) (i + 1) m 0 (fun r => if r = i then lv else rv r) := by
  refine ⟨?_, fun r hr => ?_, up_self _ _ _⟩
  · rw [up_ne _ _ (by omega), up_self, List.range_succ, List.map_append]
    simp only [List.map_cons, List.map_nil, if_true]
    congr 2
    refine List.map_congr_left fun r hr => ?_
    rw [if_neg (by have := List.mem_range.1 hr; omega)]
  · rw [up_ne _ _ (by omega), up_ne _ _ (by omega)]
    by_cases e : r = i
    · subst e; rw [if_pos rfl]; exact h.next
    · rw [if_neg e]; exact h.row r (by omega)
theorem own_boolsl {w : World} {base e n : Nat} {v : Value} {l : List Bool} (h : w.ownsRow base e 1 v n (l.map Value.bool)) : ∃ A c, v = .slice A n c ∧ l.length = n ∧ n ≤ c ∧ Bools w A l := by
  have hl : l.length = n := by have := h.1; rw [List.length_map] at this; omega
  rcases h.2 with ⟨rfl, h0⟩ | ⟨g, cap, cur, rfl, hb, hg, hc, _⟩
  · subst h0
    have : l = [] := List.eq_nil_of_length_eq_zero hl
    subst this
    exact ⟨none, 0, rfl, rfl, Nat.le_refl _, Bools.nil _ _⟩
  · refine ⟨_, cap, rfl, hl, hc, ⟨.inr ⟨g, 0, rfl, fun j hj => ?_⟩⟩⟩
    have hcl := h.cells (g := g) rfl j (.bool l[j]) (by simp [hj])
    rw [add_off] at hcl
    exact hcl
/-- They are read. -/
theorem AllK.rows {w : World} {lo : Nat} {F : Nat → Ent} {av lv : Value} {i m j : Nat} {rv : Nat → Value} (h : AllK F av lv i m j rv) (HP : Pool w lo F) : ∃ A c, av = .slice A i c ∧ BRows w A (allT i m) := by
  obtain ⟨A, c, hA⟩ := HP.slice 0 h.top
  refine ⟨A, c, hA, ⟨?_⟩⟩
  by_cases h0 : i = 0
  · subst h0; exact .inl rfl
  obtain ⟨g, c', hg⟩ := HP.some 0 h.top (by omega)
  rw [hg] at hA
  simp only [Value.slice.injEq] at hA
  refine .inr ⟨g, 0, hA.1.symm, fun r hr => ?_⟩
  have hr2 : r < i := by simpa [allT] using hr
  have e : (allT i m)[r] = List.replicate m true := by simp [allT]
  have ho := HP.own (r + 1)
  rw [h.row r hr2] at ho
  obtain ⟨Af, cf, hf, _, hcf, hB⟩ := own_boolsl (l := List.replicate m true) (show w.ownsRow lo 4 1 (rv r) m ((List.replicate m true).map Value.bool) by rw [List.map_replicate]; exact ho)
  have := HP.cell 0 h.top hg (j := r) (u := rv r) (by rw [List.getElem?_map, List.getElem?_range hr2]; rfl)
  rw [hf] at this
  rw [e, Nat.zero_add, List.length_replicate]
  exact ⟨Af, cf, this, hcf, hB⟩
end Go.Proofs.Ytpologlcfohjeaa.MendW
