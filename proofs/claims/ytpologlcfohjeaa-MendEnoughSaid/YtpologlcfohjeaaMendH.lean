/- A planner's state in a pool; what a part's moves are. -/
import Derived.Test.YtpologlcfohjeaaMendG
import Derived.Test.YtpologlcfohjeaaPool2
set_option linter.unusedVariables false
set_option linter.unusedSimpArgs false
namespace Go.Proofs.Ytpologlcfohjeaa.MendW
open Go.RowKit Go.Proofs.Ytpologlcfohjeaa.Base
theorem info_mv : (Try.prog.info? 38).map (fun i => (i.zero, i.size, i.bytes)) = some (some (.agg #[.int .i64 0, .int .i64 0, .int .i64 0, .slice none 0 0]), 4, 48) := by kernel_rfl
/-- A move: fv is the slice that it is made from, fl what that holds. -/
structure Mv where
  part : Nat
  at_ : Nat
  dst : Nat
  fv : Value
  fl : List Int
def mvv : List Mv → List Value
  | [] => []
  | m :: l => .int .i64 ((m.part : Nat) : Int) :: .int .i64 ((m.at_ : Nat) : Int) :: .int .i64 ((m.dst : Nat) : Int) :: m.fv :: mvv l
theorem mvv_snoc (l : List Mv) (m : Mv) : mvv (l ++ [m]) = mvv l ++ [.int .i64 ((m.part : Nat) : Int), .int .i64 ((m.at_ : Nat) : Int), .int .i64 ((m.dst : Nat) : Int), m.fv] := by
  induction l with
  | nil => rfl
  | cons x l ih => simp only [List.cons_append, mvv, ih]
theorem mvv_get (ms : List Mv) : ∀ j (h : j < ms.length), (mvv ms)[j * 4]? = some (.int .i64 ((ms[j].part : Nat) : Int)) ∧ (mvv ms)[j * 4 + 1]? = some (.int .i64 ((ms[j].at_ : Nat) : Int)) ∧ (mvv ms)[j * 4 + 2]? = some (.int .i64 ((ms[j].dst : Nat) : Int)) ∧ (mvv ms)[j * 4 + 3]? = some ms[j].fv := by
  induction ms with
  | nil => intro j h; simp at h
  | cons p l ih =>
    intro j h
    cases j with
    | zero => exact ⟨rfl, rfl, rfl, rfl⟩
    | succ j =>
      have h2 := ih j (by simpa using h)
      rw [show (j + 1) * 4 = j * 4 + 1 + 1 + 1 + 1 by omega]
      simp only [mvv, List.getElem?_cons_succ, List.getElem_cons_succ]
      exact h2
/-- The values in a planner. -/
structure PV where
  ld : Value
  mv : Value
  ov : Value
  v2 : Value
  v3 : Value
  v4 : Value
def plist (k t a : Int) (hvv lvv : Value) (V : PV) : List Value := [.int .i64 k, hvv, lvv, V.ld, V.mv, V.ov, .int .i64 t, .int .i64 a, V.v2, V.v3, V.v4]
/-- A planner's state. -/
structure PlanP (F : Nat → Ent) (pb : Nat) (k t a : Int) (hvv lvv : Value) (nl : Nat) (x2 x3 : List Value) (V : PV) (loads : List Int) (ms : List Mv) (lost : List Int) (X : List (List Int)) (rv : Nat → Value) : Prop where
  sz : F 0 = ⟨3, 1, V.v2, x2.length, x2⟩
  sm : F 1 = ⟨49, 1, V.v3, x3.length, x3⟩
  top : F 2 = ⟨22, 1, V.v4, X.length, (List.range X.length).map rv⟩
  lds : F 3 = ⟨3, 1, V.ld, nl, zv loads⟩
  lst : F 4 = ⟨3, 1, V.ov, lost.length, zv lost⟩
  mvs : F 5 = ⟨38, 4, V.mv, ms.length, mvv ms⟩
  box : F 6 = ⟨55, 11, .slice (some ⟨pb, 0, none⟩) 1 1, 1, plist k t a hvv lvv V⟩
  row : ∀ i (h : i < X.length), F (2 * i + 10) = ⟨3, 1, rv i, X[i].length, zv X[i]⟩
  frm : ∀ i (h : i < ms.length), F (2 * i + 11) = ⟨3, 1, ms[i].fv, ms[i].fl.length, zv ms[i].fl⟩
section
variable {F : Nat → Ent} {pb nl : Nat} {k t a : Int} {hvv lvv : Value} {x2 x3 : List Value} {V : PV} {loads : List Int} {ms : List Mv} {lost : List Int} {X : List (List Int)} {rv : Nat → Value}
theorem PlanP.skip (h : PlanP F pb k t a hvv lvv nl x2 x3 V loads ms lost X rv) (b : Nat) (E : Ent) (hb : 7 ≤ b) (hb2 : b ≤ 9 ∨ ∃ j, b = 2 * j + 11 ∧ ms.length ≤ j) : PlanP (up F b E) pb k t a hvv lvv nl x2 x3 V loads ms lost X rv :=
  ⟨(up_ne _ _ (by omega)).trans h.sz, (up_ne _ _ (by omega)).trans h.sm, (up_ne _ _ (by omega)).trans h.top, (up_ne _ _ (by omega)).trans h.lds, (up_ne _ _ (by omega)).trans h.lst, (up_ne _ _ (by omega)).trans h.mvs, (up_ne _ _ (by omega)).trans h.box, fun i hi => (up_ne _ _ (by omega)).trans (h.row i hi), fun i hi => (up_ne _ _ (by omega)).trans (h.frm i hi)⟩
theorem PlanP.box_up (h : PlanP F pb k t a hvv lvv nl x2 x3 V loads ms lost X rv) (b : Nat) (E : Ent) (hb : 6 ≠ b) : up F b E 6 = ⟨55, 11, .slice (some ⟨pb, 0, none⟩) 1 1, 1, plist k t a hvv lvv V⟩ := (up_ne _ _ hb).trans h.box
theorem PlanP.lds_up (h : PlanP F pb k t a hvv lvv nl x2 x3 V loads ms lost X rv) (b : Nat) (E : Ent) (hb : 3 ≠ b) : up F b E 3 = ⟨3, 1, V.ld, nl, zv loads⟩ := (up_ne _ _ hb).trans h.lds
theorem PlanP.lose (h : PlanP F pb k t a hvv lvv nl x2 x3 V loads ms lost X rv) (ov : Value) (p : Int) : PlanP (up (up F 4 ⟨3, 1, ov, lost.length + 1, zv lost ++ [.int .i64 p]⟩) 6 ⟨55, 11, .slice (some ⟨pb, 0, none⟩) 1 1, 1, (plist k t a hvv lvv V).set 5 ov⟩) pb k t a hvv lvv nl x2 x3 { V with ov := ov } loads ms (lost ++ [p]) X rv :=
  ⟨h.sz, h.sm, h.top, h.lds, by rw [up_ne _ _ (by omega), up_self, zv_snoc]; simp, h.mvs, by rw [up_self]; rfl, fun i hi => by rw [up_ne _ _ (by omega), up_ne _ _ (by omega)]; exact h.row i hi, fun i hi => by rw [up_ne _ _ (by omega), up_ne _ _ (by omega)]; exact h.frm i hi⟩
theorem zv_set (l : List Int) (j : Nat) (x : Int) : (zv l).set j (.int .i64 x) = zv (l.set j x) := by simp [zv, List.map_set]
theorem PlanP.load (h : PlanP F pb k t a hvv lvv nl x2 x3 V loads ms lost X rv) (j : Nat) (x : Int) : PlanP (up F 3 ⟨3, 1, V.ld, nl, (zv loads).set j (.int .i64 x)⟩) pb k t a hvv lvv nl x2 x3 V (loads.set j x) ms lost X rv :=
  ⟨h.sz, h.sm, h.top, by rw [up_self, zv_set], h.lst, h.mvs, h.box, fun i hi => by rw [up_ne _ _ (by omega)]; exact h.row i hi, fun i hi => by rw [up_ne _ _ (by omega)]; exact h.frm i hi⟩
theorem PlanP.move (h : PlanP F pb k t a hvv lvv nl x2 x3 V loads ms lost X rv) (m : Mv) (mv : Value) : PlanP (up (up (up F (2 * ms.length + 11) ⟨3, 1, m.fv, m.fl.length, zv m.fl⟩) 5 ⟨38, 4, mv, ms.length + 1, mvv ms ++ [.int .i64 ((m.part : Nat) : Int), .int .i64 ((m.at_ : Nat) : Int), .int .i64 ((m.dst : Nat) : Int), m.fv]⟩) 6 ⟨55, 11, .slice (some ⟨pb, 0, none⟩) 1 1, 1, (plist k t a hvv lvv V).set 4 mv⟩) pb k t a hvv lvv nl x2 x3 { V with mv := mv } loads (ms ++ [m]) lost X rv := by
  refine ⟨?_, ?_, ?_, ?_, ?_, ?_, by rw [up_self]; rfl, fun i hi => ?_, fun i hi => ?_⟩
  · rw [up_ne _ _ (by omega), up_ne _ _ (by omega), up_ne _ _ (by omega)]; exact h.sz
  · rw [up_ne _ _ (by omega), up_ne _ _ (by omega), up_ne _ _ (by omega)]; exact h.sm
  · rw [up_ne _ _ (by omega), up_ne _ _ (by omega), up_ne _ _ (by omega)]; exact h.top
  · rw [up_ne _ _ (by omega), up_ne _ _ (by omega), up_ne _ _ (by omega)]; exact h.lds
  · rw [up_ne _ _ (by omega), up_ne _ _ (by omega), up_ne _ _ (by omega)]; exact h.lst
  · rw [up_ne _ _ (by omega), up_self, mvv_snoc]; simp
  · rw [up_ne _ _ (by omega), up_ne _ _ (by omega), up_ne _ _ (by omega)]; exact h.row i hi
  · rw [up_ne _ _ (by omega), up_ne _ _ (by omega)]
    by_cases e : i = ms.length
    · subst e
      rw [up_self]
      simp
    · have hi2 : i < ms.length := by rw [List.length_append, List.length_singleton] at hi; omega
      rw [up_ne _ _ (by omega), List.getElem_append_left hi2]
      exact h.frm i hi2
theorem PlanP.put (h : PlanP F pb k t a hvv lvv nl x2 x3 V loads ms lost X rv) (p j : Nat) (hp : p < X.length) (x : Int) : PlanP (up F (2 * p + 10) ⟨3, 1, rv p, X[p].length, (zv X[p]).set j (.int .i64 x)⟩) pb k t a hvv lvv nl x2 x3 V loads ms lost (X.set p (X[p].set j x)) rv := by
  refine ⟨?_, ?_, ?_, ?_, ?_, ?_, ?_, fun i hi => ?_, fun i hi => ?_⟩
  · rw [up_ne _ _ (by omega)]; exact h.sz
  · rw [up_ne _ _ (by omega)]; exact h.sm
  · rw [up_ne _ _ (by omega), List.length_set]; exact h.top
  · rw [up_ne _ _ (by omega)]; exact h.lds
  · rw [up_ne _ _ (by omega)]; exact h.lst
  · rw [up_ne _ _ (by omega)]; exact h.mvs
  · rw [up_ne _ _ (by omega)]; exact h.box
  · rw [List.length_set] at hi
    by_cases e : i = p
    · subst e
      rw [up_self, zv_set]
      simp
    · rw [up_ne _ _ (by omega), List.getElem_set_ne (by omega)]
      exact h.row i hi
  · rw [up_ne _ _ (by omega)]; exact h.frm i hi
end
def tos (P : List (Nat × Nat)) : List Int := P.map fun x => ((x.2 : Nat) : Int)
/-- The moves of a part, up to a place: pr are the pieces that are present, base their workers. -/
inductive Proc (live : List Bool) (base : List Int) (pr : List Nat) : Nat → List (Nat × Nat) → Prop
  | zero : Proc live base pr 0 []
  | none {i : Nat} {P : List (Nat × Nat)} : Proc live base pr i P → FreeK live (base ++ tos P) live.length 0 → Proc live base pr (i + 1) P
  | held {i : Nat} {P : List (Nat × Nat)} : Proc live base pr i P → i ∈ pr → Proc live base pr (i + 1) P
  | move {i r : Nat} {P : List (Nat × Nat)} : Proc live base pr i P → i ∉ pr → r ≠ 0 → FreeK live (base ++ tos P) live.length r → Proc live base pr (i + 1) (P ++ [(i, r)])
def ap (row : List Int) (P : List (Nat × Nat)) : List Int := P.foldl (fun r x => r.set x.1 ((x.2 : Nat) : Int)) row
theorem ap_snoc (row : List Int) (P : List (Nat × Nat)) (i r : Nat) : ap row (P ++ [(i, r)]) = (ap row P).set i ((r : Nat) : Int) := by simp [ap]
theorem ap_length (row : List Int) (P : List (Nat × Nat)) : (ap row P).length = row.length := by
  unfold ap
  induction P generalizing row with
  | nil => rfl
  | cons x P ih => rw [List.foldl_cons, ih, List.length_set]
theorem tos_snoc (P : List (Nat × Nat)) (i r : Nat) : tos (P ++ [(i, r)]) = tos P ++ [((r : Nat) : Int)] := by simp [tos]
end Go.Proofs.Ytpologlcfohjeaa.MendW
