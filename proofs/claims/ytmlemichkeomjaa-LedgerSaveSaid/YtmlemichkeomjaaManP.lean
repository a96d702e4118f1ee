/- A manifest as numbers, and the numbers read back, plain. -/
import Derived.Test.YtmlemichkeomjaaJrnP
set_option linter.unusedVariables false
set_option linter.unusedSimpArgs false
namespace Go.Proofs.Ytmlemichkeomjaa.ManP
open Go.Proofs.Ytmlemichkeomjaa.TapeP Go.Proofs.Ytmlemichkeomjaa.TapeW Go.Proofs.Ytmlemichkeomjaa.JrnP
/-- A manifest: task, attempt, sizes, sums, homes. -/
structure Man where
  task : Int
  att : Int
  sz : List Int
  sm : List Int
  hm : List (List Int)
def noMan : Man := ⟨0, 0, [], [], []⟩
/-- May it be a number on a tape? -/
def okN (x : Int) : Prop := 0 ≤ x ∧ x ≤ 9007199254740991
instance (x : Int) : Decidable (okN x) := inferInstanceAs (Decidable (_ ∧ _))
/-- Numbers one behind the other. -/
def enc : List Int → List UInt8
  | [] => []
  | x :: l => num x.toNat ++ enc l
theorem enc_append (l m : List Int) : enc (l ++ m) = enc l ++ enc m := by
  induction l with
  | nil => rfl
  | cons x l ih => show num _ ++ enc (l ++ m) = (num _ ++ enc l) ++ enc m; rw [ih, List.append_assoc]
theorem enc_length (l : List Int) : l.length ≤ (enc l).length := by
  induction l with
  | nil => exact Nat.le_refl _
  | cons x l ih =>
    have : 0 < (num x.toNat).length := List.length_pos_iff.2 (num_ne _)
    show l.length + 1 ≤ (num x.toNat ++ enc l).length
    rw [List.length_append]; omega
/-- The numbers of the parts. -/
def rows : List Int → List Int → List (List Int) → List Int
  | a :: A, b :: B, h :: H => a :: b :: (h.length : Int) :: (h ++ rows A B H)
  | _, _, _ => []
theorem rows_snoc (a b : Int) (h : List Int) : ∀ (A B : List Int) (H : List (List Int)), B.length = A.length → H.length = A.length → rows (A ++ [a]) (B ++ [b]) (H ++ [h]) = rows A B H ++ (a :: b :: (h.length : Int) :: h)
  | [], [], [], _, _ => by simp [rows]
  | x :: A, y :: B, z :: H, h1, h2 => by
    simp only [List.cons_append, rows]
    rw [rows_snoc a b h A B H (by simpa using h1) (by simpa using h2), List.append_assoc]
def listL (m : Man) : List Int := m.task :: m.att :: (m.sz.length : Int) :: rows m.sz m.sm m.hm
/-- A manifest's bytes. -/
def bytesM (m : Man) : List UInt8 := if m.sm.length = m.sz.length ∧ m.hm.length = m.sz.length ∧ ∀ x ∈ listL m, okN x then enc (listL m) else []
/-- Reading a number: the reader stands at st.1, its error is st.2. -/
abbrev St := Nat × Nat
def most : Nat := 9007199254740991
def rnum (s : List UInt8) (lim over : Nat) (st : St) : Nat × St :=
  if st.2 = 0 then
    if (pk (s.drop st.1)).2.2 = 0 then ((pk (s.drop st.1)).1, (st.1 + (pk (s.drop st.1)).2.1, if lim < (pk (s.drop st.1)).1 then over else 0))
    else (0, (st.1, (pk (s.drop st.1)).2.2))
  else (0, st)
theorem rnum_err {s : List UInt8} {lim over : Nat} {st : St} (h : st.2 ≠ 0) : rnum s lim over st = (0, st) := by unfold rnum; rw [if_neg h]
theorem rnum_bad {s : List UInt8} {lim over p n i er : Nat} (h : pk (s.drop p) = (n, i, er)) (he : er ≠ 0) : rnum s lim over (p, 0) = (0, (p, er)) := by
  unfold rnum; rw [if_pos rfl]; dsimp only; rw [h]; rw [if_neg he]
theorem rnum_ok {s : List UInt8} {lim over p n i : Nat} (h : pk (s.drop p) = (n, i, 0)) : rnum s lim over (p, 0) = (n, (p + i, if lim < n then over else 0)) := by
  unfold rnum; rw [if_pos rfl]; dsimp only; rw [h]; rw [if_pos rfl]
theorem rnum_le (s : List UInt8) (lim over : Nat) (st : St) : (rnum s lim over st).1 ≤ 9007199254740991 ∧ (st.1 ≤ s.length → (rnum s lim over st).2.1 ≤ s.length) := by
  unfold rnum
  split
  · split
    · refine ⟨pk_le _, fun h => ?_⟩
      have := pk_ilen (s.drop st.1)
      rw [List.length_drop] at this
      dsimp only; omega
    · exact ⟨by omega, fun h => h⟩
  · exact ⟨by omega, fun h => h⟩
theorem rnum_er (s : List UInt8) (lim over : Nat) (st : St) (ho : over ≤ 255) (he : st.2 ≤ 255) : (rnum s lim over st).2.2 ≤ 255 := by
  unfold rnum
  split
  · split
    · dsimp only; split <;> omega
    · rename_i h
      have := (pk_err _ h).2.2
      dsimp only; omega
  · exact he
/-- What was read, stands there. -/
theorem rnum_trace {s : List UInt8} {lim over : Nat} {st : St} (h : (rnum s lim over st).2.2 = 0) : st.2 = 0 ∧ s.take (rnum s lim over st).2.1 = s.take st.1 ++ num (rnum s lim over st).1 ∧ (over ≠ 0 → (rnum s lim over st).1 ≤ lim) := by
  unfold rnum at h ⊢
  split
  · rename_i h1
    rw [if_pos h1] at h
    split
    · rename_i h2
      rw [if_pos h2] at h
      dsimp only at h ⊢
      refine ⟨h1, ?_, fun ho => ?_⟩
      · obtain ⟨e1, _, _⟩ := pk_canon (l := s.drop st.1) (n := (pk (s.drop st.1)).1) (i := (pk (s.drop st.1)).2.1) (by rw [← h2])
        rw [← e1, List.take_add]
      · split at h <;> omega
    · rename_i h2
      rw [if_neg h2] at h
      exact absurd h h2
  · rename_i h1
    rw [if_neg h1] at h
    exact absurd h h1
theorem rnum_at {s pre x : List UInt8} {lim over n : Nat} (h : s = pre ++ (num n ++ x)) (hn : n ≤ 9007199254740991) (hl : n ≤ lim) : rnum s lim over (pre.length, 0) = (n, (pre.length + (num n).length, 0)) := by
  rw [rnum_ok (pk_at h rfl hn), if_neg (by omega)]
/-- The homes. -/
def rhome (s : List UInt8) : Nat → St × List Int → St × List Int
  | 0, x => x
  | k + 1, x => if (rhome s k x).1.2 = 0 then ((rnum s most 0 (rhome s k x).1).2, (rhome s k x).2 ++ [((rnum s most 0 (rhome s k x).1).1 : Int)]) else rhome s k x
theorem rhome_go {s : List UInt8} {k : Nat} {x : St × List Int} (h : (rhome s k x).1.2 = 0) : rhome s (k + 1) x = ((rnum s most 0 (rhome s k x).1).2, (rhome s k x).2 ++ [((rnum s most 0 (rhome s k x).1).1 : Int)]) := if_pos h
theorem rhome_stop {s : List UInt8} {k : Nat} {x : St × List Int} (h : (rhome s k x).1.2 ≠ 0) : ∀ n, k ≤ n → rhome s n x = rhome s k x := by
  intro n
  induction n with
  | zero =>
    intro hk
    obtain rfl : k = 0 := by omega
    rfl
  | succ n ih =>
    intro hk
    by_cases e : k = n + 1
    · rw [e]
    · have := ih (by omega)
      rw [rhome, if_neg (by rw [this]; exact h), this]
structure RM where
  st : St
  sz : List Int
  sm : List Int
  hm : List (List Int)
def rpart (s : List UInt8) (x : RM) : RM :=
  let a := rnum s most 0 x.st
  let b := rnum s 4294967295 6 a.2
  let n := rnum s s.length 3 b.2
  let h := rhome s n.1 (n.2, [])
  ⟨h.1, x.sz ++ [(a.1 : Int)], x.sm ++ [((b.1 % 4294967296 : Nat) : Int)], x.hm ++ [h.2]⟩
def rparts (s : List UInt8) : Nat → RM → RM
  | 0, x => x
  | k + 1, x => if (rparts s k x).st.2 = 0 then rpart s (rparts s k x) else rparts s k x
theorem rparts_go {s : List UInt8} {k : Nat} {x : RM} (h : (rparts s k x).st.2 = 0) : rparts s (k + 1) x = rpart s (rparts s k x) := if_pos h
theorem rparts_stop {s : List UInt8} {k : Nat} {x : RM} (h : (rparts s k x).st.2 ≠ 0) : ∀ n, k ≤ n → rparts s n x = rparts s k x := by
  intro n
  induction n with
  | zero =>
    intro hk
    obtain rfl : k = 0 := by omega
    rfl
  | succ n ih =>
    intro hk
    by_cases e : k = n + 1
    · rw [e]
    · have := ih (by omega)
      rw [rparts, if_neg (by rw [this]; exact h), this]
def rman (s : List UInt8) : Man × Nat :=
  let a := rnum s most 0 (0, 0)
  let b := rnum s most 0 a.2
  let n := rnum s s.length 3 b.2
  let y := rparts s n.1 ⟨n.2, [], [], []⟩
  if y.st.2 = 0 then if y.st.1 = s.length then (⟨a.1, b.1, y.sz, y.sm, y.hm⟩, 0) else (noMan, 6) else (noMan, y.st.2)
/-- What stands at a text's beginning. -/
structure Tr (s : List UInt8) (st : St) (L : List Int) : Prop where
  le : st.1 ≤ s.length
  tk : s.take st.1 = enc L
  ok : ∀ x ∈ L, okN x
theorem Tr.next {s : List UInt8} {st : St} {L : List Int} (h : Tr s st L) {lim over : Nat} (h0 : (rnum s lim over st).2.2 = 0) : Tr s (rnum s lim over st).2 (L ++ [((rnum s lim over st).1 : Int)]) := by
  obtain ⟨h1, h2, _⟩ := rnum_trace h0
  have h3 := rnum_le s lim over st
  refine ⟨h3.2 h.le, ?_, fun x hx => ?_⟩
  · rw [h2, h.tk, enc_append]
    show _ = enc L ++ (num (Int.toNat ((rnum s lim over st).1 : Int)) ++ [])
    rw [List.append_nil, Int.toNat_natCast]
  · rcases List.mem_append.1 hx with hx | hx
    · exact h.ok x hx
    · rw [List.mem_singleton.1 hx]; exact ⟨by omega, by omega⟩
theorem home_trace (s : List UInt8) (k : Nat) : ∀ (n : Nat) (st : St) (L : List Int), (st.2 = 0 → Tr s st L) → (rhome s n (st, [])).1.2 = 0 → Tr s (rhome s n (st, [])).1 (L ++ (rhome s n (st, [])).2) ∧ (rhome s n (st, [])).2.length = n := by
  intro n
  induction n with
  | zero => intro st L hT h; exact ⟨by rw [show (rhome s 0 (st, [])).2 = [] from rfl, List.append_nil]; exact hT h, rfl⟩
  | succ n ih =>
    intro st L hT h
    by_cases h1 : (rhome s n (st, [])).1.2 = 0
    · rw [rhome_go h1] at h ⊢
      obtain ⟨h2, h3⟩ := ih st L hT h1
      dsimp only at h ⊢
      have h4 := h2.next h
      exact ⟨by rw [← List.append_assoc]; exact h4, by rw [List.length_append, h3]; rfl⟩
    · rw [rhome_stop h1 (n + 1) (by omega)] at h
      exact absurd h h1
theorem part_trace {s : List UInt8} {x : RM} {L : List Int} (hT : x.st.2 = 0 → Tr s x.st L) (h : (rpart s x).st.2 = 0) :
    ∃ (a b : Int) (hh : List Int), rpart s x = ⟨(rpart s x).st, x.sz ++ [a], x.sm ++ [b], x.hm ++ [hh]⟩ ∧ Tr s (rpart s x).st (L ++ (a :: b :: (hh.length : Int) :: hh)) ∧ 0 ≤ b ∧ b ≤ 4294967295 := by
  obtain ⟨st, sz, sm, hm⟩ := x
  unfold rpart at h ⊢
  dsimp only at h hT ⊢
  generalize ha : rnum s most 0 st = a at h ⊢
  generalize hb : rnum s 4294967295 6 a.2 = b at h ⊢
  generalize hn : rnum s s.length 3 b.2 = n at h ⊢
  by_cases hn0 : n.2.2 = 0
  · have hn1 := rnum_trace (s := s) (lim := s.length) (over := 3) (st := b.2) (by rw [hn]; exact hn0)
    have hb1 := rnum_trace (s := s) (lim := 4294967295) (over := 6) (st := a.2) (by rw [hb]; exact hn1.1)
    have ha1 := rnum_trace (s := s) (lim := most) (over := 0) (st := st) (by rw [ha]; exact hb1.1)
    have T1 := (hT ha1.1).next (lim := most) (over := 0) (by rw [ha]; exact hb1.1)
    rw [ha] at T1
    have T2 := T1.next (lim := 4294967295) (over := 6) (by rw [hb]; exact hn1.1)
    rw [hb] at T2
    have T3 := T2.next (lim := s.length) (over := 3) (by rw [hn]; exact hn0)
    rw [hn] at T3
    obtain ⟨T4, hlen⟩ := home_trace s 0 n.1 n.2 _ (fun _ => T3) h
    have hb2 : b.1 ≤ 4294967295 := by rw [hb] at hb1; exact hb1.2.2 (by omega)
    have hmod : b.1 % 4294967296 = b.1 := Nat.mod_eq_of_lt (by omega)
    refine ⟨a.1, (b.1 % 4294967296 : Nat), (rhome s n.1 (n.2, [])).2, rfl, ?_, by omega, by omega⟩
    rw [hlen, hmod]
    simpa using T4
  · have := rhome_stop (s := s) (k := 0) (x := (n.2, [])) hn0 n.1 (by omega)
    rw [this] at h
    exact absurd h hn0
theorem parts_trace (s : List UInt8) (st : St) (L : List Int) (hT : st.2 = 0 → Tr s st L) (n : Nat) : (rparts s n ⟨st, [], [], []⟩).st.2 = 0 →
    (rparts s n ⟨st, [], [], []⟩).sz.length = n ∧ (rparts s n ⟨st, [], [], []⟩).sm.length = n ∧ (rparts s n ⟨st, [], [], []⟩).hm.length = n ∧
    Tr s (rparts s n ⟨st, [], [], []⟩).st (L ++ rows (rparts s n ⟨st, [], [], []⟩).sz (rparts s n ⟨st, [], [], []⟩).sm (rparts s n ⟨st, [], [], []⟩).hm) ∧ (∀ x ∈ (rparts s n ⟨st, [], [], []⟩).sm, 0 ≤ x ∧ x ≤ 4294967295) := by
  induction n with
  | zero => intro h; exact ⟨rfl, rfl, rfl, by rw [show rows _ _ _ = [] from rfl, List.append_nil]; exact hT h, fun x hx => by cases hx⟩
  | succ n ih =>
    intro h
    by_cases h1 : (rparts s n ⟨st, [], [], []⟩).st.2 = 0
    · rw [rparts_go h1] at h ⊢
      obtain ⟨a1, a2, a3, T, hs⟩ := ih h1
      generalize rparts s n ⟨st, [], [], []⟩ = y at *
      obtain ⟨a, b, hh, e, T2, b0, b1⟩ := part_trace (fun _ => T) h
      rw [e]
      dsimp only
      refine ⟨by simp [a1], by simp [a2], by simp [a3], ?_, fun x hx => ?_⟩
      · rw [rows_snoc a b hh _ _ _ (by omega) (by omega), ← List.append_assoc]; exact T2
      · rcases List.mem_append.1 hx with hx | hx
        · exact hs x hx
        · rw [List.mem_singleton.1 hx]; exact ⟨b0, b1⟩
    · rw [rparts_stop h1 (n + 1) (by omega)] at h
      exact absurd h h1
/-- Is it a manifest that has bytes? -/
structure Fit (m : Man) : Prop where
  l3 : m.sm.length = m.sz.length
  l4 : m.hm.length = m.sz.length
  ok : ∀ x ∈ listL m, okN x
theorem Fit.bytes {m : Man} (h : Fit m) : bytesM m = enc (listL m) := if_pos ⟨h.l3, h.l4, h.ok⟩
theorem fit_of {m : Man} (h : bytesM m ≠ []) : Fit m := by
  unfold bytesM at h
  split at h
  · rename_i h1; exact ⟨h1.1, h1.2.1, h1.2.2⟩
  · exact absurd rfl h
theorem list_ne (m : Man) : enc (listL m) ≠ [] := by
  intro h
  exact num_ne _ (List.append_eq_nil_iff.1 (show num m.task.toNat ++ _ = [] from h)).1
/-- Nothing else is read. -/
theorem read_back {s : List UInt8} {m : Man} (h : rman s = (m, 0)) : Fit m ∧ bytesM m = s ∧ ∀ x ∈ m.sm, 0 ≤ x ∧ x ≤ 4294967295 := by
  unfold rman at h
  dsimp only at h
  generalize ha : rnum s most 0 (0, 0) = a at h
  generalize hb : rnum s most 0 a.2 = b at h
  generalize hn : rnum s s.length 3 b.2 = n at h
  by_cases hy : (rparts s n.1 ⟨n.2, [], [], []⟩).st.2 = 0
  · rw [if_pos hy] at h
    by_cases he : (rparts s n.1 ⟨n.2, [], [], []⟩).st.1 = s.length
    · rw [if_pos he] at h
      simp only [Prod.mk.injEq, and_true] at h
      have T0 : Tr s (0, 0) [] := ⟨Nat.zero_le _, rfl, fun x hx => by cases hx⟩
      by_cases hn0 : n.2.2 = 0
      · have hn1 := rnum_trace (s := s) (lim := s.length) (over := 3) (st := b.2) (by rw [hn]; exact hn0)
        have hb1 := rnum_trace (s := s) (lim := most) (over := 0) (st := a.2) (by rw [hb]; exact hn1.1)
        have T1 := T0.next (lim := most) (over := 0) (by rw [ha]; exact hb1.1)
        rw [ha] at T1
        have T2 := T1.next (lim := most) (over := 0) (by rw [hb]; exact hn1.1)
        rw [hb] at T2
        have T3 := T2.next (lim := s.length) (over := 3) (by rw [hn]; exact hn0)
        rw [hn] at T3
        obtain ⟨h1, h2, h3, h4, h5⟩ := parts_trace s n.2 _ (fun _ => T3) n.1 hy
        generalize rparts s n.1 ⟨n.2, [], [], []⟩ = y at *
        subst h
        have hL : [] ++ [(a.1 : Int)] ++ [(b.1 : Int)] ++ [(n.1 : Int)] ++ rows y.sz y.sm y.hm = listL ⟨a.1, b.1, y.sz, y.sm, y.hm⟩ := by
          unfold listL; simp [h1]
        rw [hL] at h4
        have F : Fit ⟨a.1, b.1, y.sz, y.sm, y.hm⟩ := ⟨by simp [h1, h2], by simp [h1, h3], h4.ok⟩
        refine ⟨F, ?_, h5⟩
        rw [F.bytes, ← h4.tk, he, List.take_length]
      · rw [rparts_stop (k := 0) (x := ⟨n.2, [], [], []⟩) hn0 n.1 (by omega)] at hy
        exact absurd hy hn0
    · rw [if_neg he] at h
      simp at h
  · rw [if_neg hy] at h
    simp only [Prod.mk.injEq] at h
    exact absurd h.2 hy
theorem read_none {s : List UInt8} {m : Man} {er : Nat} (h : rman s = (m, er)) (he : er ≠ 0) : m = noMan := by
  unfold rman at h
  dsimp only at h
  split at h
  · split at h
    · simp only [Prod.mk.injEq] at h; exact absurd h.2.symm he
    · simp only [Prod.mk.injEq] at h; exact h.1.symm
  · simp only [Prod.mk.injEq] at h; exact h.1.symm
theorem home_at {s pre x : List UInt8} {h : List Int} (hs : s = pre ++ (enc h ++ x)) (hok : ∀ y ∈ h, okN y) (k : Nat) (hk : k ≤ h.length) : rhome s k ((pre.length, 0), []) = ((pre.length + (enc (h.take k)).length, 0), h.take k) := by
  induction k with
  | zero => rfl
  | succ k ih =>
    have hk' : k < h.length := hk
    have e := ih (by omega)
    have hy := hok h[k] (List.getElem_mem hk')
    have hc : ((h[k].toNat : Nat) : Int) = h[k] := Int.toNat_of_nonneg hy.1
    have hs2 : s = (pre ++ enc (h.take k)) ++ (num h[k].toNat ++ (enc (h.drop (k + 1)) ++ x)) := by
      have : enc h = enc (h.take k) ++ (num h[k].toNat ++ enc (h.drop (k + 1))) := by
        have e2 : h = h.take k ++ (h[k] :: h.drop (k + 1)) := by rw [← List.drop_eq_getElem_cons hk', List.take_append_drop]
        conv => lhs; rw [e2, enc_append]
        rfl
      rw [hs, this]; simp only [List.append_assoc]
    have hr := rnum_at (lim := most) (over := 0) hs2 (by have := hy.2; omega) (by have := hy.2; unfold most; omega)
    rw [List.length_append] at hr
    rw [rhome_go (by rw [e]), e]
    dsimp only
    rw [hr]
    dsimp only
    rw [hc, List.take_succ_eq_append_getElem hk', enc_append, List.length_append]
    show _ = ((_ + (_ + (num h[k].toNat ++ []).length), 0), _)
    rw [List.append_nil, Nat.add_assoc]
theorem parts_at {s pre x : List UInt8} {A B : List Int} {H : List (List Int)} (hs : s = pre ++ (enc (rows A B H) ++ x)) (hB : B.length = A.length) (hH : H.length = A.length) (hok : ∀ y ∈ rows A B H, okN y) (hb : ∀ y ∈ B, 0 ≤ y ∧ y ≤ 4294967295) (k : Nat) (hk : k ≤ A.length) :
    rparts s k ⟨(pre.length, 0), [], [], []⟩ = ⟨(pre.length + (enc (rows (A.take k) (B.take k) (H.take k))).length, 0), A.take k, B.take k, H.take k⟩ := by
  induction k with
  | zero => simp [rparts, rows, enc]
  | succ k ih =>
    have hkA : k < A.length := hk
    have hkB : k < B.length := by omega
    have hkH : k < H.length := by omega
    have e := ih (by omega)
    have tA := List.take_succ_eq_append_getElem hkA
    have tB := List.take_succ_eq_append_getElem hkB
    have tH := List.take_succ_eq_append_getElem hkH
    have lA : (A.take k).length = k := by rw [List.length_take]; omega
    have lB : (B.take k).length = k := by rw [List.length_take]; omega
    have lH : (H.take k).length = k := by rw [List.length_take]; omega
    have hstep := rows_snoc A[k] B[k] H[k] (A.take k) (B.take k) (H.take k) (by omega) (by omega)
    rw [← tA, ← tB, ← tH] at hstep
    have hsplit : ∀ (j : Nat) (A B : List Int) (H : List (List Int)), j ≤ A.length → B.length = A.length → H.length = A.length → rows A B H = rows (A.take j) (B.take j) (H.take j) ++ rows (A.drop j) (B.drop j) (H.drop j) := by
      intro j
      induction j with
      | zero => intro A B H _ _ _; simp [rows]
      | succ j ihj =>
        intro A B H h1 h2 h3
        match A, B, H, h1, h2, h3 with
        | a :: A, b :: B, h :: H, h1, h2, h3 =>
          simp only [rows, List.take_succ_cons, List.drop_succ_cons, List.cons_append]
          rw [ihj A B H (by simpa using h1) (by simpa using h2) (by simpa using h3), List.append_assoc]
    have hrest := hsplit (k + 1) A B H hk hB hH
    have hmem : ∀ y, y ∈ (A[k] :: B[k] :: (H[k].length : Int) :: H[k]) → okN y := fun y hy => hok y (by rw [hrest, hstep]; exact List.mem_append_left _ (List.mem_append_right _ hy))
    have o1 := hmem A[k] (by simp)
    have o2 := hmem B[k] (by simp)
    have o3 := hmem (H[k].length : Int) (by simp)
    have o4 : ∀ y ∈ H[k], okN y := fun y hy => hmem y (by simp [hy])
    have ob := hb B[k] (List.getElem_mem hkB)
    obtain ⟨a, ea⟩ := Int.eq_ofNat_of_zero_le o1.1
    obtain ⟨b, eb⟩ := Int.eq_ofNat_of_zero_le o2.1
    have hs1 : s = (pre ++ enc (rows (A.take k) (B.take k) (H.take k))) ++ (num a ++ (num b ++ (num H[k].length ++ (enc H[k] ++ (enc (rows (A.drop (k + 1)) (B.drop (k + 1)) (H.drop (k + 1))) ++ x))))) := by
      rw [hs, hrest, hstep, enc_append, enc_append]
      show pre ++ ((_ ++ (num A[k].toNat ++ (num B[k].toNat ++ (num (Int.toNat (H[k].length : Int)) ++ enc H[k]))) ++ _) ++ x) = _
      rw [ea, eb]
      simp only [Int.toNat_natCast, List.append_assoc, Int.ofNat_eq_natCast]
    generalize hq : pre ++ enc (rows (A.take k) (B.take k) (H.take k)) = q at hs1
    have hql : q.length = pre.length + (enc (rows (A.take k) (B.take k) (H.take k))).length := by rw [← hq, List.length_append]
    have r1 := rnum_at (lim := most) (over := 0) hs1 (by have := o1.2; omega) (by have := o1.2; unfold most; omega)
    have hs2 : s = (q ++ num a) ++ (num b ++ (num H[k].length ++ (enc H[k] ++ (enc (rows (A.drop (k + 1)) (B.drop (k + 1)) (H.drop (k + 1))) ++ x)))) := by rw [hs1]; simp only [List.append_assoc]
    have r2 := rnum_at (lim := 4294967295) (over := 6) hs2 (by have := o2.2; omega) (by have := ob.2; omega)
    have hs3 : s = ((q ++ num a) ++ num b) ++ (num H[k].length ++ (enc H[k] ++ (enc (rows (A.drop (k + 1)) (B.drop (k + 1)) (H.drop (k + 1))) ++ x))) := by rw [hs2]; simp only [List.append_assoc]
    have hlen : H[k].length ≤ s.length := by
      have := enc_length H[k]
      rw [hs3]; simp only [List.length_append]; omega
    have r3 := rnum_at (lim := s.length) (over := 3) hs3 (by have := o3.2; omega) hlen
    have hs4 : s = (((q ++ num a) ++ num b) ++ num H[k].length) ++ (enc H[k] ++ (enc (rows (A.drop (k + 1)) (B.drop (k + 1)) (H.drop (k + 1))) ++ x)) := by rw [hs3]; simp only [List.append_assoc]
    have r4 := home_at hs4 o4 H[k].length (Nat.le_refl _)
    rw [List.take_length] at r4
    rw [rparts_go (by rw [e]), e]
    unfold rpart
    dsimp only
    rw [← hql]
    simp only [List.length_append] at r2 r3 r4
    rw [r1]; dsimp only
    rw [r2]; dsimp only
    rw [r3]; dsimp only
    rw [r4]; dsimp only
    have hmod : b % 4294967296 = b := Nat.mod_eq_of_lt (by have := ob.2; omega)
    rw [hmod, tA, tB, tH, ← tA, ← tB, ← tH, hstep, enc_append]
    have ecat : enc (A[k] :: B[k] :: (H[k].length : Int) :: H[k]) = num a ++ (num b ++ (num H[k].length ++ enc H[k])) := by
      show num A[k].toNat ++ (num B[k].toNat ++ (num (Int.toNat (H[k].length : Int)) ++ enc H[k])) = _
      rw [ea, eb]; rfl
    rw [ecat, tA, tB, tH, ea, eb]
    simp only [List.length_append, RM.mk.injEq, Prod.mk.injEq, and_true]
    omega
/-- What was laid is read. -/
theorem read_there {m : Man} (h : Fit m) (hb : ∀ y ∈ m.sm, 0 ≤ y ∧ y ≤ 4294967295) : rman (enc (listL m)) = (m, 0) := by
  obtain ⟨t, a, sz, sm, hm⟩ := m
  obtain ⟨h3, h4, hok⟩ := h
  dsimp only at h3 h4 hb
  unfold listL at hok ⊢
  dsimp only at hok ⊢
  have o1 := hok t (by simp)
  have o2 := hok a (by simp)
  have o3 := hok (sz.length : Int) (by simp)
  obtain ⟨t, rfl⟩ := Int.eq_ofNat_of_zero_le o1.1
  obtain ⟨a, rfl⟩ := Int.eq_ofNat_of_zero_le o2.1
  generalize hs : enc ((t : Int) :: (a : Int) :: (sz.length : Int) :: rows sz sm hm) = s
  have hs1 : s = [] ++ (num t ++ (num a ++ (num sz.length ++ (enc (rows sz sm hm) ++ [])))) := by rw [← hs, List.append_nil]; rfl
  have r1 := rnum_at (lim := most) (over := 0) hs1 (by have := o1.2; omega) (by have := o1.2; unfold most; omega)
  have hs2 : s = ([] ++ num t) ++ (num a ++ (num sz.length ++ (enc (rows sz sm hm) ++ []))) := by rw [hs1]; simp only [List.append_assoc]
  have r2 := rnum_at (lim := most) (over := 0) hs2 (by have := o2.2; omega) (by have := o2.2; unfold most; omega)
  have hs3 : s = (([] ++ num t) ++ num a) ++ (num sz.length ++ (enc (rows sz sm hm) ++ [])) := by rw [hs2]; simp only [List.append_assoc]
  have hrl : sz.length ≤ (rows sz sm hm).length := by
    have : ∀ (A B : List Int) (H : List (List Int)), B.length = A.length → H.length = A.length → A.length ≤ (rows A B H).length := by
      intro A
      induction A with
      | nil => intro B H _ _; exact Nat.zero_le _
      | cons x A ih =>
        intro B H h1 h2
        match B, H, h1, h2 with
        | b :: B, h :: H, h1, h2 =>
          have := ih B H (by simpa using h1) (by simpa using h2)
          simp only [rows, List.length_cons, List.length_append]; omega
    exact this _ _ _ h3 h4
  have hlen : sz.length ≤ s.length := by
    have := enc_length (rows sz sm hm)
    rw [hs3]; simp only [List.length_append]; omega
  have r3 := rnum_at (lim := s.length) (over := 3) hs3 (by have := o3.2; omega) hlen
  have hs4 : s = ((([] ++ num t) ++ num a) ++ num sz.length) ++ (enc (rows sz sm hm) ++ []) := by rw [hs3]; simp only [List.append_assoc]
  have r4 := parts_at hs4 h3 h4 (fun y hy => hok y (by simp [hy])) hb sz.length (Nat.le_refl _)
  have e3 : sm.take sz.length = sm := by rw [← h3, List.take_length]
  have e4 : hm.take sz.length = hm := by rw [← h4, List.take_length]
  rw [List.take_length, e3, e4] at r4
  simp only [List.length_append, List.length_nil, Nat.zero_add] at r1 r2 r3 r4
  unfold rman
  dsimp only
  rw [r1]; dsimp only
  rw [r2]; dsimp only
  rw [r3]; dsimp only
  rw [r4]; dsimp only
  rw [if_pos rfl, if_pos (by
    rw [hs1]; simp only [List.length_append, List.length_nil]; omega)]
end Go.Proofs.Ytmlemichkeomjaa.ManP
