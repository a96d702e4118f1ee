/- Texts and numbers read one behind the other: plain Lean. -/
import Derived.Test.YtdjgdhpncocahaaJrnP
set_option linter.unusedVariables false
set_option linter.unusedSimpArgs false
namespace Go.Proofs.Ytdjgdhpncocahaa.MsgP
open Go.Proofs.Ytdjgdhpncocahaa.Base Go.Proofs.Ytdjgdhpncocahaa.TapeP Go.Proofs.Ytdjgdhpncocahaa.TapeW Go.Proofs.Ytdjgdhpncocahaa.CrcP Go.Proofs.Ytdjgdhpncocahaa.JrnP

/-- A text from p on: it, where one stands then, the error. -/
def tx (most : Nat) (l : List UInt8) (p : Nat) : List UInt8 × Nat × Nat :=
  if (pk (l.drop p)).2.2 ≠ 0 then ([], p, (pk (l.drop p)).2.2)
  else if most < (pk (l.drop p)).1 then ([], p, 3)
  else if l.length < p + (pk (l.drop p)).2.1 + (pk (l.drop p)).1 then ([], p, 2)
  else ((l.drop (p + (pk (l.drop p)).2.1)).take (pk (l.drop p)).1, p + (pk (l.drop p)).2.1 + (pk (l.drop p)).1, 0)
theorem tx_pos (most : Nat) (l : List UInt8) (p : Nat) (h : p ≤ l.length) : (tx most l p).2.1 ≤ l.length := by
  unfold tx
  split
  · exact h
  · split
    · exact h
    · split
      · exact h
      · show _ + _ + _ ≤ _; omega
theorem tx_err (most : Nat) (l : List UInt8) (p : Nat) (h : (tx most l p).2.2 ≠ 0) : (tx most l p).1 = [] := by
  unfold tx at h ⊢
  split
  · rfl
  · split
    · rfl
    · split
      · rfl
      · rename_i a b c
        rw [if_neg a, if_neg b, if_neg c] at h
        exact absurd rfl h
theorem tx_errle (most : Nat) (l : List UInt8) (p : Nat) : (tx most l p).2.2 ≤ 6 := by
  unfold tx
  split
  · rename_i h
    have := (pk_err _ h).2.2
    show (pk (l.drop p)).2.2 ≤ 6
    omega
  · split
    · show 3 ≤ 6; omega
    · split
      · show 2 ≤ 6; omega
      · show 0 ≤ 6; omega
theorem tx_len (most : Nat) (l : List UInt8) (p : Nat) : (tx most l p).1.length ≤ most := by
  unfold tx
  split
  · exact Nat.zero_le _
  · split
    · exact Nat.zero_le _
    · split
      · exact Nat.zero_le _
      · show ((l.drop _).take _).length ≤ _
        rw [List.length_take]; omega
/-- Behind others. -/
def app (acc : List (List UInt8)) (r : List (List UInt8) × Nat × Nat) : List (List UInt8) × Nat × Nat := if r.2.2 ≠ 0 then ([], r.2.1, r.2.2) else (acc ++ r.1, r.2.1, 0)
theorem app_nil (r : List (List UInt8) × Nat × Nat) (h : r.2.2 ≠ 0 → r.1 = []) : app [] r = r := by
  obtain ⟨a, b, c⟩ := r
  unfold app
  split
  · rename_i h1
    have : a = [] := h h1
    rw [this]
  · rename_i h1
    have : c = 0 := by simpa using h1
    rw [this]
    rfl
theorem app_app (a b : List (List UInt8)) (r : List (List UInt8) × Nat × Nat) : app a (app b r) = app (a ++ b) r := by
  unfold app
  by_cases h : r.2.2 ≠ 0
  · rw [if_pos h, if_pos h]; dsimp only; rw [if_pos h]
  · rw [if_neg h, if_neg h]; dsimp only; rw [if_neg (by simp), List.append_assoc]
/-- So many texts. -/
def txs : Nat → List UInt8 → Nat → List (List UInt8) × Nat × Nat
  | 0, _, p => ([], p, 0)
  | k + 1, l, p => if (tx 65536 l p).2.2 ≠ 0 then ([], (tx 65536 l p).2.1, (tx 65536 l p).2.2) else app [(tx 65536 l p).1] (txs k l (tx 65536 l p).2.1)
theorem txs_err (k : Nat) (l : List UInt8) (p : Nat) (h : (txs k l p).2.2 ≠ 0) : (txs k l p).1 = [] := by
  cases k with
  | zero => rfl
  | succ k =>
    unfold txs at h ⊢
    split
    · rfl
    · rename_i h1
      rw [if_neg h1] at h
      unfold app at h ⊢
      split
      · rfl
      · rename_i h2
        rw [if_neg h2] at h
        exact absurd rfl h
/-- A number of texts, and these. -/
def lsT (l : List UInt8) (p : Nat) : List (List UInt8) × Nat × Nat :=
  if (pk (l.drop p)).2.2 ≠ 0 then ([], p, (pk (l.drop p)).2.2)
  else if 4096 < (pk (l.drop p)).1 then ([], p, 3)
  else txs (pk (l.drop p)).1 l (p + (pk (l.drop p)).2.1)
theorem tx_at {l pre t x : List UInt8} {p most : Nat} (h : l = pre ++ (text t ++ x)) (hp : p = pre.length) (hm : t.length ≤ most) (ht : t.length ≤ 9007199254740991) : tx most l p = (t, p + (text t).length, 0) := by
  have h1 : l = pre ++ (num t.length ++ (t ++ x)) := by rw [h]; unfold text; rw [List.append_assoc]
  have h2 := pk_at h1 hp ht
  have h3 := take_at h1 hp rfl
  have h4 : l.length = pre.length + (num t.length).length + t.length + x.length := by rw [h1]; simp; omega
  unfold tx
  rw [h2]
  dsimp only
  rw [if_neg (by simp), if_neg (by omega), if_neg (by omega), h3]
  unfold text
  rw [List.length_append, Nat.add_assoc]
theorem txs_at (ts : List (List UInt8)) : ∀ {l pre x : List UInt8} {p : Nat}, l = pre ++ ((ts.flatMap text) ++ x) → p = pre.length → (∀ t, t ∈ ts → t.length ≤ 65536) → txs ts.length l p = (ts, p + (ts.flatMap text).length, 0) := by
  induction ts with
  | nil => intro l pre x p _ _ _; rfl
  | cons t ts ih =>
    intro l pre x p h hp hs
    have h1 : l = pre ++ (text t ++ ((ts.flatMap text) ++ x)) := by rw [h, List.flatMap_cons, List.append_assoc]
    have ht := hs t (List.mem_cons_self ..)
    have h2 := tx_at (most := 65536) h1 hp ht (by omega)
    have h3 := ih (l := l) (pre := pre ++ text t) (x := x) (p := p + (text t).length) (by rw [h1, List.append_assoc]) (by rw [List.length_append, hp]) (fun u hu => hs u (List.mem_cons_of_mem _ hu))
    show (if (tx 65536 l p).2.2 ≠ 0 then _ else _) = _
    rw [h2]
    dsimp only
    rw [if_neg (by simp), h3]
    unfold app
    dsimp only
    rw [if_neg (by simp), List.flatMap_cons, List.length_append, Nat.add_assoc]
    rfl
theorem lsT_at (ts : List (List UInt8)) {l pre x : List UInt8} {p : Nat} (h : l = pre ++ (num ts.length ++ (ts.flatMap text ++ x))) (hp : p = pre.length) (hn : ts.length ≤ 4096) (hs : ∀ t, t ∈ ts → t.length ≤ 65536) : lsT l p = (ts, p + (num ts.length).length + (ts.flatMap text).length, 0) := by
  have h2 := pk_at h hp (by omega)
  unfold lsT
  rw [h2]
  dsimp only
  rw [if_neg (by simp), if_neg (by omega)]
  exact txs_at ts (pre := pre ++ num ts.length) (x := x) (by rw [h, List.append_assoc]) (by rw [List.length_append, hp]) hs
/-- So many numbers, from p on: they, where one stands then, the error. -/
def nms : Nat → List UInt8 → Nat → List Nat × Nat × Nat
  | 0, _, p => ([], p, 0)
  | k + 1, l, p => if (pk (l.drop p)).2.2 ≠ 0 then ([], p, (pk (l.drop p)).2.2) else
      let r := nms k l (p + (pk (l.drop p)).2.1)
      if r.2.2 ≠ 0 then ([], r.2.1, r.2.2) else ((pk (l.drop p)).1 :: r.1, r.2.1, 0)
end Go.Proofs.Ytdjgdhpncocahaa.MsgP
