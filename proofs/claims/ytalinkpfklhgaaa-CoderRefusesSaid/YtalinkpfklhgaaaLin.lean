/- Tables over the field of 256 elements: sums, products, what undoes them, and powers of unlike elements; plain. -/
import Derived.Test.YtalinkpfklhgaaaGfPure
import Derived.Test.YtalinkpfklhgaaaGfRefP
set_option linter.unusedVariables false
set_option linter.unusedSimpArgs false
namespace Go.Proofs.Ytalinkpfklhgaaa.Lin
open Go.Proofs.Ytalinkpfklhgaaa

/-- An element of the field. -/
structure F where
  v : Nat
  le : v ≤ 255
theorem F.ext {a b : F} (h : a.v = b.v) : a = b := by
  cases a; cases b; cases h; rfl
def F.zero : F := ⟨0, by omega⟩
def F.one : F := ⟨1, by omega⟩
def F.add (a b : F) : F := ⟨a.v ^^^ b.v, GfP.xor_le a.le b.le⟩
def F.mul (a b : F) : F := ⟨GfP.mul a.v b.v, GfP.mul_le _ _⟩
def F.inv (a : F) : F := ⟨GfP.inv a.v, GfP.inv_le _⟩
instance : Add F := ⟨F.add⟩
instance : Mul F := ⟨F.mul⟩
instance : OfNat F 0 := ⟨F.zero⟩
instance : OfNat F 1 := ⟨F.one⟩
instance : DecidableEq F := fun a b => if h : a.v = b.v then isTrue (F.ext h) else isFalse (fun e => h (by rw [e]))
theorem v_add (a b : F) : (a + b).v = a.v ^^^ b.v := rfl
theorem v_mul (a b : F) : (a * b).v = GfP.mul a.v b.v := rfl
theorem v_zero : (0 : F).v = 0 := rfl
theorem v_one : (1 : F).v = 1 := rfl
theorem add_comm (a b : F) : a + b = b + a := F.ext (Nat.xor_comm _ _)
theorem add_assoc (a b c : F) : a + b + c = a + (b + c) := F.ext (Nat.xor_assoc _ _ _)
theorem add_zero (a : F) : a + 0 = a := F.ext (Nat.xor_zero _)
theorem zero_add (a : F) : 0 + a = a := F.ext (Nat.zero_xor _)
theorem add_self (a : F) : a + a = 0 := F.ext (Nat.xor_self _)
theorem mul_comm (a b : F) : a * b = b * a := F.ext (GfP.mul_comm _ _)
theorem mul_assoc (a b c : F) : a * b * c = a * (b * c) := F.ext (GfP.mul_assoc a.le b.le c.le).symm
theorem mul_one (a : F) : a * 1 = a := F.ext (GfP.mul_one a.le)
theorem one_mul (a : F) : 1 * a = a := F.ext (GfP.one_mul a.le)
theorem mul_zero (a : F) : a * 0 = 0 := F.ext (GfP.mul_zero a.v)
theorem zero_mul (a : F) : 0 * a = 0 := F.ext (GfP.zero_mul a.v)
theorem mul_add (a b c : F) : a * (b + c) = a * b + a * c := F.ext (GfP.mul_xor a.le b.le c.le)
theorem add_mul (a b c : F) : (a + b) * c = a * c + b * c := F.ext (GfP.xor_mul a.le b.le c.le)
theorem v_ne {a : F} (h : a ≠ 0) : ¬ a.v = 0 := fun e => h (F.ext e)
theorem inv_mul {a : F} (h : a ≠ 0) : a.inv * a = 1 := F.ext (GfP.inv_mul a.le (v_ne h))
theorem mul_inv {a : F} (h : a ≠ 0) : a * a.inv = 1 := F.ext (GfP.mul_inv a.le (v_ne h))
theorem mul_eq_zero {a b : F} (h : a * b = 0) : a = 0 ∨ b = 0 := by
  have e : GfP.mul a.v b.v = 0 := by rw [← v_mul, h]; rfl
  rcases GfP.mul_eq_zero e with h1 | h1
  · exact .inl (F.ext h1)
  · exact .inr (F.ext h1)
theorem one_ne_zero : (1 : F) ≠ 0 := fun h => by cases h
instance : Std.Associative (α := F) (· + ·) := ⟨add_assoc⟩
instance : Std.Commutative (α := F) (· + ·) := ⟨add_comm⟩
instance : Std.Associative (α := F) (· * ·) := ⟨mul_assoc⟩
instance : Std.Commutative (α := F) (· * ·) := ⟨mul_comm⟩
theorem add_cancel (a b : F) : a + (a + b) = b := by rw [← add_assoc, add_self, zero_add]
theorem eq_of_add {a b : F} (h : a + b = 0) : a = b := by
  have : a + (a + b) = a + 0 := by rw [h]
  rw [add_cancel, add_zero] at this
  exact this.symm

/-- Sums. -/
def sm : Nat → (Nat → F) → F
  | 0, _ => 0
  | n + 1, f => sm n f + f n
theorem sm_congr {n : Nat} {f g : Nat → F} (h : ∀ i, i < n → f i = g i) : sm n f = sm n g := by
  induction n with
  | zero => rfl
  | succ n ih => rw [sm, sm, ih fun i hi => h i (by omega), h n (by omega)]
theorem sm_none {n : Nat} {f : Nat → F} (h : ∀ i, i < n → f i = 0) : sm n f = 0 := by
  induction n with
  | zero => rfl
  | succ n ih => rw [sm, ih fun i hi => h i (by omega), h n (by omega), add_zero]
theorem sm_add (n : Nat) (f g : Nat → F) : sm n (fun i => f i + g i) = sm n f + sm n g := by
  induction n with
  | zero => show (0 : F) = 0 + 0; rw [add_zero]
  | succ n ih => rw [sm, sm, sm, ih]; ac_rfl
theorem sm_mul (n : Nat) (a : F) (f : Nat → F) : sm n (fun i => a * f i) = a * sm n f := by
  induction n with
  | zero => exact (mul_zero a).symm
  | succ n ih => rw [sm, sm, ih, mul_add]
theorem sm_mul_right (n : Nat) (a : F) (f : Nat → F) : sm n (fun i => f i * a) = sm n f * a := by
  rw [mul_comm, ← sm_mul]
  exact sm_congr fun i _ => mul_comm _ _
theorem sm_swap (n m : Nat) (f : Nat → Nat → F) : sm n (fun i => sm m (fun j => f i j)) = sm m (fun j => sm n (fun i => f i j)) := by
  induction n with
  | zero => exact (sm_none fun _ _ => rfl).symm
  | succ n ih => rw [sm, ih, ← sm_add]; rfl
def dl (i j : Nat) : F := if i = j then 1 else 0
theorem dl_self (i : Nat) : dl i i = 1 := if_pos rfl
theorem dl_ne {i j : Nat} (h : i ≠ j) : dl i j = 0 := if_neg h
theorem dl_comm (i j : Nat) : dl i j = dl j i := by
  by_cases h : i = j
  · rw [h]
  · rw [dl_ne h, dl_ne (Ne.symm h)]
theorem sm_dl (n k : Nat) (f : Nat → F) (h : k < n) : sm n (fun i => dl k i * f i) = f k := by
  induction n with
  | zero => omega
  | succ n ih =>
    rw [sm]
    by_cases e : k = n
    · subst e
      rw [dl_self, one_mul, sm_none fun i hi => by rw [dl_ne (by omega), zero_mul], zero_add]
    · rw [ih (by omega), dl_ne e, zero_mul, add_zero]
theorem sm_two (n i c : Nat) (a b : F) (f : Nat → F) (hi : i < n) (hc : c < n) : sm n (fun k => (a * dl i k + b * dl c k) * f k) = a * f i + b * f c := by
  have h : ∀ k, k < n → (a * dl i k + b * dl c k) * f k = a * (dl i k * f k) + b * (dl c k * f k) := fun k _ => by rw [add_mul, mul_assoc, mul_assoc]
  rw [sm_congr h, sm_add, sm_mul, sm_mul, sm_dl n i f hi, sm_dl n c f hc]

/-- Tables, and their products. -/
abbrev M := Nat → Nat → F
def mm (n : Nat) (A B : M) : M := fun i j => sm n (fun k => A i k * B k j)
theorem mm_assoc (n p : Nat) (A B C : M) (i j : Nat) : mm p (mm n A B) C i j = mm n A (mm p B C) i j := by
  unfold mm
  have h1 : ∀ k, k < p → sm n (fun l => A i l * B l k) * C k j = sm n (fun l => A i l * (B l k * C k j)) := fun k _ => by
    rw [← sm_mul_right]
    exact sm_congr fun l _ => mul_assoc _ _ _
  rw [sm_congr h1, sm_swap]
  exact sm_congr fun l _ => sm_mul _ _ _
theorem mm_congr {n i j : Nat} {A A' B B' : M} (hA : ∀ k, k < n → A i k = A' i k) (hB : ∀ k, k < n → B k j = B' k j) : mm n A B i j = mm n A' B' i j :=
  sm_congr fun k hk => by rw [hA k hk, hB k hk]
theorem mm_one_left {n i : Nat} (A : M) (j : Nat) (h : i < n) : mm n dl A i j = A i j := sm_dl n i (fun k => A k j) h
theorem mm_one_right {n j : Nat} (A : M) (i : Nat) (h : j < n) : mm n A dl i j = A i j := by
  rw [← sm_dl n j (fun k => A i k) h]
  exact sm_congr fun k _ => by rw [mul_comm, dl_comm]
/-- Alike within bounds. -/
def Eqv (r c : Nat) (A B : M) : Prop := ∀ i, i < r → ∀ j, j < c → A i j = B i j
theorem Eqv.refl (r c : Nat) (A : M) : Eqv r c A A := fun _ _ _ _ => rfl
theorem Eqv.symm {r c : Nat} {A B : M} (h : Eqv r c A B) : Eqv r c B A := fun i hi j hj => (h i hi j hj).symm
theorem Eqv.trans {r c : Nat} {A B C : M} (h : Eqv r c A B) (k : Eqv r c B C) : Eqv r c A C := fun i hi j hj => (h i hi j hj).trans (k i hi j hj)

/-- A row times a column of numbers. -/
def ap (n : Nat) (A : M) (x : Nat → F) : Nat → F := fun i => sm n (fun k => A i k * x k)
theorem ap_ap (n p : Nat) (A B : M) (x : Nat → F) (i : Nat) : ap p (mm n A B) x i = ap n A (ap p B x) i := mm_assoc n p A B (fun k _ => x k) i 0
theorem ap_one {n i : Nat} (x : Nat → F) (h : i < n) : ap n dl x i = x i := sm_dl n i x h
theorem ap_congr {n i : Nat} {A B : M} {x y : Nat → F} (hA : ∀ k, k < n → A i k = B i k) (hx : ∀ k, k < n → x k = y k) : ap n A x i = ap n B y i :=
  sm_congr fun k hk => by rw [hA k hk, hx k hk]
/-- None hangs on the others. -/
def Free (n : Nat) (A : M) : Prop := ∀ x : Nat → F, (∀ i, i < n → ap n A x i = 0) → ∀ i, i < n → x i = 0
theorem free_of_left {n : Nat} {A B : M} (h : Eqv n n (mm n B A) dl) : Free n A := fun x hx i hi => by
  have h1 : ap n (mm n B A) x i = 0 := by
    rw [ap_ap]
    exact sm_none fun k hk => by rw [hx k hk, mul_zero]
  rw [ap_congr (fun k hk => h i hi k hk) (fun _ _ => rfl), ap_one x hi] at h1
  exact h1
theorem free_mul {n : Nat} {A B : M} (hA : Free n A) (hB : Free n B) : Free n (mm n A B) := fun x hx =>
  hB x (hA (ap n B x) fun i hi => by rw [← ap_ap]; exact hx i hi)
theorem free_congr {n : Nat} {A B : M} (h : Eqv n n A B) (hA : Free n A) : Free n B := fun x hx =>
  hA x fun i hi => by rw [ap_congr (fun k hk => h i hi k hk) (fun _ _ => rfl)]; exact hx i hi
/-- What undoes from the left is but one. -/
theorem left_uniq {n : Nat} {A B C : M} (hl : Eqv n n (mm n C B) dl) (hr : Eqv n n (mm n B A) dl) : Eqv n n C A := fun i hi j hj => by
  have h1 : mm n (mm n C B) A i j = mm n C (mm n B A) i j := mm_assoc n n C B A i j
  rw [mm_congr (fun k hk => hl i hi k hk) (fun _ _ => rfl), mm_one_left A j hi, mm_congr (fun _ _ => rfl) (fun k hk => hr k hk j hj), mm_one_right C i hj] at h1
  exact h1.symm

/-- Two rows change places. -/
def sw (c p i : Nat) : Nat := if i = c then p else if i = p then c else i
theorem sw_sw (c p i : Nat) : sw c p (sw c p i) = i := by
  unfold sw
  by_cases h : i = c
  · rw [if_pos h]
    by_cases h2 : p = c
    · rw [if_pos h2]; omega
    · rw [if_neg h2, if_pos rfl]; omega
  · rw [if_neg h]
    by_cases h2 : i = p
    · rw [if_pos h2, if_pos rfl]; omega
    · rw [if_neg h2, if_neg h, if_neg h2]
theorem sw_lt {c p i n : Nat} (hc : c < n) (hp : p < n) (hi : i < n) : sw c p i < n := by
  unfold sw
  split
  · exact hp
  · split
    · exact hc
    · exact hi
/-- One step: the rows change places, the row c is divided by W c c, and taken from the others so many times. -/
def co (c : Nat) (W : M) (i : Nat) : F := if i = c then 0 else 1
def cp (c : Nat) (W : M) (i : Nat) : F := if i = c then (W c c).inv else W i c * (W c c).inv
def st (c : Nat) (W X : M) : M := fun i j => co c W i * X i j + cp c W i * X c j
def swp (c p : Nat) (X : M) : M := fun i j => X (sw c p i) j
/-- What the program does with a row of X, whose W has been met. -/
theorem st_at_c (c : Nat) (W X : M) (j : Nat) : st c W X c j = (W c c).inv * X c j := by
  unfold st co cp
  rw [if_pos rfl, if_pos rfl, zero_mul, zero_add]
theorem st_at_i {c i : Nat} (W X : M) (j : Nat) (h : i ≠ c) : st c W X i j = X i j + W i c * ((W c c).inv * X c j) := by
  unfold st co cp
  rw [if_neg h, if_neg h, one_mul, mul_assoc]
theorem st_lin (n c : Nat) (W X A : M) (i j : Nat) : mm n (st c W X) A i j = st c W (mm n X A) i j := by
  unfold mm st
  have h : ∀ k, k < n → (co c W i * X i k + cp c W i * X c k) * A k j = co c W i * (X i k * A k j) + cp c W i * (X c k * A k j) := fun k _ => by
    rw [add_mul, mul_assoc, mul_assoc]
  rw [sm_congr h, sm_add, sm_mul, sm_mul]
theorem swp_lin (n c p : Nat) (X A : M) (i j : Nat) : mm n (swp c p X) A i j = swp c p (mm n X A) i j := rfl
/-- Back again. -/
def bk (c : Nat) (W : M) : M := fun i k => (if i = c then 0 else 1) * dl i k + (if i = c then W c c else W i c) * dl c k
theorem bk_st {n c : Nat} (W X : M) (h : W c c ≠ 0) (hc : c < n) {i : Nat} (hi : i < n) (j : Nat) : mm n (bk c W) (st c W X) i j = X i j := by
  unfold mm bk
  rw [sm_two n i c _ _ (fun k => st c W X k j) hi hc]
  by_cases e : i = c
  · rw [if_pos e, if_pos e, zero_mul, zero_add, st_at_c, ← mul_assoc, mul_inv h, one_mul, e]
  · rw [if_neg e, if_neg e, one_mul, st_at_i W X j e, st_at_c, add_assoc, add_self, add_zero]

/-- What holds behind c steps. -/
structure Inv (n c : Nat) (A W O : M) : Prop where
  left : Eqv n n (mm n O A) W
  right : ∃ P : M, Eqv n n (mm n P W) A ∧ Eqv n n (mm n P O) dl
  unit : ∀ i, i < n → ∀ j, j < c → W i j = dl i j
theorem Inv.start (n : Nat) (A : M) : Inv n 0 A A dl :=
  ⟨fun i hi j hj => mm_one_left A j hi, ⟨dl, fun i hi j hj => mm_one_left A j hi, fun i hi j hj => mm_one_left dl j hi⟩, fun i hi j hj => by omega⟩
theorem Inv.swap {n c p : Nat} {A W O : M} (h : Inv n c A W O) (hc : c < n) (hcp : c ≤ p) (hp : p < n) : Inv n c A (swp c p W) (swp c p O) := by
  obtain ⟨hl, ⟨P, hP1, hP2⟩, hu⟩ := h
  refine ⟨fun i hi j hj => hl _ (sw_lt hc hp hi) j hj, ⟨mm n P (fun i k => dl (sw c p i) k), fun i hi j hj => ?_, fun i hi j hj => ?_⟩, fun i hi j hj => ?_⟩
  · rw [mm_assoc, ← hP1 i hi j hj]
    refine mm_congr (fun _ _ => rfl) fun k hk => ?_
    show sm n (fun l => dl (sw c p k) l * W (sw c p l) j) = W k j
    rw [sm_dl n _ (fun l => W (sw c p l) j) (sw_lt hc hp hk), sw_sw]
  · rw [mm_assoc, ← hP2 i hi j hj]
    refine mm_congr (fun _ _ => rfl) fun k hk => ?_
    show sm n (fun l => dl (sw c p k) l * O (sw c p l) j) = O k j
    rw [sm_dl n _ (fun l => O (sw c p l) j) (sw_lt hc hp hk), sw_sw]
  · show W (sw c p i) j = dl i j
    rw [hu _ (sw_lt hc hp hi) j hj]
    by_cases e1 : i = c
    · subst e1
      rw [dl_ne (show i ≠ j by omega), dl_ne]
      unfold sw; rw [if_pos rfl]; omega
    · by_cases e2 : i = p
      · subst e2
        rw [dl_ne (show i ≠ j by omega), dl_ne]
        unfold sw; rw [if_neg e1, if_pos rfl]; omega
      · unfold sw; rw [if_neg e1, if_neg e2]
theorem Inv.step {n c : Nat} {A W O : M} (h : Inv n c A W O) (hc : c < n) (h0 : W c c ≠ 0) : Inv n (c + 1) A (st c W W) (st c W O) := by
  obtain ⟨hl, ⟨P, hP1, hP2⟩, hu⟩ := h
  refine ⟨fun i hi j hj => ?_, ⟨mm n P (bk c W), fun i hi j hj => ?_, fun i hi j hj => ?_⟩, fun i hi j hj => ?_⟩
  · rw [st_lin]
    unfold st
    rw [hl i hi j hj, hl c hc j hj]
  · rw [mm_assoc, ← hP1 i hi j hj]
    exact mm_congr (fun _ _ => rfl) fun k hk => bk_st W W h0 hc hk j
  · rw [mm_assoc, ← hP2 i hi j hj]
    exact mm_congr (fun _ _ => rfl) fun k hk => bk_st W O h0 hc hk j
  · by_cases ej : j = c
    · subst ej
      by_cases e : i = j
      · subst e
        rw [st_at_c, inv_mul h0, dl_self]
      · rw [st_at_i W W j e, inv_mul h0, mul_one, add_self, dl_ne e]
    · have hjc : j < c := by omega
      by_cases e : i = c
      · subst e
        rw [st_at_c, hu i hi j hjc, dl_ne (by omega), mul_zero]
      · rw [st_at_i W W j e, hu i hi j hjc, hu c hc j hjc, dl_ne (show c ≠ j by omega), mul_zero, mul_zero, add_zero]
/-- At the end it is undone from both sides. -/
theorem Inv.done {n : Nat} {A W O : M} (h : Inv n n A W O) : Eqv n n (mm n O A) dl ∧ Eqv n n (mm n A O) dl := by
  obtain ⟨hl, ⟨P, hP1, hP2⟩, hu⟩ := h
  have hPA : Eqv n n P A := fun i hi j hj => by
    rw [← hP1 i hi j hj, ← mm_one_right P i hj]
    exact mm_congr (fun _ _ => rfl) fun k hk => (hu k hk j hj).symm
  exact ⟨fun i hi j hj => (hl i hi j hj).trans (hu i hi j hj), fun i hi j hj => by
    rw [← hP2 i hi j hj]
    exact mm_congr (fun k hk => (hPA i hi k hk).symm) fun _ _ => rfl⟩
/-- Where no row has anything at c, some hang on the others. -/
theorem Inv.stuck {n c : Nat} {A W O : M} (h : Inv n c A W O) (hc : c < n) (hz : ∀ p, c ≤ p → p < n → W p c = 0) : ¬ Free n A := by
  obtain ⟨hl, ⟨P, hP1, hP2⟩, hu⟩ := h
  intro hF
  have hW : ∀ i, i < n → ap n W (fun k => if k < c then W k c else dl c k) i = 0 := by
    intro i hi
    have e : ∀ k, k < n → W i k * (if k < c then W k c else dl c k) = (if i < c then dl i k * W k c else 0) + dl c k * W i k := by
      intro k hk
      by_cases h1 : k < c
      · rw [if_pos h1, hu i hi k h1, dl_ne (show c ≠ k by omega), zero_mul, add_zero]
        by_cases h2 : i < c
        · rw [if_pos h2]
        · rw [if_neg h2, dl_ne (by omega), zero_mul]
      · rw [if_neg h1]
        by_cases h2 : i < c
        · rw [if_pos h2, dl_ne (show i ≠ k by omega), zero_mul, zero_add, mul_comm]
        · rw [if_neg h2, zero_add, mul_comm]
    show sm n _ = 0
    rw [sm_congr e, sm_add, sm_dl n c (fun k => W i k) hc]
    by_cases h2 : i < c
    · have : sm n (fun k => if i < c then dl i k * W k c else 0) = W i c := by
        rw [← sm_dl n i (fun k => W k c) hi]
        exact sm_congr fun k _ => by rw [if_pos h2]
      rw [this, add_self]
    · rw [sm_none fun k _ => by rw [if_neg h2], zero_add, hz i (by omega) hi]
  have := hF (fun k => if k < c then W k c else dl c k) (fun i hi => by
    have e : ap n A (fun k => if k < c then W k c else dl c k) i = ap n (mm n P W) (fun k => if k < c then W k c else dl c k) i :=
      ap_congr (fun k hk => (hP1 i hi k hk).symm) fun _ _ => rfl
    rw [e, ap_ap]
    exact sm_none fun k hk => by rw [hW k hk, mul_zero]) c hc
  rw [if_neg (by omega), dl_self] at this
  exact one_ne_zero this

/-- Powers. -/
def pwr (a : F) : Nat → F
  | 0 => 1
  | n + 1 => pwr a n * a
/-- The value of a polynomial. -/
def ev (t : F) : List F → F
  | [] => 0
  | c :: l => c + t * ev t l
def dv (r : F) : List F → List F
  | [] => []
  | [_] => []
  | _ :: d :: l => ev r (d :: l) :: dv r (d :: l)
theorem dv_length (r : F) : ∀ l : List F, (dv r l).length = l.length - 1
  | [] => rfl
  | [_] => rfl
  | _ :: d :: l => by
    show (dv r (d :: l)).length + 1 = _
    rw [dv_length r (d :: l)]
    simp
theorem dv_ev (r t : F) : ∀ l : List F, ev t l = ev r l + (t + r) * ev t (dv r l)
  | [] => by show (0 : F) = 0 + (t + r) * 0; rw [mul_zero, add_zero]
  | [c] => by
    show c + t * 0 = c + r * 0 + (t + r) * 0
    rw [mul_zero, mul_zero, mul_zero, add_zero, add_zero]
  | c :: d :: l => by
    have ih := dv_ev r t (d :: l)
    show c + t * ev t (d :: l) = c + r * ev r (d :: l) + (t + r) * (ev r (d :: l) + t * ev t (dv r (d :: l)))
    rw [ih]
    generalize ev r (d :: l) = x
    generalize ev t (dv r (d :: l)) = y
    have e1 : (t + r) * (x + t * y) = t * x + t * ((t + r) * y) + r * x := by
      rw [mul_add, add_mul, ← mul_assoc, ← mul_assoc, mul_comm (t + r) t]
      ac_rfl
    rw [e1, mul_add]
    have e2 : c + r * x + (t * x + t * ((t + r) * y) + r * x) = c + (t * x + t * ((t + r) * y)) + (r * x + r * x) := by ac_rfl
    rw [e2, add_self, add_zero]
theorem dv_none (r : F) : ∀ l : List F, (∀ c, c ∈ dv r l → c = 0) → ev r l = 0 → ∀ c, c ∈ l → c = 0
  | [], _, _, c, h => by cases h
  | [a], _, h0, c, h => by
    have : a + r * 0 = 0 := h0
    rw [mul_zero, add_zero] at this
    rw [List.mem_singleton.1 h, this]
  | a :: d :: l, hz, h0, c, h => by
    have hx : ev r (d :: l) = 0 := hz _ (List.mem_cons_self ..)
    have ih := dv_none r (d :: l) (fun c hc => hz c (List.mem_cons_of_mem _ hc)) hx
    rcases List.mem_cons.1 h with rfl | h
    · have : c + r * ev r (d :: l) = 0 := h0
      rwa [hx, mul_zero, add_zero] at this
    · exact ih c h
/-- A polynomial with more roots than its degree is none. -/
theorem roots : ∀ (xs l : List F), xs.Pairwise (· ≠ ·) → l.length ≤ xs.length → (∀ x, x ∈ xs → ev x l = 0) → ∀ c, c ∈ l → c = 0
  | [], l, _, hl, _, c, hc => by
    have h0 : l = [] := List.eq_nil_of_length_eq_zero (by simpa using hl)
    rw [h0] at hc
    cases hc
  | x :: xs, l, hp, hl, hr, c, hc => by
    have hp' := List.pairwise_cons.1 hp
    refine dv_none x l (fun c hc => ?_) (hr x (List.mem_cons_self ..)) c hc
    refine roots xs (dv x l) hp'.2 (by rw [dv_length]; have : (x :: xs).length = xs.length + 1 := rfl; omega) (fun y hy => ?_) c hc
    have h1 := dv_ev x y l
    rw [hr x (List.mem_cons_self ..), hr y (List.mem_cons_of_mem _ hy), zero_add] at h1
    rcases mul_eq_zero h1.symm with h2 | h2
    · exact absurd (eq_of_add h2).symm (hp'.1 y hy)
    · exact h2
theorem ev_snoc (t : F) (l : List F) (c : F) : ev t (l ++ [c]) = ev t l + c * pwr t l.length := by
  induction l with
  | nil => show c + t * 0 = 0 + c * 1; rw [mul_zero, add_zero, zero_add, mul_one]
  | cons a l ih =>
    show a + t * ev t (l ++ [c]) = a + t * ev t l + c * (pwr t l.length * t)
    rw [ih, mul_add]
    have : t * (c * pwr t l.length) = c * (pwr t l.length * t) := by ac_rfl
    rw [this, add_assoc]
theorem ev_sm (t : F) (x : Nat → F) (k : Nat) : ev t ((List.range k).map x) = sm k (fun j => pwr t j * x j) := by
  induction k with
  | zero => rfl
  | succ k ih => rw [List.range_succ, List.map_append, List.map_cons, List.map_nil, ev_snoc, ih, sm, List.length_map, List.length_range, mul_comm (x k)]
/-- Rows of powers of unlike elements don't hang on each other. -/
theorem powers_free (k : Nat) (e : Nat → F) (h : ∀ i, i < k → ∀ j, j < i → e i ≠ e j) : Free k (fun i j => pwr (e i) j) := by
  intro x hx i hi
  refine roots ((List.range k).map e) ((List.range k).map x) ?_ (by simp) (fun y hy => ?_) (x i) (List.mem_map.2 ⟨i, List.mem_range.2 hi, rfl⟩)
  · rw [List.pairwise_map]
    have hp : ∀ m, m ≤ k → (List.range m).Pairwise (fun a b => e a ≠ e b) := by
      intro m
      induction m with
      | zero => intro _; exact List.Pairwise.nil
      | succ m ih =>
        intro hm
        rw [List.range_succ, List.pairwise_append]
        refine ⟨ih (by omega), List.pairwise_singleton _ _, fun a ha b hb => ?_⟩
        rw [List.mem_singleton.1 hb]
        exact (h m (by omega) a (List.mem_range.1 ha)).symm
    exact hp k (Nat.le_refl _)
  · obtain ⟨j, hj, rfl⟩ := List.mem_map.1 hy
    rw [ev_sm]
    exact hx j (List.mem_range.1 hj)
end Go.Proofs.Ytalinkpfklhgaaa.Lin
