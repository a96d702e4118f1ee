/- Records and their frames: plain Lean. -/
import Derived.Test.YtmlemichkeomjaaTapeBackP
import Derived.Test.YtmlemichkeomjaaCrcPure
set_option linter.unusedVariables false
set_option linter.unusedSimpArgs false
namespace Go.Proofs.Ytmlemichkeomjaa.JrnP
open Go.Proofs.Ytmlemichkeomjaa.TapeP Go.Proofs.Ytmlemichkeomjaa.TapeW Go.Proofs.Ytmlemichkeomjaa.CrcP

theorem rd_canon (l : List UInt8) : ∀ (i acc v j : Nat), rd l i acc = (v, j, 0) → i < j ∧ ∃ n, l.take (j - i) = num n ∧ v = acc + n * 2 ^ (7 * i) ∧ (0 < i → n ≠ 0) := by
  induction l with
  | nil => intro i acc v j h; rw [rd_nil] at h; simp at h
  | cons b r ih =>
    intro i acc v j h
    by_cases h1 : 128 ≤ b.toNat ∧ i + 1 < 8
    · rw [rd_more r acc h1.1 h1.2] at h
      obtain ⟨hj, n, h2, h3, h4⟩ := ih _ _ _ _ h
      have h5 := h4 (by omega)
      have hb := b.toNat_lt
      refine ⟨by omega, b.toNat % 128 + 128 * n, ?_, ?_, fun _ => by omega⟩
      · have e : j - i = j - (i + 1) + 1 := by omega
        rw [e, List.take_succ_cons, h2, num_big (n := b.toNat % 128 + 128 * n) (by omega)]
        have e1 : (b.toNat % 128 + 128 * n) / 128 = n := by omega
        have e2 : UInt8.ofNat (128 + (b.toNat % 128 + 128 * n) % 128) = b := by
          apply UInt8.toNat_inj.1
          rw [UInt8.toNat_ofNat']; omega
        rw [e1, e2]
      · rw [h3]
        have hp : 2 ^ (7 * (i + 1)) = 128 * 2 ^ (7 * i) := by rw [Nat.mul_add, Nat.pow_add, Nat.mul_comm]
        rw [hp, Nat.add_mul, Nat.add_assoc]
        congr 2
        rw [← Nat.mul_assoc, Nat.mul_comm n 128]
    · by_cases h2 : 128 ≤ b.toNat ∨ (b.toNat = 0 ∧ 1 < i + 1) ∨ 9007199254740991 < acc + b.toNat % 128 * 2 ^ (7 * i)
      · rw [rd_form r acc h1 h2] at h; simp at h
      · rw [rd_last r acc h1 h2] at h
        simp only [Prod.mk.injEq, and_true] at h
        obtain ⟨h3, h4⟩ := h
        have hb : b.toNat < 128 := by omega
        have e : b.toNat % 128 = b.toNat := Nat.mod_eq_of_lt hb
        rw [e] at h3
        refine ⟨by omega, b.toNat, ?_, h3.symm, fun _ => by omega⟩
        have e2 : j - i = 1 := by omega
        rw [e2, num_small hb]
        simp
/-- What is read as a number is the number's bytes. -/
theorem pk_canon {l : List UInt8} {n i : Nat} (h : pk l = (n, i, 0)) : l.take i = num n ∧ n ≤ 9007199254740991 ∧ i ≤ l.length := by
  obtain ⟨_, m, h1, h2, _⟩ := rd_canon l 0 0 n i h
  have h3 := pk_le l
  have h4 := pk_ilen l
  rw [h] at h3 h4
  have : n = m := by simpa using h2
  subst this
  exact ⟨by simpa using h1, h3, h4⟩
theorem pk_split {l : List UInt8} {n i : Nat} (h : pk l = (n, i, 0)) : l = num n ++ l.drop i ∧ (num n).length = i := by
  obtain ⟨h1, h2, h3⟩ := pk_canon h
  refine ⟨by rw [← h1, List.take_append_drop], ?_⟩
  rw [← h1, List.length_take]; omega
theorem pk_append {l : List UInt8} {n i : Nat} (h : pk l = (n, i, 0)) (y : List UInt8) : pk (l ++ y) = (n, i, 0) := by
  obtain ⟨h1, h2⟩ := pk_split h
  have h3 := (pk_canon h).2.1
  rw [h1, List.append_assoc, pk_num n _ h3, h2]

def frame (s : List UInt8) : List UInt8 := sealed (text s)
theorem frame_eq (s x : List UInt8) : frame s ++ x = num s.length ++ (s ++ (four (crc (text s)) ++ x)) := by
  unfold frame sealed
  show (text s ++ _) ++ x = _
  rw [List.append_assoc]
  show (num s.length ++ s) ++ _ = _
  rw [List.append_assoc]
theorem frame_length (s : List UInt8) : (frame s).length = (num s.length).length + s.length + 4 := by
  unfold frame sealed text
  rw [List.length_append, List.length_append, four_length]
/-- The record at a text's beginning, and how many bytes its frame has; 0: there is none. -/
def one1 (l : List UInt8) : List UInt8 × Nat :=
  if (pk l).2.2 ≠ 0 ∨ 1048576 < (pk l).1 ∨ l.length < (pk l).2.1 + (pk l).1 + 4 then ([], 0)
  else if (l.drop ((pk l).2.1 + (pk l).1)).take 4 = four (crc (l.take ((pk l).2.1 + (pk l).1))) then ((l.drop (pk l).2.1).take (pk l).1, (pk l).2.1 + (pk l).1 + 4)
  else ([], 0)
theorem one1_le (l : List UInt8) : (one1 l).2 ≤ l.length := by
  unfold one1
  split
  · exact Nat.zero_le _
  · split
    · show _ + _ + 4 ≤ _; omega
    · exact Nat.zero_le _
theorem one1_nil : one1 [] = ([], 0) := by
  unfold one1
  rw [if_pos (Or.inl (by decide))]
theorem one1_of {l : List UInt8} {n i : Nat} (h : pk l = (n, i, 0)) (h1 : n ≤ 1048576) (h2 : i + n + 4 ≤ l.length) (h3 : (l.drop (i + n)).take 4 = four (crc (l.take (i + n)))) : one1 l = ((l.drop i).take n, i + n + 4) := by
  unfold one1
  rw [h]
  dsimp only
  rw [if_neg (by omega), if_pos h3]
/-- What is read is a frame. -/
theorem one1_frame {l : List UInt8} (h : (one1 l).2 ≠ 0) : l.take (one1 l).2 = frame (one1 l).1 ∧ (one1 l).1.length ≤ 1048576 ∧ (frame (one1 l).1).length = (one1 l).2 := by
  by_cases h1 : (pk l).2.2 ≠ 0 ∨ 1048576 < (pk l).1 ∨ l.length < (pk l).2.1 + (pk l).1 + 4
  · exfalso; apply h; unfold one1; rw [if_pos h1]
  · by_cases h2 : (l.drop ((pk l).2.1 + (pk l).1)).take 4 = four (crc (l.take ((pk l).2.1 + (pk l).1)))
    · have e : one1 l = ((l.drop (pk l).2.1).take (pk l).1, (pk l).2.1 + (pk l).1 + 4) := by unfold one1; rw [if_neg h1, if_pos h2]
      have hpk : pk l = ((pk l).1, (pk l).2.1, 0) := by
        have : (pk l).2.2 = 0 := by omega
        rw [← this]
      generalize hn : (pk l).1 = n at *
      generalize hi : (pk l).2.1 = i at *
      obtain ⟨h3, h4⟩ := pk_split hpk
      have hlen : ((l.drop i).take n).length = n := by rw [List.length_take, List.length_drop]; omega
      have ht : l.take (i + n) = text ((l.drop i).take n) := by
        unfold text
        rw [hlen]
        rw [List.take_add, (pk_canon hpk).1]
      rw [e]
      dsimp only
      refine ⟨?_, by rw [hlen]; omega, by rw [frame_length, hlen, h4]⟩
      rw [List.take_add, h2, ht]
      rfl
    · exfalso; apply h; unfold one1; rw [if_neg h1, if_neg h2]
/-- A frame is read. -/
theorem one1_at (s x : List UInt8) (h : s.length ≤ 1048576) : one1 (frame s ++ x) = (s, (frame s).length) := by
  have hp : pk (frame s ++ x) = (s.length, (num s.length).length, 0) := by rw [frame_eq]; exact pk_num _ _ (by omega)
  have e1 : (frame s ++ x).drop ((num s.length).length + s.length) = four (crc (text s)) ++ x := by
    have : frame s ++ x = (num s.length ++ s) ++ (four (crc (text s)) ++ x) := by rw [frame_eq, List.append_assoc]
    rw [this, ← List.length_append, List.drop_left]
  have e2 : (frame s ++ x).take ((num s.length).length + s.length) = text s := by
    have : frame s ++ x = (num s.length ++ s) ++ (four (crc (text s)) ++ x) := by rw [frame_eq, List.append_assoc]
    rw [this, ← List.length_append, List.take_left]
    rfl
  rw [one1_of hp h (by rw [List.length_append, frame_length]; omega) (by rw [e1, e2]; exact List.take_left (l₁ := four (crc (text s))))]
  have e3 : ((frame s ++ x).drop (num s.length).length).take s.length = s := by
    rw [frame_eq, List.drop_left, List.take_left]
  rw [e3, frame_length]
/-- A frame that is torn isn't read. -/
theorem one1_torn (s p x : List UInt8) (h : frame s = p ++ x) (hx : x ≠ []) (hs : s.length ≤ 1048576) : one1 p = ([], 0) := by
  unfold one1
  by_cases h1 : (pk p).2.2 ≠ 0 ∨ 1048576 < (pk p).1 ∨ p.length < (pk p).2.1 + (pk p).1 + 4
  · rw [if_pos h1]
  · exfalso
    have hpk : pk p = ((pk p).1, (pk p).2.1, 0) := by
      have : (pk p).2.2 = 0 := by omega
      rw [← this]
    have h2 := pk_append hpk x
    have h3 : pk (frame s ++ []) = (s.length, (num s.length).length, 0) := by rw [frame_eq]; exact pk_num _ _ (by omega)
    rw [List.append_nil, h, h2] at h3
    simp only [Prod.mk.injEq, and_true] at h3
    have h4 := frame_length s
    rw [h, List.length_append] at h4
    have h5 : x.length ≠ 0 := by simpa using hx
    omega
/-- All records, and how many bytes they have. -/
def recs (l : List UInt8) : List (List UInt8) × Nat :=
  if h : (one1 l).2 = 0 then ([], 0) else ((one1 l).1 :: (recs (l.drop (one1 l).2)).1, (one1 l).2 + (recs (l.drop (one1 l).2)).2)
termination_by l.length
decreasing_by
  all_goals
    have := one1_le l
    rw [List.length_drop]; omega
theorem recs_none {l : List UInt8} (h : (one1 l).2 = 0) : recs l = ([], 0) := by rw [recs, dif_pos h]
theorem recs_some {l : List UInt8} (h : (one1 l).2 ≠ 0) : recs l = ((one1 l).1 :: (recs (l.drop (one1 l).2)).1, (one1 l).2 + (recs (l.drop (one1 l).2)).2) := by rw [recs, dif_neg h]
def frames : List (List UInt8) → List UInt8
  | [] => []
  | s :: l => frame s ++ frames l
theorem frames_append (l m : List (List UInt8)) : frames (l ++ m) = frames l ++ frames m := by
  induction l with
  | nil => rfl
  | cons s l ih => show frame s ++ frames (l ++ m) = (frame s ++ frames l) ++ frames m; rw [ih, List.append_assoc]
/-- Frames are read. -/
theorem recs_frames (l : List (List UInt8)) (x : List UInt8) (h : ∀ s, s ∈ l → s.length ≤ 1048576) : recs (frames l ++ x) = (l ++ (recs x).1, (frames l).length + (recs x).2) := by
  induction l with
  | nil => show recs x = ([] ++ (recs x).1, 0 + (recs x).2); rw [List.nil_append, Nat.zero_add]
  | cons s l ih =>
    have ho : one1 (frames (s :: l) ++ x) = (s, (frame s).length) := by
      show one1 ((frame s ++ frames l) ++ x) = _
      rw [List.append_assoc]
      exact one1_at s _ (h s (List.mem_cons_self ..))
    rw [recs_some (by rw [ho]; show (frame s).length ≠ 0; rw [frame_length]; omega), ho]
    dsimp only
    have e : (frames (s :: l) ++ x).drop (frame s).length = frames l ++ x := by
      show ((frame s ++ frames l) ++ x).drop _ = _
      rw [List.append_assoc, List.drop_left]
    rw [e, ih fun t ht => h t (List.mem_cons_of_mem _ ht)]
    show (s :: (l ++ _), _) = (s :: l ++ _, (frame s ++ frames l).length + _)
    rw [List.length_append, Nat.add_assoc]
    rfl
theorem recs_nil : recs [] = ([], 0) := recs_none (by rw [one1_nil])
theorem recs_all (l : List (List UInt8)) (h : ∀ s, s ∈ l → s.length ≤ 1048576) : recs (frames l) = (l, (frames l).length) := by
  have := recs_frames l [] h
  rwa [recs_nil, List.append_nil, List.append_nil, Nat.add_zero] at this
/-- What is read are frames. -/
theorem recs_facts (l : List UInt8) : (recs l).2 ≤ l.length ∧ l.take (recs l).2 = frames (recs l).1 ∧ (∀ s, s ∈ (recs l).1 → s.length ≤ 1048576) := by
  generalize hk : l.length = k
  induction k using Nat.strongRecOn generalizing l with
  | _ k ih =>
    by_cases h : (one1 l).2 = 0
    · rw [recs_none h]; exact ⟨Nat.zero_le _, rfl, fun s hs => by cases hs⟩
    · have hle := one1_le l
      obtain ⟨h1, h2, h3⟩ := one1_frame h
      obtain ⟨i1, i2, i3⟩ := ih (l.drop (one1 l).2).length (by rw [List.length_drop]; omega) (l.drop (one1 l).2) rfl
      rw [recs_some h]
      dsimp only
      rw [List.length_drop] at i1
      refine ⟨by omega, ?_, fun s hs => ?_⟩
      · rw [List.take_add, h1, i2]; rfl
      · rcases List.mem_cons.1 hs with rfl | hs
        · exact h2
        · exact i3 s hs
/-- What is torn off leaves a beginning of the records. -/
theorem recs_cut (l : List (List UInt8)) (h : ∀ s, s ∈ l → s.length ≤ 1048576) (c : Nat) : ∃ m, m ≤ l.length ∧ (recs ((frames l).take c)).1 = l.take m := by
  induction l generalizing c with
  | nil => exact ⟨0, Nat.le_refl _, by show (recs (([] : List UInt8).take c)).1 = _; rw [List.take_nil, recs_nil]; rfl⟩
  | cons s l ih =>
    by_cases hc : (frame s).length ≤ c
    · obtain ⟨m, hm, e⟩ := ih (fun t ht => h t (List.mem_cons_of_mem _ ht)) (c - (frame s).length)
      refine ⟨m + 1, by simpa using hm, ?_⟩
      have e1 : (frames (s :: l)).take c = frames [s] ++ (frames l).take (c - (frame s).length) := by
        show (frame s ++ frames l).take c = (frame s ++ []) ++ _
        rw [List.append_nil, List.take_append, List.take_of_length_le hc]
      rw [e1, recs_frames [s] _ fun t ht => h t (by rw [List.mem_singleton.1 ht]; exact List.mem_cons_self ..)]
      show s :: _ = s :: _
      rw [e]
      rfl
    · refine ⟨0, Nat.zero_le _, ?_⟩
      have e1 : (frames (s :: l)).take c = (frame s).take c := by
        show (frame s ++ frames l).take c = _
        rw [List.take_append, List.take_of_length_le (l := (frames l).take (c - (frame s).length)) (i := 0 + ((frames l).take (c - (frame s).length)).length) (by omega) |>.symm]
        have : c - (frame s).length = 0 := by omega
        rw [this, List.take_zero]
        simp
      rw [e1, recs_none]
      · rfl
      · rw [one1_torn s ((frame s).take c) ((frame s).drop c) (List.take_append_drop _ _).symm (by
          intro e
          have := congrArg List.length e
          rw [List.length_drop, List.length_nil] at this
          omega) (h s (List.mem_cons_self ..))]
/-- A frame torn behind others. -/
theorem recs_last (l : List (List UInt8)) (s : List UInt8) (h : ∀ t, t ∈ l → t.length ≤ 1048576) (hs : s.length ≤ 1048576) (c : Nat) (hc : c < (frame s).length) : recs (frames l ++ (frame s).take c) = (l, (frames l).length) := by
  rw [recs_frames l _ h, recs_none]
  · simp
  · rw [one1_torn s ((frame s).take c) ((frame s).drop c) (List.take_append_drop _ _).symm (by
      intro e
      have := congrArg List.length e
      rw [List.length_drop, List.length_nil] at this
      omega) hs]
end Go.Proofs.Ytmlemichkeomjaa.JrnP
