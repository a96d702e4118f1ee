/- Messages laid and read again, or spoilt: plain Lean; and what Read hands back of any text. -/
import Derived.Test.YtdjgdhpncocahaaMsg9
import Derived.Test.YtdjgdhpncocahaaCrcLaw2
import Derived.Test.YtdjgdhpncocahaaCrcBurstP
set_option linter.unusedVariables false
set_option linter.unusedSimpArgs false
namespace Go.Proofs.Ytdjgdhpncocahaa.MsgW
open Go.RowKit Go.Proofs.Ytdjgdhpncocahaa.Base Go.Proofs.Ytdjgdhpncocahaa.EqsW Go.Proofs.Ytdjgdhpncocahaa.TapeP Go.Proofs.Ytdjgdhpncocahaa.TapeW Go.Proofs.Ytdjgdhpncocahaa.CrcP Go.Proofs.Ytdjgdhpncocahaa.CrcW Go.Proofs.Ytdjgdhpncocahaa.MsgP

theorem nms_at (a : List Nat) : ∀ {l pre x : List UInt8} {p : Nat}, l = pre ++ (a.flatMap num ++ x) → p = pre.length → (∀ n, n ∈ a → n ≤ 9007199254740991) → nms a.length l p = (a, p + (a.flatMap num).length, 0) := by
  induction a with
  | nil => intro l pre x p _ _ _; rfl
  | cons n a ih =>
    intro l pre x p h hp hs
    have h1 : l = pre ++ (num n ++ (a.flatMap num ++ x)) := by rw [h, List.flatMap_cons, List.append_assoc]
    have h2 := pk_at h1 hp (hs n (List.mem_cons_self ..))
    have h3 := ih (l := l) (pre := pre ++ num n) (x := x) (p := p + (num n).length) (by rw [h1, List.append_assoc]) (by rw [List.length_append, hp]) (fun u hu => hs u (List.mem_cons_of_mem _ hu))
    show (if (pk (l.drop p)).2.2 ≠ 0 then _ else _) = _
    rw [h2]
    dsimp only
    rw [if_neg (by simp), h3]
    dsimp only
    rw [if_neg (by simp), List.flatMap_cons, List.length_append, Nat.add_assoc]
def nine (N : Nat → Int) : List Nat := [(N 0).toNat, (N 1).toNat, (N 2).toNat, (N 3).toNat, (N 4).toNat, (N 5).toNat, (N 6).toNat, (N 7).toNat, (N 8).toNat]
theorem limAt_le (k : Nat) : limAt k ≤ 2147483647 := by
  unfold limAt
  split <;> omega
theorem numsTo_nine {N : Nat → Int} (h : numsOk N = true) : numsTo N 9 = (nine N).flatMap num := by
  have e : ∀ k, k < 9 → numI (N k) = num (N k).toNat := fun k hk => by
    have h1 := numsOk_at h hk
    have h2 := limAt_le k
    exact numI_in h1.1 (by omega)
  show ((((((((([] ++ numI (N 0)) ++ numI (N 1)) ++ numI (N 2)) ++ numI (N 3)) ++ numI (N 4)) ++ numI (N 5)) ++ numI (N 6)) ++ numI (N 7)) ++ numI (N 8)) = _
  rw [e 0 (by omega), e 1 (by omega), e 2 (by omega), e 3 (by omega), e 4 (by omega), e 5 (by omega), e 6 (by omega), e 7 (by omega), e 8 (by omega)]
  simp [nine]
theorem laid_flat (ss : List ByteArray) : laid ss = (ss.map fun s => s.data.toList).flatMap text := by
  induction ss with
  | nil => rfl
  | cons s l ih => show text _ ++ laid l = text _ ++ _; rw [ih]; rfl
theorem map_back (ss : List ByteArray) : (ss.map fun s => s.data.toList).map str = ss := by
  rw [List.map_map]
  have : (str ∘ fun s : ByteArray => s.data.toList) = id := rfl
  rw [this, List.map_id]
/-- What was laid is read. -/
theorem body_read {N : Nat → Int} {t : ByteArray} {ss : List ByteArray} (h : rightM N t ss = true) (hN : numL (nine N) = N ∨ ∀ k, k < 9 → numL (nine N) k = N k) :
    ∃ q1 q2 q3, nms 9 (body N t ss) 0 = (nine N, q1, 0) ∧ tx 1048576 (body N t ss) q1 = (t.data.toList, q2, 0) ∧ lsT (body N t ss) q2 = (ss.map (fun s => s.data.toList), q3, 0) ∧ q3 = (body N t ss).length := by
  obtain ⟨h1, h2, h3, h4, h5⟩ := rightM_yes h
  have hb : body N t ss = (nine N).flatMap num ++ (text t.data.toList ++ (num ss.length ++ ((ss.map fun s => s.data.toList).flatMap text))) := by
    unfold body texts
    rw [numsTo_nine h1, laid_flat, List.append_assoc]
  have hn9 : ∀ n, n ∈ nine N → n ≤ 9007199254740991 := by
    intro n hn
    have e : ∀ k, k < 9 → (N k).toNat ≤ 9007199254740991 := fun k hk => by
      have h1 := numsOk_at h1 hk
      have h2 := limAt_le k
      omega
    simp only [nine, List.mem_cons, List.mem_nil_iff, or_false] at hn
    rcases hn with rfl | rfl | rfl | rfl | rfl | rfl | rfl | rfl | rfl
    · exact e 0 (by omega)
    · exact e 1 (by omega)
    · exact e 2 (by omega)
    · exact e 3 (by omega)
    · exact e 4 (by omega)
    · exact e 5 (by omega)
    · exact e 6 (by omega)
    · exact e 7 (by omega)
    · exact e 8 (by omega)
  have a1 := nms_at (nine N) (l := body N t ss) (pre := []) (x := text t.data.toList ++ (num ss.length ++ ((ss.map fun s => s.data.toList).flatMap text))) (p := 0) hb rfl hn9
  have a2 := tx_at (l := body N t ss) (pre := (nine N).flatMap num) (t := t.data.toList) (x := num ss.length ++ ((ss.map fun s => s.data.toList).flatMap text)) (p := ((nine N).flatMap num).length) (most := 1048576) hb rfl (by rw [list_size]; exact h2) (by rw [list_size]; omega)
  have hlen : (ss.map fun s => s.data.toList).length = ss.length := List.length_map _
  have hsm : ∀ u, u ∈ ss.map (fun s => s.data.toList) → u.length ≤ 65536 := by
    intro u hu
    obtain ⟨s, hs, rfl⟩ := List.mem_map.1 hu
    rw [list_size]
    unfold longB at h4
    rw [List.any_eq_false] at h4
    have := h4 s hs
    simp only [decide_eq_true_eq] at this
    omega
  have a3 := lsT_at (ss.map fun s => s.data.toList) (l := body N t ss) (pre := (nine N).flatMap num ++ text t.data.toList) (x := []) (p := ((nine N).flatMap num).length + (text t.data.toList).length) (by rw [hb, hlen, List.append_nil, List.append_assoc]) (by rw [List.length_append]) (by rw [hlen]; exact h3) hsm
  rw [Nat.zero_add] at a1
  refine ⟨_, _, _, a1, a2, a3, ?_⟩
  rw [hb, hlen]
  simp only [List.length_append]
  omega
theorem numL_nine {N : Nat → Int} (h : numsOk N = true) (k : Nat) (hk : k < 9) : numL (nine N) k = N k := by
  have e : ∀ k, k < 9 → ((N k).toNat : Int) = N k := fun k hk => by have := (numsOk_at h hk).1; omega
  have h9 : k = 0 ∨ k = 1 ∨ k = 2 ∨ k = 3 ∨ k = 4 ∨ k = 5 ∨ k = 6 ∨ k = 7 ∨ k = 8 := by omega
  rcases h9 with rfl | rfl | rfl | rfl | rfl | rfl | rfl | rfl | rfl
  · exact e 0 hk
  · exact e 1 hk
  · exact e 2 hk
  · exact e 3 hk
  · exact e 4 hk
  · exact e 5 hk
  · exact e 6 hk
  · exact e 7 hk
  · exact e 8 hk
theorem rightM_congr {N N' : Nat → Int} (h : ∀ k, k < 9 → N k = N' k) (t : ByteArray) (ss : List ByteArray) : rightM N t ss = rightM N' t ss := by
  have : numsOk N = numsOk N' := by
    unfold numsOk
    rw [Bool.eq_iff_iff, List.all_eq_true, List.all_eq_true]
    constructor
    · intro g k hk
      have := g k hk
      unfold okAt at this ⊢
      rwa [h k (List.mem_range.1 hk)] at this
    · intro g k hk
      have := g k hk
      unfold okAt at this ⊢
      rwa [h k (List.mem_range.1 hk)]
  unfold rightM
  rw [this]
theorem body_ok {N : Nat → Int} {t : ByteArray} {ss : List ByteArray} (h : rightM N t ss = true) : rdE (body N t ss) = 0 := by
  obtain ⟨q1, q2, q3, a1, a2, a3, a4⟩ := body_read h (.inr (numL_nine (rightM_yes h).1))
  unfold rdE
  rw [a1]
  dsimp only
  rw [if_neg (by simp), a2]
  dsimp only
  rw [if_neg (by simp), a3]
  dsimp only
  rw [if_neg (by simp), if_neg (by omega), if_pos]
  rw [map_back, list_str, rightM_congr (numL_nine (rightM_yes h).1)]
  exact h

theorem opened_len (l : List UInt8) : (opened l).1.length ≤ l.length := by
  unfold opened
  split
  · exact Nat.zero_le _
  · split
    · show (List.take _ _).length ≤ _; rw [List.length_take]; omega
    · exact Nat.zero_le _
theorem opened_err (l : List UInt8) (h : (opened l).2 ≠ 0) : (opened l).1 = [] := by
  unfold opened at h ⊢
  split
  · rfl
  · split
    · rename_i h1 h2
      rw [if_neg h1, if_pos h2] at h
      exact absurd rfl h
    · rfl
/-- Of any text: a message that is right, or nothing. -/
theorem read_gen (s : ByteArray) (w : World) (hs : s.size ≤ 1000000000) :
    Calls Try.prog 72 #[.string s] w fun e w' => Below w.heap.size w w' ∧ ((∃ er : Nat, er ≠ 0 ∧ e = .returned (.tuple #[.agg #[.int .i64 0, .int .i64 0, .int .i64 0, .int .i64 0, .int .i64 0, .int .i64 0, .int .i64 0, .int .i64 0, .int .i64 0, .string ⟨#[]⟩, .slice none 0 0], .int .i64 (er : Nat)])) ∨
      (∃ (n0 n1 n2 n3 n4 n5 n6 n7 n8 : Int) (t : ByteArray) (A : Option Addr) (n c : Nat) (tt : List ByteArray), e = .returned (.tuple #[.agg #[.int .i64 n0, .int .i64 n1, .int .i64 n2, .int .i64 n3, .int .i64 n4, .int .i64 n5, .int .i64 n6, .int .i64 n7, .int .i64 n8, .string t, .slice A n c], .int .i64 0]) ∧ Strs w' A n tt ∧ n ≤ 4096 ∧ rightM (numAt n0 n1 n2 n3 n4 n5 n6 n7 n8) t tt = true)) := by
  obtain ⟨l, er, ho⟩ : ∃ l er, opened s.data.toList = (l, er) := ⟨_, _, rfl⟩
  by_cases he : er = 0
  · subst he
    refine (read_ok s l w hs ho).mono ?_
    rintro e w' ⟨hB, h⟩
    refine ⟨hB, ?_⟩
    rcases h with ⟨h1, h2⟩ | ⟨h1, A, c, h2, h3⟩
    · exact .inl ⟨_, h1, h2⟩
    · refine .inr ⟨_, _, _, _, _, _, _, _, _, _, A, _, c, _, h2, h3, lsT_len _ _, ?_⟩
      unfold rdE at h1
      split at h1
      · contradiction
      · split at h1
        · contradiction
        · split at h1
          · contradiction
          · split at h1
            · cases h1
            · split at h1
              · rename_i hr; exact hr
              · cases h1
  · have h1 : l = [] := by
      have := opened_err s.data.toList (by rw [ho]; exact he)
      rw [ho] at this
      exact this
    subst h1
    refine (read_bad s w (by omega) er ho he).mono ?_
    rintro e w' ⟨h2, h3⟩
    exact ⟨h3, .inl ⟨er, he, h2⟩⟩
end Go.Proofs.Ytdjgdhpncocahaa.MsgW
