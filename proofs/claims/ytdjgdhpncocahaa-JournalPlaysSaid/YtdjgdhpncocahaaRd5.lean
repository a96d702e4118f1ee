/- The document's reading of a number: stookref05.Read. -/
import Derived.Test.YtdjgdhpncocahaaJrnP
import Derived.Test.YtdjgdhpncocahaaProg
set_option linter.unusedVariables false
set_option linter.unusedSimpArgs false
namespace Go.Proofs.Ytdjgdhpncocahaa.Rd5
open Go.RowKit Go.Proofs.Ytdjgdhpncocahaa.Base Go.Proofs.Ytdjgdhpncocahaa.TapeP

/-- How many bytes at the beginning tell of more; the value of these and the next. -/
def hi : List UInt8 → Nat
  | [] => 0
  | b :: r => if 128 ≤ b.toNat then hi r + 1 else 0
def vl : List UInt8 → Nat
  | [] => 0
  | b :: r => if 128 ≤ b.toNat then b.toNat % 128 + 128 * vl r else b.toNat % 128
theorem hi_le (l : List UInt8) : hi l ≤ l.length := by
  induction l with
  | nil => exact Nat.le_refl _
  | cons b r ih => unfold hi; split <;> simp <;> omega
theorem hi_big {l : List UInt8} {k : Nat} (h : k < hi l) (hk : k < l.length) : 128 ≤ l[k].toNat := by
  induction l generalizing k with
  | nil => simp at hk
  | cons b r ih =>
    unfold hi at h
    by_cases hb : 128 ≤ b.toNat
    · rw [if_pos hb] at h
      cases k with
      | zero => exact hb
      | succ k => exact ih (by omega) (by simpa using hk)
    · rw [if_neg hb] at h; omega
theorem hi_small {l : List UInt8} (hk : hi l < l.length) : l[hi l].toNat < 128 := by
  induction l with
  | nil => simp at hk
  | cons b r ih =>
    by_cases hb : 128 ≤ b.toNat
    · have e : hi (b :: r) = hi r + 1 := by rw [hi, if_pos hb]
      have hk2 : hi r < r.length := by rw [e] at hk; simpa using hk
      have := ih hk2
      simp only [e, List.getElem_cons_succ]
      exact this
    · have e : hi (b :: r) = 0 := by rw [hi, if_neg hb]
      simp only [e, List.getElem_cons_zero]
      omega
theorem rd_hi (l : List UInt8) : ∀ i acc, i ≤ 7 → rd l i acc = if 8 ≤ i + hi l then (0, 0, 6) else if hi l = l.length then (0, 0, 2) else if (∃ h : hi l < l.length, l[hi l].toNat = 0 ∧ 0 < i + hi l) ∨ 9007199254740991 < acc + vl l * 2 ^ (7 * i) then (0, 0, 6) else (acc + vl l * 2 ^ (7 * i), i + hi l + 1, 0) := by
  induction l with
  | nil =>
    intro i acc hi7
    rw [rd_nil]
    have h0 : hi [] = 0 := rfl
    rw [if_neg (by rw [h0]; omega), if_pos (by rw [h0]; rfl)]
  | cons b r ih =>
    intro i acc hi7
    by_cases hb : 128 ≤ b.toNat
    · have e : hi (b :: r) = hi r + 1 := by rw [hi, if_pos hb]
      have ev : vl (b :: r) = b.toNat % 128 + 128 * vl r := by rw [vl, if_pos hb]
      rw [e]
      by_cases h8 : i + 1 < 8
      · rw [rd_more r acc hb h8, ih (i + 1) _ (by omega)]
        have hp : 2 ^ (7 * (i + 1)) = 128 * 2 ^ (7 * i) := by rw [Nat.mul_add, Nat.pow_add, Nat.mul_comm]
        have hs : acc + b.toNat % 128 * 2 ^ (7 * i) + vl r * 2 ^ (7 * (i + 1)) = acc + vl (b :: r) * 2 ^ (7 * i) := by
          rw [ev, hp, Nat.add_mul, Nat.add_assoc, ← Nat.mul_assoc, Nat.mul_comm (vl r) 128]
        rw [hs]
        have e1 : i + 1 + hi r = i + (hi r + 1) := by omega
        rw [e1]
        have e2 : (hi r = r.length) = (hi r + 1 = (b :: r).length) := by simp
        have e3 : (∃ h : hi r < r.length, r[hi r].toNat = 0 ∧ 0 < i + (hi r + 1)) = (∃ h : hi r + 1 < (b :: r).length, (b :: r)[hi r + 1].toNat = 0 ∧ 0 < i + (hi r + 1)) := by
          apply propext
          constructor
          · rintro ⟨h, h1, h2⟩; exact ⟨by simpa using h, by simpa using h1, h2⟩
          · rintro ⟨h, h1, h2⟩; exact ⟨by simpa using h, by simpa using h1, h2⟩
        simp only [e2, e3]
      · rw [rd_form r acc (by omega) (by omega), if_pos (by omega)]
    · have e : hi (b :: r) = 0 := by rw [hi, if_neg hb]
      have ev : vl (b :: r) = b.toNat % 128 := by rw [vl, if_neg hb]
      rw [e, ev, if_neg (by omega), if_neg (by simp)]
      by_cases h2 : 128 ≤ b.toNat ∨ (b.toNat = 0 ∧ 1 < i + 1) ∨ 9007199254740991 < acc + b.toNat % 128 * 2 ^ (7 * i)
      · rw [rd_form r acc (by omega) h2, if_pos]
        rcases h2 with h | h | h
        · omega
        · exact .inl ⟨by simp, by simpa using h.1, by omega⟩
        · exact .inr h
      · rw [rd_last r acc (by omega) h2, if_neg]
        rintro (⟨h, h1, h3⟩ | h)
        · exact h2 (.inr (.inl ⟨by simpa using h1, by omega⟩))
        · exact h2 (.inr (.inr h))
theorem pk_hi (l : List UInt8) : pk l = if 8 ≤ hi l then (0, 0, 6) else if hi l = l.length then (0, 0, 2) else if (∃ h : hi l < l.length, l[hi l].toNat = 0 ∧ 0 < hi l) ∨ 9007199254740991 < vl l then (0, 0, 6) else (vl l, hi l + 1, 0) := by
  have := rd_hi l 0 0 (by omega)
  simp only [Nat.zero_add, Nat.mul_zero, Nat.pow_zero, Nat.mul_one] at this
  exact this
theorem vl_at {l : List UInt8} {k : Nat} (hk : k < l.length) : vl (l.drop k) = if 128 ≤ l[k].toNat then l[k].toNat % 128 + 128 * vl (l.drop (k + 1)) else l[k].toNat % 128 := by
  rw [List.drop_eq_getElem_cons hk, vl]
theorem vl_lt (l : List UInt8) : vl l < 128 ^ (hi l + 1) := by
  induction l with
  | nil => show 0 < _; exact Nat.pow_pos (by omega)
  | cons b r ih =>
    unfold vl hi
    split
    · have h2 : (128 : Nat) ^ (hi r + 1 + 1) = 128 ^ (hi r + 1) * 128 := Nat.pow_succ ..
      omega
    · have := Nat.mod_lt b.toNat (show 0 < 128 by omega)
      simpa using this
theorem hi_drop {l : List UInt8} {k : Nat} (h : k ≤ hi l) : hi (l.drop k) = hi l - k := by
  induction k generalizing l with
  | zero => rfl
  | succ k ih =>
    cases l with
    | nil => exact absurd h (by show ¬ k + 1 ≤ 0; omega)
    | cons b r =>
      by_cases hb : 128 ≤ b.toNat
      · have e : hi (b :: r) = hi r + 1 := by rw [hi, if_pos hb]
        rw [e] at h ⊢
        rw [List.drop_succ_cons, ih (by omega)]
        omega
      · have e : hi (b :: r) = 0 := by rw [hi, if_neg hb]
        omega
theorem pk_s (s : ByteArray) : pk s.data.toList = if 8 ≤ hi s.data.toList then (0, 0, 6) else if hi s.data.toList = s.size then (0, 0, 2) else if (∃ h : hi s.data.toList < s.size, s[hi s.data.toList].toNat = 0 ∧ 0 < hi s.data.toList) ∨ 9007199254740991 < vl s.data.toList then (0, 0, 6) else (vl s.data.toList, hi s.data.toList + 1, 0) := by
  rw [pk_hi]
  have hex : (∃ h : hi s.data.toList < s.data.toList.length, s.data.toList[hi s.data.toList].toNat = 0 ∧ 0 < hi s.data.toList) = (∃ h : hi s.data.toList < s.size, s[hi s.data.toList].toNat = 0 ∧ 0 < hi s.data.toList) := by
    apply propext
    constructor
    · rintro ⟨h, h1⟩; exact ⟨by rw [list_size] at h; exact h, h1⟩
    · rintro ⟨h, h1⟩; exact ⟨by rw [list_size]; exact h, h1⟩
  by_cases h8 : 8 ≤ hi s.data.toList
  · rw [if_pos h8, if_pos h8]
  · rw [if_neg h8, if_neg h8]
    by_cases hl : hi s.data.toList = s.size
    · rw [if_pos hl, if_pos (by rw [list_size]; exact hl)]
    · rw [if_neg hl, if_neg (by rw [list_size]; exact hl)]
      simp only [hex]
/-- What the second loop has reckoned when it stands at j. -/
def back (l : List UInt8) (j : Nat) : Nat := if j ≤ hi l then vl (l.drop j) else 0
theorem back_bound (l : List UInt8) (j : Nat) (h8 : hi l < 8) (hj : j ≤ hi l + 1) : back l j ≤ 72057594037927936 ∧ (0 < j → back l j ≤ 562949953421312) := by
  unfold back
  by_cases h : j ≤ hi l
  · rw [if_pos h]
    have h1 := vl_lt (l.drop j)
    rw [hi_drop h] at h1
    have h2 := Nat.pow_le_pow_right (n := 128) (by omega) (show hi l - j + 1 ≤ 8 by omega)
    refine ⟨by omega, fun h0 => ?_⟩
    have h3 := Nat.pow_le_pow_right (n := 128) (by omega) (show hi l - j + 1 ≤ 7 by omega)
    omega
  · rw [if_neg h]
    exact ⟨by omega, fun _ => by omega⟩
theorem back_step (s : ByteArray) (i : Nat) (h : i ≤ hi s.data.toList) (hs : i < s.size) : back s.data.toList i = back s.data.toList (i + 1) * 128 + s[i].toNat % 128 := by
  have hl : i < s.data.toList.length := by rw [list_size]; exact hs
  have hv := vl_at hl
  have e : s.data.toList[i] = s[i] := rfl
  rw [e] at hv
  unfold back
  rw [if_pos h, hv]
  by_cases h1 : i + 1 ≤ hi s.data.toList
  · have := hi_big (l := s.data.toList) (k := i) (by omega) hl
    rw [e] at this
    rw [if_pos h1, if_pos this]
    omega
  · have hi2 : hi s.data.toList = i := by omega
    have h2 : s[i].toNat < 128 := by
      have := hi_small (l := s.data.toList) (by rw [hi2]; exact hl)
      simp only [hi2] at this
      exact this
    rw [if_neg h1, if_neg (by omega)]
    omega
set_option maxRecDepth 100000 in
set_option maxHeartbeats 2000000 in
theorem rread_any (s : ByteArray) (w : World) (hs : s.size ≤ 140737488351232) :
    Calls Try.prog 84 #[.string s] w fun e w' => e = .returned (.tuple #[.int .i64 ((pk s.data.toList).1 : Nat), .int .i64 ((pk s.data.toList).2.1 : Nat), .int .i64 ((pk s.data.toList).2.2 : Nat)]) ∧ w = w' := by
  have hpk := pk_s s
  have hhl := hi_le s.data.toList
  rw [list_size] at hhl
  go_enter Try.func84, Try.ntmps84
  go_wp2
  go_loop [5] (fun i => ∃ k : Nat, k ≤ hi s.data.toList ∧ i = .int .i64 k) (fun i => s.size - (intOf i).toNat)
  case atStart => exact ⟨0, by omega, rfl⟩
  case round =>
    obtain ⟨k, hk, rfl⟩ := hrel
    by_cases hlt : k < hi s.data.toList
    · have hks : k < s.size := by omega
      have hbig : 128 ≤ s[k].toNat := hi_big (l := s.data.toList) hlt (by rw [list_size]; exact hks)
      have HP := Lib.hid hpk
      clear hpk
      have hb1 : (128 : Int) ≤ (s[k].toNat : Int) := by omega
      go_wp2
      go_round
      case rel => exact ⟨k + 1, by omega, by go_num⟩
      case measure => simp [intOf]; omega
    · obtain rfl : k = hi s.data.toList := by omega
      have hsm : ∀ h : hi s.data.toList < s.size, s[hi s.data.toList].toNat < 128 := fun h => hi_small (l := s.data.toList) (by rw [list_size]; exact h)
      have hbd : ∀ j, hi s.data.toList < 8 → j ≤ hi s.data.toList + 1 → back s.data.toList j ≤ 72057594037927936 ∧ (0 < j → back s.data.toList j ≤ 562949953421312) := fun j => back_bound s.data.toList j
      have hst : ∀ i, i ≤ hi s.data.toList → (hs : i < s.size) → back s.data.toList i = back s.data.toList (i + 1) * 128 + s[i].toNat % 128 := fun i => back_step s i
      have hz0 : back s.data.toList (hi s.data.toList + 1) = 0 := by unfold back; rw [if_neg (by omega)]
      have hv0 : back s.data.toList 0 = vl s.data.toList := by unfold back; rw [if_pos (by omega), List.drop_zero]
      generalize back s.data.toList = bk at *
      generalize vl s.data.toList = V at *
      generalize hi s.data.toList = N at *
      by_cases hN : N = s.size
      · by_cases h8 : 8 ≤ N
        · rw [if_pos h8] at hpk
          have HPK := Lib.hid hpk
          subst hN
          clear hst hsm hbd hpk
          go_wp2
          go_ret3
          exact ⟨by rw [HPK.out]; rfl, rfl⟩
        · rw [if_neg h8, if_pos hN] at hpk
          have HPK := Lib.hid hpk
          subst hN
          clear hst hsm hbd hpk
          go_wp2
          go_ret3
          exact ⟨by rw [HPK.out]; rfl, rfl⟩
      · have hNs : N < s.size := by omega
        have hb := hsm hNs
        have hb1 : (s[N].toNat : Int) < 128 := by omega
        by_cases h8 : 8 ≤ N
        · rw [if_pos h8] at hpk
          have HPK := Lib.hid hpk
          clear hst hsm hbd hN hpk
          go_wp2
          go_ret3
          exact ⟨by rw [HPK.out]; rfl, rfl⟩
        · rw [if_neg h8, if_neg hN] at hpk
          have he : ((N : Int) == (s.size : Int)) = false := int_ne (by omega)
          have HP := Lib.hid hpk
          have HST := Lib.hid hst
          have HBD := Lib.hid hbd
          have HV := Lib.hid hv0
          have HZ := Lib.hid hz0
          clear hpk hst hbd hsm hv0 hz0 hN
          go_wp2
          go_loop [6, 7] (fun x i => ∃ j : Nat, j ≤ N + 1 ∧ i = .int .i64 ((j : Int) - 1) ∧ x = .int .i64 ((bk j : Nat) : Int)) (fun _ i => (intOf i + 1).toNat)
          case atStart => exact ⟨N + 1, by omega, by go_num, by rw [HZ.out]; rfl⟩
          case round =>
            obtain ⟨j, hj, rfl, rfl⟩ := hrel
            by_cases hj0 : j = 0
            · subst hj0
              rw [HV.out]
              have hp := HP.out
              by_cases hc : (∃ h : N < s.size, s[N].toNat = 0 ∧ 0 < N) ∨ 9007199254740991 < V
              · rw [if_pos hc] at hp
                clear HP HST HBD HV HZ
                have HPK := Lib.hid hp
                clear hp
                rcases hc with ⟨_, h1, h2⟩ | h1
                · have e1 : ((s[N].toNat : Int) == 0) = true := int_eq (by omega)
                  go_wp2
                  go_ret3
                  exact ⟨by rw [HPK.out]; rfl, rfl⟩
                · have e2 : decide ((9007199254740991 : Int) < (V : Int)) = true := decide_eq_true (by omega)
                  by_cases hN0 : 0 < N
                  · cases e3 : ((s[N].toNat : Int) == 0) with
                    | true => go_wp2; go_ret3; exact ⟨by rw [HPK.out]; rfl, rfl⟩
                    | false => go_wp2; go_ret3; exact ⟨by rw [HPK.out]; rfl, rfl⟩
                  · go_wp2; go_ret3; exact ⟨by rw [HPK.out]; rfl, rfl⟩
              · rw [if_neg hc] at hp
                have hv : V ≤ 9007199254740991 := by
                  rcases Nat.lt_or_ge 9007199254740991 V with h | h
                  · exact absurd (.inr h) hc
                  · exact h
                have h0 : 0 < N → ((s[N].toNat : Int) == 0) = false := fun h => int_ne (fun e => hc (.inl ⟨hNs, by omega, h⟩))
                clear HP HST HBD HV HZ hc
                have HPK := Lib.hid hp
                clear hp
                by_cases hN0 : 0 < N
                · have h1 := h0 hN0
                  clear h0
                  go_wp2
                  go_ret3
                  exact ⟨by rw [HPK.out]; rfl, rfl⟩
                · clear h0
                  go_wp2
                  go_ret3
                  exact ⟨by rw [HPK.out]; rfl, rfl⟩
            · obtain ⟨i, rfl⟩ : ∃ i, j = i + 1 := ⟨j - 1, by omega⟩
              have hi2 : i < s.size := by omega
              have hs1 := HST.out i (by omega) hi2
              have hs2 := HBD.out (i + 1) (by omega) (by omega)
              have hs3 : bk i ≤ 72057594037927936 := HBD.out i (by omega) (by omega) |>.1
              have hby := s[i].toNat_lt
              generalize bk (i + 1) = y at *
              have HS1 := Lib.hid hs1
              have hij : (((i + 1 : Nat) : Int) - 1) = (i : Int) := by omega
              rw [hij]
              have hy := hs2.2 (by omega)
              clear hs1 hs2 HP HST HBD HV HZ hij
              go_wp2
              go_round
              case rel => exact ⟨i, by omega, by go_num, by rw [HS1.out]; go_num⟩
              case measure => first | (simp [intOf]; done) | (simp [intOf]; omega)
end Go.Proofs.Ytdjgdhpncocahaa.Rd5
