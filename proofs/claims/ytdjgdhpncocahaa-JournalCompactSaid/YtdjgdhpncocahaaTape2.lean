/- The tape's reading methods, walked. -/
import Derived.Test.YtdjgdhpncocahaaTape
set_option linter.unusedVariables false
set_option linter.unusedSimpArgs false
namespace Go.Proofs.Ytdjgdhpncocahaa.TapeW
open Go.RowKit Go.Proofs.Ytdjgdhpncocahaa.Base Go.Proofs.Ytdjgdhpncocahaa.TapeP

/-- A tape's step: it stands elsewhere, and no other block has turned. -/
structure Step (w w' : World) (b : Nat) (s : ByteArray) (q : Nat) : Prop where
  tape : TapeAt w' b s q
  only : Only b (b + 1) w w'
theorem Step.drewN {w w' : World} {b : Nat} {s : ByteArray} {q : Nat} (h : Step w w' b s q) (n : Nat) : Step w (w'.drewN n) b s q := ⟨h.tape.drawn (Drawn.step n), h.only.drewN n⟩
theorem drawn_only {w w' : World} (h : Drawn w w') (lo hi : Nat) : Only lo hi w w' := by
  obtain ⟨n, rfl⟩ := h
  exact (Only.refl lo hi w).drewN n

theorem only_set {w w' : World} {b : Nat} (h : Only b (b + 1) w w') (j : Nat) (v : Value) : Only b (b + 1) w (w'.setCell ⟨b, j, none⟩ v) :=
  h.setCell (p := ⟨b, j, none⟩) (Nat.le_refl b) (Nat.lt_succ_self b) v
theorem peek_is (b : Nat) (s : ByteArray) (p : Nat) (w : World) (hT : TapeAt w b s p) {n i er : Nat} (h : pk (s.data.toList.drop p) = (n, i, er)) :
    Calls Try.prog 79 #[.pointer (some ⟨b, 0, none⟩)] w fun e w' => e = .returned (.tuple #[.int .i64 (n : Nat), .int .i64 (i : Nat), .int .i64 (er : Nat)]) ∧ Drawn w w' := by
  have := peek_any b s p w hT
  rwa [h] at this
theorem pk_facts {s : ByteArray} {p n i er : Nat} (h : pk (s.data.toList.drop p) = (n, i, er)) : n ≤ 9007199254740991 ∧ i ≤ s.size - p ∧ (er = 0 → 0 < i) ∧ (er ≠ 0 → n = 0 ∧ i = 0 ∧ (er = 2 ∨ er = 6)) := by
  have h1 := pk_le (s.data.toList.drop p)
  have h2 := pk_ilen (s.data.toList.drop p)
  have h3 := pk_in (s.data.toList.drop p)
  have h4 := pk_err (s.data.toList.drop p)
  rw [h] at h1 h2 h3 h4
  rw [List.length_drop, list_size] at h2
  exact ⟨h1, h2, fun e => (h3 e).1, h4⟩

set_option maxRecDepth 100000 in
set_option maxHeartbeats 1000000 in
theorem tnum_ok (b : Nat) (s : ByteArray) (p : Nat) (w : World) (hT : TapeAt w b s p) {n i : Nat} (h : pk (s.data.toList.drop p) = (n, i, 0)) :
    Calls Try.prog 52 #[.pointer (some ⟨b, 0, none⟩)] w fun e w' => e = .returned (.tuple #[.int .i64 (n : Nat), .int .i64 0]) ∧ Step w w' b s (p + i) := by
  have hf := (pk_facts h).2.1
  have hle := hT.le
  have hsz := hT.sz
  have hp := peek_is b s p w hT h
  have HP := Lib.hid hp
  clear h hp
  go_enter Try.func52, Try.ntmps52
  go_wp2_with fail
  refine HP.out.mono ?_
  rintro e w2 ⟨rfl, hd⟩
  have hT2 := hT.drawn hd
  have c1 := hT2.c1
  have f1 := hT2.fr 1
  have HS : Step w (w2.setCell ⟨b, 1, none⟩ (.int .i64 (p + i : Nat))) b s (p + i) := ⟨hT2.set (by omega), only_set (drawn_only hd b (b + 1)) _ _⟩
  have hc : ((p + i : Nat) : Int) = (p : Int) + i := by omega
  rw [hc] at HS
  clear hT2 hT hd HP hc
  go_wp2
  go_ret2
  exact ⟨rfl, HS⟩
set_option maxRecDepth 100000 in
set_option maxHeartbeats 1000000 in
theorem tnum_err (b : Nat) (s : ByteArray) (p : Nat) (w : World) (hT : TapeAt w b s p) {n i er : Nat} (h : pk (s.data.toList.drop p) = (n, i, er)) (he : er ≠ 0) :
    Calls Try.prog 52 #[.pointer (some ⟨b, 0, none⟩)] w fun e w' => e = .returned (.tuple #[.int .i64 0, .int .i64 (er : Nat)]) ∧ Drawn w w' := by
  have hp := peek_is b s p w hT h
  have HP := Lib.hid hp
  have hz : (((er : Nat) : Int) != 0) = true := int_bne (by omega)
  clear h hp
  go_enter Try.func52, Try.ntmps52
  go_wp2_with fail
  refine HP.out.mono ?_
  rintro e w2 ⟨rfl, hd⟩
  clear HP hT
  go_wp2
  go_ret2
  exact ⟨rfl, hd⟩
theorem tnum_nil (w : World) :
    Calls Try.prog 52 #[.pointer none] w fun e w' => e = .returned (.tuple #[.int .i64 0, .int .i64 2]) ∧ w = w' := by
  go_enter Try.func52, Try.ntmps52
  go_wp2_with fail
  refine (peek_nil _).mono ?_
  rintro e w2 ⟨rfl, rfl⟩
  go_wp2
  go_ret2
  exact ⟨rfl, rfl⟩
/-- The whole number of a number. -/
def sgn (n : Nat) : Int := if n % 2 = 1 then -(((n : Int) + 1) / 2) else (n : Int) / 2
set_option maxRecDepth 100000 in
set_option maxHeartbeats 1000000 in
theorem twhole_of (v : Value) (w : World) (n er : Nat) (R : World → Prop) (hn : n ≤ 9007199254740991) (h : Calls Try.prog 52 #[v] w fun e w' => e = .returned (.tuple #[.int .i64 (n : Nat), .int .i64 (er : Nat)]) ∧ R w') :
    Calls Try.prog 53 #[v] w fun e w' => e = .returned (.tuple #[.int .i64 (sgn n), .int .i64 (er : Nat)]) ∧ R w' := by
  have HP := Lib.hid h
  clear h
  unfold sgn
  by_cases ho : n % 2 = 1
  · rw [if_pos ho]
    have hz : (((n : Nat) : Int) % 2 == 1) = true := int_eq (by omega)
    clear ho
    go_enter Try.func53, Try.ntmps53
    go_wp2_with fail
    refine HP.out.mono ?_
    rintro e w2 ⟨rfl, hd⟩
    go_wp2
    go_ret2
    have e1 : wrap64 (-((n : Int) + 1).tdiv 2) = -(((n : Int) + 1) / 2) := by
      rw [Int.tdiv_eq_ediv_of_nonneg (by omega)]
      unfold wrap64
      omega
    rw [← e1]
    exact ⟨rfl, hd⟩
  · rw [if_neg ho]
    have hz : (((n : Nat) : Int) % 2 == 1) = false := int_ne (by omega)
    clear ho
    go_enter Try.func53, Try.ntmps53
    go_wp2_with fail
    refine HP.out.mono ?_
    rintro e w2 ⟨rfl, hd⟩
    go_wp2
    go_ret2
    exact ⟨rfl, hd⟩
set_option maxRecDepth 100000 in
set_option maxHeartbeats 1000000 in
theorem count_ok (b : Nat) (s : ByteArray) (p : Nat) (m : Int) (w : World) (hT : TapeAt w b s p) {n i : Nat} (h : pk (s.data.toList.drop p) = (n, i, 0)) (hm : (n : Int) ≤ m) :
    Calls Try.prog 54 #[.pointer (some ⟨b, 0, none⟩), .int .i64 m] w fun e w' => e = .returned (.tuple #[.int .i64 (n : Nat), .int .i64 0]) ∧ Step w w' b s (p + i) := by
  have hf := (pk_facts h).2.1
  have hle := hT.le
  have hsz := hT.sz
  have HP := Lib.hid (peek_is b s p w hT h)
  clear h
  go_enter Try.func54, Try.ntmps54
  go_wp2_with fail
  refine HP.out.mono ?_
  rintro e w2 ⟨rfl, hd⟩
  have hT2 := hT.drawn hd
  have c1 := hT2.c1
  have f1 := hT2.fr 1
  have HS : Step w (w2.setCell ⟨b, 1, none⟩ (.int .i64 (p + i : Nat))) b s (p + i) := ⟨hT2.set (by omega), only_set (drawn_only hd b (b + 1)) _ _⟩
  have hc : ((p + i : Nat) : Int) = (p : Int) + i := by omega
  rw [hc] at HS
  clear hT2 hT hd HP hc
  go_wp2
  go_ret2
  exact ⟨rfl, HS⟩
set_option maxRecDepth 100000 in
set_option maxHeartbeats 1000000 in
theorem count_large (b : Nat) (s : ByteArray) (p : Nat) (m : Int) (w : World) (hT : TapeAt w b s p) {n i : Nat} (h : pk (s.data.toList.drop p) = (n, i, 0)) (hm : m < (n : Int)) :
    Calls Try.prog 54 #[.pointer (some ⟨b, 0, none⟩), .int .i64 m] w fun e w' => e = .returned (.tuple #[.int .i64 0, .int .i64 3]) ∧ Drawn w w' := by
  have HP := Lib.hid (peek_is b s p w hT h)
  clear h
  go_enter Try.func54, Try.ntmps54
  go_wp2_with fail
  refine HP.out.mono ?_
  rintro e w2 ⟨rfl, hd⟩
  clear HP hT
  go_wp2
  go_ret2
  exact ⟨rfl, hd⟩
set_option maxRecDepth 100000 in
set_option maxHeartbeats 1000000 in
theorem count_err (b : Nat) (s : ByteArray) (p : Nat) (m : Int) (w : World) (hT : TapeAt w b s p) {n i er : Nat} (h : pk (s.data.toList.drop p) = (n, i, er)) (he : er ≠ 0) :
    Calls Try.prog 54 #[.pointer (some ⟨b, 0, none⟩), .int .i64 m] w fun e w' => e = .returned (.tuple #[.int .i64 0, .int .i64 (er : Nat)]) ∧ Drawn w w' := by
  have HP := Lib.hid (peek_is b s p w hT h)
  have hz : (((er : Nat) : Int) != 0) = true := int_bne (by omega)
  clear h
  go_enter Try.func54, Try.ntmps54
  go_wp2_with fail
  refine HP.out.mono ?_
  rintro e w2 ⟨rfl, hd⟩
  clear HP hT
  go_wp2
  go_ret2
  exact ⟨rfl, hd⟩
theorem count_nil (m : Int) (w : World) :
    Calls Try.prog 54 #[.pointer none, .int .i64 m] w fun e w' => e = .returned (.tuple #[.int .i64 0, .int .i64 2]) ∧ w = w' := by
  go_enter Try.func54, Try.ntmps54
  go_wp2_with fail
  refine (peek_nil _).mono ?_
  rintro e w2 ⟨rfl, rfl⟩
  go_wp2
  go_ret2
  exact ⟨rfl, rfl⟩
theorem end_any (b : Nat) (s : ByteArray) (p : Nat) (w : World) (hT : TapeAt w b s p) :
    Calls Try.prog 55 #[.pointer (some ⟨b, 0, none⟩)] w fun e w' => e = .returned (.bool ((s.size : Int) - p == 0)) ∧ Drawn w w' := by
  go_enter Try.func55, Try.ntmps55
  go_wp2_with fail
  refine (left_any b s p _ hT).mono ?_
  rintro e w2 ⟨rfl, hd⟩
  clear hT
  go_wp2
  go_ret
  exact ⟨rfl, hd⟩
theorem end_nil (w : World) : Calls Try.prog 55 #[.pointer none] w fun e w' => e = .returned (.bool true) ∧ w = w' := by
  go_enter Try.func55, Try.ntmps55
  go_wp2_with fail
  refine (left_nil _).mono ?_
  rintro e w2 ⟨rfl, rfl⟩
  go_wp2
  go_ret
  exact ⟨rfl, rfl⟩
set_option maxRecDepth 100000 in
set_option maxHeartbeats 1000000 in
theorem ttext_err (b : Nat) (s : ByteArray) (p : Nat) (m : Int) (w : World) (hT : TapeAt w b s p) {n i er : Nat} (h : pk (s.data.toList.drop p) = (n, i, er)) (he : er ≠ 0) :
    Calls Try.prog 51 #[.pointer (some ⟨b, 0, none⟩), .int .i64 m] w fun e w' => e = .returned (.tuple #[.string (str []), .int .i64 (er : Nat)]) ∧ Drawn w w' := by
  have HP := Lib.hid (peek_is b s p w hT h)
  have hz : (((er : Nat) : Int) != 0) = true := int_bne (by omega)
  clear h
  go_enter Try.func51, Try.ntmps51
  go_wp2_with fail
  refine HP.out.mono ?_
  rintro e w2 ⟨rfl, hd⟩
  clear HP hT
  go_wp2
  go_ret2
  exact ⟨rfl, hd⟩
set_option maxRecDepth 100000 in
set_option maxHeartbeats 1000000 in
theorem ttext_large (b : Nat) (s : ByteArray) (p : Nat) (m : Int) (w : World) (hT : TapeAt w b s p) {n i : Nat} (h : pk (s.data.toList.drop p) = (n, i, 0)) (hm : m < (n : Int)) :
    Calls Try.prog 51 #[.pointer (some ⟨b, 0, none⟩), .int .i64 m] w fun e w' => e = .returned (.tuple #[.string (str []), .int .i64 3]) ∧ Drawn w w' := by
  have HP := Lib.hid (peek_is b s p w hT h)
  clear h
  go_enter Try.func51, Try.ntmps51
  go_wp2_with fail
  refine HP.out.mono ?_
  rintro e w2 ⟨rfl, hd⟩
  clear HP hT
  go_wp2
  go_ret2
  exact ⟨rfl, hd⟩
set_option maxRecDepth 100000 in
set_option maxHeartbeats 1000000 in
theorem ttext_short (b : Nat) (s : ByteArray) (p : Nat) (m : Int) (w : World) (hT : TapeAt w b s p) {n i : Nat} (h : pk (s.data.toList.drop p) = (n, i, 0)) (hm : (n : Int) ≤ m) (hn : s.size < p + i + n) :
    Calls Try.prog 51 #[.pointer (some ⟨b, 0, none⟩), .int .i64 m] w fun e w' => e = .returned (.tuple #[.string (str []), .int .i64 2]) ∧ Drawn w w' := by
  have hf := (pk_facts h).2.1
  have hle := hT.le
  have hsz := hT.sz
  have hn2 : ((s.size : Int) - p - i : Int) < (n : Int) := by omega
  have HP := Lib.hid (peek_is b s p w hT h)
  clear h
  go_enter Try.func51, Try.ntmps51
  go_wp2_with fail
  refine HP.out.mono ?_
  rintro e w2 ⟨rfl, hd⟩
  replace hT := hT.drawn hd
  have HD := Lib.hid hd
  clear HP hd
  go_wp2_with (go_at_call 50; (with_reducible refine (left_any b s p _ hT).mono ?_); rintro e w3 ⟨rfl, hd2⟩)
  go_ret2
  exact ⟨rfl, HD.out.trans hd2⟩
set_option maxRecDepth 100000 in
set_option maxHeartbeats 2000000 in
theorem ttext_ok (b : Nat) (s : ByteArray) (p : Nat) (m : Int) (w : World) (hT : TapeAt w b s p) {n i : Nat} (h : pk (s.data.toList.drop p) = (n, i, 0)) (hm : (n : Int) ≤ m) (hn : p + i + n ≤ s.size) :
    Calls Try.prog 51 #[.pointer (some ⟨b, 0, none⟩), .int .i64 m] w fun e w' => e = .returned (.tuple #[.string (str ((s.data.toList.drop (p + i)).take n)), .int .i64 0]) ∧ Step w w' b s (p + i + n) := by
  have hf := (pk_facts h).2.1
  have hle := hT.le
  have hsz := hT.sz
  have hn2 : (n : Int) ≤ (s.size : Int) - p - i := by omega
  have HP := Lib.hid (peek_is b s p w hT h)
  clear h
  go_enter Try.func51, Try.ntmps51
  go_wp2_with fail
  refine HP.out.mono ?_
  rintro e w2 ⟨rfl, hd⟩
  replace hT := hT.drawn hd
  have HD := Lib.hid hd
  clear HP hd
  go_upto_region 8 with (go_at_call 50; (with_reducible refine (left_any b s p _ hT).mono ?_); rintro e w3 ⟨rfl, hd2⟩)
  have hT3 := hT.drawn hd2
  have HD3 := Lib.hid (HD.out.trans hd2)
  have c1 := hT3.c1
  have f1 := hT3.fr 1
  have HS : Step w (w3.setCell ⟨b, 1, none⟩ (.int .i64 (p + i + n : Nat))) b s (p + i + n) := ⟨hT3.set (by omega), only_set (drawn_only HD3.out b (b + 1)) _ _⟩
  have hc : ((p + i + n : Nat) : Int) = (p : Int) + i + n := by omega
  rw [hc] at HS
  have c0' := HS.tape.c0
  have c1' := HS.tape.c1
  rw [hc] at c1'
  have HSS := Lib.hid HS
  have hb1 : (0 : Int) ≤ (p : Int) + i := by omega
  have hb2 : (p : Int) + i ≤ (p : Int) + i + n := by omega
  have hb3 : (p : Int) + i + n ≤ (s.size : Int) := by omega
  have hb4 : ((p : Int) + i).toNat = p + i := by omega
  have hb5 : ((p : Int) + i + n).toNat = p + i + n := by omega
  clear hT hT3 hd2 HD HD3 HS hc
  go_upto_region 10 with (fail)
  generalize w3.setCell ⟨b, 1, none⟩ (.int .i64 ((p : Int) + i + n)) = w4 at c0' c1' HSS ⊢
  clear c1 f1
  have hE : s.extract (p + i) (p + i + n) = str ((s.data.toList.drop (p + i)).take n) := by
    rw [extract_str, List.drop_take]
    have : p + i + n - (p + i) = n := by omega
    rw [this]
  have HE := Lib.hid hE
  clear hE
  go_quiet (fail)
  go_wp2
  go_ret2
  exact ⟨by rw [← HE.out]; rfl, HSS.out.drewN _⟩
theorem ttext_nil (m : Int) (w : World) :
    Calls Try.prog 51 #[.pointer none, .int .i64 m] w fun e w' => e = .returned (.tuple #[.string (str []), .int .i64 2]) ∧ w = w' := by
  go_enter Try.func51, Try.ntmps51
  go_wp2_with fail
  refine (peek_nil _).mono ?_
  rintro e w2 ⟨rfl, rfl⟩
  go_wp2
  go_ret2
  exact ⟨rfl, rfl⟩
end Go.Proofs.Ytdjgdhpncocahaa.TapeW
