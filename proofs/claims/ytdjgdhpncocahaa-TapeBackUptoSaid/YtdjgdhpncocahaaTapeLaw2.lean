/- The laws TapeNil, TapeStays walked. -/
import Derived.Test.YtdjgdhpncocahaaTape2
import Derived.Test.YtdjgdhpncocahaaTapeLaw1
set_option linter.unusedVariables false
set_option linter.unusedSimpArgs false
namespace Go.Proofs.Ytdjgdhpncocahaa.TapeL
open Go.RowKit Go.Proofs.Ytdjgdhpncocahaa.Base Go.Proofs.Ytdjgdhpncocahaa.TapeP Go.Proofs.Ytdjgdhpncocahaa.TapeW

theorem whole_nil (w : World) : Calls Try.prog 53 #[.pointer none] w fun e w' => e = .returned (.tuple #[.int .i64 0, .int .i64 2]) ∧ w = w' :=
  twhole_of (.pointer none) w 0 2 (fun w' => w = w') (by omega) (tnum_nil w)
set_option maxRecDepth 100000 in
set_option maxHeartbeats 1000000 in
theorem nil_any (m : Int) (w : World) :
    Calls Try.prog 12 #[.int .i64 m] w fun e w' => e = .returned (.bool true) ∧ Below w.heap.size w w' := by
  have HB : Below w.heap.size w w := Below.refl _ _
  go_enter Try.func12, Try.ntmps12
  go_wp2_with (first | (go_at_call 23; (with_reducible refine (awake_any _).mono ?_); rintro e w2 ⟨rfl, hd⟩; (first | replace HB := bt HB HB.size hd | replace HB := bt_drew HB HB.size hd | replace HB := bt_drewN HB HB.size hd); clear hd) | (go_at_call 52; (with_reducible refine (tnum_nil _).mono ?_); rintro e w2 ⟨rfl, rfl⟩) | (go_at_call 53; (with_reducible refine (whole_nil _).mono ?_); rintro e w2 ⟨rfl, rfl⟩) | (go_at_call 54; (with_reducible refine (count_nil _ _).mono ?_); rintro e w2 ⟨rfl, rfl⟩) | (go_at_call 51; (with_reducible refine (ttext_nil _ _).mono ?_); rintro e w2 ⟨rfl, rfl⟩) | (go_at_call 50; (with_reducible refine (left_nil _).mono ?_); rintro e w2 ⟨rfl, rfl⟩) | (go_at_call 55; (with_reducible refine (end_nil _).mono ?_); rintro e w2 ⟨rfl, rfl⟩))
  all_goals (go_ret; exact ⟨rfl, HB⟩)

theorem tape_only {w w' : World} {b b2 : Nat} {s : ByteArray} {p : Nat} (h : TapeAt w b2 s p) (ho : Only b (b + 1) w w') (hne : b2 ≠ b) : TapeAt w' b2 s p :=
  ⟨(ho.block b2 h.lt (by omega)).trans h.blk, h.le, h.sz⟩
theorem step_below {B : Nat} {w0 w w' : World} {b : Nat} {s : ByteArray} {q : Nat} (h : Below B w0 w) (hb : B ≤ b) (hB : B ≤ w.heap.size) (hs : Step w w' b s q) : Below B w0 w' := h.trans (hs.only.below hb hB)
set_option maxRecDepth 100000 in
set_option maxHeartbeats 2000000 in
theorem stays_big (s : ByteArray) (m : Int) (w : World) (h : 3000 < s.size) :
    Calls Try.prog 11 #[.string s, .int .i64 m] w fun e w' => e = .returned (.bool true) ∧ Below w.heap.size w w' := by
  have HB : Below w.heap.size w w := Below.refl _ _
  go_enter Try.func11, Try.ntmps11
  go_wp2_with (go_at_call 23; (with_reducible refine (awake_any _).mono ?_); rintro e w2 ⟨rfl, hd⟩; (first | replace HB := bt HB HB.size hd | replace HB := bt_drew HB HB.size hd | replace HB := bt_drewN HB HB.size hd); clear hd)
  all_goals (go_ret; exact ⟨rfl, HB⟩)
set_option maxRecDepth 100000 in
set_option maxHeartbeats 2000000 in
theorem stays_ok (s : ByteArray) (m : Int) (w : World) (h : ¬ 3000 < s.size) (hs : s.size ≤ 140737488351232) {n i : Nat} (hp : pk (s.data.toList.drop 0) = (n, i, 0)) (hm : (n : Int) ≤ m) (hn : 0 + i + n ≤ s.size) :
    Calls Try.prog 11 #[.string s, .int .i64 m] w fun e w' => e = .returned (.bool true) ∧ Below w.heap.size w w' := by
  have HB : Below w.heap.size w w := Below.refl _ _
  have hi := (pk_facts hp).2.2.1 rfl
  have hdec : decide ((s.size : Int) - ((i : Int) + (n : Int)) < (s.size : Int)) = true := decide_eq_true (by omega)
  have HP := Lib.hid hp
  clear hp
  go_enter Try.func11, Try.ntmps11
  go_wp2_with (first | (go_at_call 23; (with_reducible refine (awake_any _).mono ?_); rintro e w2 ⟨rfl, hd⟩; (first | replace HB := bt HB HB.size hd | replace HB := bt_drew HB HB.size hd | replace HB := bt_drewN HB HB.size hd); clear hd) | (go_at_call 49; (with_reducible refine (new_tape _ _ hs).mono ?_); rintro e w2 ⟨b, rfl, hT, hb, hd⟩; replace hb := Nat.le_trans HB.size hb; (first | replace HB := bt HB HB.size hd | replace HB := bt_drew HB HB.size hd | replace HB := bt_drewN HB HB.size hd); clear hd) | (go_at_call 50; (with_reducible refine (left_any _ _ _ _ hT).mono ?_); rintro e w2 ⟨rfl, hd⟩; replace hT := hT.drawn hd; replace HB := HB.trans hd.below; clear hd) | (go_at_call 51; (with_reducible refine (ttext_ok _ _ _ _ _ hT HP.out hm hn).mono ?_); rintro e w3 ⟨rfl, hst⟩; replace HB := step_below HB hb HB.size hst; replace hT := hst.tape; clear hst))
  all_goals (go_ret; exact ⟨rfl, HB⟩)
set_option maxRecDepth 100000 in
set_option maxHeartbeats 2000000 in
theorem stays_err (s : ByteArray) (m : Int) (w : World) (h : ¬ 3000 < s.size) (hs : s.size ≤ 140737488351232) (e x g : Nat) (he : e ≠ 0)
    (hText : ∀ (b : Nat) (w : World), TapeAt w b s 0 → Calls Try.prog 51 #[.pointer (some ⟨b, 0, none⟩), .int .i64 m] w fun r w' => r = .returned (.tuple #[.string (str []), .int .i64 (e : Nat)]) ∧ Drawn w w')
    (hNum : ∀ (b : Nat) (w : World), TapeAt w b s 0 → Calls Try.prog 52 #[.pointer (some ⟨b, 0, none⟩)] w fun r w' => r = .returned (.tuple #[.int .i64 (x : Nat), .int .i64 (g : Nat)]) ∧ ∃ q, Step w w' b s q) :
    Calls Try.prog 11 #[.string s, .int .i64 m] w fun e w' => e = .returned (.bool true) ∧ Below w.heap.size w w' := by
  have HB : Below w.heap.size w w := Below.refl _ _
  have HT := Lib.hid hText
  have HN := Lib.hid hNum
  have hz : (((e : Nat) : Int) == 0) = false := int_ne (by omega)
  clear hText hNum he
  go_enter Try.func11, Try.ntmps11
  go_upto_region 9 with (first | (go_at_call 23; (with_reducible refine (awake_any _).mono ?_); rintro e w2 ⟨rfl, hd⟩; (first | replace HB := bt HB HB.size hd | replace HB := bt_drew HB HB.size hd | replace HB := bt_drewN HB HB.size hd); clear hd) | (go_at_call 49; (with_reducible refine (new_tape _ _ hs).mono ?_); rintro e w2 ⟨b, rfl, hT, hb, hd⟩; replace hb := Nat.le_trans HB.size hb; (first | replace HB := bt HB HB.size hd | replace HB := bt_drew HB HB.size hd | replace HB := bt_drewN HB HB.size hd); clear hd) | (go_at_call 50; (with_reducible refine (left_any _ _ _ _ hT).mono ?_); rintro e w2 ⟨rfl, hd⟩; replace hT := hT.drawn hd; replace HB := HB.trans hd.below; clear hd) | (go_at_call 51; (with_reducible refine (HT.out _ _ hT).mono ?_); rintro r w3 ⟨rfl, hd⟩; replace hT := hT.drawn hd; replace HB := HB.trans hd.below; clear hd))
  go_wp2_with fail
  refine (new_tape s _ hs).mono ?_
  rintro r w4 ⟨b2, rfl, hU, hb2, hd⟩
  have hne : b2 ≠ b := by have := hT.lt; omega
  replace hb2 := Nat.le_trans HB.size hb2
  replace hT := hT.below hd
  (first | replace HB := bt HB HB.size hd | replace HB := bt_drew HB HB.size hd | replace HB := bt_drewN HB HB.size hd); clear hd
  have HNE := Lib.hid hne
  clear hne
  go_wp2_with fail
  refine (HN.out b _ hT).mono ?_
  rintro r w5 ⟨rfl, q, hst⟩
  replace hU := tape_only hU hst.only HNE.out
  replace HB := step_below HB hb HB.size hst
  clear hst hT
  go_wp2_with fail
  refine (HN.out b2 _ hU).mono ?_
  rintro r w6 ⟨rfl, q2, hst⟩
  replace HB := step_below HB hb2 HB.size hst
  clear hst hU
  go_wp2_with fail
  all_goals (go_ret; exact ⟨rfl, HB⟩)
theorem step_of_drawn {w w' : World} {b : Nat} {s : ByteArray} {p : Nat} (hT : TapeAt w b s p) (hd : Drawn w w') : ∃ q, Step w w' b s q := ⟨p, hT.drawn hd, drawn_only hd _ _⟩
theorem stays_any (s : ByteArray) (m : Int) (w : World) (hs : s.size ≤ 140737488351232) :
    Calls Try.prog 11 #[.string s, .int .i64 m] w fun e w' => e = .returned (.bool true) ∧ Below w.heap.size w w' := by
  by_cases h : 3000 < s.size
  · exact stays_big s m w h
  · rcases hp : pk (s.data.toList.drop 0) with ⟨n, i, er⟩
    by_cases he : er = 0
    · subst he
      by_cases hm : m < (n : Int)
      · exact stays_err s m w h hs 3 n 0 (by omega) (fun b w hT => ttext_large b s 0 m w hT hp hm) (fun b w hT => (tnum_ok b s 0 w hT hp).mono fun _ _ ⟨h1, h2⟩ => ⟨h1, _, h2⟩)
      · by_cases hn : s.size < 0 + i + n
        · exact stays_err s m w h hs 2 n 0 (by omega) (fun b w hT => ttext_short b s 0 m w hT hp (by omega) hn) (fun b w hT => (tnum_ok b s 0 w hT hp).mono fun _ _ ⟨h1, h2⟩ => ⟨h1, _, h2⟩)
        · exact stays_ok s m w h hs hp (by omega) (by omega)
    · exact stays_err s m w h hs er 0 er he (fun b w hT => ttext_err b s 0 m w hT hp he) (fun b w hT => (tnum_err b s 0 w hT hp he).mono fun _ _ ⟨h1, h2⟩ => ⟨h1, step_of_drawn hT h2⟩)
end Go.Proofs.Ytdjgdhpncocahaa.TapeL
