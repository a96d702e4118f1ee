/- Texts read by the program's msg.list: walked. -/
import Derived.Test.YtdjgdhpncocahaaMsgP
import Derived.Test.YtdjgdhpncocahaaMsg6
import Derived.Test.YtdjgdhpncocahaaJrn2
set_option linter.unusedVariables false
set_option linter.unusedSimpArgs false
namespace Go.Proofs.Ytdjgdhpncocahaa.MsgW
open Go.RowKit Go.Proofs.Ytdjgdhpncocahaa.Base Go.Proofs.Ytdjgdhpncocahaa.EqsW Go.Proofs.Ytdjgdhpncocahaa.TapeP Go.Proofs.Ytdjgdhpncocahaa.TapeW Go.Proofs.Ytdjgdhpncocahaa.CrcP Go.Proofs.Ytdjgdhpncocahaa.CrcW Go.Proofs.Ytdjgdhpncocahaa.MsgP Go.Proofs.Ytdjgdhpncocahaa.BuildW
open Go.Proofs.Ytdjgdhpncocahaa.JrnW (sv sv_length sv_append info_str own_strs map_snoc)

theorem step_drawn {w w' : World} {b : Nat} {s : ByteArray} {p : Nat} (hT : TapeAt w b s p) (hd : Drawn w w') : Step w w' b s p := ⟨hT.drawn hd, drawn_only hd b (b + 1)⟩
theorem ttext_any (b : Nat) (s : ByteArray) (p most : Nat) (w : World) (hT : TapeAt w b s p) :
    Calls Try.prog 51 #[.pointer (some ⟨b, 0, none⟩), .int .i64 (most : Nat)] w fun e w' => e = .returned (.tuple #[.string (str (tx most s.data.toList p).1), .int .i64 ((tx most s.data.toList p).2.2 : Nat)]) ∧ Step w w' b s (tx most s.data.toList p).2.1 := by
  obtain ⟨n, i, er, hp⟩ : ∃ n i er, pk (s.data.toList.drop p) = (n, i, er) := ⟨_, _, _, rfl⟩
  unfold tx
  rw [hp, list_size]
  dsimp only
  by_cases h1 : er = 0
  · subst h1
    rw [if_neg (by simp)]
    by_cases h2 : most < n
    · rw [if_pos h2]
      exact (ttext_large b s p most w hT hp (by omega)).mono fun e w' ⟨a, c⟩ => ⟨a, step_drawn hT c⟩
    · rw [if_neg h2]
      by_cases h3 : s.size < p + i + n
      · rw [if_pos h3]
        exact (ttext_short b s p most w hT hp (by omega) h3).mono fun e w' ⟨a, c⟩ => ⟨a, step_drawn hT c⟩
      · rw [if_neg h3]
        exact (ttext_ok b s p most w hT hp (by omega) (by omega)).mono fun e w' ⟨a, c⟩ => ⟨a, c⟩
  · rw [if_pos h1]
    exact (ttext_err b s p most w hT hp h1).mono fun e w' ⟨a, c⟩ => ⟨a, step_drawn hT c⟩
theorem own_only {w w' : World} {B b : Nat} {e : TypeId} {size : Nat} {v : Value} {n : Nat} {xs : List Value} (h : w.ownsRow B e size v n xs) (hb : Only b (b + 1) w w') (hlt : b < B) : w'.ownsRow B e size v n xs := by
  obtain ⟨hl, h0 | ⟨g, cap, cur, hv, hB, hh, r⟩⟩ := h
  · exact ⟨hl, .inl h0⟩
  · have hg : g < w.heap.size := by
      rcases Nat.lt_or_ge g w.heap.size with h1 | h1
      · exact h1
      · rw [Array.getElem?_eq_none h1] at hh
        cases hh
    exact ⟨hl, .inr ⟨g, cap, cur, hv, hB, by rw [hb.block g hg (by omega)]; exact hh, r⟩⟩
/-- The tape may turn, and what was there besides not. -/
structure Run (w w' : World) (b : Nat) (s : ByteArray) (q : Nat) : Prop where
  tape : TapeAt w' b s q
  only : Only b (b + 1) w w'
theorem Run.step {w w1 w2 : World} {b : Nat} {s : ByteArray} {q r : Nat} (h : Run w w1 b s q) (k : Step w1 w2 b s r) : Run w w2 b s r := ⟨k.tape, h.only.trans k.only⟩
theorem Run.below {w w1 w2 : World} {b : Nat} {s : ByteArray} {q : Nat} (h : Run w w1 b s q) (k : Below w.heap.size w1 w2) (hb : b < w.heap.size) : Run w w2 b s q := by
  have hlt := h.tape.lt
  refine ⟨⟨(k.block b hb).trans h.tape.blk, h.tape.le, h.tape.sz⟩, ⟨k.os.trans h.only.os, k.tape.trans h.only.tape, k.output.trans h.only.output, Nat.le_trans h.only.size k.size, fun i hi hx => (k.block i hi).trans (h.only.block i hi hx)⟩⟩
set_option maxRecDepth 100000 in
set_option maxHeartbeats 2000000 in
theorem list_any (b : Nat) (s : ByteArray) (p : Nat) (w : World) (hT : TapeAt w b s p) (hs : s.size ≤ 1000000000) :
    Calls Try.prog 86 #[.pointer (some ⟨b, 0, none⟩)] w fun e w' => ∃ v, e = .returned (.tuple #[v, .int .i64 ((lsT s.data.toList p).2.2 : Nat)]) ∧ w'.ownsRow w.heap.size 9 1 v (lsT s.data.toList p).1.length (sv ((lsT s.data.toList p).1.map str)) ∧ Run w w' b s (lsT s.data.toList p).2.1 := by
  obtain ⟨n, i, er, hp⟩ : ∃ n i er, pk (s.data.toList.drop p) = (n, i, er) := ⟨_, _, _, rfl⟩
  have hl : lsT s.data.toList p = if er ≠ 0 then ([], p, er) else if 4096 < n then ([], p, 3) else txs n s.data.toList (p + i) := by unfold lsT; rw [hp]
  have hblt := hT.lt
  by_cases h1 : er = 0
  · subst h1
    rw [if_neg (by simp)] at hl
    by_cases h2 : 4096 < n
    · rw [if_pos h2] at hl
      rw [hl]
      have HC := Lib.hid (count_large b s p 4096 w hT hp (by omega))
      clear hl hp
      go_enter Try.func86, Try.ntmps86
      go_wp2_with (go_at_call 54; refine HC.out.mono ?_; rintro e w2 ⟨rfl, hd⟩)
      go_ret2
      exact ⟨_, rfl, own_none _ _ _ _, (step_drawn hT hd).tape, (step_drawn hT hd).only⟩
    · rw [if_neg h2] at hl
      have HC := Lib.hid (count_ok b s p 4096 w hT hp (by omega))
      have HL := Lib.hid hl
      have hn : n ≤ 4096 := by omega
      clear hl hp h2
      go_enter Try.func86, Try.ntmps86
      go_wp2_with (go_at_call 54; refine HC.out.mono ?_; rintro e w2 ⟨rfl, hd⟩)
      have hR : Run w w2 b s (p + i) := ⟨hd.tape, hd.only⟩
      clear hd HC
      go_loopw [6, 18] (fun v x wr => ∃ (j q : Nat) (acc : List (List UInt8)), j ≤ n ∧ x = .int .i64 j ∧ txs n s.data.toList (p + i) = app acc (txs (n - j) s.data.toList q) ∧ acc.length = j ∧ wr.ownsRow w.heap.size 9 1 v acc.length (sv (acc.map str)) ∧ Run w wr b s q) (fun _ x _ => n - (intOf x).toNat)
      case atStart => exact ⟨0, p + i, [], by omega, rfl, (app_nil _ (txs_err _ _ _)).symm, rfl, own_none _ _ _ _, hR⟩
      case round =>
        clear hR
        obtain ⟨j, q, acc, hj, rfl, htx, hacc, HO, hR⟩ := hrel
        by_cases hlt : j < n
        · have hnj : n - j = (n - (j + 1)) + 1 := by omega
          rw [hnj] at htx
          have hst : txs (n - (j + 1) + 1) s.data.toList q = if (tx 65536 s.data.toList q).2.2 ≠ 0 then ([], (tx 65536 s.data.toList q).2.1, (tx 65536 s.data.toList q).2.2) else app [(tx 65536 s.data.toList q).1] (txs (n - (j + 1)) s.data.toList (tx 65536 s.data.toList q).2.1) := rfl
          rw [hst] at htx
          have hcall := ttext_any b s q 65536 wr hR.tape
          generalize tx 65536 s.data.toList q = r at *
          obtain ⟨t, q2, er⟩ := r
          dsimp only at htx hcall
          by_cases he : er = 0
          · subst he
            rw [if_neg (by simp), app_app] at htx
            have HX := Lib.hid htx
            have HC := Lib.hid hcall
            clear htx hcall hst hnj
            go_wp2_with fail
            refine HC.out.mono ?_
            rintro e w3 ⟨rfl, hd⟩
            replace HO := own_only HO hd.only hblt
            replace hR := hR.step hd
            have HB0 : Below w.heap.size w3 w3 := Below.refl _ _
            have hsz : w.heap.size ≤ w3.heap.size := hR.only.size
            have hl2 : (sv (acc.map str)).length = acc.length := by rw [sv_length, List.length_map]
            have HL2 := Lib.hid hl2
            clear hl2 hd HC
            go_wp2_with (at_builtin; refine app_one w.heap.size rfl (.tmp 28) (.tmp 30) 26 9 (.string (str [])) 16 rfl Try.underlying26 info_str rfl (by omega) _ _ _ acc.length HL2.out rfl rfl rfl HO HB0 hsz (by omega) ?_; intro v1 w4 HO1 HB1 hg1)
            go_roundw
            case rel => exact ⟨j + 1, q2, acc ++ [t], by omega, by go_num, HX.out, by rw [List.length_append, hacc]; rfl, by rw [map_snoc, List.length_append]; exact HO1, hR.below HB1 hblt⟩
            case measure => simp [intOf]; omega
          · rw [if_pos he] at htx
            have hap : app acc ([], q2, er) = ([], q2, er) := by unfold app; rw [if_pos he]
            rw [hap] at htx
            have HX := Lib.hid (HL.out.trans htx)
            have HC := Lib.hid hcall
            have hz : (((er : Nat) : Int) != 0) = true := int_bne (by omega)
            clear htx hcall hst hnj hap HL he
            go_wp2_with fail
            refine HC.out.mono ?_
            rintro e w3 ⟨rfl, hd⟩
            replace hR := hR.step hd
            go_wp2
            go_ret2
            refine ⟨_, by rw [HX.out]; rfl, ?_, ?_⟩
            · rw [HX.out]; exact own_none _ _ _ _
            · rw [HX.out]; exact hR
        · obtain rfl : j = n := by omega
          have hx : txs (j - j) s.data.toList q = ([], q, 0) := by rw [Nat.sub_self]; rfl
          have hap : app acc ([], q, 0) = (acc, q, 0) := by unfold app; rw [if_neg (by simp)]; rw [List.append_nil]
          rw [hx, hap] at htx
          have HX := Lib.hid (HL.out.trans htx)
          clear htx hx hap HL
          go_wp2
          go_ret2
          refine ⟨_, by rw [HX.out]; rfl, ?_, ?_⟩
          · rw [HX.out]; exact HO
          · rw [HX.out]; exact hR
  · rw [if_pos h1] at hl
    rw [hl]
    have HC := Lib.hid (count_err b s p 4096 w hT hp h1)
    have hz : (((er : Nat) : Int) != 0) = true := int_bne (by omega)
    clear hl hp h1
    go_enter Try.func86, Try.ntmps86
    go_wp2_with (go_at_call 54; refine HC.out.mono ?_; rintro e w2 ⟨rfl, hd⟩)
    go_ret2
    exact ⟨_, rfl, own_none _ _ _ _, (step_drawn hT hd).tape, (step_drawn hT hd).only⟩
end Go.Proofs.Ytdjgdhpncocahaa.MsgW
