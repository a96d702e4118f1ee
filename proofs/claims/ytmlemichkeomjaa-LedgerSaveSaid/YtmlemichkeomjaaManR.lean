/- (*reader).num walked. -/
import Derived.Test.YtmlemichkeomjaaManB
import Derived.Test.YtmlemichkeomjaaM6
set_option linter.unusedVariables false
set_option linter.unusedSimpArgs false
namespace Go.Proofs.Ytmlemichkeomjaa.ManW
open Go.RowKit Go.Proofs.Ytmlemichkeomjaa.BuildW Go.Proofs.Ytmlemichkeomjaa.Base Go.Proofs.Ytmlemichkeomjaa.TapeP Go.Proofs.Ytmlemichkeomjaa.TapeW Go.Proofs.Ytmlemichkeomjaa.ManP Go.Proofs.Ytmlemichkeomjaa.MendW
/-- A reader in block rb, its tape in block tb. -/
structure RdAt (w : World) (rb tb : Nat) (s : ByteArray) (st : St) : Prop where
  blk : w.heap[rb]? = some (.cells #[.pointer (some ⟨tb, 0, none⟩), .int .i64 (st.2 : Nat)] 99 (0, 0))
  tape : TapeAt w tb s st.1
  lt : tb < rb
  er : st.2 ≤ 255
section
variable {w w' : World} {rb tb : Nat} {s : ByteArray} {st : St}
theorem RdAt.c0 (h : RdAt w rb tb s st) : w.cell? ⟨rb, 0, none⟩ = some (.pointer (some ⟨tb, 0, none⟩)) := by rw [cell_of_row _ _ _ _ _ _ h.blk]; rfl
theorem RdAt.c1 (h : RdAt w rb tb s st) : w.cell? ⟨rb, 1, none⟩ = some (.int .i64 (st.2 : Nat)) := by rw [cell_of_row _ _ _ _ _ _ h.blk]; rfl
theorem RdAt.fr (h : RdAt w rb tb s st) (j : Nat) : w.frozen? ⟨rb, j, none⟩ = false := frozen_of_row _ _ _ _ _ h.blk
theorem RdAt.rlt (h : RdAt w rb tb s st) : rb < w.heap.size := by
  have := h.blk
  rcases Nat.lt_or_ge rb w.heap.size with h1 | h1
  · exact h1
  · rw [Array.getElem?_eq_none h1] at this; cases this
theorem RdAt.below (h : RdAt w rb tb s st) (hb : Below w.heap.size w w') : RdAt w' rb tb s st := ⟨(hb.block rb h.rlt).trans h.blk, h.tape.below hb, h.lt, h.er⟩
/-- Behind what turns rows above the reader alone. -/
theorem RdAt.grown (h : RdAt w rb tb s st) {row : Option Nat} (hg : w.grownBy w' row) (hr : ∀ g, row = some g → rb < g) : RdAt w' rb tb s st :=
  ⟨(hg.block rb h.rlt (fun e => by have := hr rb e.symm; omega)).trans h.blk, ⟨(hg.block tb h.tape.lt (fun e => by have := hr tb e.symm; have := h.lt; omega)).trans h.tape.blk, h.tape.le, h.tape.sz⟩, h.lt, h.er⟩
theorem RdAt.set (h : RdAt w rb tb s st) (v : Nat) (hv : v ≤ 255) : RdAt (w.setCell ⟨rb, 1, none⟩ (.int .i64 (v : Nat))) rb tb s (st.1, v) := by
  have hlt := h.lt
  refine ⟨?_, ⟨?_, h.tape.le, h.tape.sz⟩, h.lt, hv⟩
  · rw [heap_setCell_same _ _ _ _ _ _ h.blk]
    rfl
  · rw [heap_setCell_other w ⟨rb, 1, none⟩ tb _ (by show tb ≠ rb; omega)]
    exact h.tape.blk
end
theorem step_rd {w w2 : World} {rb tb : Nat} {s : ByteArray} {st : St} {q : Nat} (h : RdAt w rb tb s st) (hS : Step w w2 tb s q) : RdAt w2 rb tb s (q, st.2) ∧ Only tb (rb + 1) w w2 := by
  have hlt := h.lt
  exact ⟨⟨(hS.only.block rb h.rlt (.inr (by omega))).trans h.blk, hS.tape, h.lt, h.er⟩, hS.only.wide (Nat.le_refl _) (by omega)⟩
def RnumPost (w : World) (rb tb : Nat) (s : ByteArray) (lim over : Nat) (st : St) (e : Ending) (w' : World) : Prop :=
  e = .returned (.int .i64 ((rnum s.data.toList lim over st).1 : Nat)) ∧ RdAt w' rb tb s (rnum s.data.toList lim over st).2 ∧ Only tb (rb + 1) w w'
set_option maxRecDepth 100000 in
set_option maxHeartbeats 1000000 in
theorem rnum_any (rb tb : Nat) (s : ByteArray) (st : St) (lim over : Nat) (w : World) (hl : lim ≤ 9007199254740991) (ho : over ≤ 255) (hR : RdAt w rb tb s st) :
    Calls Try.prog 43 #[.pointer (some ⟨rb, 0, none⟩), .int .i64 (lim : Nat), .int .i64 (over : Nat)] w (RnumPost w rb tb s lim over st) := by
  have c0 := hR.c0
  have c1 := hR.c1
  obtain ⟨p, er⟩ := st
  dsimp only at c1
  by_cases h0 : er = 0
  · subst h0
    obtain ⟨n, i, e2, hp⟩ : ∃ n i e2, pk (s.data.toList.drop p) = (n, i, e2) := ⟨_, _, _, rfl⟩
    have hf := pk_facts hp
    by_cases h2 : e2 = 0
    · subst h2
      have HE := Lib.hid (rnum_ok (lim := lim) (over := over) hp)
      have HN := Lib.hid (fun W (hT : TapeAt W tb s p) => tnum_ok tb s p W hT hp)
      have HR := Lib.hid hR
      have hn := hf.1
      clear hf hp hR
      by_cases h3 : lim < n
      · go_enter Try.func43, Try.ntmps43
        go_wp2_with (go_at_call 78; (with_reducible refine (HN.out _ HR.out.tape).mono ?_); rintro e w2 ⟨rfl, hS⟩; obtain ⟨hR2, hO⟩ := step_rd HR.out hS; have f1 := hR2.fr 1; have c5 := hR2.c1; dsimp only at c5; have HR3 := Lib.hid (hR2.set over ho); have HO := Lib.hid (hO.setCell (p := ⟨rb, 1, none⟩) (by have := hR2.lt; show tb ≤ rb; omega) (Nat.lt_succ_self rb) (.int .i64 (over : Nat))); clear hS hR2 hO c0 c1)
        go_ret
        refine ⟨by rw [HE.out]; rfl, by rw [HE.out, if_pos h3]; exact HR3.out, HO.out⟩
      · go_enter Try.func43, Try.ntmps43
        go_wp2_with (go_at_call 78; (with_reducible refine (HN.out _ HR.out.tape).mono ?_); rintro e w2 ⟨rfl, hS⟩; obtain ⟨hR2, hO⟩ := step_rd HR.out hS; have f1 := hR2.fr 1; have c5 := hR2.c1; dsimp only at c5; have HR3 := Lib.hid (hR2.set 0 (by omega)); have HO := Lib.hid (hO.setCell (p := ⟨rb, 1, none⟩) (by have := hR2.lt; show tb ≤ rb; omega) (Nat.lt_succ_self rb) (.int .i64 ((0 : Nat) : Int))); clear hS hR2 hO c0 c1)
        go_ret
        refine ⟨by rw [HE.out]; rfl, by rw [HE.out, if_neg h3]; exact HR3.out, HO.out⟩
    · have HE := Lib.hid (rnum_bad (lim := lim) (over := over) hp h2)
      have HN := Lib.hid (fun W (hT : TapeAt W tb s p) => tnum_err tb s p W hT hp h2)
      have HR := Lib.hid hR
      have he5 := (hf.2.2.2 h2).2.2
      have t1 : (((e2 : Nat) : Int) == 0) = false := by rw [beq_eq_false_iff_ne]; omega
      clear hf hp hR
      go_enter Try.func43, Try.ntmps43
      go_wp2_with (go_at_call 78; (with_reducible refine (HN.out _ HR.out.tape).mono ?_); rintro e w2 ⟨rfl, hd⟩; have hR2 := HR.out.below hd.below; have hO := drawn_only hd tb (rb + 1); have f1 := hR2.fr 1; have c5 := hR2.c1; dsimp only at c5; have HR3 := Lib.hid (hR2.set e2 (by omega)); have HO := Lib.hid (hO.setCell (p := ⟨rb, 1, none⟩) (by have := hR2.lt; show tb ≤ rb; omega) (Nat.lt_succ_self rb) (.int .i64 (e2 : Nat))); clear hR2 hO c0 c1 hd)
      go_ret
      refine ⟨by rw [HE.out]; rfl, by rw [HE.out]; exact HR3.out, HO.out⟩
  · have HE := Lib.hid (rnum_err (s := s.data.toList) (lim := lim) (over := over) (st := (p, er)) h0)
    have HR := Lib.hid hR
    have t1 : (((er : Nat) : Int) != 0) = true := int_bne (by omega)
    clear hR
    go_enter Try.func43, Try.ntmps43
    go_wp2
    go_ret
    exact ⟨by rw [HE.out]; rfl, by rw [HE.out]; exact HR.out, Only.refl _ _ _⟩
end Go.Proofs.Ytmlemichkeomjaa.ManW
