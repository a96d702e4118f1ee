/- slices.EqualFunc of manifests that are alike. -/
import Derived.Test.YtmlemichkeomjaaLedEq
set_option linter.unusedVariables false
set_option linter.unusedSimpArgs false
namespace Go.Proofs.Ytmlemichkeomjaa.LedW
open Go.RowKit Go.Proofs.Ytmlemichkeomjaa.Base Go.Proofs.Ytmlemichkeomjaa.MendW Go.Proofs.Ytmlemichkeomjaa.ManP Go.Proofs.Ytmlemichkeomjaa.ManW Go.Proofs.Ytmlemichkeomjaa.LedP
theorem same_mans {w : World} {v v' : MV} {m : Man} (h : ManV w v m) (h' : ManV w v' m) (hs : Slim m) :
    Calls Try.prog 15 #[.agg #[.int .i64 m.task, .int .i64 m.att, .slice v.A2 m.sz.length v.c2, .slice v.A3 m.sm.length v.c3, .slice v.A4 m.hm.length v.c4], .agg #[.int .i64 m.task, .int .i64 m.att, .slice v'.A2 m.sz.length v'.c2, .slice v'.A3 m.sm.length v'.c3, .slice v'.A4 m.hm.length v'.c4]] w fun e w' => e = .returned (.bool true) ∧ Below w.heap.size w w' := by
  have h2 := hs.sz
  have h3 := hs.sm
  have h4 := hs.hm
  apply same_yes (sz1 := m.sz) (sz2 := m.sz) (sm1 := m.sm) (sm2 := m.sm) (hm1 := m.hm) (hm2 := m.hm) (hS1 := h.man.i2) (hs1 := h.man.l2) (hS2 := h'.man.i2) (hs2 := h'.man.l2) (hn2 := by omega) (hU1 := h.man.i3) (hu1 := h.man.l3) (hU2 := h'.man.i3) (hu2 := h'.man.l3) (hn3 := by omega) (hH1 := h.man.i4) (hl1 := h.man.l4) (hH2 := h'.man.i4) (hl2 := h'.man.l4) (hn4 := by omega) (hr := fun i hi => by have := hs.row _ (List.getElem_mem hi); omega) <;> rfl
set_option maxRecDepth 100000 in
set_option maxHeartbeats 1000000 in
theorem eq_mans (A B : Option Addr) (n c1 c2 : Nat) (ms : List Man) (vs vs' : Nat → MV) (w : World) (h1 : MansV w A ms vs) (h2 : MansV w B ms vs') (hl : ms.length = n) (hn : n ≤ 1000000) (hs : ∀ m ∈ ms, Slim m) :
    Calls Try.prog 55 #[.slice A n c1, .slice B n c2, .func (.func 15) #[] #[]] w fun e w' => e = .returned (.bool true) ∧ Below w.heap.size w w' := by
  have t0 : (((n : Nat) : Int) != ((n : Nat) : Int)) = false := by simp
  have HS := Lib.hid hs
  clear hs
  go_enter Try.func55, Try.ntmps55
  go_wp2
  go_loopw [7, 8, 9, 17] (fun _ _ _ i wr => ∃ k : Nat, k ≤ n ∧ i = .int .i64 k ∧ Below w.heap.size w wr) (fun _ _ _ i _ => n - (intOf i).toNat)
  case atStart => exact ⟨0, by omega, rfl, Below.refl _ _⟩
  case round =>
    obtain ⟨k, hk, rfl, HB⟩ := hrel
    by_cases hlt : k < n
    · obtain ⟨b, off, rfl, p0, p1, p2, p3, p4⟩ := (h1.below HB).cells k (by omega)
      obtain ⟨b2, off2, rfl, q0, q1, q2, q3, q4⟩ := (h2.below HB).cells k (by omega)
      have g1 := Lib.hid ((h1.below HB).man k (by omega))
      have g2 := Lib.hid ((h2.below HB).man k (by omega))
      have g3 := Lib.hid (HS.out _ (List.getElem_mem (l := ms) (n := k) (by omega)))
      generalize ms[k]'(by omega) = m at p0 p1 p2 p3 p4 q0 q1 q2 q3 q4 g1 g2 g3
      generalize vs k = v at p0 p1 p2 p3 p4 g1
      generalize vs' k = v' at q0 q1 q2 q3 q4 g2
      go_upto_region 6 with fail
      have HM := ManBox.mk' wr m.task m.att v.A2 m.sz.length v.c2 v.A3 m.sm.length v.c3 v.A4 m.hm.length v.c4
      have d1 := (Below.refl wr.heap.size wr).alloc (Nat.le_refl _) (.cells #[.int .i64 m.task, .int .i64 m.att, .slice v.A2 m.sz.length v.c2, .slice v.A3 m.sm.length v.c3, .slice v.A4 m.hm.length v.c4] 26)
      have hz := World.size_alloc wr (.cells #[.int .i64 m.task, .int .i64 m.att, .slice v.A2 m.sz.length v.c2, .slice v.A3 m.sm.length v.c3, .slice v.A4 m.hm.length v.c4] 26)
      generalize wr.alloc (.cells #[.int .i64 m.task, .int .i64 m.att, .slice v.A2 m.sz.length v.c2, .slice v.A3 m.sm.length v.c3, .slice v.A4 m.hm.length v.c4] 26) = W1 at HM d1 hz ⊢
      replace q0 := cell_below d1 q0
      replace q1 := cell_below d1 q1
      replace q2 := cell_below d1 q2
      replace q3 := cell_below d1 q3
      replace q4 := cell_below d1 q4
      replace HB := bt HB HB.size d1
      replace g1 := Lib.hid (g1.out.below d1)
      replace g2 := Lib.hid (g2.out.below d1)
      clear d1
      go_upto_region 7 with fail
      have HN := ManBox.mk' W1 m.task m.att v'.A2 m.sz.length v'.c2 v'.A3 m.sm.length v'.c3 v'.A4 m.hm.length v'.c4
      have d2 := (Below.refl W1.heap.size W1).alloc (Nat.le_refl _) (.cells #[.int .i64 m.task, .int .i64 m.att, .slice v'.A2 m.sz.length v'.c2, .slice v'.A3 m.sm.length v'.c3, .slice v'.A4 m.hm.length v'.c4] 26)
      generalize W1.alloc (.cells #[.int .i64 m.task, .int .i64 m.att, .slice v'.A2 m.sz.length v'.c2, .slice v'.A3 m.sm.length v'.c3, .slice v'.A4 m.hm.length v'.c4] 26) = W2 at HN d2 ⊢
      replace HM := HM.below d2
      replace HB := bt HB HB.size d2
      replace g1 := Lib.hid (g1.out.below d2)
      replace g2 := Lib.hid (g2.out.below d2)
      rw [hz] at HN
      obtain ⟨m0, m1, m2, m3, m4⟩ := HM
      obtain ⟨n0, n1, n2, n3, n4⟩ := HN
      clear d2 q0 q1 q2 q3 q4 p0 p1 p2 p3 p4
      go_wp2_with (go_at_call 15; (with_reducible refine (same_mans g1.out g2.out g3.out).mono ?_); rintro e w3 ⟨rfl, hd⟩; have HE := bt HB HB.size hd; clear hd)
      go_roundw
      case rel => exact ⟨k + 1, by omega, by go_num, HE⟩
      case measure => simp [intOf]; omega
    · obtain rfl : k = n := by omega
      go_wp2
      go_ret
      exact ⟨rfl, HB⟩
end Go.Proofs.Ytmlemichkeomjaa.LedW
