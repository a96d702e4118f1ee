/- (*coder.Coder).may walked. -/
import Derived.Test.YtalinkpfklhgaaaCodMap
import Derived.BigQuiet
set_option linter.unusedVariables false
set_option linter.unusedSimpArgs false
namespace Go.Proofs.Ytalinkpfklhgaaa.CodW
open Go.RowKit Go.Proofs.Ytalinkpfklhgaaa.Base Go.Proofs.Ytalinkpfklhgaaa.GfP Go.Proofs.Ytalinkpfklhgaaa.GfW Go.Proofs.Ytalinkpfklhgaaa.Lin Go.Proofs.Ytalinkpfklhgaaa.RowsW Go.Proofs.Ytalinkpfklhgaaa.CodP

/-- Pieces. -/
structure Pieces (w : World) (A : Option Addr) (ps : List (Int × ByteArray)) : Prop where
  le : ∀ x, x ∈ ps → -9223372036854775808 ≤ x.1 ∧ x.1 ≤ 9223372036854775807
  at_ : ps = [] ∨ ∃ b off, A = some ⟨b, off, none⟩ ∧ ∀ j (h : j < ps.length), w.cell? ⟨b, off + j * 2, none⟩ = some (.int .i64 ps[j].1) ∧ w.cell? ⟨b, off + j * 2 + 1, none⟩ = some (.string ps[j].2)
theorem Pieces.below {w w' : World} {A : Option Addr} {ps : List (Int × ByteArray)} (h : Pieces w A ps) (hb : Below w.heap.size w w') : Pieces w' A ps := by
  refine ⟨h.le, ?_⟩
  rcases h.at_ with h1 | ⟨b, off, e, hc⟩
  · exact .inl h1
  · exact .inr ⟨b, off, e, fun j hj => ⟨cell_below hb (hc j hj).1, cell_below hb (hc j hj).2⟩⟩
theorem Pieces.block {w : World} {A : Option Addr} {ps : List (Int × ByteArray)} (h : Pieces w A ps) (h0 : ps.length ≠ 0) : ∃ b off, A = some ⟨b, off, none⟩ ∧ ∀ j (h : j < ps.length), w.cell? ⟨b, off + j * 2, none⟩ = some (.int .i64 ps[j].1) ∧ w.cell? ⟨b, off + j * 2 + 1, none⟩ = some (.string ps[j].2) := by
  rcases h.at_ with h1 | h1
  · exact absurd (by rw [h1]; rfl) h0
  · exact h1
theorem Pieces.nil (w : World) (A : Option Addr) : Pieces w A [] := ⟨fun _ h => (by cases h), .inl rfl⟩
/-- The numbers, and the texts, of pieces. -/
def nums (ps : List (Int × ByteArray)) : List Int := ps.map Prod.fst
def txts (ps : List (Int × ByteArray)) : List ByteArray := ps.map Prod.snd
theorem nums_length (ps : List (Int × ByteArray)) : (nums ps).length = ps.length := by simp [nums]
theorem txts_length (ps : List (Int × ByteArray)) : (txts ps).length = ps.length := by simp [txts]
theorem nums_getElem (ps : List (Int × ByteArray)) (i : Nat) (h : i < (nums ps).length) : (nums ps)[i] = (ps[i]'(by rw [nums_length] at h; exact h)).1 := by simp [nums]
theorem txts_getElem (ps : List (Int × ByteArray)) (i : Nat) (h : i < (txts ps).length) : (txts ps)[i] = (ps[i]'(by rw [txts_length] at h; exact h)).2 := by simp [txts]
/-- Pieces that may be read: numbers within reach, none twice; texts all as long. -/
structure May (n : Nat) (ps : List (Int × ByteArray)) : Prop where
  apart : Apart n (nums ps)
  even : ∀ i (h : i < ps.length), ps[i].2.size = (ps[0]'(by omega)).2.size
def MayPost (w : World) (n k : Nat) (ps : List (Int × ByteArray)) (e : Ending) (w' : World) : Prop :=
  (∃ er : Int, e = .returned (.int .i64 er) ∧ ((er = 1 ∧ ¬ May n ps) ∨ (er = 5 ∧ May n ps ∧ ps.length < k) ∨ (er = 0 ∧ May n ps ∧ k ≤ ps.length))) ∧ Below w.heap.size w w'
theorem mem_take_nums {ps : List (Int × ByteArray)} {a j : Nat} {x : Int} (hj : j < a) (ha : a < ps.length) (e : x = (ps[j]'(by omega)).1) : x ∈ (nums ps).take a := by
  rw [List.mem_take_iff_getElem]
  refine ⟨j, by rw [nums_length]; omega, ?_⟩
  rw [nums_getElem, e]
theorem nums_take {ps : List (Int × ByteArray)} {a : Nat} {x : Int} (ha : a < ps.length) (e : x = ps[a].1) : (nums ps).take (a + 1) = (nums ps).take a ++ [x] := by
  rw [List.take_succ_eq_append_getElem (by rw [nums_length]; exact ha), nums_getElem, e]
theorem not_may_mem {n : Nat} {ps : List (Int × ByteArray)} {a : Nat} {x : Int} (ha : a < ps.length) (hm : x ∈ (nums ps).take a) (e : x = ps[a].1) : ¬ May n ps := fun h => by
  rw [List.mem_take_iff_getElem] at hm
  obtain ⟨j, hj, e2⟩ := hm
  rw [nums_getElem] at e2
  have := h.apart.ne a (by rw [nums_length]; exact ha) j (by omega)
  rw [nums_getElem, nums_getElem] at this
  exact this (e.symm.trans e2.symm)
theorem may_nil (v : Value) (w : World) : Calls Try.prog 70 #[.pointer none, v] w fun e w' => e = .returned (.int .i64 1) ∧ w = w' := by
  go_enter Try.func70, Try.ntmps70
  go_wp2
  go_ret
  exact ⟨rfl, rfl⟩
set_option maxRecDepth 100000 in
set_option maxHeartbeats 1000000 in
theorem may_any (cb k n fb : Nat) (A : Option Addr) (c : Nat) (G : M) (A2 : Option Addr) (m c2 : Nat) (ps : List (Int × ByteArray)) (w : World) (hC : CoderAt w cb k n fb A c G) (hP : Pieces w A2 ps) (hl : ps.length = m) (hm : m ≤ 1000000) :
    Calls Try.prog 70 #[.pointer (some ⟨cb, 0, none⟩), .slice A2 m c2] w (MayPost w n k ps) := by
  have hmm := @run_makeMap Try.prog
  have h0 := hC.f0
  have h1 := hC.f1
  have k1 := hC.k1
  have kn := hC.kn
  have n16 := hC.n16
  have HL := Lib.hid hl
  have HM0 : MetAt (w.alloc (.map #[] 0)) w.heap.size 0 [] := MetAt.start w
  have HB0 : Below w.heap.size w (w.alloc (.map #[] 0)) := (Below.refl _ _).alloc (Nat.le_refl _) _
  clear hC hl
  go_enter Try.func70, Try.ntmps70
  go_wp2
  go_loopw [7, 13] (fun _ i wr => ∃ a : Nat, a ≤ m ∧ i = .int .i64 a ∧ MetAt wr w.heap.size a ((nums ps).take a) ∧ Below w.heap.size w wr ∧ (∀ i (h : i < ps.length), i < a → 0 ≤ ps[i].1 ∧ ps[i].1 < n ∧ ps[i].2.size = (ps[0]'(by omega)).2.size) ∧ ∀ i (h : i < ps.length), i < a → ∀ j (hj : j < i), ps[i].1 ≠ (ps[j]'(by omega)).1) (fun _ i _ => m - (intOf i).toNat)
  case atStart => exact ⟨0, by omega, rfl, HM0, HB0, fun i _ h => by omega, fun i _ h => by omega⟩
  case round =>
    obtain ⟨a, ha, rfl, HMT, HB, hall1, hall2⟩ := hrel
    have HA1 := Lib.hid hall1
    have HA2 := Lib.hid hall2
    clear hall1 hall2
    by_cases hlt : a < m
    · have hal : a < ps.length := by have := HL.out; omega
      obtain ⟨b, off, rfl, hc⟩ := (hP.below HB).block (by have := HL.out; omega)
      obtain ⟨g1, g2⟩ := hc a hal
      obtain ⟨g3, g4⟩ := hc 0 (by omega)
      clear hc
      have hxr := hP.le ps[a] (List.getElem_mem hal)
      obtain ⟨x, hx⟩ : ∃ x, x = ps[a].1 := ⟨_, rfl⟩
      obtain ⟨s, hs⟩ : ∃ s, s = ps[a].2 := ⟨_, rfl⟩
      obtain ⟨s0, hs0⟩ : ∃ s, s = (ps[0]'(by omega)).2 := ⟨_, rfl⟩
      rw [← hx] at g1 hxr
      rw [← hs] at g2
      rw [← hs0] at g4
      have HX := Lib.hid hx
      have HS := Lib.hid hs
      have HS0 := Lib.hid hs0
      clear hx hs hs0 g3
      go_upto_region 7 with fail
      have q0 : (wr.alloc (.cells #[.int .i64 x, .string s] 70)).cell? ⟨wr.heap.size, 0, none⟩ = some (.int .i64 x) := by rw [cell_of_row _ _ _ _ _ _ (heap_alloc_new wr _)]; rfl
      have q1 : (wr.alloc (.cells #[.int .i64 x, .string s] 70)).cell? ⟨wr.heap.size, 1, none⟩ = some (.string s) := by rw [cell_of_row _ _ _ _ _ _ (heap_alloc_new wr _)]; rfl
      have hWb : Below wr.heap.size wr (wr.alloc (.cells #[.int .i64 x, .string s] 70)) := (Below.refl _ _).alloc (Nat.le_refl _) _
      have hWs : wr.heap.size < (wr.alloc (.cells #[.int .i64 x, .string s] 70)).heap.size := by simp
      generalize wr.alloc (.cells #[.int .i64 x, .string s] 70) = W9 at q0 q1 hWb hWs ⊢
      have HBW := bt HB HB.size hWb
      have q2 := cell_below HBW h1
      have q4 : W9.cell? ⟨b, off + 1, none⟩ = some (.string s0) := by
        have := cell_below hWb g4
        simpa using this
      have HM9 := HMT.below hWb
      have hxw := wf_i64 hxr
      have r0 := regrown_cell q0
      have r1 := regrown_cell q1
      have r2 := regrown_cell q2
      have r4 := regrown_cell q4
      have rl : ∀ p : Regrown, (Instr.lookup 103 (.map (some w.heap.size)) (.int .i64 x) false).run Try.prog (Go.Sort.grow (redrawn W9 p.d) p.os) = .ok (.bool (decide (x ∈ (nums ps).take a))) (Go.Sort.grow (redrawn W9 p.d) p.os) := fun p => (HM9.below (below_of_regrown ⟨p, rfl⟩)).look x hxw
      have hz0 : (0 : Int) < m := by omega
      by_cases hx0 : x < 0
      · have t1 : decide (x < 0) = true := by simp [hx0]
        have hX0 := Lib.hid hx0
        clear g1 g2 g4 q0 q1 q2 q4 hx0
        (refine wp_region_quiet_below (by kernel_rfl) (by kernel_rfl) ?_; (repeat (go_big_quiet_step (fail))); refine wpQuiet_nil ?_; intro wq hw'; have HQ := below_of_regrown hw'; clear hw')
        go_wp2
        go_ret
        exact ⟨⟨1, rfl, .inl ⟨rfl, fun h => by have := (h.apart.rng a (by rw [nums_length]; exact hal)).1; rw [nums_getElem, ← HX.out] at this; have := hX0.out; omega⟩⟩, bt HBW HBW.size HQ⟩
      have t1 : decide (x < 0) = false := by simp; omega
      by_cases hxn : (n : Int) ≤ x
      · have t2 : decide ((n : Int) ≤ x) = true := by simp [hxn]
        have hXN := Lib.hid hxn
        clear g1 g2 g4 q0 q1 q2 q4 hxn hx0
        (refine wp_region_quiet_below (by kernel_rfl) (by kernel_rfl) ?_; (repeat (go_big_quiet_step (fail))); refine wpQuiet_nil ?_; intro wq hw'; have HQ := below_of_regrown hw'; clear hw')
        go_wp2
        go_ret
        exact ⟨⟨1, rfl, .inl ⟨rfl, fun h => by have := (h.apart.rng a (by rw [nums_length]; exact hal)).2; rw [nums_getElem, ← HX.out] at this; have := hXN.out; omega⟩⟩, bt HBW HBW.size HQ⟩
      have t2 : decide ((n : Int) ≤ x) = false := by simp; omega
      by_cases hmem : x ∈ (nums ps).take a
      · rw [decide_eq_true hmem] at rl
        have hME := Lib.hid hmem
        clear g1 g2 g4 q0 q1 q2 q4 hxn hx0 hmem
        (refine wp_region_quiet_below (by kernel_rfl) (by kernel_rfl) ?_; (repeat (go_big_quiet_step (fail))); refine wpQuiet_nil ?_; intro wq hw'; have HQ := below_of_regrown hw'; clear hw')
        go_wp2
        go_ret
        exact ⟨⟨1, rfl, .inl ⟨rfl, fun h => not_may_mem hal hME.out HX.out h⟩⟩, bt HBW HBW.size HQ⟩
      rw [decide_eq_false hmem] at rl
      have hME := Lib.hid hmem
      by_cases hsz : s.size = s0.size
      · have t3 : (((s.size : Nat) : Int) != ((s0.size : Nat) : Int)) = false := int_beq (by omega)
        have hSZ := Lib.hid hsz
        have hXN := Lib.hid (show 0 ≤ x ∧ x < n by omega)
        clear g1 g2 g4 q1 q2 q4 hxn hx0 hmem hsz
        (refine wp_region_quiet_below (by kernel_rfl) (by kernel_rfl) ?_; (repeat (go_big_quiet_step (fail))); refine wpQuiet_nil ?_; intro wq hw'; have HQ := below_of_regrown hw'; clear hw')
        have q0' := cell_below HQ q0
        obtain ⟨w8, hrun, hM8, hg8⟩ := (HM9.below HQ).put x hxw (by unfold maxLen; omega)
        have hbq := bt HBW HBW.size HQ
        have hb8 : Below w.heap.size w w8 := hbq.grown hg8 hbq.size (fun k hk => by cases hk; exact Nat.le_refl _)
        have HN := Lib.hid (nums_take hal HX.out)
        go_wp2
        go_roundw
        case rel =>
          refine ⟨a + 1, by omega, by go_num, by rw [HN.out]; exact hM8, hb8, fun i h hia => ?_, fun i h hia j hj => ?_⟩
          · rcases Nat.lt_or_ge i a with h9 | h9
            · exact HA1.out i h h9
            · obtain rfl : i = a := by omega
              have := hXN.out
              rw [← HX.out, ← HS.out, hSZ.out, HS0.out]
              exact ⟨this.1, this.2, rfl⟩
          · rcases Nat.lt_or_ge i a with h9 | h9
            · exact HA2.out i h h9 j hj
            · obtain rfl : i = a := by omega
              intro e
              exact hME.out (mem_take_nums hj hal (HX.out.trans e))
        case measure => simp [intOf]; omega
      · have t3 : (((s.size : Nat) : Int) != ((s0.size : Nat) : Int)) = true := int_bne (by omega)
        have hSZ := Lib.hid hsz
        clear g1 g2 g4 q0 q1 q2 q4 hxn hx0 hmem hsz
        (refine wp_region_quiet_below (by kernel_rfl) (by kernel_rfl) ?_; (repeat (go_big_quiet_step (fail))); refine wpQuiet_nil ?_; intro wq hw'; have HQ := below_of_regrown hw'; clear hw')
        go_wp2
        go_ret
        exact ⟨⟨1, rfl, .inl ⟨rfl, fun h => hSZ.out (by rw [HS.out, HS0.out]; exact h.even a hal)⟩⟩, bt HBW HBW.size HQ⟩
    · obtain rfl : a = m := by omega
      have HMY := Lib.hid (show May n ps from ⟨⟨fun i h => by rw [nums_length] at h; rw [nums_getElem]; have := HA1.out i h (by have := HL.out; omega); exact ⟨this.1, this.2.1⟩, fun i h j hj => by rw [nums_length] at h; rw [nums_getElem, nums_getElem]; exact HA2.out i h (by have := HL.out; omega) j hj⟩, fun i h => (HA1.out i h (by have := HL.out; omega)).2.2⟩)
      have q0 := cell_below HB h0
      by_cases hak : a < k
      · have t1 : decide (a < k) = true := by simp [hak]
        have HAK := Lib.hid hak
        clear hak
        go_wp2
        go_ret
        exact ⟨⟨5, rfl, .inr (.inl ⟨rfl, HMY.out, by rw [HL.out]; exact HAK.out⟩)⟩, HB⟩
      · have t1 : decide (a < k) = false := by simp; omega
        have HAK := Lib.hid hak
        clear hak
        go_wp2
        go_ret
        exact ⟨⟨0, rfl, .inr (.inr ⟨rfl, HMY.out, by rw [HL.out]; have := HAK.out; omega⟩)⟩, HB⟩
end Go.Proofs.Ytalinkpfklhgaaa.CodW
