/- Texts of this claim in one. -/
import Derived.Test.YtmlemichkeomjaaM4
import Derived.Maps.Views
import Derived.Maps.OwnSet
import Derived.BigQuiet
import Derived.Outline
/- A set of whole numbers of one's own: a map from numbers to bools. -/
set_option linter.unusedVariables false
set_option linter.unusedSimpArgs false
namespace Go.Proofs.Ytmlemichkeomjaa.CodW
open Go.RowKit Go.Proofs.Ytmlemichkeomjaa.Base Go.Proofs.Ytmlemichkeomjaa.GfP Go.Proofs.Ytmlemichkeomjaa.GfW Go.Proofs.Ytmlemichkeomjaa.Lin Go.Proofs.Ytmlemichkeomjaa.RowsW Go.Proofs.Ytmlemichkeomjaa.CodP

theorem int_key : Maps.Keyed Try.prog 3 := Maps.int_keyed Try.underlying3
theorem zero_bool (w : World) : (zeroValue 4).run Try.prog w = .ok (.bool false) w := by kernel_rfl
theorem plain_bool_inv {P : Program} {e : TypeId} (he : P.underlying e = some .bool) {v : Value} {z : DataW Unit × List MemPlace} (h : plainElem P e v = some z) : ∃ c, v = .bool c ∧ z = (.lit (.bool c), []) := by
  unfold plainElem at h
  rw [he] at h
  cases v <;> simp at h
  case bool x => exact ⟨x, rfl, h.symm⟩
/-- The block b holds the numbers l. -/
def MetAt (w : World) (b n : Nat) (l : List Int) : Prop :=
  ∃ D : DataW Unit, w.ownsMap Try.prog 3 (plainElem Try.prog 4) b n D ∧ Maps.IsMap D ∧ ∀ x : Int, (Lit.int .i64 x).wf = true → D.atKey (.int .i64 x) (.lit (.bool false)) = .lit (.bool (decide (x ∈ l)))
theorem MetAt.start (w : World) : MetAt (w.alloc (.map #[] 0)) w.heap.size 0 [] :=
  ⟨.map [], World.ownsMap_made w _ _ _, Maps.isMap_empty, fun x _ => by simp [DataW.atKey]⟩
theorem MetAt.below {w w' : World} {b n : Nat} {l : List Int} (h : MetAt w b n l) (hb : Below w.heap.size w w') : MetAt w' b n l := by
  obtain ⟨D, h1, h2, h3⟩ := h
  exact ⟨D, h1.kept (row := none) ⟨hb.os, hb.tape, hb.output, hb.size, fun k hk _ => hb.block k hk⟩ (by simp), h2, h3⟩
theorem MetAt.lt {w : World} {b n : Nat} {l : List Int} (h : MetAt w b n l) : b < w.heap.size := by
  obtain ⟨D, h1, _⟩ := h
  exact h1.lt
theorem wf_i64 {x : Int} (h : -9223372036854775808 ≤ x ∧ x ≤ 9223372036854775807) : (Lit.int .i64 x).wf = true := by
  have h1 : IntKind.i64.min = -9223372036854775808 := rfl
  have h2 : IntKind.i64.max = 9223372036854775807 := rfl
  simp [Lit.wf, h1, h2]
  omega
theorem MetAt.look {w : World} {b n : Nat} {l : List Int} (h : MetAt w b n l) (x : Int) (hx : (Lit.int .i64 x).wf = true) : (Instr.lookup 214 (.map (some b)) (.int .i64 x) false).run Try.prog w = .ok (.bool (decide (x ∈ l))) w := by
  obtain ⟨D, h1, h2, h3⟩ := h
  obtain ⟨v, ps, hrun, hv⟩ := h1.lookup int_key Try.underlying214 (zero_bool w) (plainElem_bool Try.underlying4 false) (Maps.keyOf_int_mk Try.underlying3 hx)
  rw [h3 x hx] at hv
  obtain ⟨c, rfl, hc⟩ := plain_bool_inv Try.underlying4 hv
  simp only [Prod.mk.injEq, DataW.lit.injEq, Lit.bool.injEq] at hc
  rw [hrun, ← hc.1]
theorem MetAt.put {w : World} {b n : Nat} {l : List Int} (h : MetAt w b n l) (x : Int) (hx : (Lit.int .i64 x).wf = true) (hn : n < maxLen) : ∃ w', (Instr.mapUpdate 214 (.map (some b)) (.int .i64 x) (.bool true)).run Try.prog w = .ok () w' ∧ MetAt w' b (n + 1) (l ++ [x]) ∧ w.grownBy w' (some b) := by
  obtain ⟨D, h1, h2, h3⟩ := h
  obtain ⟨w', hrun, h4, h5⟩ := h1.update int_key Try.underlying214 hn (Maps.keyOf_int_mk Try.underlying3 hx) (plainElem_bool Try.underlying4 true)
  refine ⟨w', hrun, ⟨_, h4, h2.put _ _, fun y hy => ?_⟩, h5⟩
  by_cases e : y = x
  · subst e
    rw [Maps.atKey_put_same h2 (by trivial)]
    simp
  · rw [Maps.atKey_put_other (fun e' => e (by simpa using e')), h3 y hy]
    simp [e]
end Go.Proofs.Ytmlemichkeomjaa.CodW

/- (*coder.Coder).may walked. -/
set_option linter.unusedVariables false
set_option linter.unusedSimpArgs false
namespace Go.Proofs.Ytmlemichkeomjaa.CodW
open Go.RowKit Go.Proofs.Ytmlemichkeomjaa.Base Go.Proofs.Ytmlemichkeomjaa.GfP Go.Proofs.Ytmlemichkeomjaa.GfW Go.Proofs.Ytmlemichkeomjaa.Lin Go.Proofs.Ytmlemichkeomjaa.RowsW Go.Proofs.Ytmlemichkeomjaa.CodP

/-- Pieces. -/
structure Pieces (w : World) (A : Option Addr) (ps : List (Int × ByteArray)) : Prop where
  le : ∀ x, x ∈ ps → -9223372036854775808 ≤ x.1 ∧ x.1 ≤ 9223372036854775807
  at_ : ps = [] ∨ ∃ b off, A = some ⟨b, off, none⟩ ∧ ∀ j (h : j < ps.length), w.cell? ⟨b, off + j * 2, none⟩ = some (.int .i64 ps[j].1) ∧ w.cell? ⟨b, off + j * 2 + 1, none⟩ = some (.string ps[j].2)
theorem Pieces.below {w w' : World} {A : Option Addr} {ps : List (Int × ByteArray)} (h : Pieces w A ps) (hb : Below w.heap.size w w') : Pieces w' A ps := by
  refine ⟨h.le, ?_⟩
  rcases h.at_ with h1 | ⟨b, off, e, hc⟩
  · exact .inl h1
  · exact .inr ⟨b, off, e, fun j hj => ⟨cell_below hb (hc j hj).1, cell_below hb (hc j hj).2⟩⟩
theorem Pieces.block {w : World} {A : Option Addr} {ps : List (Int × ByteArray)} (h : Pieces w A ps) (h0 : ps.length ≠ 0) : ∃ b off, A = some ⟨b, off, none⟩ ∧ ∀ j (h : j < ps.length), w.cell? ⟨b, off + j * 2, none⟩ = some (.int .i64 ps[j].1) ∧ w.cell? ⟨b, off + j * 2 + 1, none⟩ = some (.string ps[j].2) := by
  rcases h.at_ with h1 | h1
  · exact absurd (by rw [h1]; rfl) h0
  · exact h1
theorem Pieces.nil (w : World) (A : Option Addr) : Pieces w A [] := ⟨fun _ h => (by cases h), .inl rfl⟩
/-- The numbers, and the texts, of pieces. -/
def nums (ps : List (Int × ByteArray)) : List Int := ps.map Prod.fst
def txts (ps : List (Int × ByteArray)) : List ByteArray := ps.map Prod.snd
theorem nums_length (ps : List (Int × ByteArray)) : (nums ps).length = ps.length := by simp [nums]
theorem txts_length (ps : List (Int × ByteArray)) : (txts ps).length = ps.length := by simp [txts]
theorem nums_getElem (ps : List (Int × ByteArray)) (i : Nat) (h : i < (nums ps).length) : (nums ps)[i] = (ps[i]'(by rw [nums_length] at h; exact h)).1 := by simp [nums]
theorem txts_getElem (ps : List (Int × ByteArray)) (i : Nat) (h : i < (txts ps).length) : (txts ps)[i] = (ps[i]'(by rw [txts_length] at h; exact h)).2 := by simp [txts]
/-- Pieces that may be read: numbers within reach, none twice; texts all as long. -/
structure May (n : Nat) (ps : List (Int × ByteArray)) : Prop where
  apart : Apart n (nums ps)
  even : ∀ i (h : i < ps.length), ps[i].2.size = (ps[0]'(by omega)).2.size
def MayPost (w : World) (n k : Nat) (ps : List (Int × ByteArray)) (e : Ending) (w' : World) : Prop :=
  (∃ er : Int, e = .returned (.int .i64 er) ∧ ((er = 1 ∧ ¬ May n ps) ∨ (er = 5 ∧ May n ps ∧ ps.length < k) ∨ (er = 0 ∧ May n ps ∧ k ≤ ps.length))) ∧ Below w.heap.size w w'
theorem mem_take_nums {ps : List (Int × ByteArray)} {a j : Nat} {x : Int} (hj : j < a) (ha : a < ps.length) (e : x = (ps[j]'(by omega)).1) : x ∈ (nums ps).take a := by
  rw [List.mem_take_iff_getElem]
  refine ⟨j, by rw [nums_length]; omega, ?_⟩
  rw [nums_getElem, e]
theorem nums_take {ps : List (Int × ByteArray)} {a : Nat} {x : Int} (ha : a < ps.length) (e : x = ps[a].1) : (nums ps).take (a + 1) = (nums ps).take a ++ [x] := by
  rw [List.take_succ_eq_append_getElem (by rw [nums_length]; exact ha), nums_getElem, e]
theorem not_may_mem {n : Nat} {ps : List (Int × ByteArray)} {a : Nat} {x : Int} (ha : a < ps.length) (hm : x ∈ (nums ps).take a) (e : x = ps[a].1) : ¬ May n ps := fun h => by
  rw [List.mem_take_iff_getElem] at hm
  obtain ⟨j, hj, e2⟩ := hm
  rw [nums_getElem] at e2
  have := h.apart.ne a (by rw [nums_length]; exact ha) j (by omega)
  rw [nums_getElem, nums_getElem] at this
  exact this (e.symm.trans e2.symm)
theorem may_nil (v : Value) (w : World) : Calls Try.prog 109 #[.pointer none, v] w fun e w' => e = .returned (.int .i64 1) ∧ w = w' := by
  go_enter Try.func109, Try.ntmps109
  go_wp2
  go_ret
  exact ⟨rfl, rfl⟩
set_option maxRecDepth 100000 in
set_option maxHeartbeats 1000000 in
theorem may_any (cb k n fb : Nat) (A : Option Addr) (c : Nat) (G : M) (A2 : Option Addr) (m c2 : Nat) (ps : List (Int × ByteArray)) (w : World) (hC : CoderAt w cb k n fb A c G) (hP : Pieces w A2 ps) (hl : ps.length = m) (hm : m ≤ 1000000) :
    Calls Try.prog 109 #[.pointer (some ⟨cb, 0, none⟩), .slice A2 m c2] w (MayPost w n k ps) := by
  have hmm := @run_makeMap Try.prog
  have h0 := hC.f0
  have h1 := hC.f1
  have k1 := hC.k1
  have kn := hC.kn
  have n16 := hC.n16
  have HL := Lib.hid hl
  have HM0 : MetAt (w.alloc (.map #[] 0)) w.heap.size 0 [] := MetAt.start w
  have HB0 : Below w.heap.size w (w.alloc (.map #[] 0)) := (Below.refl _ _).alloc (Nat.le_refl _) _
  clear hC hl
  go_enter Try.func109, Try.ntmps109
  go_wp2
  go_loopw [7, 13] (fun _ i wr => ∃ a : Nat, a ≤ m ∧ i = .int .i64 a ∧ MetAt wr w.heap.size a ((nums ps).take a) ∧ Below w.heap.size w wr ∧ (∀ i (h : i < ps.length), i < a → 0 ≤ ps[i].1 ∧ ps[i].1 < n ∧ ps[i].2.size = (ps[0]'(by omega)).2.size) ∧ ∀ i (h : i < ps.length), i < a → ∀ j (hj : j < i), ps[i].1 ≠ (ps[j]'(by omega)).1) (fun _ i _ => m - (intOf i).toNat)
  case atStart => exact ⟨0, by omega, rfl, HM0, HB0, fun i _ h => by omega, fun i _ h => by omega⟩
  case round =>
    obtain ⟨a, ha, rfl, HMT, HB, hall1, hall2⟩ := hrel
    have HA1 := Lib.hid hall1
    have HA2 := Lib.hid hall2
    clear hall1 hall2
    by_cases hlt : a < m
    · have hal : a < ps.length := by have := HL.out; omega
      obtain ⟨b, off, rfl, hc⟩ := (hP.below HB).block (by have := HL.out; omega)
      obtain ⟨g1, g2⟩ := hc a hal
      obtain ⟨g3, g4⟩ := hc 0 (by omega)
      clear hc
      have hxr := hP.le ps[a] (List.getElem_mem hal)
      obtain ⟨x, hx⟩ : ∃ x, x = ps[a].1 := ⟨_, rfl⟩
      obtain ⟨s, hs⟩ : ∃ s, s = ps[a].2 := ⟨_, rfl⟩
      obtain ⟨s0, hs0⟩ : ∃ s, s = (ps[0]'(by omega)).2 := ⟨_, rfl⟩
      rw [← hx] at g1 hxr
      rw [← hs] at g2
      rw [← hs0] at g4
      have HX := Lib.hid hx
      have HS := Lib.hid hs
      have HS0 := Lib.hid hs0
      clear hx hs hs0 g3
      go_upto_region 7 with fail
      have q0 : (wr.alloc (.cells #[.int .i64 x, .string s] 75)).cell? ⟨wr.heap.size, 0, none⟩ = some (.int .i64 x) := by rw [cell_of_row _ _ _ _ _ _ (heap_alloc_new wr _)]; rfl
      have q1 : (wr.alloc (.cells #[.int .i64 x, .string s] 75)).cell? ⟨wr.heap.size, 1, none⟩ = some (.string s) := by rw [cell_of_row _ _ _ _ _ _ (heap_alloc_new wr _)]; rfl
      have hWb : Below wr.heap.size wr (wr.alloc (.cells #[.int .i64 x, .string s] 75)) := (Below.refl _ _).alloc (Nat.le_refl _) _
      have hWs : wr.heap.size < (wr.alloc (.cells #[.int .i64 x, .string s] 75)).heap.size := by simp
      generalize wr.alloc (.cells #[.int .i64 x, .string s] 75) = W9 at q0 q1 hWb hWs ⊢
      have HBW := bt HB HB.size hWb
      have q2 := cell_below HBW h1
      have q4 : W9.cell? ⟨b, off + 1, none⟩ = some (.string s0) := by
        have := cell_below hWb g4
        simpa using this
      have HM9 := HMT.below hWb
      have hxw := wf_i64 hxr
      have r0 := regrown_cell q0
      have r1 := regrown_cell q1
      have r2 := regrown_cell q2
      have r4 := regrown_cell q4
      have rl : ∀ p : Regrown, (Instr.lookup 214 (.map (some w.heap.size)) (.int .i64 x) false).run Try.prog (Go.Sort.grow (redrawn W9 p.d) p.os) = .ok (.bool (decide (x ∈ (nums ps).take a))) (Go.Sort.grow (redrawn W9 p.d) p.os) := fun p => (HM9.below (below_of_regrown ⟨p, rfl⟩)).look x hxw
      have hz0 : (0 : Int) < m := by omega
      by_cases hx0 : x < 0
      · have t1 : decide (x < 0) = true := by simp [hx0]
        have hX0 := Lib.hid hx0
        clear g1 g2 g4 q0 q1 q2 q4 hx0
        (refine wp_region_quiet_below (by kernel_rfl) (by kernel_rfl) ?_; (repeat (go_big_quiet_step (fail))); refine wpQuiet_nil ?_; intro wq hw'; have HQ := below_of_regrown hw'; clear hw')
        go_wp2
        go_ret
        exact ⟨⟨1, rfl, .inl ⟨rfl, fun h => by have := (h.apart.rng a (by rw [nums_length]; exact hal)).1; rw [nums_getElem, ← HX.out] at this; have := hX0.out; omega⟩⟩, bt HBW HBW.size HQ⟩
      have t1 : decide (x < 0) = false := by simp; omega
      by_cases hxn : (n : Int) ≤ x
      · have t2 : decide ((n : Int) ≤ x) = true := by simp [hxn]
        have hXN := Lib.hid hxn
        clear g1 g2 g4 q0 q1 q2 q4 hxn hx0
        (refine wp_region_quiet_below (by kernel_rfl) (by kernel_rfl) ?_; (repeat (go_big_quiet_step (fail))); refine wpQuiet_nil ?_; intro wq hw'; have HQ := below_of_regrown hw'; clear hw')
        go_wp2
        go_ret
        exact ⟨⟨1, rfl, .inl ⟨rfl, fun h => by have := (h.apart.rng a (by rw [nums_length]; exact hal)).2; rw [nums_getElem, ← HX.out] at this; have := hXN.out; omega⟩⟩, bt HBW HBW.size HQ⟩
      have t2 : decide ((n : Int) ≤ x) = false := by simp; omega
      by_cases hmem : x ∈ (nums ps).take a
      · rw [decide_eq_true hmem] at rl
        have hME := Lib.hid hmem
        clear g1 g2 g4 q0 q1 q2 q4 hxn hx0 hmem
        (refine wp_region_quiet_below (by kernel_rfl) (by kernel_rfl) ?_; (repeat (go_big_quiet_step (fail))); refine wpQuiet_nil ?_; intro wq hw'; have HQ := below_of_regrown hw'; clear hw')
        go_wp2
        go_ret
        exact ⟨⟨1, rfl, .inl ⟨rfl, fun h => not_may_mem hal hME.out HX.out h⟩⟩, bt HBW HBW.size HQ⟩
      rw [decide_eq_false hmem] at rl
      have hME := Lib.hid hmem
      by_cases hsz : s.size = s0.size
      · have t3 : (((s.size : Nat) : Int) != ((s0.size : Nat) : Int)) = false := int_beq (by omega)
        have hSZ := Lib.hid hsz
        have hXN := Lib.hid (show 0 ≤ x ∧ x < n by omega)
        clear g1 g2 g4 q1 q2 q4 hxn hx0 hmem hsz
        (refine wp_region_quiet_below (by kernel_rfl) (by kernel_rfl) ?_; (repeat (go_big_quiet_step (fail))); refine wpQuiet_nil ?_; intro wq hw'; have HQ := below_of_regrown hw'; clear hw')
        have q0' := cell_below HQ q0
        obtain ⟨w8, hrun, hM8, hg8⟩ := (HM9.below HQ).put x hxw (by unfold maxLen; omega)
        have hbq := bt HBW HBW.size HQ
        have hb8 : Below w.heap.size w w8 := hbq.grown hg8 hbq.size (fun k hk => by cases hk; exact Nat.le_refl _)
        have HN := Lib.hid (nums_take hal HX.out)
        go_wp2
        go_roundw
        case rel =>
          refine ⟨a + 1, by omega, by go_num, by rw [HN.out]; exact hM8, hb8, fun i h hia => ?_, fun i h hia j hj => ?_⟩
          · rcases Nat.lt_or_ge i a with h9 | h9
            · exact HA1.out i h h9
            · obtain rfl : i = a := by omega
              have := hXN.out
              rw [← HX.out, ← HS.out, hSZ.out, HS0.out]
              exact ⟨this.1, this.2, rfl⟩
          · rcases Nat.lt_or_ge i a with h9 | h9
            · exact HA2.out i h h9 j hj
            · obtain rfl : i = a := by omega
              intro e
              exact hME.out (mem_take_nums hj hal (HX.out.trans e))
        case measure => simp [intOf]; omega
      · have t3 : (((s.size : Nat) : Int) != ((s0.size : Nat) : Int)) = true := int_bne (by omega)
        have hSZ := Lib.hid hsz
        clear g1 g2 g4 q0 q1 q2 q4 hxn hx0 hmem hsz
        (refine wp_region_quiet_below (by kernel_rfl) (by kernel_rfl) ?_; (repeat (go_big_quiet_step (fail))); refine wpQuiet_nil ?_; intro wq hw'; have HQ := below_of_regrown hw'; clear hw')
        go_wp2
        go_ret
        exact ⟨⟨1, rfl, .inl ⟨rfl, fun h => hSZ.out (by rw [HS.out, HS0.out]; exact h.even a hal)⟩⟩, bt HBW HBW.size HQ⟩
    · obtain rfl : a = m := by omega
      have HMY := Lib.hid (show May n ps from ⟨⟨fun i h => by rw [nums_length] at h; rw [nums_getElem]; have := HA1.out i h (by have := HL.out; omega); exact ⟨this.1, this.2.1⟩, fun i h j hj => by rw [nums_length] at h; rw [nums_getElem, nums_getElem]; exact HA2.out i h (by have := HL.out; omega) j hj⟩, fun i h => (HA1.out i h (by have := HL.out; omega)).2.2⟩)
      have q0 := cell_below HB h0
      by_cases hak : a < k
      · have t1 : decide (a < k) = true := by simp [hak]
        have HAK := Lib.hid hak
        clear hak
        go_wp2
        go_ret
        exact ⟨⟨5, rfl, .inr (.inl ⟨rfl, HMY.out, by rw [HL.out]; exact HAK.out⟩)⟩, HB⟩
      · have t1 : decide (a < k) = false := by simp; omega
        have HAK := Lib.hid hak
        clear hak
        go_wp2
        go_ret
        exact ⟨⟨0, rfl, .inr (.inr ⟨rfl, HMY.out, by rw [HL.out]; have := HAK.out; omega⟩)⟩, HB⟩
end Go.Proofs.Ytmlemichkeomjaa.CodW

/- coder.split walked: two appends in one statement. -/
set_option linter.unusedVariables false
set_option linter.unusedSimpArgs false
namespace Go.Proofs.Ytmlemichkeomjaa.CodW
open Go.RowKit Go.Proofs.Ytmlemichkeomjaa.Base Go.Proofs.Ytmlemichkeomjaa.GfP Go.Proofs.Ytmlemichkeomjaa.GfW Go.Proofs.Ytmlemichkeomjaa.Lin Go.Proofs.Ytmlemichkeomjaa.RowsW Go.Proofs.Ytmlemichkeomjaa.CodP

section
variable {P : Program} {ops : Array Oper} {o : Oper} {a : Act} {Q : Exit → Act → World → Prop} {K : Act → World → Prop} {E : Prop}
/-- append(v, y), y in a box laid before, as one step of a region that draws its order. -/
theorem step_app_box {w0 W : World} (base : Nat) (hgd : o.guard = none) (s x : Operand) (t e : TypeId) (z : Value) (bytes : Nat)
    (ho : o.op = .call { callee := .builtin .append, args := #[s, x], argTypes := #[t, t] })
    (ht : P.underlying t = some (.slice e)) (hinfo : (P.info? e).map (fun i => (i.zero, i.size, i.bytes)) = some (some z, 1, bytes)) (hz : z.cells.size = 1) (hb0 : 0 < bytes)
    (v : Value) (xs : List Value) (y : Value) (n g : Nat) (hn : xs.length = n) (hs : a.eval s = v) (hx : a.eval x = .slice (some ⟨g, 0, none⟩) 1 1) (hy : W.cell? ⟨g, 0, none⟩ = some y) (h1 : y.oneCell' = true)
    (HO : W.ownsRow base e 1 v n xs) (HB : Below base w0 W) (hbase : base ≤ W.heap.size) (hl : (n + 1) * bytes ≤ 140737488355328)
    (h : ∀ v1 w1, w1.ownsRow base e 1 v1 (n + 1) (xs ++ [y]) → Below base w0 w1 → W.grownBy w1 v.ownBlock → K (a.put o.dst v1) w1) :
    if Region.wanted o (yielded ops a.tmps) = true then Oper.wp P o a W K Q else E := by
  have hw : Region.wanted o (yielded ops a.tmps) = true := by simp [Region.wanted, hgd]
  rw [if_pos hw]
  obtain ⟨i0, hi, hzz⟩ := Option.map_eq_some_iff.1 hinfo
  simp only [Prod.mk.injEq] at hzz
  obtain ⟨hz0, hz1, hz2⟩ := hzz
  have hlen : n + 1 ≤ 140737488355328 := Nat.le_trans (Nat.le_mul_of_pos_right _ hb0) hl
  obtain ⟨v1, w1, hr, hown, hg, _⟩ := run_append_own_at (P := P) W base t o.type e i0 z 1 bytes ht hi hz0 hz1 hz2 hz (by omega) v n xs HO ⟨g, 0, none⟩ 1 1 [y] rfl
    (fun j u hj => by
      cases j with
      | zero =>
        have : y = u := by simpa using hj
        subst this
        rw [show (⟨g, 0, none⟩ : Addr).add 0 = ⟨g, 0, none⟩ by simp [Addr.add]]
        exact hy
      | succ j => simp at hj) (by simpa using h1) (by simp only [maxLen]; omega) hl hbase
  unfold Oper.wp execOp
  simp only [ho, resolve, invoke, builtin, Sem.run_bind, Sem.run_pure, Result.andThen_ok, List.map_toArray, List.map_cons, List.map_nil, hs, hx, hr]
  exact h v1 w1 hown (HB.grown hg hbase (own_lo HO)) hg
end
/-- What split has in hand. -/
structure Hand (w0 w : World) (d1 d2 : Value) (k1 k2 : Nat) (l : List Int) (ss : List ByteArray) (pb : Nat) (x : Int) (s : ByteArray) : Prop where
  own1 : w.ownsRow w0.heap.size 3 1 d1 k1 (zv l)
  own2 : w.ownsRow w0.heap.size 9 1 d2 k2 (sv ss)
  below : Below w0.heap.size w0 w
  box : ∃ cur : Array Value, w.heap[pb]? = some (.cells cur 75 (0, 0))
  c0 : w.cell? ⟨pb, 0, none⟩ = some (.int .i64 x)
  c1 : w.cell? ⟨pb, 1, none⟩ = some (.string s)
theorem box_lt {w : World} {pb : Nat} {o : Obj} (hg : w.heap[pb]? = some o) : pb < w.heap.size := by
  rcases Nat.lt_or_ge pb w.heap.size with h1 | h1
  · exact h1
  · rw [Array.getElem?_eq_none h1] at hg; cases hg
theorem Hand.later {w0 w w' : World} {d1 d2 : Value} {k1 k2 pb : Nat} {l : List Int} {ss : List ByteArray} {x : Int} {s : ByteArray} (h : Hand w0 w d1 d2 k1 k2 l ss pb x s) (hb : Below w.heap.size w w') : Hand w0 w' d1 d2 k1 k2 l ss pb x s :=
  ⟨own_below h.own1 hb, own_below h.own2 hb, bt h.below h.below.size hb, by obtain ⟨cur, hg⟩ := h.box; exact ⟨cur, (hb.block pb (box_lt hg)).trans hg⟩, cell_below hb h.c0, cell_below hb h.c1⟩
theorem Hand.app1 {w0 w w' : World} {d1 d2 d1' : Value} {k1 k2 k1' pb : Nat} {l l' : List Int} {ss : List ByteArray} {x : Int} {s : ByteArray} (h : Hand w0 w d1 d2 k1 k2 l ss pb x s) (ho : w'.ownsRow w0.heap.size 3 1 d1' k1' (zv l')) (hB : Below w0.heap.size w0 w') (hg : w.grownBy w' d1.ownBlock) : Hand w0 w' d1' d2 k1' k2 l' ss pb x s := by
  obtain ⟨cur, hb⟩ := h.box
  have hne := own_not hb h.own1 (by decide)
  exact ⟨ho, own_grown h.own2 hg (own_ne_own h.own2 h.own1 (by decide)), hB, ⟨cur, (hg.block pb (box_lt hb) hne).trans hb⟩, hg.cell h.c0 hne, hg.cell h.c1 hne⟩
theorem Hand.app2 {w0 w w' : World} {d1 d2 d2' : Value} {k1 k2 k2' pb : Nat} {l : List Int} {ss ss' : List ByteArray} {x : Int} {s : ByteArray} (h : Hand w0 w d1 d2 k1 k2 l ss pb x s) (ho : w'.ownsRow w0.heap.size 9 1 d2' k2' (sv ss')) (hB : Below w0.heap.size w0 w') (hg : w.grownBy w' d2.ownBlock) : Hand w0 w' d1 d2' k1 k2' l ss' pb x s := by
  obtain ⟨cur, hb⟩ := h.box
  have hne := own_not hb h.own2 (by decide)
  exact ⟨own_grown h.own1 hg (own_ne_own h.own1 h.own2 (by decide)), ho, hB, ⟨cur, (hg.block pb (box_lt hb) hne).trans hb⟩, hg.cell h.c0 hne, hg.cell h.c1 hne⟩
theorem box_below {w w' : World} {g : Nat} {o : Obj} (h : w.heap[g]? = some o) (hb : Below w.heap.size w w') : w'.heap[g]? = some o := (hb.block g (box_lt h)).trans h
theorem box_grown {w w' : World} {g b e size n : Nat} {t : TypeId} {cur : Array Value} {v : Value} {xs : List Value} (h : w.heap[g]? = some (.cells cur t (0, 0))) (ho : w.ownsRow b e size v n xs) (hg : w.grownBy w' v.ownBlock) (ht : t ≠ e) : w'.heap[g]? = some (.cells cur t (0, 0)) :=
  (hg.block g (box_lt h) (own_not h ho ht)).trans h
theorem box_cell {w : World} {g : Nat} {t : TypeId} {y : Value} (h : w.heap[g]? = some (.cells #[y] t (0, 0))) : w.cell? ⟨g, 0, none⟩ = some y := by rw [cell_of_row _ _ _ _ _ _ h]; rfl
theorem zv_take {ps : List (Int × ByteArray)} {a : Nat} (ha : a < ps.length) : zv (nums (ps.take (a + 1))) = zv (nums (ps.take a)) ++ [.int .i64 ps[a].1] := by
  unfold zv nums
  rw [List.take_succ_eq_append_getElem ha, List.map_append, List.map_append]
  rfl
theorem sv_take {ps : List (Int × ByteArray)} {a : Nat} (ha : a < ps.length) : sv (txts (ps.take (a + 1))) = sv (txts (ps.take a)) ++ [.string ps[a].2] := by
  unfold sv txts
  rw [List.take_succ_eq_append_getElem ha, List.map_append, List.map_append]
  rfl
set_option maxRecDepth 100000 in
set_option maxHeartbeats 4000000 in
theorem split_any (A : Option Addr) (m c : Nat) (ps : List (Int × ByteArray)) (w : World) (hP : Pieces w A ps) (hl : ps.length = m) (hm : m ≤ 1000000) :
    Calls Try.prog 110 #[.slice A m c] w fun e w' => ∃ A1 c1 A2 c2, e = .returned (.tuple #[.slice A1 m c1, .slice A2 m c2]) ∧ Ints w' A1 (nums ps) ∧ Strs w' A2 m (txts ps) ∧ m ≤ c1 ∧ m ≤ c2 ∧ Below w.heap.size w w' := by
  have HL := Lib.hid hl
  clear hl
  go_enter Try.func110, Try.ntmps110
  go_wp2
  go_loopw [4, 5, 7, 10] (fun d1 d2 _ i wr => ∃ a : Nat, a ≤ m ∧ i = .int .i64 a ∧ wr.ownsRow w.heap.size 3 1 d1 a (zv (nums (ps.take a))) ∧ wr.ownsRow w.heap.size 9 1 d2 a (sv (txts (ps.take a))) ∧ Below w.heap.size w wr) (fun _ _ _ i _ => m - (intOf i).toNat)
  case atStart => exact ⟨0, by omega, rfl, World.ownsRow_nil _ _ _ _, World.ownsRow_nil _ _ _ _, Below.refl _ _⟩
  case round =>
    obtain ⟨a, ha, rfl, HO1, HO2, HB⟩ := hrel
    by_cases hlt : a < m
    · have hal : a < ps.length := by have := HL.out; omega
      obtain ⟨b, off, rfl, hc⟩ := (hP.below HB).block (by have := HL.out; omega)
      obtain ⟨g1, g2⟩ := hc a hal
      clear hc
      have HT1 := Lib.hid (zv_take hal)
      have HT2 := Lib.hid (sv_take hal)
      generalize ps[a].1 = x at g1 HT1
      generalize ps[a].2 = s at g2 HT2
      have HLA := Lib.hid (show (zv (nums (ps.take a))).length = a by rw [zv_length, nums_length, List.length_take]; omega)
      have HLB := Lib.hid (show (sv (txts (ps.take a))).length = a by rw [sv_length, txts_length, List.length_take]; omega)
      go_upto_region 6 with fail
      have hWb : Below wr.heap.size wr (wr.alloc (.cells #[.int .i64 x, .string s] 75)).drew := ((Below.refl _ _).alloc (Nat.le_refl _) _).drew
      have hbx : (wr.alloc (.cells #[.int .i64 x, .string s] 75)).drew.heap[wr.heap.size]? = some (.cells #[.int .i64 x, .string s] 75 (0, 0)) := heap_alloc_new wr _
      have HH : Hand w (wr.alloc (.cells #[.int .i64 x, .string s] 75)).drew u4 u5 a a (nums (ps.take a)) (txts (ps.take a)) wr.heap.size x s := ⟨own_below HO1 hWb, own_below HO2 hWb, bt HB HB.size hWb, ⟨_, hbx⟩, by rw [cell_of_row _ _ _ _ _ _ hbx]; rfl, by rw [cell_of_row _ _ _ _ _ _ hbx]; rfl⟩
      have c0 := HH.c0
      have c1 := HH.c1
      clear g1 g2 hbx hWb HO1 HO2 HB
      have hW := World.size_alloc wr (.cells #[.int .i64 x, .string s] 75)
      have hlt1 := HH.own1.lt
      have HLT := Lib.hid (show ∀ g, wr.heap.size + 1 ≤ g → some g ≠ u4.ownBlock from fun g hg e => by have := (hlt1 g e.symm).2; have h9 : (wr.alloc (.cells #[.int .i64 x, .string s] 75)).drew.heap.size = wr.heap.size + 1 := hW; omega)
      clear hW hlt1
      go_region_law (first | (refine step_app_box w.heap.size rfl (.tmp 14) (.tmp 17) 22 3 (.int .i64 0) 8 rfl Try.underlying22 info_int rfl (by omega) _ (zv (nums (ps.take a))) (.int .i64 x) a _ HLA.out rfl rfl (by go_simp) rfl (Hand.own1 (by first | exact HH | exact HH.later ((Below.refl _ _).alloc (Nat.le_refl _) _) | exact HH.later (((Below.refl _ _).alloc (Nat.le_refl _) _).alloc (by simp) _))) (Hand.below (by first | exact HH | exact HH.later ((Below.refl _ _).alloc (Nat.le_refl _) _) | exact HH.later (((Below.refl _ _).alloc (Nat.le_refl _) _).alloc (by simp) _))) (Below.size (Hand.below (by first | exact HH | exact HH.later ((Below.refl _ _).alloc (Nat.le_refl _) _) | exact HH.later (((Below.refl _ _).alloc (Nat.le_refl _) _).alloc (by simp) _)))) (by omega) ?_; intro v1 w1 HO1 HB1 hg1; have kB := (fun g (hg : wr.heap.size + 1 ≤ g) hc => hg1.cell (a := ⟨g, 0, none⟩) (v := .string s) hc (HLT.out g hg)); rw [← HT1.out] at HO1; have HN := Hand.app1 (by first | exact HH | exact HH.later ((Below.refl _ _).alloc (Nat.le_refl _) _) | exact HH.later (((Below.refl _ _).alloc (Nat.le_refl _) _).alloc (by simp) _)) HO1 HB1 hg1; clear HH c0 c1; have HH := HN; have c0 := HH.c0; have c1 := HH.c1; clear HO1 HB1 hg1 HN) | (refine step_app_box w.heap.size rfl (.tmp 19) (.tmp 22) 40 9 (.string ByteArray.empty) 16 rfl Try.underlying40 info_str rfl (by omega) _ (sv (txts (ps.take a))) (.string s) a _ HLB.out rfl rfl (by first | (go_simp; done) | exact kB _ (by omega) (by go_simp)) rfl (Hand.own2 (by first | exact HH | exact HH.later ((Below.refl _ _).alloc (Nat.le_refl _) _) | exact HH.later (((Below.refl _ _).alloc (Nat.le_refl _) _).alloc (by simp) _))) (Hand.below (by first | exact HH | exact HH.later ((Below.refl _ _).alloc (Nat.le_refl _) _) | exact HH.later (((Below.refl _ _).alloc (Nat.le_refl _) _).alloc (by simp) _))) (Below.size (Hand.below (by first | exact HH | exact HH.later ((Below.refl _ _).alloc (Nat.le_refl _) _) | exact HH.later (((Below.refl _ _).alloc (Nat.le_refl _) _).alloc (by simp) _)))) (by omega) ?_; intro v2 w2 HO2 HB2 hg2; rw [← HT2.out] at HO2; have HN := Hand.app2 (by first | exact HH | exact HH.later ((Below.refl _ _).alloc (Nat.le_refl _) _) | exact HH.later (((Below.refl _ _).alloc (Nat.le_refl _) _).alloc (by simp) _)) HO2 HB2 hg2; clear HH c0 c1; have HH := HN; have c0 := HH.c0; have c1 := HH.c1; clear HO2 HB2 hg2 HN))
      all_goals clear c0 c1
      all_goals go_wp2
      all_goals exact ⟨⟨a + 1, by omega, by go_num, HH.own1, HH.own2, HH.below⟩, by simp [intOf]; omega⟩
    · obtain rfl : a = m := by omega
      rw [List.take_of_length_le (by have := HL.out; omega)] at HO1 HO2
      obtain ⟨A1, c1, rfl, h1, h2⟩ := own_ints HO1 (fun x hx => by
        obtain ⟨p, hp, rfl⟩ := List.mem_map.1 hx
        exact hP.le p hp)
      obtain ⟨A2, c2, rfl, h3, h4, _⟩ := own_strs HO2
      go_wp2
      go_ret2
      exact ⟨A1, c1, A2, c2, rfl, h2, h3, h1, h4, HB⟩
end Go.Proofs.Ytmlemichkeomjaa.CodW

/- (*coder.Coder).Read and Again walked. -/
set_option linter.unusedVariables false
set_option linter.unusedSimpArgs false
namespace Go.Proofs.Ytmlemichkeomjaa.CodW
open Go.RowKit Go.Proofs.Ytmlemichkeomjaa.Base Go.Proofs.Ytmlemichkeomjaa.GfP Go.Proofs.Ytmlemichkeomjaa.GfW Go.Proofs.Ytmlemichkeomjaa.Lin Go.Proofs.Ytmlemichkeomjaa.RowsW Go.Proofs.Ytmlemichkeomjaa.CodP

theorem Pieces.take {w : World} {A : Option Addr} {ps : List (Int × ByteArray)} (h : Pieces w A ps) (k : Nat) : Pieces w A (ps.take k) := by
  refine ⟨fun x hx => h.le x (List.mem_of_mem_take hx), ?_⟩
  rcases h.at_ with h1 | ⟨b, off, e, hc⟩
  · left; rw [h1]; simp
  · refine .inr ⟨b, off, e, fun j hj => ?_⟩
    have hj2 : j < ps.length := by rw [List.length_take] at hj; omega
    rw [List.getElem_take]
    exact hc j hj2
theorem nums_take_eq (ps : List (Int × ByteArray)) (k : Nat) : nums (ps.take k) = (nums ps).take k := by simp [nums, List.map_take]
theorem txts_take_eq (ps : List (Int × ByteArray)) (k : Nat) : txts (ps.take k) = (txts ps).take k := by simp [txts, List.map_take]
theorem Apart.take {n : Nat} {l : List Int} (h : Apart n l) (k : Nat) : Apart n (l.take k) := by
  refine ⟨fun i hi => ?_, fun i hi j hj => ?_⟩
  · rw [List.length_take] at hi
    rw [List.getElem_take]
    exact h.rng i (by omega)
  · rw [List.length_take] at hi
    rw [List.getElem_take, List.getElem_take]
    exact h.ne i (by omega) j hj
/-- What makes the texts out of pieces. -/
structure Undoes (k : Nat) (G : M) (l : List Int) (V : M) : Prop where
  left : Eqv k k (mm k V (selT G l)) dl
  right : Eqv k k (mm k (selT G l) V) dl
theorem read_nil (v : Value) (w : World) : Calls Try.prog 67 #[.pointer none, v] w fun e w' => e = .returned (.tuple #[.slice none 0 0, .int .i64 1]) ∧ w = w' := by
  have H := Lib.hid (may_nil v w)
  go_enter Try.func67, Try.ntmps67
  go_wp2_with (go_at_call 109; (with_reducible refine (H.out).mono ?_); rintro e w2 ⟨rfl, rfl⟩)
  go_ret2
  exact ⟨rfl, rfl⟩
section
variable (cb k n fb : Nat) (A : Option Addr) (c : Nat) (G : M) (A2 : Option Addr) (m c2 : Nat) (ps : List (Int × ByteArray)) (w : World)
/-- Pieces that are refused. -/
theorem read_no (hC : CoderAt w cb k n fb A c G) (hP : Pieces w A2 ps) (hl : ps.length = m) (hm : m ≤ 1000000) (er : Int) (h : (er = 1 ∧ ¬ May n ps) ∨ (er = 5 ∧ May n ps ∧ ps.length < k)) :
    Calls Try.prog 67 #[.pointer (some ⟨cb, 0, none⟩), .slice A2 m c2] w fun e w' => e = .returned (.tuple #[.slice none 0 0, .int .i64 er]) ∧ Below w.heap.size w w' := by
  have HM : Calls Try.prog 109 #[.pointer (some ⟨cb, 0, none⟩), .slice A2 m c2] w fun e w' => e = .returned (.int .i64 er) ∧ Below w.heap.size w w' := by
    refine (may_any cb k n fb A c G A2 m c2 ps w hC hP hl hm).mono ?_
    rintro e w' ⟨⟨x, he, h1⟩, hb⟩
    refine ⟨?_, hb⟩
    rw [he]
    rcases h with ⟨rfl, h2⟩ | ⟨rfl, h2, h3⟩
    · rcases h1 with ⟨rfl, _⟩ | ⟨_, h4, _⟩ | ⟨_, h4, _⟩
      · rfl
      · exact absurd h4 h2
      · exact absurd h4 h2
    · rcases h1 with ⟨_, h4⟩ | ⟨rfl, _⟩ | ⟨_, _, h4⟩
      · exact absurd h2 h4
      · rfl
      · omega
  have HM := Lib.hid HM
  have e1 : (er != 0) = true := by
    rcases h with ⟨rfl, _⟩ | ⟨rfl, _⟩ <;> rfl
  clear h hC
  go_enter Try.func67, Try.ntmps67
  go_wp2_with (go_at_call 109; (with_reducible refine (HM.out).mono ?_); rintro e w2 ⟨rfl, hd⟩)
  go_ret2
  exact ⟨rfl, hd⟩
set_option maxRecDepth 100000 in
set_option maxHeartbeats 1000000 in
/-- Pieces that are read. -/
theorem read_ok (hC : CoderAt w cb k n fb A c G) (hP : Pieces w A2 ps) (hl : ps.length = m) (hmc : m ≤ c2) (hm : m ≤ 1000000) (hM : May n ps) (hk : k ≤ m) (L : Nat) (hL : L ≤ 1000000) (hsz : ∀ i (h : i < ps.length), ps[i].2.size = L) :
    Calls Try.prog 67 #[.pointer (some ⟨cb, 0, none⟩), .slice A2 m c2] w fun e w' => ∃ A' c' V, e = .returned (.tuple #[.slice A' k c', .int .i64 0]) ∧ k ≤ c' ∧ Strs w' A' k (txs k L (mm k V (tx (txts (ps.take k))))) ∧ Undoes k G (nums (ps.take k)) V ∧ Below w.heap.size w w' := by
  have HB : Below w.heap.size w w := Below.refl _ _
  have h0 := hC.f0
  have h3 := hC.f3
  have k1 := hC.k1
  have kn := hC.kn
  have n16 := hC.n16
  have HM0 : Calls Try.prog 109 #[.pointer (some ⟨cb, 0, none⟩), .slice A2 m c2] w fun e w' => e = .returned (.int .i64 0) ∧ Below w.heap.size w w' := by
    refine (may_any cb k n fb A c G A2 m c2 ps w hC hP hl hm).mono ?_
    rintro e w' ⟨⟨x, he, h1⟩, hb⟩
    refine ⟨?_, hb⟩
    rw [he]
    rcases h1 with ⟨_, h4⟩ | ⟨_, _, h4⟩ | ⟨rfl, _⟩
    · exact absurd hM h4
    · omega
    · rfl
  have HM := Lib.hid HM0
  have hlk : (nums (ps.take k)).length = k := by rw [nums_length, List.length_take]; omega
  have hap : Apart n (nums (ps.take k)) := by rw [nums_take_eq]; exact Apart.take hM.apart k
  have HSP := Lib.hid (fun W A9 c9 (h : Pieces W A9 (ps.take k)) => split_any A9 k c9 (ps.take k) W h (by rw [List.length_take]; omega) (by omega))
  have HPK := Lib.hid (fun W A9 c9 (h9 : Base.Rows W A (tab n k G)) (h8 : Ints W A9 (nums (ps.take k))) => pick_good A A9 n c k c9 (tab n k G) (nums (ps.take k)) W h9 h8 (tab_length _ _ _) hlk (right_tab _ (by omega) (by omega) k1 (by omega)) k1 (by omega) hap.rng)
  rw [selT_pick G n k _ hap.rng, hlk] at HPK
  have hFT : Free k (fn (tab k k (selT G (nums (ps.take k))))) := free_tab (hC.code.free _ hlk hap)
  have HUN := Lib.hid (fun W g off c9 (h9 : Base.Rows W (some ⟨g, off, none⟩) (tab k k (selT G (nums (ps.take k))))) => undo_rows g off k c9 _ W h9 (tab_length _ _ _) (right_tab _ k1 (by omega) k1 (by omega)) (wid_tab _ _ (by omega)) hFT)
  have hts : ∀ i (h : i < (txts (ps.take k)).length), (txts (ps.take k))[i].size = L := fun i h => by
    rw [txts_getElem, List.getElem_take]
    exact hsz i (by rw [txts_length, List.length_take] at h; omega)
  have HT := Lib.hid (fun W A9 A8 c9 c8 O (hc : CoderAt W cb k n fb A c G) (h9 : Base.Rows W A9 (tab k k O)) (h8 : Strs W A8 k (txts (ps.take k))) => times_any cb fb A9 A8 k k c9 c8 L (tab k k O) _ W hc.f2 hc.field h9 h8 (tab_length _ _ _) (by omega) (by omega) (by omega) hL (fun i h => by rw [tab_getElem, rw1_length]) hts)
  obtain ⟨b, off, rfl, hc0⟩ := hP.block (by omega)
  have hPk := Pieces.take hP k
  clear hc0 hM hl hlk hap hFT hts hsz HM0
  go_enter Try.func67, Try.ntmps67
  go_wp2_with (first | (go_at_call 109; (with_reducible refine (HM.out).mono ?_); rintro e w2 ⟨rfl, hd⟩; replace h0 := cell_below hd h0; replace h3 := cell_below hd h3; replace HB := bt HB HB.size hd; clear hd) | (go_at_call 110; (with_reducible refine (HSP.out _ _ _ (hPk.below HB)).mono ?_); rintro e w3 ⟨A3, c3, A4, c4, rfl, hI, hT, hc3, hc4, hd⟩; replace h3 := cell_below hd h3; replace HB := bt HB HB.size hd; clear hd) | (go_at_call 59; (with_reducible refine (HPK.out _ _ _ (hC.below HB).rows hI).mono ?_); rintro e w4 ⟨A5, c5, rfl, hS, hd⟩; replace hT := hT.below hd; obtain ⟨b5, o5, rfl, hx5⟩ := hS.block (by rw [tab_length]; omega); clear hx5; replace HB := bt HB HB.size hd; clear hd) | (go_at_call 61; (with_reducible refine (HUN.out _ _ _ _ hS).mono ?_); rintro e w5 ⟨g6, c6, O, rfl, hc6, hO, hE, hd⟩; replace hT := hT.below hd; have HE := Lib.hid hE; clear hE; replace HB := bt HB HB.size hd; clear hd) | (go_at_call 108; (with_reducible refine (HT.out _ _ _ _ _ _ (hC.below HB) hO hT).mono ?_); rintro e w6 ⟨A7, c7, rfl, hc7, hZ, hd⟩; replace HB := bt HB HB.size hd; clear hd))
  go_ret2
  rw [txs_congr (mm_tab_fn k k L O (tx (txts (ps.take k))))] at hZ
  exact ⟨A7, c7, O, rfl, hc7, hZ, ⟨(mm_fn_tab k k k O (selT G (nums (ps.take k)))).symm.trans HE.out.1, (mm_tab_fn k k k (selT G (nums (ps.take k))) O).symm.trans HE.out.2⟩, HB⟩
end
end Go.Proofs.Ytmlemichkeomjaa.CodW

/- (*coder.Coder).Again walked. -/
set_option linter.unusedVariables false
set_option linter.unusedSimpArgs false
namespace Go.Proofs.Ytmlemichkeomjaa.CodW
open Go.RowKit Go.Proofs.Ytmlemichkeomjaa.Base Go.Proofs.Ytmlemichkeomjaa.GfP Go.Proofs.Ytmlemichkeomjaa.GfW Go.Proofs.Ytmlemichkeomjaa.Lin Go.Proofs.Ytmlemichkeomjaa.RowsW Go.Proofs.Ytmlemichkeomjaa.CodP

/-- One row of rows. -/
theorem rows_one {w : World} {b off n k i : Nat} {G : M} (h : Base.Rows w (some ⟨b, off, none⟩) (tab n k G)) (hi : i < n) : Base.Rows w (some ⟨b, off + i, none⟩) (tab 1 k (fun _ => G i)) := by
  obtain ⟨b', off', e, hc⟩ := h.block (by rw [tab_length]; omega)
  cases e
  refine ⟨.inr ⟨b, off + i, rfl, fun j hj => ?_⟩⟩
  have hj0 : j = 0 := by rw [tab_length] at hj; omega
  subst hj0
  obtain ⟨B, c, h1, h2⟩ := hc i (by rw [tab_length]; exact hi)
  rw [tab_getElem] at h1 h2 ⊢
  exact ⟨B, c, h1, h2⟩
section
variable (cb k n fb : Nat) (A : Option Addr) (c : Nat) (G : M) (A2 : Option Addr) (m c2 : Nat) (ps : List (Int × ByteArray)) (x : Int) (w : World)
end
end Go.Proofs.Ytmlemichkeomjaa.CodW

/- stooklaw03.picked walked. -/
set_option linter.unusedVariables false
set_option linter.unusedSimpArgs false
namespace Go.Proofs.Ytmlemichkeomjaa.CodW
open Go.RowKit Go.Proofs.Ytmlemichkeomjaa.Base Go.Proofs.Ytmlemichkeomjaa.GfP Go.Proofs.Ytmlemichkeomjaa.GfW Go.Proofs.Ytmlemichkeomjaa.Lin Go.Proofs.Ytmlemichkeomjaa.RowsW Go.Proofs.Ytmlemichkeomjaa.CodP

theorem info_piece : (Try.prog.info? 75).map (fun i => (i.zero, i.size, i.bytes)) = some (some (.agg #[.int .i64 0, .string ByteArray.empty]), 2, 24) := by kernel_rfl
/-- Pieces as values. -/
def pv : List (Int × ByteArray) → List Value
  | [] => []
  | p :: l => .int .i64 p.1 :: .string p.2 :: pv l
theorem pv_length (ps : List (Int × ByteArray)) : (pv ps).length = ps.length * 2 := by
  induction ps with
  | nil => rfl
  | cons p l ih => simp only [pv, List.length_cons, ih]; omega
theorem pv_append (a b : List (Int × ByteArray)) : pv (a ++ b) = pv a ++ pv b := by
  induction a with
  | nil => rfl
  | cons p l ih => simp only [pv, List.cons_append, ih]
theorem pv_get (ps : List (Int × ByteArray)) : ∀ j (h : j < ps.length), (pv ps)[j * 2]? = some (.int .i64 ps[j].1) ∧ (pv ps)[j * 2 + 1]? = some (.string ps[j].2) := by
  induction ps with
  | nil => intro j h; simp at h
  | cons p l ih =>
    intro j h
    cases j with
    | zero => exact ⟨rfl, rfl⟩
    | succ j =>
      have h2 := ih j (by simpa using h)
      rw [show (j + 1) * 2 = j * 2 + 1 + 1 by omega]
      simp only [pv, List.getElem?_cons_succ, List.getElem_cons_succ]
      exact h2
theorem own_pieces {w : World} {base n : Nat} {v : Value} {ps : List (Int × ByteArray)} (h : w.ownsRow base 75 2 v n (pv ps)) (hle : ∀ x, x ∈ ps → -9223372036854775808 ≤ x.1 ∧ x.1 ≤ 9223372036854775807) : ∃ A c, v = .slice A n c ∧ n ≤ c ∧ ps.length = n ∧ Pieces w A ps := by
  have hl : ps.length = n := by have := h.1; rw [pv_length] at this; omega
  rcases h.2 with ⟨rfl, h0⟩ | ⟨g, cap, cur, rfl, hb, hg, hc, _⟩
  · subst h0
    have : ps = [] := List.eq_nil_of_length_eq_zero hl
    subst this
    exact ⟨none, 0, rfl, Nat.le_refl _, rfl, Pieces.nil _ _⟩
  · refine ⟨_, cap, rfl, hc, hl, hle, .inr ⟨g, 0, rfl, fun j hj => ?_⟩⟩
    obtain ⟨h1, h2⟩ := pv_get ps j hj
    have a1 := h.cells (g := g) rfl (j * 2) _ h1
    have a2 := h.cells (g := g) rfl (j * 2 + 1) _ h2
    have e1 : ∀ i, (⟨g, 0, none⟩ : Addr).add i = ⟨g, 0 + i, none⟩ := fun i => by unfold Addr.add; split <;> simp_all
    rw [e1] at a1 a2
    exact ⟨a1, by rw [Nat.add_assoc]; exact a2⟩
/-- append(v, y), y a struct of two cells, laid before. -/
theorem app_two {P : Program} {ops : Array Oper} {rest : List Oper} {o : Oper} {a : Act} {Q : Exit → Act → World → Prop} {w0 W : World} (base : Nat) (hgd : o.guard = none) (s x : Operand) (t e : TypeId) (z : Value) (bytes : Nat)
    (ho : o.op = .call { callee := .builtin .append, args := #[s, x], argTypes := #[t, t] })
    (ht : P.underlying t = some (.slice e)) (hinfo : (P.info? e).map (fun i => (i.zero, i.size, i.bytes)) = some (some z, 2, bytes)) (hz : z.cells.size = 2) (hb0 : 0 < bytes)
    (v : Value) (xs : List Value) (y1 y2 : Value) (n : Nat) (hs : a.eval s = v) (hx : a.eval x = .slice (some ⟨W.heap.size, 0, none⟩) 1 1) (h1 : y1.oneCell' = true) (h2 : y2.oneCell' = true)
    (HO : W.ownsRow base e 2 v n xs) (HB : Below base w0 W) (hbase : base ≤ W.heap.size) (hl : (n + 1) * bytes ≤ 140737488355328)
    (h : ∀ v1 w1, w1.ownsRow base e 2 v1 (n + 1) (xs ++ [y1, y2]) → Below base w0 w1 → W.grownBy w1 v.ownBlock → wpList P ops Q rest (a.put o.dst v1) w1) :
    wpList P ops Q (o :: rest) a (W.alloc (.cells #[y1, y2] e)) := by
  obtain ⟨i0, hi, hzz⟩ := Option.map_eq_some_iff.1 hinfo
  simp only [Prod.mk.injEq] at hzz
  obtain ⟨hz0, hz1, hz2⟩ := hzz
  have hlen : n + 1 ≤ 140737488355328 := Nat.le_trans (Nat.le_mul_of_pos_right _ hb0) hl
  refine wpList_append_own_at (W.alloc (.cells #[y1, y2] e)) hgd s x t ho base e i0 z 2 bytes ht hi hz0 hz1 hz2 hz (by omega) v n xs hs (HO.alloc _) ⟨W.heap.size, 0, none⟩ 1 1 [y1, y2] hx rfl
    (World.news_of_block (cs := #[y1, y2]) (t := e) (fr := (0, 0)) (heap_alloc_new W _)) (by simpa using ⟨h1, h2⟩) (by simp only [maxLen]; omega) hl (by simp; omega) ?_
  intro v1 w1 hown hg _ _
  exact h v1 w1 hown ((HB.alloc hbase _).grown hg (by simp; omega) (own_lo HO)) (World.grownBy.trans (World.grownBy_alloc W _ _) hg)
/-- Pieces of texts: numbers within reach, none twice, each with its text. -/
structure PicksOf (l : List ByteArray) (ps : List (Int × ByteArray)) : Prop where
  apart : Apart l.length (nums ps)
  text : ∀ i (h : i < ps.length), ps[i].2 = l.getD ps[i].1.toNat ByteArray.empty
theorem PicksOf.nil (l : List ByteArray) : PicksOf l [] := ⟨⟨fun i h => by simp [nums] at h, fun i h => by simp [nums] at h⟩, fun i h => by simp at h⟩
theorem PicksOf.snoc {l : List ByteArray} {ps : List (Int × ByteArray)} {i : Nat} (h : PicksOf l ps) (hi : i < l.length) (hn : ((i : Nat) : Int) ∉ nums ps) : PicksOf l (ps ++ [(((i : Nat) : Int), l[i])]) := by
  have e1 : nums (ps ++ [(((i : Nat) : Int), l[i])]) = nums ps ++ [((i : Nat) : Int)] := by simp [nums]
  refine ⟨⟨fun j hj => ?_, fun j hj q hq => ?_⟩, fun j hj => ?_⟩
  · simp only [e1] at hj ⊢
    by_cases e : j < (nums ps).length
    · rw [List.getElem_append_left e]; exact h.apart.rng j e
    · rw [List.getElem_append_right (by omega)]
      simp
      omega
  · simp only [e1] at hj ⊢
    have hjl : j < (nums ps).length + 1 := by simpa using hj
    by_cases e : j < (nums ps).length
    · rw [List.getElem_append_left e, List.getElem_append_left (by omega)]
      exact h.apart.ne j e q hq
    · have e2 : j = (nums ps).length := by omega
      subst e2
      rw [List.getElem_append_right (Nat.le_refl _), List.getElem_append_left hq]
      intro e3
      apply hn
      have : ((i : Nat) : Int) = (nums ps)[q] := by simpa using e3
      rw [this]
      exact List.getElem_mem _
  · by_cases e : j < ps.length
    · simp only [List.getElem_append_left e]
      exact h.text j e
    · have e2 : j = ps.length := by rw [List.length_append, List.length_singleton] at hj; omega
      subst e2
      simp only [List.getElem_append_right (Nat.le_refl _), Nat.sub_self, List.getElem_cons_zero]
      rw [Int.toNat_natCast, List.getD_eq_getElem?_getD, List.getElem?_eq_getElem hi]
      rfl
theorem notin_succ {ps : List (Int × ByteArray)} {k : Nat} (x : Int) (hk : k < ps.length) : decide (x ∉ (nums ps).take (k + 1)) = (decide (x ∉ (nums ps).take k) && decide (ps[k].1 ≠ x)) := by
  rw [nums_take hk rfl]
  by_cases h : x ∈ (nums ps).take k
  · simp [h]
  · simp only [List.mem_append, List.mem_singleton, h, false_or, not_false_eq_true, decide_true, Bool.true_and, decide_eq_decide]
    exact ⟨fun h e => h e.symm, fun h e => h e.symm⟩
end Go.Proofs.Ytmlemichkeomjaa.CodW

/- The law CoderReads walked. -/
set_option linter.unusedVariables false
set_option linter.unusedSimpArgs false
namespace Go.Proofs.Ytmlemichkeomjaa.CodW
open Go.RowKit Go.Proofs.Ytmlemichkeomjaa.Base Go.Proofs.Ytmlemichkeomjaa.GfP Go.Proofs.Ytmlemichkeomjaa.GfW Go.Proofs.Ytmlemichkeomjaa.Lin Go.Proofs.Ytmlemichkeomjaa.RowsW Go.Proofs.Ytmlemichkeomjaa.CodP

theorem PicksOf.some {n L : Nat} {Y : M} {ps : List (Int × ByteArray)} (h : PicksOf (txs n L Y) ps) (i : Nat) (hi : i < ps.length) : ∃ m : Nat, m < n ∧ ps[i].1 = (m : Int) ∧ ps[i].2 = strOf L (Y m) := by
  have hr := h.apart.rng i (by rw [nums_length]; exact hi)
  rw [nums_getElem, txs_length] at hr
  have ht := h.text i hi
  refine ⟨ps[i].1.toNat, by omega, by omega, ?_⟩
  rw [ht, List.getD_eq_getElem?_getD, List.getElem?_eq_getElem (by rw [txs_length]; omega), Option.getD_some, txs_getElem]
theorem PicksOf.size {n L : Nat} {Y : M} {ps : List (Int × ByteArray)} (h : PicksOf (txs n L Y) ps) (i : Nat) (hi : i < ps.length) : ps[i].2.size = L := by
  obtain ⟨m, _, _, e⟩ := h.some i hi
  rw [e, strOf_size]
theorem PicksOf.may {n L : Nat} {Y : M} {ps : List (Int × ByteArray)} (h : PicksOf (txs n L Y) ps) : May n ps := by
  refine ⟨?_, fun i hi => by rw [h.size i hi, h.size 0 (by omega)]⟩
  have := h.apart
  rw [txs_length] at this
  exact this
theorem undone {k n L : Nat} {G V X : M} {ps : List (Int × ByteArray)} (hk : k ≤ ps.length) (h : PicksOf (txs n L (mm k G X)) ps) (hU : Undoes k G (nums (ps.take k)) V) : Eqv k L (mm k V (tx (txts (ps.take k)))) X := fun i hi p hp => by
  have h1 : ∀ q, q < k → tx (txts (ps.take k)) q p = mm k (selT G (nums (ps.take k))) X q p := fun q hq => by
    obtain ⟨m, hm, e1, e2⟩ := h.some q (by omega)
    have hl : q < (txts (ps.take k)).length := by rw [txts_length, List.length_take]; omega
    have hl2 : q < (nums (ps.take k)).length := by rw [nums_length, List.length_take]; omega
    unfold tx
    rw [List.getD_eq_getElem?_getD, List.getElem?_eq_getElem hl, Option.getD_some, txts_getElem, List.getElem_take, e2, txb_strOf L _ p hp, toF_of]
    have e3 := selT_at (G := G) (m := m) hl2 (by rw [nums_getElem, List.getElem_take]; exact e1)
    unfold mm
    rw [e3]
  rw [mm_congr (A := V) (A' := V) (fun _ _ => rfl) h1, ← mm_assoc, mm_congr (A' := dl) (B := X) (B' := X) (fun q hq => hU.left i hi q hq) (fun _ _ => rfl), mm_one_left _ _ hi]
theorem texts_back {k L : Nat} {l : List ByteArray} {Y : M} (hl : l.length = k) (hs : ∀ i (h : i < l.length), l[i].size = L) (h : Eqv k L Y (tx l)) : txs k L Y = l := by
  rw [txs_congr h, ← hl, txs_tx hs]
section
variable (cb k n fb : Nat) (A : Option Addr) (c : Nat) (G : M) (A2 : Option Addr) (c2 L : Nat) (l : List ByteArray) (ps : List (Int × ByteArray)) (w : World)
theorem read_picks (hC : CoderAt w cb k n fb A c G) (hP : Pieces w A2 ps) (hmc : ps.length ≤ c2) (hm : ps.length ≤ 1000000) (hL : L ≤ 1000000) (hPk : PicksOf (txs n L (mm k G (tx l))) ps) (hk : k ≤ ps.length) (hl : l.length = k) (hs : ∀ i (h : i < l.length), l[i].size = L) :
    Calls Try.prog 67 #[.pointer (some ⟨cb, 0, none⟩), .slice A2 ps.length c2] w fun e w' => ∃ A' c', e = .returned (.tuple #[.slice A' k c', .int .i64 0]) ∧ k ≤ c' ∧ Strs w' A' k l ∧ Below w.heap.size w w' :=
  (read_ok cb k n fb A c G A2 ps.length c2 ps w hC hP rfl hmc hm hPk.may hk L hL hPk.size).mono fun e w' ⟨A', c', V, h1, h2, h3, h4, h5⟩ => ⟨A', c', h1, h2, by rw [texts_back hl hs (undone hk hPk h4)] at h3; exact h3, h5⟩
theorem read_few (hC : CoderAt w cb k n fb A c G) (hP : Pieces w A2 ps) (hm : ps.length ≤ 1000000) (hPk : PicksOf (txs n L (mm k G (tx l))) ps) (hk : ps.length < k) :
    Calls Try.prog 67 #[.pointer (some ⟨cb, 0, none⟩), .slice A2 ps.length c2] w fun e w' => e = .returned (.tuple #[.slice none 0 0, .int .i64 5]) ∧ Below w.heap.size w w' :=
  read_no cb k n fb A c G A2 ps.length c2 ps w hC hP rfl hm 5 (.inr ⟨rfl, hPk.may, hk⟩)
theorem head_same {i : Nat} (hG : CodeG k n G) (hi : i < k) (hl : l.length = k) (hs : ∀ i (h : i < l.length), l[i].size = L) : strOf L (mm k G (tx l) i) = l[i]'(by omega) := by
  rw [strOf_congr (g := tx l i) fun p hp => by rw [mm_congr (A' := dl) (B := tx l) (B' := tx l) (fun q hq => hG.one i hi q hq) (fun _ _ => rfl), mm_one_left _ _ hi], strOf_tx (by omega) (hs i (by omega))]
end
section
variable (A B : Option Addr) (k n m q c1 c2 z : Nat) (l : List ByteArray) (od : List Nat) (w : World)
end
end Go.Proofs.Ytmlemichkeomjaa.CodW

