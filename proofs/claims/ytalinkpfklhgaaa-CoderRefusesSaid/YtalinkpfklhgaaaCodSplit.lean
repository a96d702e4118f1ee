/- coder.split walked: two appends in one statement. -/
import Derived.Test.YtalinkpfklhgaaaCodMay
set_option linter.unusedVariables false
set_option linter.unusedSimpArgs false
namespace Go.Proofs.Ytalinkpfklhgaaa.CodW
open Go.RowKit Go.Proofs.Ytalinkpfklhgaaa.Base Go.Proofs.Ytalinkpfklhgaaa.GfP Go.Proofs.Ytalinkpfklhgaaa.GfW Go.Proofs.Ytalinkpfklhgaaa.Lin Go.Proofs.Ytalinkpfklhgaaa.RowsW Go.Proofs.Ytalinkpfklhgaaa.CodP

section
variable {P : Program} {ops : Array Oper} {o : Oper} {a : Act} {Q : Exit → Act → World → Prop} {K : Act → World → Prop} {E : Prop}
/-- append(v, y), y in a box laid before, as one step of a region that draws its order. -/
theorem step_app_box {w0 W : World} (base : Nat) (hgd : o.guard = none) (s x : Operand) (t e : TypeId) (z : Value) (bytes : Nat)
    (ho : o.op = .call { callee := .builtin .append, args := #[s, x], argTypes := #[t, t] })
    (ht : P.underlying t = some (.slice e)) (hinfo : (P.info? e).map (fun i => (i.zero, i.size, i.bytes)) = some (some z, 1, bytes)) (hz : z.cells.size = 1) (hb0 : 0 < bytes)
    (v : Value) (xs : List Value) (y : Value) (n g : Nat) (hn : xs.length = n) (hs : a.eval s = v) (hx : a.eval x = .slice (some ⟨g, 0, none⟩) 1 1) (hy : W.cell? ⟨g, 0, none⟩ = some y) (h1 : y.oneCell' = true)
    (HO : W.ownsRow base e 1 v n xs) (HB : Below base w0 W) (hbase : base ≤ W.heap.size) (hl : (n + 1) * bytes ≤ 140737488355328)
    (h : ∀ v1 w1, w1.ownsRow base e 1 v1 (n + 1) (xs ++ [y]) → Below base w0 w1 → W.grownBy w1 v.ownBlock → K (a.put o.dst v1) w1) :
    if Region.wanted o (yielded ops a.tmps) = true then Oper.wp P o a W K Q else E := by
  have hw : Region.wanted o (yielded ops a.tmps) = true := by simp [Region.wanted, hgd]
  rw [if_pos hw]
  obtain ⟨i0, hi, hzz⟩ := Option.map_eq_some_iff.1 hinfo
  simp only [Prod.mk.injEq] at hzz
  obtain ⟨hz0, hz1, hz2⟩ := hzz
  have hlen : n + 1 ≤ 140737488355328 := Nat.le_trans (Nat.le_mul_of_pos_right _ hb0) hl
  obtain ⟨v1, w1, hr, hown, hg, _⟩ := run_append_own_at (P := P) W base t o.type e i0 z 1 bytes ht hi hz0 hz1 hz2 hz (by omega) v n xs HO ⟨g, 0, none⟩ 1 1 [y] rfl
    (fun j u hj => by
      cases j with
      | zero =>
        have : y = u := by simpa using hj
        subst this
        rw [show (⟨g, 0, none⟩ : Addr).add 0 = ⟨g, 0, none⟩ by simp [Addr.add]]
        exact hy
      | succ j => simp at hj) (by simpa using h1) (by simp only [maxLen]; omega) hl hbase
  unfold Oper.wp execOp
  simp only [ho, resolve, invoke, builtin, Sem.run_bind, Sem.run_pure, Result.andThen_ok, List.map_toArray, List.map_cons, List.map_nil, hs, hx, hr]
  exact h v1 w1 hown (HB.grown hg hbase (own_lo HO)) hg
end
/-- What split has in hand. -/
structure Hand (w0 w : World) (d1 d2 : Value) (k1 k2 : Nat) (l : List Int) (ss : List ByteArray) (pb : Nat) (x : Int) (s : ByteArray) : Prop where
  own1 : w.ownsRow w0.heap.size 3 1 d1 k1 (zv l)
  own2 : w.ownsRow w0.heap.size 9 1 d2 k2 (sv ss)
  below : Below w0.heap.size w0 w
  box : ∃ cur : Array Value, w.heap[pb]? = some (.cells cur 70 (0, 0))
  c0 : w.cell? ⟨pb, 0, none⟩ = some (.int .i64 x)
  c1 : w.cell? ⟨pb, 1, none⟩ = some (.string s)
theorem box_lt {w : World} {pb : Nat} {o : Obj} (hg : w.heap[pb]? = some o) : pb < w.heap.size := by
  rcases Nat.lt_or_ge pb w.heap.size with h1 | h1
  · exact h1
  · rw [Array.getElem?_eq_none h1] at hg; cases hg
theorem Hand.later {w0 w w' : World} {d1 d2 : Value} {k1 k2 pb : Nat} {l : List Int} {ss : List ByteArray} {x : Int} {s : ByteArray} (h : Hand w0 w d1 d2 k1 k2 l ss pb x s) (hb : Below w.heap.size w w') : Hand w0 w' d1 d2 k1 k2 l ss pb x s :=
  ⟨own_below h.own1 hb, own_below h.own2 hb, bt h.below h.below.size hb, by obtain ⟨cur, hg⟩ := h.box; exact ⟨cur, (hb.block pb (box_lt hg)).trans hg⟩, cell_below hb h.c0, cell_below hb h.c1⟩
theorem Hand.app1 {w0 w w' : World} {d1 d2 d1' : Value} {k1 k2 k1' pb : Nat} {l l' : List Int} {ss : List ByteArray} {x : Int} {s : ByteArray} (h : Hand w0 w d1 d2 k1 k2 l ss pb x s) (ho : w'.ownsRow w0.heap.size 3 1 d1' k1' (zv l')) (hB : Below w0.heap.size w0 w') (hg : w.grownBy w' d1.ownBlock) : Hand w0 w' d1' d2 k1' k2 l' ss pb x s := by
  obtain ⟨cur, hb⟩ := h.box
  have hne := own_not hb h.own1 (by decide)
  exact ⟨ho, own_grown h.own2 hg (own_ne_own h.own2 h.own1 (by decide)), hB, ⟨cur, (hg.block pb (box_lt hb) hne).trans hb⟩, hg.cell h.c0 hne, hg.cell h.c1 hne⟩
theorem Hand.app2 {w0 w w' : World} {d1 d2 d2' : Value} {k1 k2 k2' pb : Nat} {l : List Int} {ss ss' : List ByteArray} {x : Int} {s : ByteArray} (h : Hand w0 w d1 d2 k1 k2 l ss pb x s) (ho : w'.ownsRow w0.heap.size 9 1 d2' k2' (sv ss')) (hB : Below w0.heap.size w0 w') (hg : w.grownBy w' d2.ownBlock) : Hand w0 w' d1 d2' k1 k2' l ss' pb x s := by
  obtain ⟨cur, hb⟩ := h.box
  have hne := own_not hb h.own2 (by decide)
  exact ⟨own_grown h.own1 hg (own_ne_own h.own1 h.own2 (by decide)), ho, hB, ⟨cur, (hg.block pb (box_lt hb) hne).trans hb⟩, hg.cell h.c0 hne, hg.cell h.c1 hne⟩
theorem box_below {w w' : World} {g : Nat} {o : Obj} (h : w.heap[g]? = some o) (hb : Below w.heap.size w w') : w'.heap[g]? = some o := (hb.block g (box_lt h)).trans h
theorem box_grown {w w' : World} {g b e size n : Nat} {t : TypeId} {cur : Array Value} {v : Value} {xs : List Value} (h : w.heap[g]? = some (.cells cur t (0, 0))) (ho : w.ownsRow b e size v n xs) (hg : w.grownBy w' v.ownBlock) (ht : t ≠ e) : w'.heap[g]? = some (.cells cur t (0, 0)) :=
  (hg.block g (box_lt h) (own_not h ho ht)).trans h
theorem box_cell {w : World} {g : Nat} {t : TypeId} {y : Value} (h : w.heap[g]? = some (.cells #[y] t (0, 0))) : w.cell? ⟨g, 0, none⟩ = some y := by rw [cell_of_row _ _ _ _ _ _ h]; rfl
theorem zv_take {ps : List (Int × ByteArray)} {a : Nat} (ha : a < ps.length) : zv (nums (ps.take (a + 1))) = zv (nums (ps.take a)) ++ [.int .i64 ps[a].1] := by
  unfold zv nums
  rw [List.take_succ_eq_append_getElem ha, List.map_append, List.map_append]
  rfl
theorem sv_take {ps : List (Int × ByteArray)} {a : Nat} (ha : a < ps.length) : sv (txts (ps.take (a + 1))) = sv (txts (ps.take a)) ++ [.string ps[a].2] := by
  unfold sv txts
  rw [List.take_succ_eq_append_getElem ha, List.map_append, List.map_append]
  rfl
set_option maxRecDepth 100000 in
set_option maxHeartbeats 4000000 in
theorem split_any (A : Option Addr) (m c : Nat) (ps : List (Int × ByteArray)) (w : World) (hP : Pieces w A ps) (hl : ps.length = m) (hm : m ≤ 1000000) :
    Calls Try.prog 71 #[.slice A m c] w fun e w' => ∃ A1 c1 A2 c2, e = .returned (.tuple #[.slice A1 m c1, .slice A2 m c2]) ∧ Ints w' A1 (nums ps) ∧ Strs w' A2 m (txts ps) ∧ m ≤ c1 ∧ m ≤ c2 ∧ Below w.heap.size w w' := by
  have HL := Lib.hid hl
  clear hl
  go_enter Try.func71, Try.ntmps71
  go_wp2
  go_loopw [4, 5, 7, 10] (fun d1 d2 _ i wr => ∃ a : Nat, a ≤ m ∧ i = .int .i64 a ∧ wr.ownsRow w.heap.size 3 1 d1 a (zv (nums (ps.take a))) ∧ wr.ownsRow w.heap.size 9 1 d2 a (sv (txts (ps.take a))) ∧ Below w.heap.size w wr) (fun _ _ _ i _ => m - (intOf i).toNat)
  case atStart => exact ⟨0, by omega, rfl, World.ownsRow_nil _ _ _ _, World.ownsRow_nil _ _ _ _, Below.refl _ _⟩
  case round =>
    obtain ⟨a, ha, rfl, HO1, HO2, HB⟩ := hrel
    by_cases hlt : a < m
    · have hal : a < ps.length := by have := HL.out; omega
      obtain ⟨b, off, rfl, hc⟩ := (hP.below HB).block (by have := HL.out; omega)
      obtain ⟨g1, g2⟩ := hc a hal
      clear hc
      have HT1 := Lib.hid (zv_take hal)
      have HT2 := Lib.hid (sv_take hal)
      generalize ps[a].1 = x at g1 HT1
      generalize ps[a].2 = s at g2 HT2
      have HLA := Lib.hid (show (zv (nums (ps.take a))).length = a by rw [zv_length, nums_length, List.length_take]; omega)
      have HLB := Lib.hid (show (sv (txts (ps.take a))).length = a by rw [sv_length, txts_length, List.length_take]; omega)
      go_upto_region 6 with fail
      have hWb : Below wr.heap.size wr (wr.alloc (.cells #[.int .i64 x, .string s] 70)).drew := ((Below.refl _ _).alloc (Nat.le_refl _) _).drew
      have hbx : (wr.alloc (.cells #[.int .i64 x, .string s] 70)).drew.heap[wr.heap.size]? = some (.cells #[.int .i64 x, .string s] 70 (0, 0)) := heap_alloc_new wr _
      have HH : Hand w (wr.alloc (.cells #[.int .i64 x, .string s] 70)).drew u4 u5 a a (nums (ps.take a)) (txts (ps.take a)) wr.heap.size x s := ⟨own_below HO1 hWb, own_below HO2 hWb, bt HB HB.size hWb, ⟨_, hbx⟩, by rw [cell_of_row _ _ _ _ _ _ hbx]; rfl, by rw [cell_of_row _ _ _ _ _ _ hbx]; rfl⟩
      have c0 := HH.c0
      have c1 := HH.c1
      clear g1 g2 hbx hWb HO1 HO2 HB
      have hW := World.size_alloc wr (.cells #[.int .i64 x, .string s] 70)
      have hlt1 := HH.own1.lt
      have HLT := Lib.hid (show ∀ g, wr.heap.size + 1 ≤ g → some g ≠ u4.ownBlock from fun g hg e => by have := (hlt1 g e.symm).2; have h9 : (wr.alloc (.cells #[.int .i64 x, .string s] 70)).drew.heap.size = wr.heap.size + 1 := hW; omega)
      clear hW hlt1
      go_region_law (first | (refine step_app_box w.heap.size rfl (.tmp 14) (.tmp 17) 50 3 (.int .i64 0) 8 rfl Try.underlying50 info_int rfl (by omega) _ (zv (nums (ps.take a))) (.int .i64 x) a _ HLA.out rfl rfl (by go_simp) rfl (Hand.own1 (by first | exact HH | exact HH.later ((Below.refl _ _).alloc (Nat.le_refl _) _) | exact HH.later (((Below.refl _ _).alloc (Nat.le_refl _) _).alloc (by simp) _))) (Hand.below (by first | exact HH | exact HH.later ((Below.refl _ _).alloc (Nat.le_refl _) _) | exact HH.later (((Below.refl _ _).alloc (Nat.le_refl _) _).alloc (by simp) _))) (Below.size (Hand.below (by first | exact HH | exact HH.later ((Below.refl _ _).alloc (Nat.le_refl _) _) | exact HH.later (((Below.refl _ _).alloc (Nat.le_refl _) _).alloc (by simp) _)))) (by omega) ?_; intro v1 w1 HO1 HB1 hg1; have kB := (fun g (hg : wr.heap.size + 1 ≤ g) hc => hg1.cell (a := ⟨g, 0, none⟩) (v := .string s) hc (HLT.out g hg)); rw [← HT1.out] at HO1; have HN := Hand.app1 (by first | exact HH | exact HH.later ((Below.refl _ _).alloc (Nat.le_refl _) _) | exact HH.later (((Below.refl _ _).alloc (Nat.le_refl _) _).alloc (by simp) _)) HO1 HB1 hg1; clear HH c0 c1; have HH := HN; have c0 := HH.c0; have c1 := HH.c1; clear HO1 HB1 hg1 HN) | (refine step_app_box w.heap.size rfl (.tmp 19) (.tmp 22) 59 9 (.string ByteArray.empty) 16 rfl Try.underlying59 info_str rfl (by omega) _ (sv (txts (ps.take a))) (.string s) a _ HLB.out rfl rfl (by first | (go_simp; done) | exact kB _ (by omega) (by go_simp)) rfl (Hand.own2 (by first | exact HH | exact HH.later ((Below.refl _ _).alloc (Nat.le_refl _) _) | exact HH.later (((Below.refl _ _).alloc (Nat.le_refl _) _).alloc (by simp) _))) (Hand.below (by first | exact HH | exact HH.later ((Below.refl _ _).alloc (Nat.le_refl _) _) | exact HH.later (((Below.refl _ _).alloc (Nat.le_refl _) _).alloc (by simp) _))) (Below.size (Hand.below (by first | exact HH | exact HH.later ((Below.refl _ _).alloc (Nat.le_refl _) _) | exact HH.later (((Below.refl _ _).alloc (Nat.le_refl _) _).alloc (by simp) _)))) (by omega) ?_; intro v2 w2 HO2 HB2 hg2; rw [← HT2.out] at HO2; have HN := Hand.app2 (by first | exact HH | exact HH.later ((Below.refl _ _).alloc (Nat.le_refl _) _) | exact HH.later (((Below.refl _ _).alloc (Nat.le_refl _) _).alloc (by simp) _)) HO2 HB2 hg2; clear HH c0 c1; have HH := HN; have c0 := HH.c0; have c1 := HH.c1; clear HO2 HB2 hg2 HN))
      all_goals clear c0 c1
      all_goals go_wp2
      all_goals exact ⟨⟨a + 1, by omega, by go_num, HH.own1, HH.own2, HH.below⟩, by simp [intOf]; omega⟩
    · obtain rfl : a = m := by omega
      rw [List.take_of_length_le (by have := HL.out; omega)] at HO1 HO2
      obtain ⟨A1, c1, rfl, h1, h2⟩ := own_ints HO1 (fun x hx => by
        obtain ⟨p, hp, rfl⟩ := List.mem_map.1 hx
        exact hP.le p hp)
      obtain ⟨A2, c2, rfl, h3, h4, _⟩ := own_strs HO2
      go_wp2
      go_ret2
      exact ⟨A1, c1, A2, c2, rfl, h2, h3, h1, h4, HB⟩
end Go.Proofs.Ytalinkpfklhgaaa.CodW
