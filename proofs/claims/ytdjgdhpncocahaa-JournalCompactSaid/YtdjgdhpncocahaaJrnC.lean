/- A journal compacted: Compact walked. -/
import Derived.Test.YtdjgdhpncocahaaJrnAll
import Derived.Test.YtdjgdhpncocahaaJrnK
import Derived.ArgAppend
import Derived.Stop.RegionWithIn
import Derived.Sort.CutIn
set_option linter.unusedVariables false
set_option linter.unusedSimpArgs false
namespace Go.Proofs.Ytdjgdhpncocahaa.JrnI
open Go.RowKit Go.Shelf Go.Proofs.Ytdjgdhpncocahaa.Base Go.Proofs.Ytdjgdhpncocahaa.TapeP Go.Proofs.Ytdjgdhpncocahaa.TapeW Go.Proofs.Ytdjgdhpncocahaa.JrnP Go.Proofs.Ytdjgdhpncocahaa.JrnW
attribute [local go_sem] Oper.semAt_some
attribute [-go_sem] Builtin.append_

set_option maxRecDepth 100000 in
theorem clip_in (F : Fence) (n : Nat) (hf : F.fn 83) (hro : F.round = none) (A : Option Addr) (k c : Nat) (w : World) (hk : k ≤ c) :
    CallsIn F n Try.prog 83 #[.slice A k c] w fun e w' => e = .returned (.slice A k k) ∧ w' = w := by
  refine callsIn_of_wp Try.func83 rfl hf ?_ hro
  simp only [Try.ntmps83, List.size_toArray, List.length_cons, List.length_nil, Nat.reduceAdd, Nat.reduceSub, Array.replicate_succ, Array.replicate_zero, List.push_toArray, List.append_toArray, List.nil_append, List.cons_append]
  gi_wp2
  go_ret
  exact ⟨rfl, rfl⟩
set_option maxRecDepth 100000 in
set_option maxHeartbeats 1000000 in
theorem compact_err (base b : Nat) (ss : List ByteArray) (s : ByteArray) (m : Int) (w : World) (hJ : JAt w base b ss) (hl : ss.length ≤ 1000000) (hm : m < 0 ∨ (ss.length : Int) < m) :
    Calls Try.prog 63 #[.pointer (some ⟨b, 0, none⟩), .string s, .int .i64 m] w fun e w' => e = .returned (.tuple #[.pointer none, .int .i64 1]) ∧ Below w.heap.size w w' := by
  obtain ⟨A, c, hb, hc, hS⟩ := hJ.row
  have hlt := hJ.lt
  go_enter Try.func63, Try.ntmps63
  go_upto_region 1 with fail
  have HB : Below w.heap.size w (w.alloc (.cells #[.int .i64 m] 3)) := (Below.refl _ _).alloc (Nat.le_refl _) _
  have c5 : (w.alloc (.cells #[.int .i64 m] 3)).cell? ⟨w.heap.size, 0, none⟩ = some (.int .i64 m) := by simp [World.cell?_alloc_new]
  have cj := cell_below HB hc
  generalize w.alloc (.cells #[.int .i64 m] 3) = w1 at HB c5 cj ⊢
  clear hb hc hS
  by_cases h1 : m < 0
  · have hd : decide (m < 0) = true := by simp [h1]
    go_quiet (fail)
    go_wp2
    go_ret2
    exact ⟨rfl, below_drewN HB _⟩
  · have hd : decide (m < 0) = false := by simp [h1]
    have h2 : (ss.length : Int) < m := by omega
    have hd2 : decide ((ss.length : Int) < m) = true := by simp [h2]
    go_quiet (fail)
    go_wp2
    go_ret2
    exact ⟨rfl, below_drewN HB _⟩
/-- What a compacted journal holds when these have come. -/
def outs (s : ByteArray) (q : Nat) (pre : List (Nat × ByteArray)) : List ByteArray := s :: (pre.filter fun x => decide (q ≤ x.1)).map Prod.snd
theorem outs_yes (s : ByteArray) (q : Nat) (pre : List (Nat × ByteArray)) (i : Nat) (x : ByteArray) (h : q ≤ i) : outs s q (pre ++ [(i, x)]) = outs s q pre ++ [x] := by
  simp [outs, List.filter_append, h]
theorem outs_no (s : ByteArray) (q : Nat) (pre : List (Nat × ByteArray)) (i : Nat) (x : ByteArray) (h : ¬ q ≤ i) : outs s q (pre ++ [(i, x)]) = outs s q pre := by
  simp [outs, List.filter_append, h]
theorem outs_length (s : ByteArray) (q : Nat) (pre : List (Nat × ByteArray)) : (outs s q pre).length ≤ pre.length + 1 := by
  have := List.length_filter_le (fun x : Nat × ByteArray => decide (q ≤ x.1)) pre
  simp [outs]
  omega
theorem outs_upto (s : ByteArray) (q : Nat) (ss : List ByteArray) : ∀ k, k ≤ ss.length → outs s q (upto (rc ss) k) = s :: (ss.take k).drop q
  | 0, _ => by simp [outs, upto]
  | k + 1, h => by
    have ih := outs_upto s q ss k (by omega)
    rw [upto_succ]
    have e : rc ss k = (k, ss[k]) := by simp [rc, show k < ss.length by omega]
    have ht : ss.take (k + 1) = ss.take k ++ [ss[k]] := by rw [List.take_succ_eq_append_getElem]
    rw [e]
    by_cases hq : q ≤ k
    · rw [outs_yes _ _ _ _ _ hq, ih, ht, List.drop_append_of_le_length (by rw [List.length_take]; omega)]
      rfl
    · rw [outs_no _ _ _ _ _ hq, ih, ht, List.drop_of_length_le (by rw [List.length_take]; omega), List.drop_of_length_le (by rw [List.length_append, List.length_take]; simp; omega)]
theorem own_cells {w : World} {base n g cap : Nat} {e : TypeId} {xs : List Value} (h : w.ownsRow base e 1 (.slice (some ⟨g, 0, none⟩) n cap) n xs) : ∀ j u, xs[j]? = some u → w.cell? ((⟨g, 0, none⟩ : Addr).add j) = some u := by
  rcases h.2 with ⟨h1, _⟩ | ⟨g', cap', cur, h1, hb, hg, hn, hm, hcs, ht⟩
  · cases h1
  · cases h1
    intro j u hj
    rw [← ht, List.getElem?_take] at hj
    split at hj
    · have := cell_of_row w g j _ _ _ hg
      rw [show (⟨g, 0, none⟩ : Addr).add j = ⟨g, j, none⟩ by cases j <;> simp [Addr.add], this]
      simpa using hj
    · cases hj
theorem grownBy_none {w w' : World} (h : w.grownBy w' none) (row : Option Nat) : w.grownBy w' row := ⟨h.os, h.2, h.3, h.size, fun k hk _ => h.block k hk (by simp)⟩
theorem ownsRow_base {w : World} {b0 b1 : Nat} {e : TypeId} {size n : Nat} {v : Value} {xs : List Value} (h : w.ownsRow b1 e size v n xs) (hb : b0 ≤ b1) : w.ownsRow b0 e size v n xs := by
  rcases h with ⟨h1, h2 | ⟨g, cap, cur, a, b, c⟩⟩
  · exact ⟨h1, .inl h2⟩
  · exact ⟨h1, .inr ⟨g, cap, cur, a, by omega, c⟩⟩
set_option maxRecDepth 100000 in
set_option maxHeartbeats 4000000 in
theorem compact_ok (base b : Nat) (ss : List ByteArray) (s : ByteArray) (q : Nat) (w : World) (hJ : JAt w base b ss) (hl : ss.length ≤ 900000) (hs : s.size ≤ 1048576) (hq : q ≤ ss.length) :
    Calls Try.prog 63 #[.pointer (some ⟨b, 0, none⟩), .string s, .int .i64 (q : Nat)] w fun e w' => ∃ O, e = .returned (.tuple #[.pointer (some ⟨O, 0, none⟩), .int .i64 0]) ∧ JAt w' w.heap.size O (s :: ss.drop q) ∧ Below w.heap.size w w' := by
  obtain ⟨i0, hi, hz0, hz1, hz2⟩ := info_parts info_str
  obtain ⟨A, c, hb, hc, hS⟩ := hJ.row
  have hlt := hJ.lt
  refine (callsIn_wide (n := 3)).1 ?_
  refine callsIn_of_wp_marks Try.func63 rfl trivial ?_ rfl
  refine wpIn_wide.2 ?_
  simp only [Try.ntmps63, List.size_toArray, List.length_cons, List.length_nil, Nat.reduceAdd, Nat.reduceSub, Array.replicate_succ, Array.replicate_zero, List.push_toArray, List.append_toArray, List.nil_append, List.cons_append]
  go_upto_region 1 with fail
  have HB : Below w.heap.size w (w.alloc (.cells #[.int .i64 (q : Nat)] 3)) := (Below.refl _ _).alloc (Nat.le_refl _) _
  have c5 := Boxed.new w 3 (.int .i64 (q : Nat))
  have cj := cell_below HB hc
  have c5' := c5.cell
  generalize w.alloc (.cells #[.int .i64 (q : Nat)] 3) = w1 at HB c5 c5' cj ⊢
  clear hb hc hS
  have hd : decide ((q : Int) < 0) = false := by simp
  have hd2 : decide ((ss.length : Int) < (q : Int)) = false := by simp; omega
  go_quiet (fail)
  go_upto_region 4 with fail
  have hR := Recs.of_jat hJ
  have hO0 : (((w1.drewN nq).alloc (.cells #[.slice none 0 0] 112)).alloc (.cells #[.pointer (some ⟨w1.heap.size, 0, none⟩)] 76)).heap[w1.heap.size]? = some (.cells #[.slice none 0 0] 112 (0, 0)) := by
    have := (Boxed.new (w1.drewN nq) 112 (.slice none 0 0)).alloc (.cells #[.pointer (some ⟨w1.heap.size, 0, none⟩)] 76)
    exact this
  have hT0 : Boxed (((w1.drewN nq).alloc (.cells #[.slice none 0 0] 112)).alloc (.cells #[.pointer (some ⟨w1.heap.size, 0, none⟩)] 76)) (w1.heap.size + 1) 76 (.pointer (some ⟨w1.heap.size, 0, none⟩)) := by
    have := Boxed.new ((w1.drewN nq).alloc (.cells #[.slice none 0 0] 112)) 76 (.pointer (some ⟨w1.heap.size, 0, none⟩))
    rw [World.size_alloc] at this
    exact this
  have h50 : Boxed (((w1.drewN nq).alloc (.cells #[.slice none 0 0] 112)).alloc (.cells #[.pointer (some ⟨w1.heap.size, 0, none⟩)] 76)) w.heap.size 3 (.int .i64 (q : Nat)) := by
    have h : Boxed (w1.drewN nq) w.heap.size 3 (.int .i64 (q : Nat)) := c5
    exact (h.alloc _).alloc _
  have hge := HB.size
  have HB2 : Below w.heap.size w (((w1.drewN nq).alloc (.cells #[.slice none 0 0] 112)).alloc (.cells #[.pointer (some ⟨w1.heap.size, 0, none⟩)] 76)) := ((below_drewN HB nq).alloc HB.size _).alloc (by rw [World.size_alloc]; have := HB.size; show w.heap.size ≤ w1.heap.size + 1; omega) _
  have hsz2 : (((w1.drewN nq).alloc (.cells #[.slice none 0 0] 112)).alloc (.cells #[.pointer (some ⟨w1.heap.size, 0, none⟩)] 76)).heap.size = w1.heap.size + 1 + 1 := by rw [World.size_alloc, World.size_alloc]; rfl
  have HZ := Lib.hid hsz2
  have hcT := hT0.cell
  clear c5 c5' cj HB hd hd2 hsz2
  generalize ((w1.drewN nq).alloc (.cells #[.slice none 0 0] 112)).alloc (.cells #[.pointer (some ⟨w1.heap.size, 0, none⟩)] 76) = w2 at hO0 hT0 h50 HB2 HZ hcT ⊢
  generalize w1.heap.size = O at *
  have hJ2 : JAt w2 w.heap.size O [] := ⟨⟨_, hO0, World.ownsRow_nil _ _ _ _⟩, hge, fun _ h => by cases h⟩
  go_upto_region 5 with (go_at_call 66; refine (append_ok w.heap.size O [] s w2 w hJ2 hs (by simp) HB2 HB2.size).mono ?_; rintro e w3 ⟨rfl, hJ3, HB3, hsz3, hkp⟩)
  have hkp2 := hkp _ hO0
  have hT3 : Boxed w3 (O + 1) 76 (.pointer (some ⟨O, 0, none⟩)) := (hkp2 (O + 1) (by rw [HZ.out]; omega) (by omega) (by simp [Value.ownBlock])).trans hT0
  have h53 : Boxed w3 w.heap.size 3 (.int .i64 (q : Nat)) := (hkp2 w.heap.size (by rw [HZ.out]; omega) (by intro e; have := HZ.out; have h5 := h50; rw [e] at h5; have h6 := (show w2.heap[O]? = _ from h5).symm.trans hO0; simp at h6) (by simp [Value.ownBlock])).trans h50
  clear hkp hkp2 hJ2 hO0 hT0 h50 HB2 hcT
  go_wp2_with (go_at_call 82; refine (callsIn_wide.1 (records_in Fence.wide 3 trivial rfl _ _)).mono ?_; rintro e w4 ⟨rfl, rfl⟩)
  obtain ⟨v3, hO3, hrow3⟩ := hJ3.ex
  have hsm := hJ3.small
  have bN := Boxed.new w3 76 (.pointer (some ⟨b, 0, none⟩))
  have hO4 : Boxed (w3.alloc (.cells #[.pointer (some ⟨b, 0, none⟩)] 76)) O 112 v3 := Boxed.alloc (W := w3) hO3 _
  have hT4 := hT3.alloc (.cells #[.pointer (some ⟨b, 0, none⟩)] 76)
  have h54 := h53.alloc (.cells #[.pointer (some ⟨b, 0, none⟩)] 76)
  have hB4 := HB3.alloc hsz3 (.cells #[.pointer (some ⟨b, 0, none⟩)] 76)
  have hrow4 := hrow3.alloc (.cells #[.pointer (some ⟨b, 0, none⟩)] 76)
  refine (wpIn_wide (n := 3)).1 ?_
  refine wpIn_rangeFunc_ownG rfl (by omega) (gf := 91) (lb := #[.pointer (some ⟨w3.heap.size, 0, none⟩)]) rfl trivial (enters_of Try.func91 (by kernel_rfl) rfl)
    (records_stops Fence.wide (3 - 1) trivial rfl (by omega) w3.heap.size w.heap.size (some ⟨b, 0, none⟩) ss (by omega) _ (by simp) (by simp; omega) bN.cell (hR.below hB4)) belowK_t (belowK_b (by simp; omega)) (Below.refl _ _) (fun _ => rfl)
    (fun (pre : List (Nat × ByteArray)) W => (∃ v, Boxed W O 112 v ∧ W.ownsRow w.heap.size 9 1 v (outs s q pre).length (sv (outs s q pre)) ∧ True) ∧ Boxed W (O + 1) 76 (.pointer (some ⟨O, 0, none⟩)) ∧ Boxed W w.heap.size 3 (.int .i64 (q : Nat)) ∧ Below w.heap.size w W)
    (fun _ (pre : List (Nat × ByteArray)) _ => False)
    (OwnFrom.and (Own.from (holdsRow_own w.heap.size O 112 9 1 (fun (pre : List (Nat × ByteArray)) => (outs s q pre).length) (fun (pre : List (Nat × ByteArray)) => sv (outs s q pre)) (fun _ _ => True)) _) (OwnFrom.and (Own.from (boxed_own (O + 1) 76 (fun _ => .pointer (some ⟨O, 0, none⟩))) _) (OwnFrom.and (Own.from (boxed_own w.heap.size 3 (fun _ => .int .i64 (q : Nat))) _) (ownFrom_below (Nat.le_refl _) (by simp; omega)))))
    (fun _ => ownFrom_pure _ _)
    ⟨⟨_, hO4, hrow4, trivial⟩, hT4, h54, hB4⟩
    (fun (x : Nat × ByteArray) => { tmps := #[.pointer (some ⟨b, 0, none⟩), .string s, .int .i64 (q : Nat), undef, undef, .pointer (some ⟨w.heap.size, 0, none⟩), .pointer none, .int .i64 0, .pointer (some ⟨O + 1, 0, none⟩), .int .i64 0, .int .i64 (x.1 : Int), .string x.2, .pointer (some ⟨b, 0, none⟩), .bool false, .bool false, .int .i64 (q : Nat), .bool false, .bool false, .bool false, .int .i64 (q : Nat), .pointer (some ⟨b, 0, none⟩), .pointer (some ⟨b, 0, none⟩), .pointer (some ⟨b, 0, none⟩), .slice A ss.length c, .int .i64 (ss.length : Nat), .bool false, .bool false, .agg #[.slice none 0 0], .pointer (some ⟨O, 0, none⟩), .pointer (some ⟨O, 0, none⟩), .string s, .int .i64 0, .int .i64 0, .bool false, undef, .pointer (some ⟨b, 0, none⟩), .func (.func 91) #[] #[.pointer (some ⟨w3.heap.size, 0, none⟩)], .int .i64 (x.1 : Int), .string x.2, undef, undef, undef, undef, undef, undef, undef, undef, undef, undef, undef, undef, undef, undef, undef], defers := [] }) ?assign ?body ?done ?stop
  case assign =>
    intro l x W K hK
    gi_wp2
    exact hK
  case body =>
    rintro l pre ⟨i, x⟩ W ⟨⟨v, hv, hrow, _⟩, hT, h5, hB⟩ hlt
    have c5 := h5.cell
    have cT := hT.cell
    have hol := outs_length s q pre
    by_cases hi2 : q ≤ i
    · have hge2 : decide (q ≤ i) = true := by simp [hi2]
      have ho := outs_yes s q pre i x hi2
      have HO := Lib.hid ho
      clear hi2 ho
      have hol2 : (outs s q pre).length = ((pre.filter fun x => decide (q ≤ x.1)).map Prod.snd).length + 1 := rfl
      generalize outs s q pre = os at hrow HO hol hol2
      obtain ⟨m, hm⟩ : ∃ m, os.length = m + 1 := ⟨_, hol2⟩
      clear hol2
      rw [hm] at hrow
      obtain ⟨g, cap, rfl⟩ := ownsRow_succ hrow
      have hmc : m + 1 ≤ cap := by
        obtain ⟨A', c', e, _, h⟩ := own_strs2 hrow
        simp only [Value.slice.injEq] at e
        omega
      have hvd : Boxed W.drew O 112 (.slice (some ⟨g, 0, none⟩) (m + 1) cap) := hv
      have hrd : W.drew.ownsRow w.heap.size 9 1 (.slice (some ⟨g, 0, none⟩) (m + 1) cap) (m + 1) (sv os) := hrow
      have hTd : Boxed W.drew (O + 1) 76 (.pointer (some ⟨O, 0, none⟩)) := hT
      have h5d : Boxed W.drew w.heap.size 3 (.int .i64 (q : Nat)) := h5
      have hne5 : w.heap.size ≠ O := by
        intro e
        rw [e] at h5
        have := (show W.heap[O]? = _ from h5).symm.trans hv
        simp at this
      obtain ⟨v', w1', hrun, hown', hgrow⟩ := run_append_arg_grows (P := Try.prog) (w := W.drew.alloc (.cells #[.string x] 9)) 26 26 9 i0 (.string (str [])) 1 16 Try.underlying26 hi hz0 hz1 hz2 rfl (by decide) ⟨g, 0, none⟩ (m + 1) (m + 1) (sv os) (by rw [sv_length]; omega) (own_cells (hrd.alloc _)) ⟨W.heap.size, 0, none⟩ 1 1 [.string x] rfl (cell_one_new W.drew _ _) (by omega) (by unfold maxLen; omega) (by omega)
      obtain ⟨g', cap', rfl⟩ := ownsRow_succ hown'
      obtain ⟨hv1, hv2, hr2, hk2, hb2⟩ := hvd.appended (tmp := .cells #[.string x] 9) (by decide) hrd hB.size hge (ownsRow_base hown' (by rw [World.size_alloc]; have := hB.size; show w.heap.size ≤ W.heap.size + 1; omega)) (grownBy_none hgrow _)
      have hT1 := ((hTd.alloc (.cells #[.string x] 9)).kept hgrow (by simp)).kept (grownBy_setCell' w1' O (.slice (some ⟨g', 0, none⟩) (m + 1 + 1) cap')) (by simp)
      have h51 := ((h5d.alloc (.cells #[.string x] 9)).kept hgrow (by simp)).kept (grownBy_setCell' w1' O (.slice (some ⟨g', 0, none⟩) (m + 1 + 1) cap')) (by simpa using hne5)
      have hrun2 : (Builtin.append_ #[26, 26] 26 #[.slice (some ⟨g, 0, none⟩) (m + 1) (m + 1), .slice (some ⟨W.heap.size, 0, none⟩) 1 1]).run Try.prog (W.alloc (.cells #[.string x] 9)).drew = .ok (.slice (some ⟨g', 0, none⟩) (m + 1 + 1) cap') w1' := hrun
      have k1 := hv1.cell
      have k2 := hv1.frozen
      have k3 := hvd.cell
      have k4 := fun o => (hvd.alloc o).cell
      have k5 := fun o => (hTd.alloc o).cell
      have k6 := fun o => (hv.alloc o).cell
      have k7 := fun o => (hT.alloc o).cell
      have k8 := hTd.cell
      have k9 := ((hTd.alloc (.cells #[.string x] 9)).kept hgrow (by simp)).cell
      have hfn : Fence.wide.fn 83 := trivial
      gi_upto_region 11 with fail
      gi_region_with (gi_at_call 83; refine (CallsIn.inRound _ (clip_in Fence.wide _ trivial rfl _ _ _ _ hmc)).mono ?_; rintro e w' ⟨rfl, rfl⟩)
      all_goals (gi_wp2; exact ⟨((KeepsOthers.drew W).trans hk2).from _, ((Below.refl w.heap.size W).drew).trans hb2, ⟨⟨_, hv2, by rw [HO.out, List.length_append, hm, sv_append]; exact hr2, trivial⟩, hT1, h51, (hB.drew).trans hb2⟩⟩)
    · have hge2 : decide (q ≤ i) = false := by simp; omega
      have ho := outs_no s q pre i x hi2
      have HO := Lib.hid ho
      clear hi2 ho
      gi_wp2
      exact ⟨(KeepsOthers.refl W).from _, Below.refl _ _, ⟨⟨v, hv, by rw [HO.out]; exact hrow, trivial⟩, hT, h5, hB⟩⟩
  case done =>
    rintro D ys W hD rfl ⟨⟨v, hv, hrow, _⟩, hT, h5, hB⟩ hK
    rw [outs_upto _ _ _ _ (Nat.le_refl _), List.take_length] at hrow
    have cT := hT.cell
    go_wp2_with fail
    refine ⟨by simp, .inl ⟨_, _, rfl, run_takeDeferred hK, ?_⟩⟩
    have hOD : some O ≠ some D := by
      intro e
      have e2 : O = D := Option.some.inj e
      have := hK
      rw [← e2] at this
      rw [show W.heap[O]? = _ from hv] at this
      cases this
    refine ⟨.tuple #[.pointer (some ⟨O, 0, none⟩), .int .i64 0], ?_, O, rfl, ⟨⟨v, hv.kept (grownBy_putObj' W D (.deferred none)) hOD, ownsRow_putObj hrow (.deferred none) hK rfl⟩, hge, ?_⟩, hB.trans (belowK_b (w := w) (Nat.le_refl _) _ D _ _ (by simp at hD; omega) hK rfl rfl)⟩
    · simp [results, Try.f63, go_sem]
    · intro t ht
      rcases List.mem_cons.1 ht with rfl | h
      · exact hs
      · exact hJ.small t (List.mem_of_mem_drop h)
  case stop =>
    rintro D c pre W _ _ h _
    exact h.elim
end Go.Proofs.Ytdjgdhpncocahaa.JrnI
