/- All of a journal's records collected: stooklaw19.all. -/
import Derived.Test.YtdjgdhpncocahaaJrnIter
set_option linter.unusedVariables false
set_option linter.unusedSimpArgs false
namespace Go.Proofs.Ytdjgdhpncocahaa.JrnI
open Go.RowKit Go.Shelf Go.Proofs.Ytdjgdhpncocahaa.Base Go.Proofs.Ytdjgdhpncocahaa.JrnP Go.Proofs.Ytdjgdhpncocahaa.JrnW
attribute [local go_sem] Oper.semAt_some

theorem snd_all (ss : List ByteArray) : (upto (rc ss) ss.length).map Prod.snd = ss := by
  apply List.ext_getElem
  · simp [upto]
  · intro i h1 h2
    simp [upto, rc, h2]
set_option maxRecDepth 100000 in
set_option maxHeartbeats 2000000 in
theorem all_in (F : Fence) (n : Nat) (h1 : F.fn 64) (h2 : F.fn 82) (h3 : F.fn 91) (hro : F.round = none) (hn : 3 ≤ n) (p : Option Addr) (ss : List ByteArray) (hlen : ss.length ≤ 1000000) (w : World) (hI : Recs w.heap.size w p ss) :
    CallsIn F n Try.prog 64 #[.pointer p] w fun e W' => ∃ v, e = .returned v ∧ W'.ownsRow w.heap.size 9 1 v ss.length (sv ss) ∧ Below w.heap.size w W' := by
  have hn1 : 1 ≤ n := by omega
  obtain ⟨i0, hi, hz0, hz1, hz2⟩ := info_parts info_str
  refine callsIn_of_wp_marks Try.func64 rfl h1 ?_ hro
  simp only [Try.ntmps64, List.size_toArray, List.length_cons, List.length_nil, Nat.reduceAdd, Nat.reduceSub, Array.replicate_succ, Array.replicate_zero, List.push_toArray, List.append_toArray, List.nil_append, List.cons_append]
  gi_wp2_with (gi_at_call 82; refine (records_in F (n - 1) h2 hro _ _).mono ?_; rintro e w' ⟨rfl, rfl⟩)
  have bR0 := Boxed.new w 26 (.slice none 0 0)
  have bO0 := Boxed.new (w.alloc (.cells #[.slice none 0 0] 26)) 26 (.slice none 0 0)
  have bN := Boxed.new ((w.alloc (.cells #[.slice none 0 0] 26)).alloc (.cells #[.slice none 0 0] 26)) 76 (.pointer p)
  rw [World.size_alloc] at bO0
  rw [World.size_alloc, World.size_alloc] at bN
  have bO := bO0.alloc (.cells #[.pointer p] 76)
  have bR := (bR0.alloc (.cells #[.slice none 0 0] 26)).alloc (.cells #[.pointer p] 76)
  have hB0 : Below w.heap.size w (((w.alloc (.cells #[.slice none 0 0] 26)).alloc (.cells #[.slice none 0 0] 26)).alloc (.cells #[.pointer p] 76)) := (((Below.refl _ w).alloc (Nat.le_refl _) _).alloc (by simp) _).alloc (by simp; omega) _
  refine wpIn_rangeFunc_ownG hro hn1 (gf := 91) (lb := #[.pointer (some ⟨w.heap.size + 1 + 1, 0, none⟩)]) rfl h3 (enters_of Try.func91 (by kernel_rfl) rfl)
    (records_stops F (n - 1) h3 hro (by omega) (w.heap.size + 1 + 1) w.heap.size p ss (by omega) _ (by simp) (by simp; omega) bN.cell (hI.below hB0)) belowK_t (belowK_b (by simp; omega)) (Below.refl _ _) (fun _ => rfl)
    (fun (pre : List (Nat × ByteArray)) W => (∃ v, Boxed W (w.heap.size + 1) 26 v ∧ W.ownsRow w.heap.size 9 1 v pre.length (sv (pre.map Prod.snd)) ∧ True) ∧ Boxed W w.heap.size 26 (.slice none 0 0) ∧ Below w.heap.size w W)
    (fun _ (pre : List (Nat × ByteArray)) _ => ∃ q y, pre = q ++ [y] ∧ y.1 ≠ q.length)
    (OwnFrom.and (Own.from (holdsRow_own w.heap.size (w.heap.size + 1) 26 9 1 (fun (pre : List (Nat × ByteArray)) => pre.length) (fun (pre : List (Nat × ByteArray)) => sv (pre.map Prod.snd)) (fun _ _ => True)) _) (OwnFrom.and (Own.from (boxed_own w.heap.size 26 (fun _ => .slice none 0 0)) _) (ownFrom_below (Nat.le_refl _) (by simp; omega))))
    (fun _ => ownFrom_pure _ _)
    ⟨⟨_, bO, World.ownsRow_nil _ _ _ _, trivial⟩, bR, hB0⟩
    (fun (x : Nat × ByteArray) => { tmps := #[.pointer p, undef, .pointer (some ⟨w.heap.size, 0, none⟩), .pointer (some ⟨w.heap.size + 1, 0, none⟩), .int .i64 (x.1 : Int), .string x.2, .pointer p, .func (.func 91) #[] #[.pointer (some ⟨w.heap.size + 1 + 1, 0, none⟩)], .int .i64 (x.1 : Int), .string x.2, undef, undef, undef, undef, undef, undef, undef, undef, undef], defers := [] }) ?assign ?body ?done ?stop
  case assign =>
    intro l x W K hK
    gi_wp2
    exact hK
  case body =>
    rintro l pre ⟨i, s⟩ W ⟨⟨v, hv, hrow, _⟩, hR, hB⟩ hlt
    have hc := hv.cell
    have hcR := hR.cell
    have hfR := hR.frozen
    obtain ⟨A, c, rfl, _⟩ := own_strs (ss := pre.map Prod.snd) hrow
    by_cases hi2 : i = pre.length
    · have hne : ((i : Int) != (pre.length : Int)) = false := int_beq (by omega)
      have H2 := Lib.hid hi2
      clear hi2
      gi_wp2_with (gi_at_builtin; refine wpListIn_append_own _ rfl _ _ 26 rfl w.heap.size 9 i0 (.string (str [])) 1 16 Try.underlying26 hi hz0 hz1 hz2 rfl (by decide) _ _ _ rfl (hrow.alloc _) ⟨W.heap.size, 0, none⟩ 1 1 [.string s] rfl rfl (cell_one_new _ _ _) (by simp [Value.oneCell']) (by unfold maxLen; omega) (by omega) (by have := hB.size; simp; omega) ?_; intro v' w1 hown' hgrow _; obtain ⟨g', cap', rfl⟩ := ownsRow_succ hown'; obtain ⟨hv1, hv2, hr2, hk2, hb2⟩ := hv.appended (by decide) hrow hB.size (by omega) hown' hgrow; have hc1 := hv1.cell; have hf1 := hv1.frozen; have hR1 := ((hR.alloc _).kept hgrow (hR.not_row (by decide) hrow)).other (B' := w.heap.size + 1) (by omega) (.slice (some ⟨g', 0, none⟩) (pre.length + 1) cap'))
      exact ⟨hk2.from _, hb2, ⟨⟨_, hv2, by rw [List.map_append, sv_append, List.length_append]; exact hr2, trivial⟩, hR1, hB.trans hb2⟩⟩
    · have hne : ((i : Int) != (pre.length : Int)) = true := int_bne (by omega)
      have H2 := Lib.hid hi2
      clear hi2
      gi_wp2
      exact ⟨(KeepsOthers.setCell _ _ _).from _, ⟨pre, (i, s), rfl, H2.out⟩⟩
  case done =>
    rintro D ys W hD rfl ⟨⟨v, hv, hrow, _⟩, hR, hB⟩ hK
    rw [upto_length, snd_all] at hrow
    obtain ⟨A, c, rfl, _⟩ := own_strs hrow
    have hc := hv.cell
    have hcR := hR.cell
    have hfR := hR.frozen
    gi_wp2
    have hK' := (KeepsOthers.setCell W ⟨w.heap.size, 0, none⟩ (.slice A ss.length c)).same D _ hK rfl
    refine ⟨by simp, .inl ⟨_, _, rfl, run_takeDeferred hK', ?_⟩⟩
    have hR2 := hR.set (.slice A ss.length c)
    have hrow2 := hrow.kept (grownBy_setCell' W w.heap.size (.slice A ss.length c)) (.inr (hR.not_row (by decide) hrow).symm)
    have hrow3 := ownsRow_putObj hrow2 (.deferred none) hK' rfl
    have hc5 := cell_kept hR2.cell (grownBy_putObj' _ D (.deferred none)) (fun r e => by cases e; exact ⟨_, hK', rfl⟩)
    refine ⟨.slice A ss.length c, ?_, _, rfl, hrow3, (hB.setCell (p := ⟨w.heap.size, 0, none⟩) (Nat.le_refl _) _).trans (belowK_b (w := w) (Nat.le_refl _) _ D _ _ (by simp at hD; omega) hK' rfl rfl)⟩
    simp [results, Try.f64, go_sem, hc5]
  case stop =>
    rintro D c pre W _ ⟨k, hk, rfl⟩ ⟨q, y, e, hne⟩ _
    exfalso
    apply hne
    have e1 := congrArg List.length e
    rw [upto_length, List.length_append] at e1
    have e2 : k = q.length + 1 := by simpa using e1
    rw [e2, upto_succ] at e
    have e3 := List.append_inj_right e (by rw [upto_length])
    have e4 : rc ss q.length = y := by simpa using e3
    rw [← e4]
/-- All of a journal's records, or of nil's: those. -/
theorem all_any (p : Option Addr) (ss : List ByteArray) (hlen : ss.length ≤ 1000000) (w : World) (hI : Recs w.heap.size w p ss) :
    Calls Try.prog 64 #[.pointer p] w fun e W' => ∃ v, e = .returned v ∧ W'.ownsRow w.heap.size 9 1 v ss.length (sv ss) ∧ Below w.heap.size w W' := by
  refine (callsIn_wide (n := 3)).1 ?_
  exact all_in _ 3 trivial trivial trivial rfl (by omega) p ss hlen w hI
end Go.Proofs.Ytdjgdhpncocahaa.JrnI
