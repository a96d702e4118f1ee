/- ledger.manifest walked: a manifest of one's own. -/
import Derived.Test.YtmlemichkeomjaaM8
import Derived.Lib.Builder
import Derived.Deep.DeepCutAuto
set_option linter.unusedVariables false
set_option linter.unusedSimpArgs false
namespace Go.Proofs.Ytmlemichkeomjaa.MendW
open Go.RowKit Go.Proofs.Ytmlemichkeomjaa.Base
set_option maxRecDepth 100000 in
set_option maxHeartbeats 2000000 in
theorem manifest_raw (t a : Int) (A2 : Option Addr) (n2 c2 : Nat) (A3 : Option Addr) (n3 c3 : Nat) (A4 : Option Addr) (n4 c4 : Nat) (x2 x3 : List Value) (hm : List (List Int)) (w : World)
    (l2 : x2.length = n2) (l3 : x3.length = n3) (hn4 : n4 ≤ 1000000) (hH : IRows w A4 hm) (hl : hm.length = n4) (hr : ∀ i (h : i < hm.length), hm[i].length ≤ 1000000)
    (H2 : ∀ W, Below w.heap.size w W → Calls Try.prog 117 #[.slice A2 n2 c2] W fun e w' => ∃ v, e = .returned v ∧ w'.ownsRow W.heap.size 3 1 v n2 x2 ∧ Below W.heap.size W w')
    (H3 : ∀ W, Below w.heap.size w W → Calls Try.prog 118 #[.slice A3 n3 c3] W fun e w' => ∃ v, e = .returned v ∧ w'.ownsRow W.heap.size 72 1 v n3 x3 ∧ Below W.heap.size W w') :
    Calls Try.prog 77 #[.agg #[.int .i64 t, .int .i64 a, .slice A2 n2 c2, .slice A3 n3 c3, .slice A4 n4 c4]] w (CopiedPost w t a x2 x3 hm) := by
  obtain ⟨x4, l4, hx4, hone⟩ := irows_values hH hl
  have K4 := Lib.hid (fun W (h : Below w.heap.size w W) => clone_rows A4 n4 c4 x4 W (hx4.cells h) hone l4 hn4)
  have KR := Lib.hid (fun k (hk : k < hm.length) => hx4.clone k hk (hr k hk))
  have K2 := Lib.hid H2
  have K3 := Lib.hid H3
  have L2 := Lib.hid l2
  have L3 := Lib.hid l3
  have L4 := Lib.hid l4
  have LH := Lib.hid hl
  clear H2 H3 l2 l3 l4 hl hr hx4 hone hH
  go_enter Try.func77, Try.ntmps77
  go_upto_region 1 with fail
  have HP := Lib.hid (pool_alloc (Pool.nil w w.heap.size (κ := Nat)) 7 (Nat.le_refl _) 26 5 #[.int .i64 t, .int .i64 a, .slice A2 n2 c2, .slice A3 n3 c3, .slice A4 n4 c4] rfl)
  have hx : (w.alloc (.cells #[.int .i64 t, .int .i64 a, .slice A2 n2 c2, .slice A3 n3 c3, .slice A4 n4 c4] 26)).heap[w.heap.size]? = some (.cells #[.int .i64 t, .int .i64 a, .slice A2 n2 c2, .slice A3 n3 c3, .slice A4 n4 c4] 26 (0, 0)) := heap_alloc_new w _
  have hs1 : (w.alloc (.cells #[.int .i64 t, .int .i64 a, .slice A2 n2 c2, .slice A3 n3 c3, .slice A4 n4 c4] 26)).heap.size = w.heap.size + 1 := by simp
  have HM := ManBox.mk' w t a A2 n2 c2 A3 n3 c3 A4 n4 c4
  have HB : Below w.heap.size w (w.alloc (.cells #[.int .i64 t, .int .i64 a, .slice A2 n2 c2, .slice A3 n3 c3, .slice A4 n4 c4] 26)) := (Below.refl _ _).alloc (Nat.le_refl _) _
  generalize w.alloc (.cells #[.int .i64 t, .int .i64 a, .slice A2 n2 c2, .slice A3 n3 c3, .slice A4 n4 c4] 26) = W0 at hx HM HB HP hs1 ⊢
  replace hx := heap_below ((Below.refl _ _).alloc (Nat.le_refl _) (.cells #[.int .i64 0, .int .i64 0, .slice none 0 0, .slice none 0 0, .slice none 0 0] 26)) hx
  replace HM := HM.below ((Below.refl _ _).alloc (Nat.le_refl _) (.cells #[.int .i64 0, .int .i64 0, .slice none 0 0, .slice none 0 0, .slice none 0 0] 26))
  replace HP := Lib.hid (pool_alloc HP.out 8 HB.size 26 5 #[.int .i64 0, .int .i64 0, .slice none 0 0, .slice none 0 0, .slice none 0 0] rfl)
  rw [hs1] at HP
  replace HB := HB.alloc HB.size (.cells #[.int .i64 0, .int .i64 0, .slice none 0 0, .slice none 0 0, .slice none 0 0] 26)
  generalize W0.alloc (.cells #[.int .i64 0, .int .i64 0, .slice none 0 0, .slice none 0 0, .slice none 0 0] 26) = W at hx HM HB HP ⊢
  clear hs1
  replace HB := HB.drew
  replace HP := Lib.hid HP.out.drew
  obtain ⟨p0, p1, p2, p3, p4⟩ := HM
  go_cut [1, 2] (fun s1 s2 wx => s1 = .pointer (some ⟨w.heap.size, 0, none⟩) ∧ s2 = .pointer (some ⟨w.heap.size + 1, 0, none⟩) ∧ Below w.heap.size w wx ∧ ∃ F v2 v3 A5 c5, Pool wx w.heap.size F ∧ ManK F w.heap.size (w.heap.size + 1) t a v2 v3 (.slice A5 n4 c5) n2 n3 n4 x2 x3 x4 hm 0 (fun _ => .slice none 0 0))
  case first =>
    go_region_law (first | (go_simp; go_at_call 117; (with_reducible refine (K2.out _ HB).mono ?_); rintro e w3 ⟨v2, rfl, O2, hd⟩; obtain ⟨B2, e2, rfl⟩ := own_sl O2; replace HP := Lib.hid (HP.out.new 0 hd HB.size (E := ⟨3, 1, .slice B2 n2 e2, n2, x2⟩) O2); replace hx := heap_below hd hx; have z2 := Lib.frozen_of_heap hx 2; have z3 := Lib.frozen_of_heap hx 3; have z4 := Lib.frozen_of_heap hx 4; replace p0 := cell_below hd p0; replace p1 := cell_below hd p1; replace p2 := cell_below hd p2; replace p3 := cell_below hd p3; replace p4 := cell_below hd p4; replace HB := bt HB HB.size hd; clear hd; clear O2) | (go_simp; go_at_call 118; (with_reducible refine (K3.out _ HB).mono ?_); rintro e w3 ⟨v3, rfl, O3, hd⟩; obtain ⟨B3, e3, rfl⟩ := own_sl O3; replace HP := Lib.hid (HP.out.new 1 hd HB.size (E := ⟨72, 1, .slice B3 n3 e3, n3, x3⟩) O3); replace hx := heap_below hd hx; have z2 := Lib.frozen_of_heap hx 2; have z3 := Lib.frozen_of_heap hx 3; have z4 := Lib.frozen_of_heap hx 4; replace p0 := cell_below hd p0; replace p1 := cell_below hd p1; replace p2 := cell_below hd p2; replace p3 := cell_below hd p3; replace p4 := cell_below hd p4; replace HB := bt HB HB.size hd; clear hd; clear O3) | (go_simp; go_at_call 119; (with_reducible refine (K4.out _ HB).mono ?_); rintro e w3 ⟨v4, rfl, O4, hd⟩; obtain ⟨B4, e4, rfl⟩ := own_sl O4; replace HP := Lib.hid (HP.out.new 2 hd HB.size (E := ⟨22, 1, .slice B4 n4 e4, n4, x4⟩) O4); replace hx := heap_below hd hx; have z2 := Lib.frozen_of_heap hx 2; have z3 := Lib.frozen_of_heap hx 3; have z4 := Lib.frozen_of_heap hx 4; replace p0 := cell_below hd p0; replace p1 := cell_below hd p1; replace p2 := cell_below hd p2; replace p3 := cell_below hd p3; replace p4 := cell_below hd p4; replace HB := bt HB HB.size hd; clear hd; clear O4))
    all_goals (go_wp2_with fail; go_meet)
    all_goals exact ⟨rfl, rfl, copied_leaf HP.out HB rfl rfl rfl rfl rfl⟩
  case rest =>
    clear HP HB
    obtain ⟨rfl, rfl, HB, F, v2, v3, A5, c5, HP, HK⟩ := hcut
    clear p0 p1 p2 p3 p4 hx
    have q4 := HP.cell 7 HK.box rfl (j := 4) rfl
    have HPP := Lib.hid HP
    have HKK := Lib.hid HK
    clear HP HK
    go_wp2
    clear q4
    go_loopw [3, 19] (fun _ i wr => ∃ k : Nat, k ≤ n4 ∧ i = .int .i64 k ∧ Below w.heap.size w wr ∧ ∃ F rv, Pool wr w.heap.size F ∧ ManK F w.heap.size (w.heap.size + 1) t a v2 v3 (.slice A5 n4 c5) n2 n3 n4 x2 x3 x4 hm k rv) (fun _ i _ => n4 - (intOf i).toNat)
    case atStart => exact ⟨0, by omega, rfl, HB, F, _, HPP.out, HKK.out⟩
    case round =>
      clear HPP HKK HB F
      obtain ⟨k, hk, rfl, HB, F, rv, HP, HK⟩ := hrel
      have q4 := HP.cell 7 HK.box rfl (j := 4) rfl
      have HKK := Lib.hid HK
      by_cases hlt : k < n4
      · have hkl : k < hm.length := by have := LH.out; omega
        have hk4 : k < x4.length := by have := L4.out; omega
        have hle := Lib.hid (LH.out.trans L4.out.symm)
        obtain ⟨g, cap, hv⟩ := own_form (HP.own 2) (by rw [HK.top]; exact Nat.lt_of_le_of_lt (Nat.zero_le k) hlt)
        rw [HK.top] at hv
        simp only [Value.slice.injEq] at hv
        obtain ⟨rfl, _, rfl⟩ := hv
        obtain ⟨B, cq, hxk, hKR⟩ := KR.out k hkl
        have KW := Lib.hid hKR
        have g1 := HP.cell 2 HK.top rfl (j := k) (u := .slice B hm[k].length cq) (by rw [List.getElem?_append_right (by simp)]; simpa using hxk)
        have z1 := HP.free 2 HK.top rfl k
        have HPP := Lib.hid HP.drew
        have HBD := HB.drew
        have HIX := Lib.hid (show hm[k]! = hm[k] by simp [hkl])
        clear hKR HP HK HB hxk
        obtain ⟨q, hq⟩ : ∃ q, q = hm[k].length := ⟨_, rfl⟩
        rw [← hq] at g1
        rw [← hq] at KW
        have HQ := Lib.hid hq
        clear hq
        go_upto_region 5 with fail
        go_region_law (go_simp; go_at_call 117; (with_reducible refine (KW.out _ HBD).mono ?_); rintro e w3 ⟨v2, rfl, O2, hd⟩; obtain ⟨B2, e2, rfl⟩ := own_sl O2; replace HPP := Lib.hid (HPP.out.new (2 * k + 10) hd HBD.size (E := ⟨3, 1, .slice B2 q e2, q, zv hm[k]⟩) O2); replace q4 := cell_below hd q4; replace z1 := (hd.frozen (p := ⟨g, k, none⟩) (World.block_lt_of_cell? _ _ g1)).trans z1; replace g1 := cell_below hd g1; replace HBD := bt HBD HBD.size hd; clear hd O2)
        all_goals (obtain ⟨F9, rv9, HP9, HK9⟩ := copied_step (B := B2) (cq := e2) (by rw [HIX.out, ← HQ.out]; exact HPP.out) HKK.out hk4 hle.out; rw [HIX.out, ← HQ.out] at HP9; replace HBD := HBD.setCell (p := ⟨g, k, none⟩) (own_lo (HPP.out.own 2) g (by rw [up_ne _ _ (by omega), HKK.out.top]; rfl)) (.slice B2 q e2); have HF9 := Lib.hid (And.intro HP9 HK9); clear HP9 HK9 q4 z1 g1)
        all_goals go_wp2
        all_goals go_roundw
        case' rel => exact ⟨k + 1, by omega, by go_num, HBD, F9, rv9, HF9.out.1, HF9.out.2⟩
        all_goals (first | exact ⟨k + 1, by omega, by go_num, HBD, F9, rv9, HF9.out.1, HF9.out.2⟩ | (simp [intOf]; omega))
      · obtain rfl : k = n4 := by omega
        obtain ⟨B2, c2', rfl⟩ := own_sl (show wr.ownsRow w.heap.size 3 1 v2 n2 x2 by have := HP.own 0; rw [HK.sz] at this; exact this)
        obtain ⟨B3, c3', rfl⟩ := own_sl (show wr.ownsRow w.heap.size 72 1 v3 n3 x3 by have := HP.own 1; rw [HK.sm] at this; exact this)
        have HPP := Lib.hid HP
        have b0 := HP.cell 7 HK.box rfl (j := 0) rfl
        have b1 := HP.cell 7 HK.box rfl (j := 1) rfl
        have b2 := HP.cell 7 HK.box rfl (j := 2) rfl
        have b3 := HP.cell 7 HK.box rfl (j := 3) rfl
        have hA := pool_obj HP 8 HK.res
        have hone : (#[.int .i64 t, .int .i64 a, .slice B2 n2 c2', .slice B3 n3 c3', .slice A5 k c5] : Array Value).all (·.oneCell') = true := by simp [Value.oneCell']
        have hi33 : (Try.prog.info? 26).map (·.size) = some 5 := by kernel_rfl
        have HS := Lib.hid (pool_setRow HP 8 HK.res #[.int .i64 t, .int .i64 a, .slice B2 n2 c2', .slice B3 n3 c3', .slice A5 k c5] rfl)
        clear HP HK
        go_wp2_with (refine wpList_store_row rfl 26 (.tmp 2) (.tmp 33) rfl (w.heap.size + 1) #[.int .i64 t, .int .i64 a, .slice B2 n2 c2', .slice B3 n3 c3', .slice A5 k c5] rfl rfl 26 #[.int .i64 0, .int .i64 0, .slice none 0 0, .slice none 0 0, .slice none 0 0] hA hi33 rfl hone ?_)
        have hR := setRow_heap _ _ _ #[.int .i64 t, .int .i64 a, .slice B2 n2 c2', .slice B3 n3 c3', .slice A5 k c5] _ _ hA
        refine bodyPost_ret (results_cell_one rfl _ _ (w.heap.size + 1) 26 _ (0, 0) _ rfl hR Try.underlying26 rfl hi33) rfl ?_
        refine ⟨_, .slice B2 n2 c2', .slice B3 n3 c3', .slice A5 k c5, rv, rfl, HS.out, ⟨?_, ?_, ?_, fun i hi => ?_⟩, ?_⟩
        · rw [up_ne _ _ (by omega), HKK.out.sz, L2.out]
        · rw [up_ne _ _ (by omega), HKK.out.sm, L3.out]
        · rw [up_ne _ _ (by omega), HKK.out.top, LH.out, List.drop_eq_nil_of_le (by have := L4.out; omega), List.append_nil]
        · rw [up_ne _ _ (by omega)]
          exact HKK.out.row i hi (by have := LH.out; omega)
        · exact HB.trans ⟨rfl, rfl, rfl, by simp, fun k hk => setRow_other wr _ k _ (by omega)⟩
end Go.Proofs.Ytmlemichkeomjaa.MendW
