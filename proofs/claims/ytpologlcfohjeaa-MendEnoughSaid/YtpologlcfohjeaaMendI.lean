/- (*planner).part walked. -/
import Derived.Test.YtpologlcfohjeaaMendH
import Derived.StillTailTactics
set_option linter.unusedVariables false
set_option linter.unusedSimpArgs false
namespace Go.Proofs.Ytpologlcfohjeaa.MendW
open Go.RowKit Go.Proofs.Ytpologlcfohjeaa.Base
theorem set_same {X : List (List Int)} {p : Nat} {r : List Int} (h : X.getD p [] = r) (hp : p < X.length) : X.set p r = X := by
  have e : X[p] = r := by rw [← h, List.getD_eq_getElem?_getD, List.getElem?_eq_getElem hp]; rfl
  rw [← e]
  exact List.set_getElem_self hp
/-- What part answers. -/
def PartPost (w0 w : World) (lo pb : Nat) (k t a : Int) (hvv lvv : Value) (nl : Nat) (x2 x3 : List Value) (live : List Bool) (pr : List Nat) (row : List Int) (p : Nat) (ms : List Mv) (lost : List Int) (X : List (List Int)) (rv : Nat → Value) (e : Ending) (w' : World) : Prop :=
  ∃ F V loads ms1 lost1, e = .returned (.tuple #[]) ∧ Below lo w0 w' ∧ Pool w' lo F ∧ loads.length = nl ∧ (∀ x, x ∈ loads → -9223372036854775808 ≤ x ∧ x ≤ 9223372036854775807) ∧
    PlanP F pb k t a hvv lvv nl x2 x3 V loads (ms ++ ms1) (lost ++ lost1) (X.set p (ap row (ms1.map fun m => (m.at_, m.dst)))) rv ∧
    (((pr.length : Int) < k ∧ ms1 = [] ∧ lost1 = [(p : Int)]) ∨ (k ≤ (pr.length : Int) ∧ lost1 = [] ∧ (∀ m, m ∈ ms1 → m.part = p ∧ m.fl = castL (pr.take k.toNat)) ∧ Proc live (pr.map fun i => row.getD i 0) pr row.length (ms1.map fun m => (m.at_, m.dst))))
set_option maxRecDepth 100000 in
set_option maxHeartbeats 4000000 in
theorem part_lost (w0 w : World) (lo pb : Nat) (k t a tt ta : Int) (Ah : Option Addr) (nh ch : Nat) (Al : Option Addr) (nl cl : Nat) (x2 x3 : List Value) (hv : List (List Bool)) (live : List Bool) (hm : List (List Int)) (A2 : Option Addr) (n2 c2 : Nat) (A3 : Option Addr) (n3 c3 : Nat) (A4 : Option Addr) (n4 c4 : Nat) (p : Nat) (hp : p < n4)
    (F : Nat → Ent) (V : PV) (loads : List Int) (ms : List Mv) (lost : List Int) (X : List (List Int)) (rv : Nat → Value) (HB : Below lo w0 w) (hlo : lo ≤ w.heap.size) (HP : Pool w lo F) (hll : loads.length = nl) (hle : ∀ x, x ∈ loads → -9223372036854775808 ≤ x ∧ x ≤ 9223372036854775807)
    (HS : PlanP F pb k t a (.slice Ah nh ch) (.slice Al nl cl) nl x2 x3 V loads ms lost X rv) (hpx : X.getD p [] = hm.getD p []) (hX : X.length = n4) (hlo2 : lost.length ≤ 1000)
    (hH : IRows w A4 hm) (hl : hm.length = n4) (hr : ∀ i (h : i < hm.length), hm[i].length ≤ 1000000) (hV : BRows w Ah hv) (hvl : hv.length = nh) (hB : Bools w Al live) (hlv : live.length = nl)
    (hk : ((presOf hv live hm p).length : Int) < k) :
    Calls Try.prog 19 #[.pointer (some ⟨pb, 0, none⟩), .agg #[.int .i64 tt, .int .i64 ta, .slice A2 n2 c2, .slice A3 n3 c3, .slice A4 n4 c4], .int .i64 (p : Nat)] w
      (PartPost w0 w lo pb k t a (.slice Ah nh ch) (.slice Al nl cl) nl x2 x3 live (presOf hv live hm p) (hm.getD p []) p ms lost X rv) := by
  have HPR := Lib.hid (fun Wx (h1 : IRows Wx A4 hm) (h2 : BRows Wx Ah hv) (h3 : Bools Wx Al live) => present_own tt ta A2 n2 c2 A3 n3 c3 A4 n4 c4 hm Ah nh ch hv Al nl cl live Wx p hp h1 hl hr h2 hvl h3 hlv)
  obtain ⟨s, hs⟩ : ∃ s, s = presOf hv live hm p := ⟨_, rfl⟩
  rw [← hs] at HPR hk
  have t1 : decide ((s.length : Int) < k) = true := by simp [hk]
  have HK := Lib.hid hk
  have HSS := Lib.hid hs
  have HLL := Lib.hid hll
  have HLE := Lib.hid hle
  have HPX := Lib.hid hpx
  have HXL := Lib.hid hX
  clear hl hr hvl hlv hk hs hll hle hpx hX
  go_enter Try.func19, Try.ntmps19
  go_wp2
  refine wp_scope_loop 0 (fun _ _ => False) (fun _ _ => 0) rfl ?_ (fun _ _ h => h.elim)
  intro hloop
  clear hloop
  have hA : Below w.heap.size w (w.alloc (.cells #[.int .i64 tt, .int .i64 ta, .slice A2 n2 c2, .slice A3 n3 c3, .slice A4 n4 c4] 26)) := (Below.refl _ _).alloc (Nat.le_refl _) _
  have HM := ManBox.mk' w tt ta A2 n2 c2 A3 n3 c3 A4 n4 c4
  replace HP := HP.below hA
  replace HB := HB.alloc hlo (.cells #[.int .i64 tt, .int .i64 ta, .slice A2 n2 c2, .slice A3 n3 c3, .slice A4 n4 c4] 26)
  replace hlo : lo ≤ (w.alloc (.cells #[.int .i64 tt, .int .i64 ta, .slice A2 n2 c2, .slice A3 n3 c3, .slice A4 n4 c4] 26)).heap.size := Nat.le_trans hlo hA.size
  generalize w.alloc (.cells #[.int .i64 tt, .int .i64 ta, .slice A2 n2 c2, .slice A3 n3 c3, .slice A4 n4 c4] 26) = W at hA HM HP HB hlo ⊢
  have q0 := HP.cell 6 HS.box rfl (j := 0) rfl
  have q1 := HP.cell 6 HS.box rfl (j := 1) rfl
  have q2 := HP.cell 6 HS.box rfl (j := 2) rfl
  have d1 : W.drew.cell? ⟨pb, 1, none⟩ = some (.slice Ah nh ch) := q1
  have d2 : W.drew.cell? ⟨pb, 2, none⟩ = some (.slice Al nl cl) := q2
  replace HM := HM.below ((Below.refl W.heap.size W).drew)
  replace hA := hA.drew
  replace HP := Lib.hid HP.drew
  replace HB := HB.drew
  replace hlo : lo ≤ W.drew.heap.size := hlo
  have e0 : W.drew.cell? ⟨pb, 0, none⟩ = some (.int .i64 k) := q0
  have e1 : W.drew.cell? ⟨pb, 1, none⟩ = some (.slice Ah nh ch) := q1
  have e2 : W.drew.cell? ⟨pb, 2, none⟩ = some (.slice Al nl cl) := q2
  have HSH := Lib.hid HS
  have HMM := Lib.hid HM
  clear HS q0 q1 q2
  obtain ⟨m0, m1, m2, m3, m4⟩ := HM
  refine wp_seq ?_
  refine wp_region_still_tail 10 (by kernel_rfl) (by kernel_rfl) ?_
  simp only [List.take_succ_cons, List.take_zero, List.drop_succ_cons, List.drop_zero]
  change wpStill _ _ W.drew (fun a' => wpList _ _ _ _ a' W.drew) _ _
  generalize W.drew = wd at hA HP HB hlo e0 e1 e2 HMM m0 m1 m2 m3 m4 ⊢
  repeat still_step
  refine wpStill_nil ?_
  go_wp2_with (first | (go_at_call 9; (with_reducible refine (HPR.out _ (hH.below hA) (hV.below hA) (hB.below hA)).mono ?_); rintro e w3 ⟨A5, c5, rfl, hc5, O5, hI5, hd⟩; replace e0 := cell_below hd e0; replace HP := Lib.hid (HP.out.below hd); replace HB := bt HB hlo hd; replace hlo := Nat.le_trans hlo hd.size; have e5 := HP.out.cell 6 HSH.out.box rfl (j := 5) rfl; clear hI5) | (at_builtin; go_loud (refine pool_app rfl (.tmp 35) (.tmp 37) 22 3 1 (.int .i64 0) 8 rfl Try.underlying22 info_int rfl (by omega) (by omega) 4 HSH.out.lst [.int .i64 (p : Nat)] rfl (by simp [Value.oneCell']) rfl rfl HP.out HB hlo (by omega) ?_; intro A6 c6 w1 HP4 HB4; replace e5 := HP4.cell 6 (HSH.out.box_up 4 _ (by decide)) rfl (j := 5) rfl; have z5 := HP4.free 6 (HSH.out.box_up 4 _ (by decide)) rfl 5)))
  have HP5 := HP4.store 6 (HSH.out.box_up 4 _ (by decide)) rfl 5 (.slice A6 (lost.length + 1) c6)
  simp only [Exit.jump]
  refine bodyPost_ret (results_none rfl _ _ _) rfl ?_
  refine ⟨_, { V with ov := .slice A6 (lost.length + 1) c6 }, loads, [], [(p : Int)], rfl, HB4.setCell (p := ⟨pb, 5, none⟩) (HP.out.lt 6 (g := pb) (by rw [HSH.out.box]; rfl)).1 _, HP5, HLL.out, HLE.out, ?_, .inl ⟨by rw [← HSS.out]; exact HK.out, rfl, rfl⟩⟩
  rw [List.append_nil, List.map_nil, show X.set p (ap (hm.getD p []) []) = X from set_same HPX.out (by have := HXL.out; omega)]
  exact HSH.out.lose (.slice A6 (lost.length + 1) c6) (p : Int)
end Go.Proofs.Ytpologlcfohjeaa.MendW
