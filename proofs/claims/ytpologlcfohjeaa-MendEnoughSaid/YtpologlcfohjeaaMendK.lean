/- (*planner).part walked: the way with moves. -/
import Derived.Test.YtpologlcfohjeaaMendJ
set_option linter.unusedVariables false
set_option linter.unusedSimpArgs false
namespace Go.Proofs.Ytpologlcfohjeaa.MendW
open Go.RowKit Go.Proofs.Ytpologlcfohjeaa.Base
set_option maxRecDepth 100000 in
set_option maxHeartbeats 8000000 in
theorem part_go (w0 w : World) (pb kn : Nat) (t a tt ta : Int) (Ah : Option Addr) (nh ch : Nat) (Al : Option Addr) (nl cl : Nat) (x2 x3 : List Value) (hv : List (List Bool)) (live : List Bool) (hm : List (List Int)) (A2 : Option Addr) (n2 c2 : Nat) (A3 : Option Addr) (n3 c3 : Nat) (A4 : Option Addr) (n4 c4 : Nat) (p : Nat) (hp : p < n4)
    (F : Nat → Ent) (V : PV) (loads : List Int) (ms : List Mv) (lost : List Int) (X : List (List Int)) (rv : Nat → Value) (HB : Below w0.heap.size w0 w) (HP : Pool w w0.heap.size F) (hll : loads.length = nl) (hle : ∀ x, x ∈ loads → -9223372036854775808 ≤ x ∧ x ≤ 9223372036854775807)
    (HS : PlanP F pb kn t a (.slice Ah nh ch) (.slice Al nl cl) nl x2 x3 V loads ms lost X rv) (hpx : X.getD p [] = hm.getD p []) (hX : X.length = n4) (hms : ms.length ≤ 1000000) (hnl : nl ≤ 1000000)
    (hH : IRows w0 A4 hm) (hl : hm.length = n4) (hr : ∀ i (h : i < hm.length), hm[i].length ≤ 1000) (hV : BRows w0 Ah hv) (hvl : hv.length = nh) (hB : Bools w0 Al live) (hlv : live.length = nl)
    (hk : kn ≤ (presOf hv live hm p).length) (hk0 : 0 < kn) :
    Calls Try.prog 19 #[.pointer (some ⟨pb, 0, none⟩), .agg #[.int .i64 tt, .int .i64 ta, .slice A2 n2 c2, .slice A3 n3 c3, .slice A4 n4 c4], .int .i64 (p : Nat)] w
      (PartPost w0 w w0.heap.size pb kn t a (.slice Ah nh ch) (.slice Al nl cl) nl x2 x3 live (presOf hv live hm p) (hm.getD p []) p ms lost X rv) := by
  have hr6 : ∀ i (h : i < hm.length), hm[i].length ≤ 1000000 := fun i h => by have := hr i h; omega
  have HPR := Lib.hid (fun Wx (h1 : IRows Wx A4 hm) (h2 : BRows Wx Ah hv) (h3 : Bools Wx Al live) => present_own tt ta A2 n2 c2 A3 n3 c3 A4 n4 c4 hm Ah nh ch hv Al nl cl live Wx p hp h1 hl hr6 h2 hvl h3 hlv)
  obtain ⟨row, hrow⟩ : ∃ row, row = hm.getD p [] := ⟨_, rfl⟩
  have hpm : p < hm.length := by omega
  have HROW := Lib.hid (show hm[p] = row by rw [hrow, List.getD_eq_getElem?_getD, List.getElem?_eq_getElem hpm]; rfl)
  have HRL := Lib.hid (show row.length ≤ 1000 by rw [← HROW.out]; exact hr p hpm)
  rw [← hrow] at hpx ⊢
  obtain ⟨s, hs⟩ : ∃ s, s = presOf hv live hm p := ⟨_, rfl⟩
  have HSP := Lib.hid (fun x (hx : x ∈ s) => show x < row.length ∧ livesB live (row.getD x 0) = true by
    rw [hs] at hx
    have := presK_lt hv live (hm.getD p []) p (hm.getD p []).length x hx
    rw [hrow]
    exact ⟨this.1, this.2.2⟩)
  have HSL := Lib.hid (show s.length ≤ row.length by rw [hs, hrow]; exact presK_length _ _ _ _ _)
  rw [← hs] at HPR hk ⊢
  have t1 : decide ((s.length : Int) < (kn : Int)) = false := by simp; omega
  have t1' : decide (s.length < kn) = false := by simp; omega
  have HLL := Lib.hid hll
  have HLE := Lib.hid hle
  have HPX := Lib.hid hpx
  have HXL := Lib.hid hX
  have HHL := Lib.hid hl
  have HLV := Lib.hid hlv
  clear hl hr hr6 hvl hlv hs hrow hll hle hpx hX
  have HPA := Lib.hid (pool_alloc HP 7 HB.size 26 5 #[.int .i64 tt, .int .i64 ta, .slice A2 n2 c2, .slice A3 n3 c3, .slice A4 n4 c4] rfl)
  go_enter Try.func19, Try.ntmps19
  go_wp2
  refine wp_scope_loop 0 (fun a' wr => ∃ A5 c5, PartJ w0 w0.heap.size pb w.heap.size kn t a (.slice Ah nh ch) (.slice Al nl cl) nl x2 x3 live tt ta A2 n2 c2 A3 n3 c3 A4 n4 c4 A5 c5 s row p ms lost X rv a' wr) (fun a' _ => row.length - (intOf (a'.tmps.getD 10 undef)).toNat) rfl ?_ ?_
  · intro hloop
    have HM := ManBox.mk' w tt ta A2 n2 c2 A3 n3 c3 A4 n4 c4
    replace HB := HB.alloc HB.size (.cells #[.int .i64 tt, .int .i64 ta, .slice A2 n2 c2, .slice A3 n3 c3, .slice A4 n4 c4] 26)
    generalize w.alloc (.cells #[.int .i64 tt, .int .i64 ta, .slice A2 n2 c2, .slice A3 n3 c3, .slice A4 n4 c4] 26) = W at HM HPA HB ⊢
    replace HS := HS.skip 7 ⟨26, 5, .slice (some ⟨w.heap.size, 0, none⟩) 1 1, 1, [.int .i64 tt, .int .i64 ta, .slice A2 n2 c2, .slice A3 n3 c3, .slice A4 n4 c4]⟩ (by omega) (.inl (by omega))
    have q0 := HPA.out.cell 6 HS.box rfl (j := 0) rfl
    have q1 := HPA.out.cell 6 HS.box rfl (j := 1) rfl
    have q2 := HPA.out.cell 6 HS.box rfl (j := 2) rfl
    have HMB := Lib.hid (up_self F 7 ⟨26, 5, .slice (some ⟨w.heap.size, 0, none⟩) 1 1, 1, [.int .i64 tt, .int .i64 ta, .slice A2 n2 c2, .slice A3 n3 c3, .slice A4 n4 c4]⟩)
    replace HM := HM.below ((Below.refl W.heap.size W).drew)
    replace HPA := Lib.hid HPA.out.drew
    replace HB := HB.drew
    have e0 : W.drew.cell? ⟨pb, 0, none⟩ = some (.int .i64 (kn : Nat)) := q0
    have e1 : W.drew.cell? ⟨pb, 1, none⟩ = some (.slice Ah nh ch) := q1
    have e2 : W.drew.cell? ⟨pb, 2, none⟩ = some (.slice Al nl cl) := q2
    have HSH := Lib.hid HS
    clear HS q0 q1 q2 HP
    obtain ⟨m0, m1, m2, m3, m4⟩ := HM
    refine wp_seq ?_
    refine wp_region_still_tail 10 (by kernel_rfl) (by kernel_rfl) ?_
    simp only [List.take_succ_cons, List.take_zero, List.drop_succ_cons, List.drop_zero]
    change wpStill _ _ W.drew (fun a' => wpList _ _ _ _ a' W.drew) _ _
    generalize up F 7 ⟨26, 5, .slice (some ⟨w.heap.size, 0, none⟩) 1 1, 1, [.int .i64 tt, .int .i64 ta, .slice A2 n2 c2, .slice A3 n3 c3, .slice A4 n4 c4]⟩ = F7 at HPA HSH HMB
    generalize W.drew = wd at HPA HB e0 e1 e2 m0 m1 m2 m3 m4 ⊢
    repeat still_step
    refine wpStill_nil ?_
    go_wp2_with (first | (go_at_call 9; (with_reducible refine (HPR.out _ (hH.below HB) (hV.below HB) (hB.below HB)).mono ?_); rintro e w3 ⟨A5, c5, rfl, hc5, O5, hI5, hd⟩; replace e0 := cell_below hd e0; replace HPA := Lib.hid (HPA.out.new 9 hd HB.size (E := ⟨3, 1, .slice A5 s.length c5, s.length, zv (castL s)⟩) O5); replace HB := bt HB HB.size hd; clear hI5 O5 hd))
    have HPB := Lib.hid (HPA.out.new 8 (Below.refl _ _) HB.size (E := ⟨3, 1, .slice none 0 0, 0, []⟩) (World.ownsRow_nil _ _ _ _))
    have HSP8 := Lib.hid ((HSH.out.skip 9 ⟨3, 1, .slice A5 s.length c5, s.length, zv (castL s)⟩ (by omega) (.inl (by omega))).skip 8 ⟨3, 1, .slice none 0 0, 0, []⟩ (by omega) (.inl (by omega)))
    have HPS := Lib.hid (show PartS (up (up F7 9 ⟨3, 1, .slice A5 s.length c5, s.length, zv (castL s)⟩) 8 ⟨3, 1, .slice none 0 0, 0, []⟩) w.heap.size tt ta A2 n2 c2 A3 n3 c3 A4 n4 c4 A5 c5 s (.slice none 0 0) [] from ⟨HMB.out, rfl, rfl⟩)
    generalize up (up F7 9 ⟨3, 1, .slice A5 s.length c5, s.length, zv (castL s)⟩) 8 ⟨3, 1, .slice none 0 0, 0, []⟩ = F8 at HPB HSP8 HPS
    clear HPA HSH HMB F7 m0 m1 m2 m3 m4 e0 e1 e2
    go_loopw [7, 9, 44] (fun tv _ i wr => ∃ j : Nat, j ≤ s.length ∧ i = .int .i64 j ∧ Below w0.heap.size w0 wr ∧ ∃ F, Pool wr w0.heap.size F ∧ PlanP F pb kn t a (.slice Ah nh ch) (.slice Al nl cl) nl x2 x3 V loads ms lost X rv ∧ PartS F w.heap.size tt ta A2 n2 c2 A3 n3 c3 A4 n4 c4 A5 c5 s tv ((s.take j).map fun i => row.getD i 0)) (fun _ _ i _ => s.length - (intOf i).toNat)
    case atStart => exact ⟨0, by omega, rfl, HB, F8, HPB.out, HSP8.out, HPS.out⟩
    case round =>
      clear HPB HSP8 HPS HB F8
      obtain ⟨j, hj, rfl, HB, F8, HP, HPL, HPS⟩ := hrel
      have HPP := Lib.hid HP
      have HPLL := Lib.hid HPL
      have HPSS := Lib.hid HPS
      by_cases hlt : j < s.length
      · obtain ⟨x, hx⟩ : ∃ x, x = s[j] := ⟨_, rfl⟩
        have hxr : x < row.length := (HSP.out x (by rw [hx]; exact List.getElem_mem hlt)).1
        have g1f := fun (g c : _) (h : Value.slice A5 s.length c5 = .slice (some ⟨g, 0, none⟩) s.length c) => HP.cell 9 HPS.prs h (j := j) (u := .int .i64 (x : Nat)) (by rw [hx]; simp [zv, castL, hlt])
        obtain ⟨g5, cc5, hv5⟩ := HP.some 9 HPS.prs (by omega)
        have g1 := g1f _ _ hv5
        clear g1f
        simp only [Value.slice.injEq] at hv5
        obtain ⟨rfl, _, rfl⟩ := hv5
        have b4 := HP.cell 7 HPS.mbox rfl (j := 4) rfl
        obtain ⟨b, off, rfl, hc⟩ := (hH.below HB).block (by omega)
        obtain ⟨B, cb, g2, hqc, hI⟩ := hc p hpm
        rw [HROW.out] at g2 hI hqc
        obtain ⟨b2, off2, rfl, hc2⟩ := hI.block (by omega)
        have g3 := hc2 x hxr
        have HST := Lib.hid (show (s.take (j + 1)).map (fun i => row.getD i 0) = (s.take j).map (fun i => row.getD i 0) ++ [row[x]] by
          rw [List.take_add_one, List.getElem?_eq_getElem hlt, ← hx]
          simp [List.getD_eq_getElem?_getD, hxr])
        have htl : ((s.take j).map fun i => row.getD i 0).length = j := by rw [List.length_map, List.length_take]; omega
        have HTK := Lib.hid (show F8 8 = ⟨3, 1, u7, j, zv ((s.take j).map fun i => row.getD i 0)⟩ by rw [HPSS.out.tkn, htl])
        have HTL := Lib.hid htl
        have hj9 : s.length ≤ 1000 := by have := HSL.out; have := HRL.out; omega
        clear hc hc2 hx htl HP HPL HPS hI
        generalize row[x] = y at g3 HST
        generalize row.length = q at *
        go_wp2_with (at_builtin; refine pool_app rfl (.tmp 48) (.tmp 57) 22 3 1 (.int .i64 0) 8 rfl Try.underlying22 info_int rfl (by omega) (by omega) 8 HTK.out [.int .i64 y] rfl (by simp [Value.oneCell']) rfl rfl HPP.out HB HB.size (by omega) ?_; intro A6 c6 w1 HP6 HB6)
        go_roundw
        case rel => exact ⟨j + 1, by omega, by go_num, HB6, _, HP6, HPLL.out.skip 8 _ (by omega) (.inl (by omega)), by rw [HST.out]; exact HPSS.out.take y _ _ (by rw [HTL.out])⟩
        case measure => simp [intOf]; omega
      · obtain rfl : j = s.length := by omega
        go_wp2
        go_step3
        go_step
        go_step
        refine hloop _ _ ⟨A5, c5, PartJ.mk' (loads := loads) (ms1 := []) (i := 0) (F := F8) (V := V) ⟨Nat.zero_le _, HB, HB.size, HPP.out, HLL.out, HLE.out, ?_, ?_, fun m hm => (by cases hm), Proc.zero⟩ rfl rfl rfl rfl rfl rfl rfl rfl⟩
        · rw [List.append_nil, List.map_nil, show ap row [] = row from rfl, set_same HPX.out (by have := HXL.out; have := HHL.out; omega)]
          exact HPLL.out
        · have := HPSS.out
          rw [List.take_length] at this
          simpa [tos] using this
  · rintro a' wr ⟨A5, c5, F, V, tv, loads, ms1, i, us, HU, rfl⟩
    clear HPR HPA HP HS HB
    obtain ⟨hi, HB, _, HP, hll, hle, HPL, HPS, hmv, hpr⟩ := HU
    obtain ⟨P, hP⟩ : ∃ P, P = ms1.map (fun m => (m.at_, m.dst)) := ⟨_, rfl⟩
    rw [← hP] at HPL HPS hpr
    have b4 := HP.cell 7 HPS.mbox rfl (j := 4) rfl
    have HHB := hH.below HB
    obtain ⟨b, off, rfl, hc⟩ := HHB.block (by omega)
    obtain ⟨B, cb, g2, hqc, _⟩ := hc p hpm
    rw [HROW.out] at g2 hqc
    have HRO := Lib.hid HRL.out
    obtain ⟨q, hq⟩ : ∃ q, q = row.length := ⟨_, rfl⟩
    have HQ := Lib.hid hq
    have hq9 : q ≤ 1000 := by rw [hq]; exact HRL.out
    rw [← hq] at hi g2 hqc
    have HPP := Lib.hid HP
    have HPLL := Lib.hid HPL
    have HPSS := Lib.hid HPS
    have HMV := Lib.hid hmv
    have HPRC := Lib.hid hpr
    have HPE := Lib.hid hP
    have HLL1 := Lib.hid hll
    have HLE1 := Lib.hid hle
    clear hc hq hmv hP
    by_cases hlt : i < q
    · have e1 : (((i : Nat) : Int) == ((q : Nat) : Int)) = false := int_ne (by omega)
      obtain ⟨T, hT⟩ : ∃ T, T = (s.map fun i => row.getD i 0) ++ tos P := ⟨_, rfl⟩
      have HT := Lib.hid hT
      rw [← hT] at HPS
      obtain ⟨At, ct, htv⟩ := HP.slice 8 HPS.tkn
      obtain ⟨Ao, co, hld⟩ := HP.slice 3 HPL.lds
      subst htv
      have f2 := HP.cell 6 HPL.box rfl (j := 2) rfl
      have f3 := HP.cell 6 HPL.box rfl (j := 3) rfl
      rw [hld] at f3
      have hTl : T.length ≤ 10000 := by
        have h1 := HSL.out
        have h2 := HPRC.out.len
        have h3 := HQ.out
        rw [hT, List.length_append, List.length_map, tos, List.length_map]
        omega
      have hTle := taken_le HPRC.out HSP.out (by rw [HLV.out]; omega)
      rw [← hT] at hTle
      obtain ⟨A7, c7, e7, _, _, hTI⟩ := own_ints (show wr.ownsRow w0.heap.size 3 1 (.slice At T.length ct) T.length (zv T) by have := HP.own 8; rw [HPS.tkn] at this; exact this) hTle
      simp only [Value.slice.injEq] at e7
      obtain ⟨rfl, _, rfl⟩ := e7
      obtain ⟨A8, c8, e8, _, _, hLI⟩ := own_ints (show wr.ownsRow w0.heap.size 3 1 (.slice Ao nl co) nl (zv loads) by have := HP.own 3; rw [HPL.lds, hld] at this; exact this) hle
      simp only [Value.slice.injEq] at e8
      obtain ⟨rfl, _, rfl⟩ := e8
      have HFR := Lib.hid (free_any pb Al nl cl live Ao co loads At T.length ct T wr f2 f3 (hB.below HB) HLV.out hLI hll hTI rfl hnl (by omega))
      have HTLN := Lib.hid (show ((s.map fun i => row.getD i 0) ++ tos P).length = T.length by rw [hT])
      rw [← hT] at HPSS
      have HNL := Lib.hid hnl
      clear hT hTle hTI hLI HPS HPL HP hpr hll hle hld f2 f3 hnl
      have upd0 := Lib.hid HPP.out
      go_upto_region 13 with (go_at_call 33; (with_reducible refine (HFR.out).mono ?_); rintro e w2 ⟨r, rfl, hF, hd⟩; replace b4 := cell_below hd b4; replace g2 := cell_below hd g2; replace HPP := Lib.hid (HPP.out.below hd); replace HB := bt HB HB.size hd; have HFK := Lib.hid hF; clear hF)
      clear upd0 HFR
      by_cases hr0 : r = 0
      · subst hr0
        have hlr := Lib.hid (Proc.none HPRC.out (by rw [HLV.out, ← HT.out]; exact HFK.out))
        go_wp2
        go_step3
        refine ⟨rfl, ⟨A5, c5, PartJ.mk' (loads := loads) (ms1 := ms1) (i := i + 1) (F := F) (V := V) ⟨by have := HQ.out; omega, HB, HB.size, HPP.out, HLL1.out, HLE1.out, ?_, ?_, HMV.out, ?_⟩ rfl rfl rfl rfl rfl rfl rfl (by go_num)⟩, ?_⟩
        · rw [← HPE.out]; exact HPLL.out
        · rw [← HPE.out, ← HT.out]; exact HPSS.out
        · rw [← HPE.out]; exact hlr.out
        · have := HQ.out; simp [intOf]; omega
      · have t5 : decide ((0 : Int) < ((r : Nat) : Int)) = true := by simp; omega
        have t5' : decide (0 < r) = true := by simp; omega
        have hsle : ∀ x, x ∈ s → x < 1000000 := fun x hx => by have := (HSP.out x hx).1; have := HQ.out; omega
        have hs9 : s.length ≤ 1000 := by have := HSL.out; have := HQ.out; omega
        obtain ⟨A7, c7, e7, _, _, hSI⟩ := own_ints (show w2.ownsRow w0.heap.size 3 1 (.slice A5 s.length c5) s.length (zv (castL s)) by have := HPP.out.own 9; rw [HPSS.out.prs] at this; exact this) (castL_le hsle (by omega))
        simp only [Value.slice.injEq] at e7
        obtain ⟨rfl, _, rfl⟩ := e7
        have HCO := Lib.hid (contains_any A5 s.length c5 (castL s) ((i : Nat) : Int) w2 hSI (castL_length s) (by omega))
        have hdec : decide (((i : Nat) : Int) ∈ castL s) = decide (i ∈ s) := by
          simp only [castL, List.mem_map, decide_eq_decide]
          constructor
          · rintro ⟨x, hx, he⟩; obtain rfl : x = i := by omega
            exact hx
          · intro h; exact ⟨i, h, rfl⟩
        rw [hdec] at HCO
        clear hdec hSI hsle
        by_cases his : i ∈ s
        · rw [decide_eq_true his] at HCO
          have hlr := Lib.hid (Proc.held HPRC.out his)
          clear his
          go_wp2_with (go_at_call 34; (with_reducible refine (HCO.out).mono ?_); rintro e w3 ⟨rfl, rfl⟩)
          go_step3
          refine ⟨rfl, ⟨A5, c5, PartJ.mk' (loads := loads) (ms1 := ms1) (i := i + 1) (F := F) (V := V) ⟨by have := HQ.out; omega, HB, HB.size, HPP.out, HLL1.out, HLE1.out, ?_, ?_, HMV.out, ?_⟩ rfl rfl rfl rfl rfl rfl rfl (by go_num)⟩, ?_⟩
          · rw [← HPE.out]; exact HPLL.out
          · rw [← HPE.out, ← HT.out]; exact HPSS.out
          · rw [← HPE.out]; exact hlr.out
          · have := HQ.out; simp [intOf]; omega
        · rw [decide_eq_false his] at HCO
          have HPM := Lib.hid (Proc.move HPRC.out his hr0 (by rw [HLV.out, ← HT.out]; exact HFK.out))
          obtain ⟨hrn, _, _⟩ := HFK.out.yes hr0
          obtain ⟨jr, hjr⟩ : ∃ jr : Nat, ((r : Nat) : Int) - 1 = (jr : Nat) := ⟨r - 1, by omega⟩
          obtain ⟨gl, cl2, hgl⟩ := HPP.out.some 3 HPLL.out.lds (by omega)
          have HGL := Lib.hid hgl
          have hjl : jr < loads.length := by have := HLL1.out; omega
          obtain ⟨y, hy⟩ : ∃ y, y = loads[jr] := ⟨_, rfl⟩
          have HYB := Lib.hid (HLE1.out y (by rw [hy]; exact List.getElem_mem hjl))
          have HY := Lib.hid (show (zv loads)[jr]? = some (.int .i64 y) by rw [hy]; simp [zv, hjl])
          have hjn : jr < nl := by omega
          have hjm : jr ≤ 1000000 := by have := HNL.out; omega
          have hb8 : (T.length + 1) * 8 ≤ 140737488355328 := by omega
          have v7 : wrap64 (((r : Nat) : Int) - 1) = ((jr : Nat) : Int) := by rw [hjr]; exact wrap_small jr hjm
          clear hjr
          clear his hgl hy hjl
          go_upto_region 16 with (first | (go_at_call 34; (with_reducible refine (HCO.out).mono ?_); rintro e w3 ⟨rfl, rfl⟩) | (at_builtin; go_loud (refine pool_app rfl (.tmp 79) (.tmp 81) 22 3 1 (.int .i64 0) 8 rfl Try.underlying22 info_int rfl (by omega) (by omega) 8 HPSS.out.tkn [.int .i64 ((r : Nat) : Int)] rfl (by simp [Value.oneCell']) rfl rfl HPP.out HB HB.size hb8 ?_; intro A6 c6 w5 HP6 HB6; have f3 := HP6.cell 6 (HPLL.out.box_up 8 _ (by decide)) rfl (j := 3) rfl; rw [HGL.out] at f3; have f5 := HP6.cell 3 (HPLL.out.lds_up 8 _ (by decide)) HGL.out (j := jr) HY.out; have z5 := HP6.free 3 (HPLL.out.lds_up 8 _ (by decide)) HGL.out jr)))
          have HP7 := Lib.hid (HP6.store 3 (HPLL.out.lds_up 8 _ (by decide)) HGL.out jr (.int .i64 (wrap64 (y + 1))))
          have HPL7 := Lib.hid ((HPLL.out.skip 8 ⟨3, 1, .slice A6 (T.length + 1) c6, T.length + 1, zv T ++ [.int .i64 ((r : Nat) : Int)]⟩ (by omega) (.inl (by omega))).load jr (wrap64 (y + 1)))
          have HPS7 := Lib.hid ((HPSS.out.take ((r : Nat) : Int) (.slice A6 (T.length + 1) c6) _ rfl).up_ 3 ⟨3, 1, V.ld, nl, (zv loads).set jr (.int .i64 (wrap64 (y + 1)))⟩ (.inl (by omega)))
          have HB7 := HB6.setCell (p := ⟨gl, jr, none⟩) (HPP.out.lt 3 (g := gl) (by rw [HPLL.out.lds, HGL.out]; rfl)).1 (.int .i64 (wrap64 (y + 1)))
          clear HP6 HB6 f3 f5 z5 v7
          generalize up (up F 8 ⟨3, 1, .slice A6 (T.length + 1) c6, T.length + 1, zv T ++ [.int .i64 ((r : Nat) : Int)]⟩) 3 ⟨3, 1, V.ld, nl, (zv loads).set jr (.int .i64 (wrap64 (y + 1)))⟩ = F9 at HP7 HPL7 HPS7
          have hyb : -9223372036854775808 ≤ wrap64 (y + 1) ∧ wrap64 (y + 1) ≤ 9223372036854775807 := wrap_rng (y + 1)
          generalize wrap64 (y + 1) = y1 at HP7 HPL7 HB7 hyb ⊢
          generalize w5.setCell ⟨gl, jr, none⟩ (.int .i64 y1) = w6 at HP7 HB7 ⊢
          have hnd : (ms ++ ms1).length ≤ 1010000 := by
            have h1 := HPRC.out.len
            have h2 := congrArg List.length HPE.out
            rw [List.length_map] at h2
            rw [List.length_append]
            omega
          obtain ⟨n9, hn9⟩ : ∃ n, n = (ms ++ ms1).length := ⟨_, rfl⟩
          rw [← hn9] at hnd
          have HN9 := Lib.hid hn9
          have HMVS := Lib.hid (show F9 5 = ⟨38, 4, V.mv, n9, mvv (ms ++ ms1)⟩ by rw [hn9]; exact HPL7.out.mvs)
          clear hn9
          obtain ⟨Am, cm, hmvv⟩ := HP7.out.slice 5 HMVS.out
          have q0 := HP7.out.cell 6 HPL7.out.box rfl (j := 0) rfl
          have q4 := HP7.out.cell 6 HPL7.out.box rfl (j := 4) rfl
          have z4 := HP7.out.free 6 HPL7.out.box rfl 4
          rw [hmvv] at q4
          have HMVV := Lib.hid hmvv
          obtain ⟨g5, c5', hv5⟩ := HP7.out.some 9 HPS7.out.prs (by omega)
          simp only [Value.slice.injEq] at hv5
          obtain ⟨rfl, _, rfl⟩ := hv5
          have HSO := Lib.hid (fun x (hx : x ∈ s) => show x < 1000000 by have := (HSP.out x hx).1; have := HRL.out; omega)
          have hkc : kn ≤ c5 := by omega
          clear hmvv
          replace HP7 := Lib.hid HP7.out.drew
          replace HB7 := HB7.drew
          have hb9 : (n9 + 1) * 48 ≤ 140737488355328 := by omega
          have HMV9 := Lib.hid (fun E => (up_ne F9 (a := 2 * n9 + 11) (b := 5) E (by omega)).trans HMVS.out)
          have HBX9 := Lib.hid (fun E E2 => (up_ne (up F9 (2 * n9 + 11) E) (a := 5) (b := 6) E2 (by decide)).trans (HPL7.out.box_up (2 * n9 + 11) E (by omega)))
          go_region_law (first | (go_simp; go_at_call 17; (with_reducible refine (clone_pool HP7.out HPS7.out.prs kn hk (by omega)).mono ?_); rintro e w7 ⟨fv, rfl, O7, hd⟩; obtain ⟨A9, c9, rfl⟩ := own_sl O7; replace HP7 := Lib.hid (HP7.out.new (2 * n9 + 11) hd HB7.size (E := ⟨3, 1, .slice A9 kn c9, kn, zv (castL (s.take kn))⟩) O7); replace HB7 := bt HB7 HB7.size hd; replace q4 := cell_below hd q4; have o4 := fun o => cell_old o q4; clear hd O7) | (refine step_pool_app rfl (.tmp 98) (.tmp 110) 31 38 4 (.agg #[.int .i64 0, .int .i64 0, .int .i64 0, .slice none 0 0]) 48 rfl Try.underlying31 info_mv rfl (by omega) (by omega) 5 (v := .slice Am n9 cm) (n := n9) (xs := mvv (ms ++ ms1)) (by rw [← HMVV.out]; exact HMV9.out _) [.int .i64 ((p : Nat) : Int), .int .i64 ((i : Nat) : Int), .int .i64 ((r : Nat) : Int), .slice A9 kn c9] rfl (by simp [Value.oneCell']) rfl rfl HP7.out HB7 HB7.size hb9 ?_; intro Am2 cm2 w8 HP8 HB8; have s4 := HP8.cell 6 (HBX9.out _ _) rfl (j := 4) rfl; have z8 := HP8.free 6 (HBX9.out _ _) rfl 4))
          all_goals (
            obtain ⟨F2, HP10, HPL10, HPS10⟩ := move_leaf HP8 HPL7.out HPS7.out HN9.out hk
            have HB10 := HB8.setCell (p := ⟨pb, 4, none⟩) (HP8.lt 6 (g := pb) (by rw [HBX9.out]; rfl)).1 (.slice Am2 (n9 + 1) cm2)
            generalize w8.setCell ⟨pb, 4, none⟩ (.slice Am2 (n9 + 1) cm2) = w9 at HP10 HB10 ⊢
            have hxp : p < X.length := by have := HXL.out; omega
            have hxp2 : p < (X.set p (ap row P)).length := by rw [List.length_set]; exact hxp
            have hx2 : (X.set p (ap row P))[p] = ap row P := by simp
            have hql : (ap row P).length = q := by rw [ap_length, HQ.out]
            have hrw := HPL10.row p hxp2
            rw [hx2, hql] at hrw
            obtain ⟨gt, ct9, hv4⟩ := HP10.some 2 HPL10.top (by omega)
            obtain ⟨gr, cr9, hrv⟩ := HP10.some (2 * p + 10) hrw (by omega)
            obtain ⟨y2, hy2⟩ : ∃ y, (zv (ap row P))[i]? = some (.int .i64 y) := ⟨(ap row P)[i]'(by omega), by simp [zv, show i < (ap row P).length by omega]⟩
            have h10 := HP10.cell 6 HPL10.box rfl (j := 10) rfl
            rw [show ({ V with mv := Value.slice Am2 (n9 + 1) cm2 } : PV).v4 = V.v4 from rfl] at hv4 h10
            have htop := HP10.cell 2 HPL10.top hv4 (j := p) (u := rv p) (by rw [List.getElem?_map, List.getElem?_range hxp2]; rfl)
            have hcl := HP10.cell (2 * p + 10) hrw hrv (j := i) hy2
            have zcl := HP10.free (2 * p + 10) hrw hrv i
            rw [hrv] at htop
            rw [hv4, List.length_set] at h10
            have hxn : X.length = n4 := HXL.out
            rw [hxn] at h10
            have HP11 := Lib.hid (HP10.store (2 * p + 10) hrw hrv i (.int .i64 ((r : Nat) : Int)))
            have HPL11 := Lib.hid (put_plan HPL10 hxp q hql i ((r : Nat) : Int))
            have HPS11 := Lib.hid (HPS10.up_ (2 * p + 10) ⟨3, 1, rv p, q, (zv (ap row P)).set i (.int .i64 ((r : Nat) : Int))⟩ (.inr (by omega)))
            have HB11 := Lib.hid (HB10.setCell (p := ⟨gr, i, none⟩) (HP10.lt (2 * p + 10) (g := gr) (by rw [hrw, hrv]; rfl)).1 (.int .i64 ((r : Nat) : Int)))
            have HQL := Lib.hid hql
            clear HP10 HPL10 HPS10 hrw hv4 hrv hy2 hx2 hql hxp2 HP8 HB8 HB10 hxn)
          all_goals go_wp2
          all_goals go_step3
          all_goals (
            refine ⟨rfl, ⟨_, c5, PartJ.mk' (loads := loads.set jr y1) (ms1 := ms1 ++ [⟨p, i, r, .slice A9 kn c9, castL (s.take kn)⟩]) (i := i + 1) (V := { V with mv := .slice Am2 (n9 + 1) cm2 }) (tv := .slice A6 (T.length + 1) c6) ⟨by have := HQ.out; omega, HB11.out, HB11.out.size, HP11.out, by rw [List.length_set]; exact HLL1.out, set_rng HLE1.out hyb, ?_, ?_, ?_, ?_⟩ rfl rfl rfl rfl rfl rfl rfl (by go_num)⟩, ?_⟩
            · rw [List.map_append, ← HPE.out, ← List.append_assoc]
              simp only [List.map_cons, List.map_nil, ap_snoc]
              exact HPL11.out
            · rw [List.map_append, ← HPE.out]
              simp only [List.map_cons, List.map_nil, tos_snoc, ← List.append_assoc]
              rw [← HT.out]
              exact HPS11.out
            · intro m hm
              rcases List.mem_append.1 hm with h1 | h1
              · exact HMV.out m h1
              · obtain rfl := List.mem_singleton.1 h1
                exact ⟨rfl, by rw [Int.toNat_natCast]⟩
            · rw [List.map_append, ← HPE.out]
              exact HPM.out
            · have := HQ.out
              simp [intOf]
              omega)
    · obtain rfl : i = q := by omega
      clear HP HPL HPS hpr hll hle
      go_wp2
      simp only [Exit.jump]
      refine bodyPost_ret (results_none rfl _ _ _) rfl ?_
      exact ⟨F, V, loads, ms1, [], rfl, HB, HPP.out, HLL1.out, HLE1.out, by rw [List.append_nil, ← HPE.out]; exact HPLL.out, .inr ⟨by omega, rfl, HMV.out, by rw [← HPE.out, ← HQ.out]; exact HPRC.out⟩⟩
end Go.Proofs.Ytpologlcfohjeaa.MendW
