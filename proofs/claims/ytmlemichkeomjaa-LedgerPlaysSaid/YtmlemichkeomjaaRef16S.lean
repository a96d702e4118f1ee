/- stookref16.Same walked. -/
import Derived.Test.YtmlemichkeomjaaLedW
set_option linter.unusedVariables false
set_option linter.unusedSimpArgs false
namespace Go.Proofs.Ytmlemichkeomjaa.LedW
open Go.RowKit Go.Proofs.Ytmlemichkeomjaa.Base Go.Proofs.Ytmlemichkeomjaa.MendW Go.Proofs.Ytmlemichkeomjaa.ManP Go.Proofs.Ytmlemichkeomjaa.ManW Go.Proofs.Ytmlemichkeomjaa.LedP
theorem man_ext {m m' : Man} (h0 : m.task = m'.task) (h1 : m.att = m'.att) (h2 : m.sz = m'.sz) (h3 : m.sm = m'.sm) (h4 : m.hm = m'.hm) : m = m' := by
  cases m
  cases m'
  simp_all
noncomputable def sameD (m m' : Man) : Bool := @decide (m = m') (Classical.propDecidable _)
theorem sameD_yes {m m' : Man} (h : m = m') : sameD m m' = true := by unfold sameD; exact @decide_eq_true _ (Classical.propDecidable _) h
theorem sameD_no {m m' : Man} (h : m ≠ m') : sameD m m' = false := by unfold sameD; exact @decide_eq_false _ (Classical.propDecidable _) h
set_option maxRecDepth 100000 in
set_option maxHeartbeats 8000000 in
theorem same16_any (m m' : Man) (v v' : MV) (w : World) (h : ManV w v m) (h' : ManV w v' m') (hs : Slim m) (hs' : Slim m') :
    Calls Try.prog 49 #[.agg #[.int .i64 m.task, .int .i64 m.att, .slice v.A2 m.sz.length v.c2, .slice v.A3 m.sm.length v.c3, .slice v.A4 m.hm.length v.c4], .agg #[.int .i64 m'.task, .int .i64 m'.att, .slice v'.A2 m'.sz.length v'.c2, .slice v'.A3 m'.sm.length v'.c3, .slice v'.A4 m'.hm.length v'.c4]] w fun e w' => e = .returned (.bool (sameD m m')) ∧ Below w.heap.size w w' := by
  have NO := Lib.hid (fun (hn : m ≠ m') => sameD_no hn)
  have YES := Lib.hid (fun (hn : m = m') => sameD_yes hn)
  have HH := Lib.hid h
  have HH' := Lib.hid h'
  have HS := Lib.hid hs
  have HS' := Lib.hid hs'
  have l2 := hs.sz
  have l3 := hs.sm
  have l4 := hs.hm
  clear h h' hs hs'
  go_enter Try.func49, Try.ntmps49
  go_upto_region 1 with fail
  have hA := heap_alloc_new w (.cells #[.int .i64 m.task, .int .i64 m.att, .slice v.A2 m.sz.length v.c2, .slice v.A3 m.sm.length v.c3, .slice v.A4 m.hm.length v.c4] 26)
  have HB := (Below.refl w.heap.size w).alloc (Nat.le_refl _) (.cells #[.int .i64 m.task, .int .i64 m.att, .slice v.A2 m.sz.length v.c2, .slice v.A3 m.sm.length v.c3, .slice v.A4 m.hm.length v.c4] 26)
  have hz := World.size_alloc w (.cells #[.int .i64 m.task, .int .i64 m.att, .slice v.A2 m.sz.length v.c2, .slice v.A3 m.sm.length v.c3, .slice v.A4 m.hm.length v.c4] 26)
  generalize w.alloc (.cells #[.int .i64 m.task, .int .i64 m.att, .slice v.A2 m.sz.length v.c2, .slice v.A3 m.sm.length v.c3, .slice v.A4 m.hm.length v.c4] 26) = W0 at hA HB hz ⊢
  have hA2 := heap_alloc_new W0 (.cells #[.int .i64 m'.task, .int .i64 m'.att, .slice v'.A2 m'.sz.length v'.c2, .slice v'.A3 m'.sm.length v'.c3, .slice v'.A4 m'.hm.length v'.c4] 26)
  have d1 := (Below.refl W0.heap.size W0).alloc (Nat.le_refl _) (.cells #[.int .i64 m'.task, .int .i64 m'.att, .slice v'.A2 m'.sz.length v'.c2, .slice v'.A3 m'.sm.length v'.c3, .slice v'.A4 m'.hm.length v'.c4] 26)
  generalize W0.alloc (.cells #[.int .i64 m'.task, .int .i64 m'.att, .slice v'.A2 m'.sz.length v'.c2, .slice v'.A3 m'.sm.length v'.c3, .slice v'.A4 m'.hm.length v'.c4] 26) = W at hA2 d1 ⊢
  replace hA := (d1.block _ (by omega)).trans hA
  replace HB := bt HB HB.size d1
  rw [hz] at hA2
  have p0 : W.cell? ⟨w.heap.size, 0, none⟩ = some (.int .i64 m.task) := by rw [cell_of_row _ _ _ _ _ _ hA]; rfl
  have q0 : W.cell? ⟨w.heap.size + 1, 0, none⟩ = some (.int .i64 m'.task) := by rw [cell_of_row _ _ _ _ _ _ hA2]; rfl
  have p1 : W.cell? ⟨w.heap.size, 1, none⟩ = some (.int .i64 m.att) := by rw [cell_of_row _ _ _ _ _ _ hA]; rfl
  have q1 : W.cell? ⟨w.heap.size + 1, 1, none⟩ = some (.int .i64 m'.att) := by rw [cell_of_row _ _ _ _ _ _ hA2]; rfl
  have p2 : W.cell? ⟨w.heap.size, 2, none⟩ = some (.slice v.A2 m.sz.length v.c2) := by rw [cell_of_row _ _ _ _ _ _ hA]; rfl
  have q2 : W.cell? ⟨w.heap.size + 1, 2, none⟩ = some (.slice v'.A2 m'.sz.length v'.c2) := by rw [cell_of_row _ _ _ _ _ _ hA2]; rfl
  have p3 : W.cell? ⟨w.heap.size, 3, none⟩ = some (.slice v.A3 m.sm.length v.c3) := by rw [cell_of_row _ _ _ _ _ _ hA]; rfl
  have q3 : W.cell? ⟨w.heap.size + 1, 3, none⟩ = some (.slice v'.A3 m'.sm.length v'.c3) := by rw [cell_of_row _ _ _ _ _ _ hA2]; rfl
  have p4 : W.cell? ⟨w.heap.size, 4, none⟩ = some (.slice v.A4 m.hm.length v.c4) := by rw [cell_of_row _ _ _ _ _ _ hA]; rfl
  have q4 : W.cell? ⟨w.heap.size + 1, 4, none⟩ = some (.slice v'.A4 m'.hm.length v'.c4) := by rw [cell_of_row _ _ _ _ _ _ hA2]; rfl
  have HW := Lib.hid (HH.out.below HB)
  have HW' := Lib.hid (HH'.out.below HB)
  clear hA hA2 d1 hz
  by_cases k0 : m.task = m'.task
  rotate_left
  · have t0 : (m.task != m'.task) = true := by simp; omega
    have K := Lib.hid k0
    clear k0
    have HF := Lib.hid (NO.out fun hr => by exact K.out (by rw [hr]))
    go_wp2
    go_ret
    exact ⟨by rw [HF.out]; rfl, HB⟩
  have t0 : (m.task != m'.task) = false := by simp; omega
  have K0 := Lib.hid k0
  clear k0
  by_cases k1 : m.att = m'.att
  rotate_left
  · have t1 : (m.att != m'.att) = true := by simp; omega
    have K := Lib.hid k1
    clear k1
    have HF := Lib.hid (NO.out fun hr => by exact K.out (by rw [hr]))
    go_wp2
    go_ret
    exact ⟨by rw [HF.out]; rfl, HB⟩
  have t1 : (m.att != m'.att) = false := by simp; omega
  have K1 := Lib.hid k1
  clear k1
  by_cases k2 : m.sz.length = m'.sz.length
  rotate_left
  · have t2 : (((m.sz.length : Nat) : Int) != ((m'.sz.length : Nat) : Int)) = true := by simp; omega
    have K := Lib.hid k2
    clear k2
    have HF := Lib.hid (NO.out fun hr => by exact K.out (by rw [hr]))
    go_wp2
    go_ret
    exact ⟨by rw [HF.out]; rfl, HB⟩
  have t2 : (((m.sz.length : Nat) : Int) != ((m'.sz.length : Nat) : Int)) = false := by simp; omega
  have K2 := Lib.hid k2
  clear k2
  by_cases k3 : m.sm.length = m'.sm.length
  rotate_left
  · have t3 : (((m.sm.length : Nat) : Int) != ((m'.sm.length : Nat) : Int)) = true := by simp; omega
    have K := Lib.hid k3
    clear k3
    have HF := Lib.hid (NO.out fun hr => by exact K.out (by rw [hr]))
    go_wp2
    go_ret
    exact ⟨by rw [HF.out]; rfl, HB⟩
  have t3 : (((m.sm.length : Nat) : Int) != ((m'.sm.length : Nat) : Int)) = false := by simp; omega
  have K3 := Lib.hid k3
  clear k3
  by_cases k4 : m.hm.length = m'.hm.length
  rotate_left
  · have t4 : (((m.hm.length : Nat) : Int) != ((m'.hm.length : Nat) : Int)) = true := by simp; omega
    have K := Lib.hid k4
    clear k4
    have HF := Lib.hid (NO.out fun hr => by exact K.out (by rw [hr]))
    go_wp2
    go_ret
    exact ⟨by rw [HF.out]; rfl, HB⟩
  have t4 : (((m.hm.length : Nat) : Int) != ((m'.hm.length : Nat) : Int)) = false := by simp; omega
  have K4 := Lib.hid k4
  clear k4
  go_wp2
  go_loopw [5] (fun a wr => ∃ k : Nat, k ≤ m.sz.length ∧ a = .int .i64 k ∧ Below w.heap.size w wr ∧ Below W.heap.size W wr ∧ ∀ j (hj : j < m.sz.length) (hj2 : j < m'.sz.length), j < k → m.sz[j] = m'.sz[j]) (fun a _ => m.sz.length - (intOf a).toNat)
  case atStart => exact ⟨0, by omega, rfl, HB, Below.refl _ _, fun j _ _ h => by omega⟩
  case round =>
    clear HB
    obtain ⟨k, hk, rfl, HB, hd, hall⟩ := hrel
    have HD := Lib.hid hd
    have HALL2 := Lib.hid hall
    clear hall
    have r2 := cell_below hd p2
    have s2 := cell_below hd q2
    have r3 := cell_below hd p3
    have s3 := cell_below hd q3
    have r4 := cell_below hd p4
    have s4 := cell_below hd q4
    have HV := Lib.hid (HW.out.below hd)
    have HV' := Lib.hid (HW'.out.below hd)
    clear hd
    by_cases hlt : k < m.sz.length
    · have hlt2 : k < m'.sz.length := by have := K2.out; omega
      have i1 : (k : Int) < ((m.sz.length : Nat) : Int) := by omega
      have i2 : (k : Int) < ((m'.sz.length : Nat) : Int) := by omega
      obtain ⟨b, o, e1, c1⟩ := HV.out.man.i2.block (by omega)
      obtain ⟨b', o', e2, c2⟩ := HV'.out.man.i2.block (by omega)
      have g1 := c1 k hlt
      have g2 := c2 k hlt2
      rw [e1] at r2
      rw [e2] at s2
      obtain ⟨x, hx⟩ : ∃ x, x = m.sz[k] := ⟨_, rfl⟩
      obtain ⟨y, hy⟩ : ∃ y, y = m'.sz[k] := ⟨_, rfl⟩
      rw [← hx] at g1
      rw [← hy] at g2
      have HX := Lib.hid hx
      have HY := Lib.hid hy
      clear c1 c2 e1 e2 hx hy p0 p1 p2 p3 p4 q0 q1 q2 q3 q4
      by_cases hxy : x = y
      · have t9 : (x != y) = false := by simp [hxy]
        have HXY := Lib.hid hxy
        clear hxy
        go_upto_region 6 with fail
        go_quiet (fail)
        go_wp2
        go_roundw
        case rel =>
          refine ⟨k + 1, by omega, by go_num, below_drewN HB _, below_drewN HD.out _, fun j hj hj2 hjk => ?_⟩
          by_cases ej : j = k
          · subst ej; rw [← HX.out, ← HY.out]; exact HXY.out
          · exact HALL2.out j hj hj2 (by omega)
        case measure => simp [intOf]; omega
      · have t9 : (x != y) = true := by simp [hxy]
        have HF := Lib.hid (NO.out fun hr => hxy (by rw [HX.out, HY.out]; simp [hr]))
        clear hxy
        go_upto_region 6 with fail
        go_quiet (fail)
        go_wp2
        go_ret
        exact ⟨by rw [HF.out]; rfl, below_drewN HB _⟩
    · obtain rfl : k = m.sz.length := by omega
      clear r2 r3 r4 s2 s3 s4 HV HV'
      have r2 := cell_below HD.out p2
      have r3 := cell_below HD.out p3
      have r4 := cell_below HD.out p4
      have s3 := cell_below HD.out q3
      have s4 := cell_below HD.out q4
      go_wp2
      clear r2 r3 r4 s3 s4
      go_loopw [6] (fun a wr => ∃ k : Nat, k ≤ m.sm.length ∧ a = .int .i64 k ∧ Below w.heap.size w wr ∧ Below W.heap.size W wr ∧ ∀ j (hj : j < m.sm.length) (hj2 : j < m'.sm.length), j < k → m.sm[j] = m'.sm[j]) (fun a _ => m.sm.length - (intOf a).toNat)
      case atStart => exact ⟨0, by omega, rfl, HB, HD.out, fun j _ _ h => by omega⟩
      case round =>
        clear HB
        clear HD
        obtain ⟨k, hk, rfl, HB, hd, hall⟩ := hrel
        have HD := Lib.hid hd
        have HALL3 := Lib.hid hall
        clear hall
        have r2 := cell_below hd p2
        have s2 := cell_below hd q2
        have r3 := cell_below hd p3
        have s3 := cell_below hd q3
        have r4 := cell_below hd p4
        have s4 := cell_below hd q4
        have HV := Lib.hid (HW.out.below hd)
        have HV' := Lib.hid (HW'.out.below hd)
        clear hd
        by_cases hlt : k < m.sm.length
        · have hlt2 : k < m'.sm.length := by have := K3.out; omega
          have i1 : (k : Int) < ((m.sm.length : Nat) : Int) := by omega
          have i2 : (k : Int) < ((m'.sm.length : Nat) : Int) := by omega
          obtain ⟨b, o, e1, c1⟩ := HV.out.man.i3.block (by omega)
          obtain ⟨b', o', e2, c2⟩ := HV'.out.man.i3.block (by omega)
          have g1 := c1 k hlt
          have g2 := c2 k hlt2
          rw [e1] at r3
          rw [e2] at s3
          obtain ⟨x, hx⟩ : ∃ x, x = m.sm[k] := ⟨_, rfl⟩
          obtain ⟨y, hy⟩ : ∃ y, y = m'.sm[k] := ⟨_, rfl⟩
          rw [← hx] at g1
          rw [← hy] at g2
          have HX := Lib.hid hx
          have HY := Lib.hid hy
          clear c1 c2 e1 e2 hx hy p0 p1 p2 p3 p4 q0 q1 q2 q3 q4
          by_cases hxy : x = y
          · have t9 : (x != y) = false := by simp [hxy]
            have HXY := Lib.hid hxy
            clear hxy
            go_upto_region 11 with fail
            go_quiet (fail)
            go_wp2
            go_roundw
            case rel =>
              refine ⟨k + 1, by omega, by go_num, below_drewN HB _, below_drewN HD.out _, fun j hj hj2 hjk => ?_⟩
              by_cases ej : j = k
              · subst ej; rw [← HX.out, ← HY.out]; exact HXY.out
              · exact HALL3.out j hj hj2 (by omega)
            case measure => simp [intOf]; omega
          · have t9 : (x != y) = true := by simp [hxy]
            have HF := Lib.hid (NO.out fun hr => hxy (by rw [HX.out, HY.out]; simp [hr]))
            clear hxy
            go_upto_region 11 with fail
            go_quiet (fail)
            go_wp2
            go_ret
            exact ⟨by rw [HF.out]; rfl, below_drewN HB _⟩
        · obtain rfl : k = m.sm.length := by omega
          clear r2 r3 r4 s2 s3 s4 HV HV'
          have r2 := cell_below HD.out p2
          have r3 := cell_below HD.out p3
          have r4 := cell_below HD.out p4
          have s3 := cell_below HD.out q3
          have s4 := cell_below HD.out q4
          go_wp2
          clear r2 r3 r4 s3 s4
          go_loopw [7, 8] (fun a _ wr => ∃ k : Nat, k ≤ m.hm.length ∧ a = .int .i64 k ∧ Below w.heap.size w wr ∧ Below W.heap.size W wr ∧ ∀ j (hj : j < m.hm.length) (hj2 : j < m'.hm.length), j < k → m.hm[j] = m'.hm[j]) (fun a _ _ => m.hm.length - (intOf a).toNat)
          case atStart => exact ⟨0, by omega, rfl, HB, HD.out, fun j _ _ h => by omega⟩
          case round =>
            clear HB HD
            obtain ⟨k, hk, rfl, HB, hd, hall⟩ := hrel
            have HD := Lib.hid hd
            have HALL4 := Lib.hid hall
            clear hall
            have r4 := cell_below hd p4
            have s4 := cell_below hd q4
            have HV := Lib.hid (HW.out.below hd)
            have HV' := Lib.hid (HW'.out.below hd)
            clear hd
            by_cases hlt : k < m.hm.length
            · have hlt2 : k < m'.hm.length := by have := K4.out; omega
              have i1 : (k : Int) < ((m.hm.length : Nat) : Int) := by omega
              have i2 : (k : Int) < ((m'.hm.length : Nat) : Int) := by omega
              obtain ⟨b, o, e1, c1⟩ := HV.out.man.i4.block (by omega)
              obtain ⟨b', o', e2, c2⟩ := HV'.out.man.i4.block (by omega)
              obtain ⟨B, cb, g1, _, hI⟩ := c1 k hlt
              obtain ⟨B', cb', g2, _, hI'⟩ := c2 k hlt2
              rw [e1] at r4
              rw [e2] at s4
              obtain ⟨x, hx⟩ : ∃ x, x = m.hm[k] := ⟨_, rfl⟩
              obtain ⟨y, hy⟩ : ∃ y, y = m'.hm[k] := ⟨_, rfl⟩
              have hxl : x.length ≤ 30 := by rw [hx]; exact HS.out.row _ (List.getElem_mem hlt)
              have hyl : y.length ≤ 30 := by rw [hy]; exact HS'.out.row _ (List.getElem_mem hlt2)
              rw [← hx] at g1 hI
              rw [← hy] at g2 hI'
              have HX := Lib.hid hx
              have HY := Lib.hid hy
              have HI := Lib.hid hI
              have HI' := Lib.hid hI'
              clear c1 c2 e1 e2 hx hy hI hI' p0 p1 p2 p3 p4 q0 q1 q2 q3 q4 HV HV'
              by_cases hxl2 : x.length = y.length
              · have t9 : (((x.length : Nat) : Int) != ((y.length : Nat) : Int)) = false := by simp; omega
                have HXL := Lib.hid hxl2
                clear hxl2
                go_upto_region 16 with fail
                go_quiet (fail)
                go_wp2
                skip
                go_loopw [8] (fun a wq => ∃ q : Nat, q ≤ x.length ∧ a = .int .i64 q ∧ Below wr.heap.size wr wq ∧ ∀ j (hj : j < x.length) (hj2 : j < y.length), j < q → x[j] = y[j]) (fun a _ => x.length - (intOf a).toNat)
                case atStart => exact ⟨0, by omega, rfl, below_drewN (Below.refl _ _) _, fun j _ _ h => by omega⟩
                case round =>
                  obtain ⟨q, hq, rfl, hd, hall⟩ := hrel
                  have HQ := Lib.hid hall
                  have HE := Lib.hid hd
                  replace r4 := cell_below hd r4
                  replace s4 := cell_below hd s4
                  replace g1 := cell_below hd g1
                  replace g2 := cell_below hd g2
                  have HJ := Lib.hid (HI.out.below hd)
                  have HJ' := Lib.hid (HI'.out.below hd)
                  have HB0 := Lib.hid HB
                  replace HB := HB.trans (hd.mono HB.size)
                  clear hall hd
                  by_cases hql : q < x.length
                  · have hql2 : q < y.length := by have := HXL.out; omega
                    have i3 : (q : Int) < ((x.length : Nat) : Int) := by omega
                    have i4 : (q : Int) < ((y.length : Nat) : Int) := by omega
                    obtain ⟨bb, ob, eb, cx⟩ := HJ.out.block (by omega)
                    obtain ⟨bc, oc, ec, cy⟩ := HJ'.out.block (by omega)
                    have gx := cx q hql
                    have gy := cy q hql2
                    subst eb
                    subst ec
                    obtain ⟨z, hz⟩ : ∃ z, z = x[q] := ⟨_, rfl⟩
                    obtain ⟨u, hu⟩ : ∃ u, u = y[q] := ⟨_, rfl⟩
                    rw [← hz] at gx
                    rw [← hu] at gy
                    have HZ := Lib.hid hz
                    have HU := Lib.hid hu
                    clear cx cy hz hu
                    by_cases hzu : z = u
                    · have t8 : (z != u) = false := by simp [hzu]
                      have HZU := Lib.hid hzu
                      clear hzu
                      go_upto_region 21 with fail
                      go_quiet (fail)
                      go_wp2
                      go_roundw
                      case rel =>
                        refine ⟨q + 1, by omega, by go_num, below_drewN HE.out _, fun j hj hj2 hjk => ?_⟩
                        by_cases ej : j = q
                        · subst ej; rw [← HZ.out, ← HU.out]; exact HZU.out
                        · exact HQ.out j hj hj2 (by omega)
                      case measure => simp [intOf]; omega
                    · have t8 : (z != u) = true := by simp [hzu]
                      have exy : m = m' → x = y := fun hr => by rw [HX.out, HY.out]; simp [hr]
                      have HF := Lib.hid (NO.out fun hr => hzu (by rw [HZ.out, HU.out]; simp [exy hr]))
                      clear exy
                      clear hzu
                      go_upto_region 21 with fail
                      go_quiet (fail)
                      go_wp2
                      go_ret
                      exact ⟨by rw [HF.out]; rfl, below_drewN HB _⟩
                  · obtain rfl : q = x.length := by omega
                    have HXE := Lib.hid (show x = y from List.ext_getElem HXL.out fun j hj hj2 => HQ.out j hj hj2 hj)
                    go_wp2
                    go_roundw
                    case rel =>
                      refine ⟨k + 1, by omega, by go_num, HB, HD.out.trans (HE.out.mono HD.out.size), fun j hj hj2 hjk => ?_⟩
                      by_cases ej : j = k
                      · subst ej; rw [← HX.out, ← HY.out]; exact HXE.out
                      · exact HALL4.out j hj hj2 (by omega)
                    case measure => simp [intOf]; omega
              · have t9 : (((x.length : Nat) : Int) != ((y.length : Nat) : Int)) = true := by simp; omega
                have HF := Lib.hid (NO.out fun hr => hxl2 (by rw [HX.out, HY.out]; simp [hr]))
                clear hxl2
                go_upto_region 16 with fail
                go_quiet (fail)
                go_wp2
                go_ret
                exact ⟨by rw [HF.out]; rfl, below_drewN HB _⟩
            · obtain rfl : k = m.hm.length := by omega
              have HT := Lib.hid (YES.out (by
                have h0 := K0.out
                have h1 := K1.out
                have h2 : m.sz = m'.sz := List.ext_getElem K2.out fun j hj hj2 => HALL2.out j hj hj2 hj
                have h3 : m.sm = m'.sm := List.ext_getElem K3.out fun j hj hj2 => HALL3.out j hj hj2 hj
                have h4 : m.hm = m'.hm := List.ext_getElem K4.out fun j hj hj2 => HALL4.out j hj hj2 hj
                exact man_ext h0 h1 h2 h3 h4))
              go_wp2
              go_ret
              exact ⟨by rw [HT.out]; rfl, HB⟩
end Go.Proofs.Ytmlemichkeomjaa.LedW
