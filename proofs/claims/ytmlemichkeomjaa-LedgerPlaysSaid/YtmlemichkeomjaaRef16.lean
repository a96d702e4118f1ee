/- stookref16.Right walked. -/
import Derived.Test.YtmlemichkeomjaaLedW
set_option linter.unusedVariables false
set_option linter.unusedSimpArgs false
namespace Go.Proofs.Ytmlemichkeomjaa.LedW
open Go.RowKit Go.Proofs.Ytmlemichkeomjaa.Base Go.Proofs.Ytmlemichkeomjaa.MendW Go.Proofs.Ytmlemichkeomjaa.ManP Go.Proofs.Ytmlemichkeomjaa.ManW Go.Proofs.Ytmlemichkeomjaa.LedP
theorem right_iff {m : Man} {parts n : Int} : right m parts n = true ↔ (0 ≤ m.task ∧ m.task ≤ 2147483647) ∧ (0 ≤ m.att ∧ m.att ≤ 2147483647) ∧ (m.sz.length : Int) = parts ∧ (m.sm.length : Int) = parts ∧ (m.hm.length : Int) = parts ∧ (∀ x ∈ m.sz, badS x = false) ∧ ∀ l ∈ m.hm, Homely l n := by
  unfold right rightB
  simp only [Bool.and_eq_true, decide_eq_true_eq, Bool.not_eq_true', idB, List.any_eq_false, badH]
  constructor
  · rintro ⟨⟨⟨⟨⟨⟨h1, h2⟩, h3⟩, h4⟩, h5⟩, h6⟩, h7⟩
    refine ⟨h1, h2, h3, h4, h5, fun x hx => by simpa using h6 x hx, fun l hl => ?_⟩
    apply Classical.byContradiction
    intro hn
    have := h7 l hl
    rw [homelyD_false hn] at this
    exact this rfl
  · rintro ⟨h1, h2, h3, h4, h5, h6, h7⟩
    refine ⟨⟨⟨⟨⟨⟨h1, h2⟩, h3⟩, h4⟩, h5⟩, fun x hx => by simp [h6 x hx]⟩, fun l hl => ?_⟩
    rw [homelyD_true (h7 l hl)]
    decide
set_option maxRecDepth 100000 in
set_option maxHeartbeats 8000000 in
theorem right16_any (m : Man) (v : MV) (parts n : Int) (w : World) (h : ManV w v m) (hs : Slim m) :
    Calls Try.prog 53 #[.agg #[.int .i64 m.task, .int .i64 m.att, .slice v.A2 m.sz.length v.c2, .slice v.A3 m.sm.length v.c3, .slice v.A4 m.hm.length v.c4], .int .i64 parts, .int .i64 n] w fun e w' => e = .returned (.bool (right m parts n)) ∧ Below w.heap.size w w' := by
  obtain ⟨R, hR⟩ : ∃ R, R = right m parts n := ⟨_, rfl⟩
  rw [← hR]
  have HI := Lib.hid (right_iff (m := m) (parts := parts) (n := n))
  rw [← hR] at HI
  have NO := Lib.hid (fun (hn : ¬ (R = true)) => show R = false from by simpa using hn)
  have HH := Lib.hid h
  have HS := Lib.hid hs
  have l2 := hs.sz
  have l3 := hs.sm
  have l4 := hs.hm
  clear hR h hs
  go_enter Try.func53, Try.ntmps53
  go_upto_region 1 with fail
  have hA := heap_alloc_new w (.cells #[.int .i64 m.task, .int .i64 m.att, .slice v.A2 m.sz.length v.c2, .slice v.A3 m.sm.length v.c3, .slice v.A4 m.hm.length v.c4] 26)
  have HB := (Below.refl w.heap.size w).alloc (Nat.le_refl _) (.cells #[.int .i64 m.task, .int .i64 m.att, .slice v.A2 m.sz.length v.c2, .slice v.A3 m.sm.length v.c3, .slice v.A4 m.hm.length v.c4] 26)
  generalize w.alloc (.cells #[.int .i64 m.task, .int .i64 m.att, .slice v.A2 m.sz.length v.c2, .slice v.A3 m.sm.length v.c3, .slice v.A4 m.hm.length v.c4] 26) = W at hA HB ⊢
  have p0 : W.cell? ⟨w.heap.size, 0, none⟩ = some (.int .i64 m.task) := by rw [cell_of_row _ _ _ _ _ _ hA]; rfl
  have p1 : W.cell? ⟨w.heap.size, 1, none⟩ = some (.int .i64 m.att) := by rw [cell_of_row _ _ _ _ _ _ hA]; rfl
  have p2 : W.cell? ⟨w.heap.size, 2, none⟩ = some (.slice v.A2 m.sz.length v.c2) := by rw [cell_of_row _ _ _ _ _ _ hA]; rfl
  have p3 : W.cell? ⟨w.heap.size, 3, none⟩ = some (.slice v.A3 m.sm.length v.c3) := by rw [cell_of_row _ _ _ _ _ _ hA]; rfl
  have p4 : W.cell? ⟨w.heap.size, 4, none⟩ = some (.slice v.A4 m.hm.length v.c4) := by rw [cell_of_row _ _ _ _ _ _ hA]; rfl
  have HW := Lib.hid (HH.out.below HB)
  clear hA
  by_cases k0 : m.task < 0
  · have t0 : decide (m.task < 0) = true := by simpa using k0
    have HF := Lib.hid (NO.out fun hr => by have h := HI.out.1 hr; have := h.1.1; omega)
    go_wp2
    go_ret
    exact ⟨by rw [HF.out]; rfl, HB⟩
  have t0 : decide (m.task < 0) = false := by simpa using k0
  by_cases k1 : 2147483647 < m.task
  · have t1 : decide (2147483647 < m.task) = true := by simpa using k1
    have HF := Lib.hid (NO.out fun hr => by have h := HI.out.1 hr; have := h.1.2; omega)
    go_wp2
    go_ret
    exact ⟨by rw [HF.out]; rfl, HB⟩
  have t1 : decide (2147483647 < m.task) = false := by simpa using k1
  by_cases k2 : m.att < 0
  · have t2 : decide (m.att < 0) = true := by simpa using k2
    have HF := Lib.hid (NO.out fun hr => by have h := HI.out.1 hr; have := h.2.1.1; omega)
    go_wp2
    go_ret
    exact ⟨by rw [HF.out]; rfl, HB⟩
  have t2 : decide (m.att < 0) = false := by simpa using k2
  by_cases k3 : 2147483647 < m.att
  · have t3 : decide (2147483647 < m.att) = true := by simpa using k3
    have HF := Lib.hid (NO.out fun hr => by have h := HI.out.1 hr; have := h.2.1.2; omega)
    go_wp2
    go_ret
    exact ⟨by rw [HF.out]; rfl, HB⟩
  have t3 : decide (2147483647 < m.att) = false := by simpa using k3
  by_cases j0 : ((m.sz.length : Nat) : Int) = parts
  · skip
    have u0 : (((m.sz.length : Nat) : Int) != parts) = false := by simp [j0]
    by_cases j1 : ((m.sm.length : Nat) : Int) = parts
    · skip
      have u1 : (((m.sm.length : Nat) : Int) != parts) = false := by simp [j1]
      by_cases j2 : ((m.hm.length : Nat) : Int) = parts
      · skip
        have u2 : (((m.hm.length : Nat) : Int) != parts) = false := by simp [j2]
        have HK := Lib.hid (show (0 ≤ m.task ∧ m.task ≤ 2147483647) ∧ (0 ≤ m.att ∧ m.att ≤ 2147483647) ∧ (m.sz.length : Int) = parts ∧ (m.sm.length : Int) = parts ∧ (m.hm.length : Int) = parts from ⟨by omega, by omega, j0, j1, j2⟩)
        go_wp2
        go_loopw [7, 8, 9] (fun a _ _ wr => ∃ k : Nat, k ≤ m.sz.length ∧ a = .int .i64 k ∧ Below w.heap.size w wr ∧ Below W.heap.size W wr ∧ (∀ j (hj : j < m.sz.length), j < k → badS m.sz[j] = false) ∧ ∀ j (hj : j < m.hm.length), j < k → Homely m.hm[j] n) (fun a _ _ _ => m.sz.length - (intOf a).toNat)
        case atStart => exact ⟨0, by omega, rfl, HB, Below.refl _ _, fun j _ h => by omega, fun j _ h => by omega⟩
        case round =>
          clear HB
          obtain ⟨k, hk, rfl, HB, HD, hs1, hh1⟩ := hrel
          have HS1 := Lib.hid hs1
          have HH1 := Lib.hid hh1
          replace p2 := cell_below HD p2
          replace p4 := cell_below HD p4
          have HV := Lib.hid (HW.out.below HD)
          have HDD := Lib.hid HD
          clear hs1 hh1 HD HW p0 p1 p3
          by_cases hlt : k < m.sz.length
          · have kp : (k : Int) < parts := by omega
            have hk4 : k < m.hm.length := by omega
            obtain ⟨b2, o2, e2, c2'⟩ := HV.out.man.i2.block (by omega)
            have g2 := c2' k hlt
            rw [e2] at p2
            obtain ⟨b4, o4, e4, c4'⟩ := HV.out.man.i4.block (by omega)
            obtain ⟨B, cb, g4, hcb, hI⟩ := c4' k hk4
            rw [e4] at p4
            clear c2' c4' e2 e4
            obtain ⟨x, hx⟩ : ∃ x, x = m.sz[k] := ⟨_, rfl⟩
            obtain ⟨row, hrow⟩ : ∃ l, l = m.hm[k] := ⟨_, rfl⟩
            rw [← hx] at g2
            rw [← hrow] at g4 hcb hI
            have hrl : row.length ≤ 30 := by rw [hrow]; exact HS.out.row _ (List.getElem_mem hk4)
            have HX := Lib.hid hx
            have HRW := Lib.hid hrow
            have HIR := Lib.hid hI
            clear hx hrow hI hcb
            by_cases x0 : x < 0
            · have y0 : decide (x < 0) = true := by simpa using x0
              have HF := Lib.hid (NO.out fun hr => by have h := HI.out.1 hr; have h9 := h.2.2.2.2.2.1 x (by rw [HX.out]; exact List.getElem_mem _); simp [badS] at h9; omega)
              go_wp2
              go_ret
              exact ⟨by rw [HF.out]; rfl, HB⟩
            have y0 : decide (x < 0) = false := by simpa using x0
            by_cases x1 : 16777216 < x
            · have y1 : decide (16777216 < x) = true := by simpa using x1
              have HF := Lib.hid (NO.out fun hr => by have h := HI.out.1 hr; have h9 := h.2.2.2.2.2.1 x (by rw [HX.out]; exact List.getElem_mem _); simp [badS] at h9; omega)
              go_wp2
              go_ret
              exact ⟨by rw [HF.out]; rfl, HB⟩
            have y1 : decide (16777216 < x) = false := by simpa using x1
            by_cases x2 : ((row.length : Nat) : Int) = n
            · subst x2
              have y2 : (((row.length : Nat) : Int) != ((row.length : Nat) : Int)) = false := by simp
              go_wp2
              go_loopw [8, 9] (fun a _ wq => ∃ q : Nat, q ≤ row.length ∧ a = .int .i64 q ∧ Below wr.heap.size wr wq ∧ (∀ i (hi : i < row.length), i < q → (1 ≤ row[i] ∧ row[i] ≤ 16) ∧ ∀ j (hj : j < i), row[i] ≠ row[j]'(by omega))) (fun a _ _ => row.length - (intOf a).toNat)
              case atStart => exact ⟨0, by omega, rfl, Below.refl _ _, fun i _ h => by omega⟩
              case round =>
                obtain ⟨q, hq, rfl, hd, hok⟩ := hrel
                have HOK := Lib.hid hok
                have HB0 := Lib.hid HB
                have HE := Lib.hid hd
                replace p4 := cell_below hd p4
                replace g4 := cell_below hd g4
                have HIQ := Lib.hid (HIR.out.below hd)
                replace HB := HB.trans (hd.mono HB.size)
                clear hok hd p2 g2
                by_cases hql : q < row.length
                · have hq2 : (q : Int) < (row.length : Int) := by omega
                  obtain ⟨bb, ob, eb, cb'⟩ := HIQ.out.block (by omega)
                  have gq := cb' q hql
                  have CB := Lib.hid cb'
                  subst eb
                  clear cb'
                  obtain ⟨z, hz⟩ : ∃ z, z = row[q] := ⟨_, rfl⟩
                  rw [← hz] at gq
                  have HZ := Lib.hid hz
                  clear hz
                  by_cases z0 : z < 1
                  · have yz0 : decide (z < 1) = true := by simpa using z0
                    have HF := Lib.hid (NO.out fun hr => by have h := HI.out.1 hr; have h9 := (h.2.2.2.2.2.2 row (by rw [HRW.out]; exact List.getElem_mem _)).rng q hql; rw [← HZ.out] at h9; omega)
                    go_wp2
                    go_ret
                    exact ⟨by rw [HF.out]; rfl, HB⟩
                  have yz0 : decide (z < 1) = false := by simpa using z0
                  by_cases z1 : 16 < z
                  · have yz1 : decide (16 < z) = true := by simpa using z1
                    have HF := Lib.hid (NO.out fun hr => by have h := HI.out.1 hr; have h9 := (h.2.2.2.2.2.2 row (by rw [HRW.out]; exact List.getElem_mem _)).rng q hql; rw [← HZ.out] at h9; omega)
                    go_wp2
                    go_ret
                    exact ⟨by rw [HF.out]; rfl, HB⟩
                  have yz1 : decide (16 < z) = false := by simpa using z1
                  have zz : 1 ≤ z ∧ z ≤ 16 := by omega
                  go_wp2
                  go_loopw [9] (fun a wt => ∃ r : Nat, r ≤ q ∧ a = .int .i64 r ∧ Below wr.heap.size wr wt ∧ ∀ j (hj : j < r) (hj2 : j < row.length), z ≠ row[j]) (fun a _ => q - (intOf a).toNat)
                  case atStart => exact ⟨0, by omega, rfl, Below.refl _ _, fun j h => by omega⟩
                  case round =>
                    obtain ⟨r, hr, rfl, hd, hne⟩ := hrel
                    have HNE := Lib.hid hne
                    have HE2 := Lib.hid hd
                    replace p4 := cell_below hd p4
                    replace g4 := cell_below hd g4
                    replace gq := cell_below hd gq
                    have HB1 := Lib.hid HB
                    replace HB := HB.trans (hd.mono HB.size)
                    by_cases hrq : r < q
                    · have hr2 : (r : Int) < (q : Int) := by omega
                      have gr := cell_below hd (CB.out r (by omega))
                      obtain ⟨u, hu⟩ : ∃ u, u = row[r]'(by omega) := ⟨_, rfl⟩
                      rw [← hu] at gr
                      have HU := Lib.hid hu
                      have hr3 : (r : Int) < (row.length : Int) := by omega
                      clear hu hne hd
                      by_cases hzu : z = u
                      · have yz : (z == u) = true := by simp [hzu]
                        have HF := Lib.hid (NO.out fun hr9 => by have h := HI.out.1 hr9; exact absurd (show row[q] = row[r]'(by omega) from by rw [← HZ.out, ← HU.out]; exact hzu) ((h.2.2.2.2.2.2 row (by rw [HRW.out]; exact List.getElem_mem _)).ne q hql r hrq))
                        clear hzu
                        go_upto_region 16 with fail
                        go_quiet (fail)
                        go_wp2
                        go_ret
                        exact ⟨by rw [HF.out]; rfl, below_drewN HB _⟩
                      · have yz : (z == u) = false := by simp [hzu]
                        have HZU := Lib.hid hzu
                        clear hzu
                        go_upto_region 16 with fail
                        go_quiet (fail)
                        go_wp2
                        go_roundw
                        case rel =>
                          refine ⟨r + 1, by omega, by go_num, below_drewN HE2.out _, fun j hj hj2 => ?_⟩
                          by_cases ej : j = r
                          · subst ej; rw [← HU.out]; exact HZU.out
                          · exact HNE.out j (by omega) hj2
                        case measure => simp [intOf]; omega
                    · obtain rfl : r = q := by omega
                      go_wp2
                      go_roundw
                      case rel =>
                        refine ⟨r + 1, by omega, by go_num, HE.out.trans (HE2.out.mono HE.out.size), fun i hi hiq => ?_⟩
                        by_cases ei : i = r
                        · subst ei
                          rw [← HZ.out]
                          exact ⟨zz, fun j hj => HNE.out j hj (by omega)⟩
                        · exact HOK.out i hi (by omega)
                      case measure => simp [intOf]; omega
                · obtain rfl : q = row.length := by omega
                  have HM := Lib.hid (show Homely row (row.length : Nat) from ⟨rfl, fun i hi => (HOK.out i hi hi).1, fun i hi => (HOK.out i hi hi).2⟩)
                  go_wp2
                  go_roundw
                  case rel =>
                    refine ⟨k + 1, by omega, by go_num, HB, HDD.out.trans (HE.out.mono HDD.out.size), fun j hj hjk => ?_, fun j hj hjk => ?_⟩
                    · by_cases ej : j = k
                      · subst ej; rw [← HX.out]; simp [badS]; omega
                      · exact HS1.out j hj (by omega)
                    · by_cases ej : j = k
                      · subst ej; rw [← HRW.out]; exact HM.out
                      · exact HH1.out j hj (by omega)
                  case measure => simp [intOf]; omega
            · have y2 : (((row.length : Nat) : Int) != n) = true := by simp [x2]
              have HF := Lib.hid (NO.out fun hr => by have h := HI.out.1 hr; exact x2 (h.2.2.2.2.2.2 row (by rw [HRW.out]; exact List.getElem_mem _)).len)
              go_wp2
              go_ret
              exact ⟨by rw [HF.out]; rfl, HB⟩
          · obtain rfl : k = m.sz.length := by omega
            have HT := Lib.hid (show R = true from HI.out.2 ⟨HK.out.1, HK.out.2.1, HK.out.2.2.1, HK.out.2.2.2.1, HK.out.2.2.2.2, fun x hx => by
              obtain ⟨j, hj, rfl⟩ := List.mem_iff_getElem.1 hx
              exact HS1.out j hj hj, fun l hl => by
              obtain ⟨j, hj, rfl⟩ := List.mem_iff_getElem.1 hl
              exact HH1.out j hj (by have h1 := HK.out; omega)⟩)
            have kp : ¬ ((m.sz.length : Nat) : Int) < parts := by omega
            go_wp2
            go_ret
            exact ⟨by rw [HT.out]; rfl, HB⟩
      · have u2 : (((m.hm.length : Nat) : Int) != parts) = true := by simp [j2]
        have HF := Lib.hid (NO.out fun hr => by have h := HI.out.1 hr; exact j2 h.2.2.2.2.1)
        go_wp2
        go_ret
        exact ⟨by rw [HF.out]; rfl, HB⟩
    · have u1 : (((m.sm.length : Nat) : Int) != parts) = true := by simp [j1]
      have HF := Lib.hid (NO.out fun hr => by have h := HI.out.1 hr; exact j1 h.2.2.2.1)
      go_wp2
      go_ret
      exact ⟨by rw [HF.out]; rfl, HB⟩
  · have u0 : (((m.sz.length : Nat) : Int) != parts) = true := by simp [j0]
    have HF := Lib.hid (NO.out fun hr => by have h := HI.out.1 hr; exact j0 h.2.2.1)
    go_wp2
    go_ret
    exact ⟨by rw [HF.out]; rfl, HB⟩
end Go.Proofs.Ytmlemichkeomjaa.LedW
