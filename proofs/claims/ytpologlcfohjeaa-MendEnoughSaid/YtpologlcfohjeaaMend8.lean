/- stooklaw18.small walked. -/
import Derived.Test.YtpologlcfohjeaaMend7
set_option linter.unusedVariables false
set_option linter.unusedSimpArgs false
namespace Go.Proofs.Ytpologlcfohjeaa.MendW
open Go.RowKit Go.Proofs.Ytpologlcfohjeaa.Base

structure Small18 (n2 n3 : Nat) (hm : List (List Int)) (hv : List (List Bool)) (nl no : Nat) (loads : List Int) : Prop where
  man : SmallM n2 n3 hm
  have_ : hv.length ≤ 40
  row : ∀ i (h : i < hv.length), hv[i].length ≤ 40
  nlive : nl ≤ 40
  nload : no ≤ 40
  load : ∀ i (h : i < loads.length), -1099511627776 ≤ loads[i] ∧ loads[i] ≤ 1099511627776
/-- What small answers. -/
def SmallPost (w : World) (n2 n3 : Nat) (hm : List (List Int)) (hv : List (List Bool)) (nl no : Nat) (loads : List Int) (e : Ending) (w' : World) : Prop := ∃ f : Bool, e = .returned (.bool f) ∧ (f = true → Small18 n2 n3 hm hv nl no loads) ∧ Below w.heap.size w w'
section
variable (t a : Int) (A2 : Option Addr) (n2 c2 : Nat) (A3 : Option Addr) (n3 c3 : Nat) (A4 : Option Addr) (n4 c4 : Nat) (hm : List (List Int)) (Ah : Option Addr) (nh ch : Nat) (hv : List (List Bool)) (Al : Option Addr) (nl cl : Nat) (Ao : Option Addr) (no co : Nat) (loads : List Int) (w : World)
set_option maxRecDepth 100000 in
set_option maxHeartbeats 2000000 in
theorem small18_any (hH : IRows w A4 hm) (hl : hm.length = n4) (hb : n2 ≤ 9223372036854775807 ∧ n3 ≤ 9223372036854775807 ∧ n4 ≤ 9223372036854775807) (hr : ∀ i (h : i < hm.length), hm[i].length ≤ 9223372036854775807)
    (hV : BRows w Ah hv) (hvl : hv.length = nh) (hvr : ∀ i (h : i < hv.length), hv[i].length ≤ 9223372036854775807) (hO : Ints w Ao loads) (hol : loads.length = no) (hbb : nh ≤ 9223372036854775807 ∧ nl ≤ 9223372036854775807 ∧ no ≤ 9223372036854775807) :
    Calls Try.prog 7 #[.agg #[.int .i64 t, .int .i64 a, .slice A2 n2 c2, .slice A3 n3 c3, .slice A4 n4 c4], .slice Ah nh ch, .slice Al nl cl, .slice Ao no co] w (SmallPost w n2 n3 hm hv nl no loads) := by
  have HS := Lib.hid (fun Wx (h : IRows Wx A4 hm) => small16_any t a A2 n2 c2 A3 n3 c3 A4 n4 c4 hm Wx h hl hb hr)
  have HVL := Lib.hid hvl
  have HVR := Lib.hid hvr
  have HOL := Lib.hid hol
  clear hl hb hr hvl hvr hol
  go_enter Try.func7, Try.ntmps7
  go_upto_region 1 with fail
  have HM := ManBox.mk' w t a A2 n2 c2 A3 n3 c3 A4 n4 c4
  have HB : Below w.heap.size w (w.alloc (.cells #[.int .i64 t, .int .i64 a, .slice A2 n2 c2, .slice A3 n3 c3, .slice A4 n4 c4] 26)) := (Below.refl _ _).alloc (Nat.le_refl _) _
  generalize w.alloc (.cells #[.int .i64 t, .int .i64 a, .slice A2 n2 c2, .slice A3 n3 c3, .slice A4 n4 c4] 26) = W at HM HB ⊢
  obtain ⟨q0, q1, q2, q3, q4⟩ := HM
  have HSW := Lib.hid (HS.out W (hH.below HB))
  by_cases s1 : nh ≤ 40
  · have t1 : decide ((40 : Int) < ((nh : Nat) : Int)) = false := by simp; omega
    have t1' : decide (40 < nh) = false := by simp; omega
    by_cases s2 : nl ≤ 40
    · have t2 : decide ((40 : Int) < ((nl : Nat) : Int)) = false := by simp; omega
      have t2' : decide (40 < nl) = false := by simp; omega
      by_cases s3 : no ≤ 40
      · have t3 : decide ((40 : Int) < ((no : Nat) : Int)) = false := by simp; omega
        have t3' : decide (40 < no) = false := by simp; omega
        go_wp2_with (go_at_call 16; (with_reducible refine (HSW.out).mono ?_); rintro e w3 ⟨r, rfl, hsm, hd⟩; replace HB := bt HB HB.size hd; clear hd; (rcases hsm with rfl | ⟨rfl, hsm⟩))
        · go_ret
          exact ⟨false, rfl, fun h => (by cases h), HB⟩
        · have HSM := Lib.hid hsm
          clear hsm
          go_loop [9] (fun i => ∃ k : Nat, k ≤ nh ∧ i = .int .i64 k ∧ ∀ j (hj : j < hv.length), j < k → hv[j].length ≤ 40) (fun i => nh - (intOf i).toNat)
          case atStart => exact ⟨0, by omega, rfl, fun j _ h => by omega⟩
          case round =>
            obtain ⟨k, hk, rfl, hall⟩ := hrel
            have HA := Lib.hid hall
            clear hall
            by_cases hlt : k < nh
            · have hkl : k < hv.length := by have := HVL.out; omega
              obtain ⟨b, off, rfl, hc⟩ := (hV.below HB).block (by omega)
              obtain ⟨B, cb, g1, _, _⟩ := hc k hkl
              have hq9 := HVR.out k hkl
              obtain ⟨q, hq⟩ : ∃ q, q = hv[k].length := ⟨_, rfl⟩
              rw [← hq] at g1 hq9
              have HQ := Lib.hid hq
              clear hc hq
              by_cases he : q ≤ 40
              · have t5 : decide ((40 : Int) < ((q : Nat) : Int)) = false := by simp; omega
                have t5' : decide (40 < q) = false := by simp; omega
                go_wp2
                go_round
                case rel =>
                  refine ⟨k + 1, by omega, by go_num, fun j hj hjk => ?_⟩
                  by_cases e : j = k
                  · subst e; rw [← HQ.out]; exact he
                  · exact HA.out j hj (by omega)
                case measure => simp [intOf]; omega
              · have t5 : decide ((40 : Int) < ((q : Nat) : Int)) = true := by simp; omega
                have t5' : decide (40 < q) = true := by simp; omega
                go_wp2
                go_ret
                exact ⟨false, rfl, fun h => (by cases h), HB⟩
            · obtain rfl : k = nh := by omega
              go_wp2
              go_loop [10] (fun i => ∃ k : Nat, k ≤ no ∧ i = .int .i64 k ∧ ∀ j (hj : j < loads.length), j < k → -1099511627776 ≤ loads[j] ∧ loads[j] ≤ 1099511627776) (fun i => no - (intOf i).toNat)
              case atStart => exact ⟨0, by omega, rfl, fun j _ h => by omega⟩
              case round =>
                obtain ⟨p, hp, rfl, hall⟩ := hrel
                have HA2 := Lib.hid hall
                clear hall
                by_cases hlt2 : p < no
                · have hpl : p < loads.length := by have := HOL.out; omega
                  obtain ⟨b, off, rfl, hc⟩ := (hO.below HB).block (by omega)
                  have g1 := hc p hpl
                  obtain ⟨x, hx⟩ : ∃ x, x = loads[p] := ⟨_, rfl⟩
                  rw [← hx] at g1
                  have HX := Lib.hid hx
                  clear hc hx
                  by_cases h1 : x ≤ 1099511627776
                  · have t5 : decide ((1099511627776 : Int) < x) = false := by simp; omega
                    by_cases h2 : -1099511627776 ≤ x
                    · have t6 : decide (x < (-1099511627776 : Int)) = false := by simp; omega
                      have HH := Lib.hid (And.intro h2 h1)
                      clear h1 h2
                      go_wp2
                      go_round
                      case rel =>
                        refine ⟨p + 1, by omega, by go_num, fun j hj hjk => ?_⟩
                        by_cases e : j = p
                        · subst e; rw [← HX.out]; exact HH.out
                        · exact HA2.out j hj (by omega)
                      case measure => simp [intOf]; omega
                    · have t6 : decide (x < (-1099511627776 : Int)) = true := by simp; omega
                      clear h1 h2
                      go_wp2
                      go_ret
                      exact ⟨false, rfl, fun h => (by cases h), HB⟩
                  · have t5 : decide ((1099511627776 : Int) < x) = true := by simp; omega
                    clear h1
                    go_wp2
                    go_ret
                    exact ⟨false, rfl, fun h => (by cases h), HB⟩
                · obtain rfl : p = no := by omega
                  go_wp2
                  go_ret
                  exact ⟨true, rfl, fun _ => ⟨HSM.out, by have := HVL.out; omega, fun i hi => HA.out i hi (by have := HVL.out; omega), by omega, by omega, fun i hi => HA2.out i hi (by have := HOL.out; omega)⟩, HB⟩
      · have t3 : decide ((40 : Int) < ((no : Nat) : Int)) = true := by simp; omega
        have t3' : decide (40 < no) = true := by simp; omega
        go_wp2_with (go_at_call 16; (with_reducible refine (HSW.out).mono ?_); rintro e w3 ⟨r, rfl, hsm, hd⟩; replace HB := bt HB HB.size hd; clear hd; (rcases hsm with rfl | ⟨rfl, hsm⟩))
        all_goals go_ret
        all_goals exact ⟨false, rfl, fun h => (by cases h), HB⟩
    · have t2 : decide ((40 : Int) < ((nl : Nat) : Int)) = true := by simp; omega
      have t2' : decide (40 < nl) = true := by simp; omega
      go_wp2_with (go_at_call 16; (with_reducible refine (HSW.out).mono ?_); rintro e w3 ⟨r, rfl, hsm, hd⟩; replace HB := bt HB HB.size hd; clear hd; (rcases hsm with rfl | ⟨rfl, hsm⟩))
      all_goals go_ret
      all_goals exact ⟨false, rfl, fun h => (by cases h), HB⟩
  · have t1 : decide ((40 : Int) < ((nh : Nat) : Int)) = true := by simp; omega
    have t1' : decide (40 < nh) = true := by simp; omega
    go_wp2_with (go_at_call 16; (with_reducible refine (HSW.out).mono ?_); rintro e w3 ⟨r, rfl, hsm, hd⟩; replace HB := bt HB HB.size hd; clear hd; (rcases hsm with rfl | ⟨rfl, hsm⟩))
    all_goals go_ret
    all_goals exact ⟨false, rfl, fun h => (by cases h), HB⟩
end
end Go.Proofs.Ytpologlcfohjeaa.MendW
