/- slices.IndexFunc, ContainsFunc with stripe.Right's second function walked. -/
import Derived.Test.YtpologlcfohjeaaMendB
set_option linter.unusedVariables false
set_option linter.unusedSimpArgs false
namespace Go.Proofs.Ytpologlcfohjeaa.MendW
open Go.RowKit Go.Proofs.Ytpologlcfohjeaa.Base

noncomputable def badH (m : Int) (l : List Int) : Bool := !homelyD l m
theorem right2_any (A : Option Addr) (n c pb : Nat) (l : List Int) (m : Int) (w : World) (hS : Ints w A l) (hl : l.length = n) (hn : n ≤ 1000000) (hnc : n ≤ c) (hp : w.cell? ⟨pb, 0, none⟩ = some (.int .i64 m)) :
    Calls Try.prog 29 #[.slice A n c, .pointer (some ⟨pb, 0, none⟩)] w fun e w' => e = .returned (.bool (badH m l)) ∧ w = w' := by
  have H := Lib.hid (homely_any A n c l m w hS hl hn hnc)
  have HD := Lib.hid (show badH m l = !homelyD l m from rfl)
  go_enter Try.func29, Try.ntmps29
  go_wp2_with (go_at_call 30; (with_reducible refine (H.out).mono ?_); rintro e w2 ⟨rfl, rfl⟩)
  go_ret
  exact ⟨by rw [HD.out]; rfl, rfl⟩
set_option maxRecDepth 100000 in
set_option maxHeartbeats 1000000 in
theorem idxf2_any (A : Option Addr) (n c pb : Nat) (ls : List (List Int)) (m : Int) (w : World) (hS : IRows w A ls) (hl : ls.length = n) (hn : n ≤ 1000000) (hr : ∀ i (h : i < ls.length), ls[i].length ≤ 1000000) (hp : w.cell? ⟨pb, 0, none⟩ = some (.int .i64 m)) :
    Calls Try.prog 36 #[.slice A n c, .func (.func 29) #[] #[.pointer (some ⟨pb, 0, none⟩)]] w fun e w' => ∃ r : Int, e = .returned (.int .i64 r) ∧ (0 ≤ r ↔ ls.any (badH m) = true) ∧ w = w' := by
  have HL := Lib.hid hl
  have HRL := Lib.hid hr
  clear hr
  go_enter Try.func36, Try.ntmps36
  go_wp2
  go_loop [5, 8] (fun _ i => ∃ k : Nat, k ≤ n ∧ i = .int .i64 k ∧ ∀ j (hj : j < ls.length), j < k → badH m ls[j] = false) (fun _ i => n - (intOf i).toNat)
  case atStart => exact ⟨0, by omega, rfl, fun j _ h => by omega⟩
  case round =>
    obtain ⟨k, hk, rfl, hall⟩ := hrel
    have HA := Lib.hid hall
    clear hall
    by_cases hlt : k < n
    · have hkl : k < ls.length := by have := HL.out; omega
      obtain ⟨b, off, rfl, hc⟩ := hS.block (by omega)
      obtain ⟨B, cb, g1, hcb, hI⟩ := hc k hkl
      have hq9 := HRL.out k hkl
      obtain ⟨y, hy⟩ : ∃ y, y = ls[k] := ⟨_, rfl⟩
      rw [← hy] at g1 hcb hI hq9
      have HY := Lib.hid hy
      clear hc hy
      obtain ⟨q, hq⟩ : ∃ q, y.length = q := ⟨_, rfl⟩
      rw [hq] at g1 hcb hq9
      have HR := Lib.hid (right2_any B q cb pb y m w hI hq hq9 hcb hp)
      clear hq
      by_cases he : badH m y = true
      · rw [he] at HR
        have HM := Lib.hid (show ls.any (badH m) = true from List.any_eq_true.2 ⟨y, by rw [HY.out]; exact List.getElem_mem hkl, he⟩)
        clear he
        go_wp2_with (go_at_call 29; (with_reducible refine (HR.out).mono ?_); rintro e w2 ⟨rfl, rfl⟩)
        go_ret
        exact ⟨_, rfl, ⟨fun _ => HM.out, fun _ => by omega⟩, rfl⟩
      · have he2 : badH m y = false := by simpa using he
        rw [he2] at HR
        have HE := Lib.hid he2
        clear he he2
        go_wp2_with (go_at_call 29; (with_reducible refine (HR.out).mono ?_); rintro e w2 ⟨rfl, rfl⟩)
        go_round
        case rel =>
          refine ⟨k + 1, by omega, by go_num, fun j hj hjk => ?_⟩
          by_cases e : j = k
          · subst e; rw [← HY.out]; exact HE.out
          · exact HA.out j hj (by omega)
        case measure => simp [intOf]; omega
    · obtain rfl : k = n := by omega
      have HM := Lib.hid (show ¬ ls.any (badH m) = true from fun h => by
        obtain ⟨y, hy, hb⟩ := List.any_eq_true.1 h
        obtain ⟨i, hi, rfl⟩ := List.mem_iff_getElem.1 hy
        rw [HA.out i hi (by have := HL.out; omega)] at hb
        cases hb)
      go_wp2
      go_ret
      exact ⟨_, rfl, ⟨fun h => absurd h (by decide), fun h => absurd (List.any_eq_true.2 h) HM.out⟩, rfl⟩
theorem conf2_any (A : Option Addr) (n c pb : Nat) (ls : List (List Int)) (m : Int) (w : World) (hS : IRows w A ls) (hl : ls.length = n) (hn : n ≤ 1000000) (hr : ∀ i (h : i < ls.length), ls[i].length ≤ 1000000) (hp : w.cell? ⟨pb, 0, none⟩ = some (.int .i64 m)) :
    Calls Try.prog 28 #[.slice A n c, .func (.func 29) #[] #[.pointer (some ⟨pb, 0, none⟩)]] w fun e w' => e = .returned (.bool (ls.any (badH m))) ∧ w = w' := by
  have H := Lib.hid (idxf2_any A n c pb ls m w hS hl hn hr hp)
  go_enter Try.func28, Try.ntmps28
  go_wp2_with (go_at_call 36; (with_reducible refine (H.out).mono ?_); rintro e w2 ⟨r, rfl, hr, rfl⟩; have HR := Lib.hid hr; clear hr)
  go_ret
  exact ⟨by rw [show ls.any (badH m) = decide (0 ≤ r) from by rw [← Bool.decide_coe (ls.any (badH m))]; exact decide_eq_decide.2 HR.out.symm]; rfl, rfl⟩
end Go.Proofs.Ytpologlcfohjeaa.MendW
