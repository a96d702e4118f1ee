/- mend.lives, mend.has, ref17.In, ref17.Live, equal walked. -/
import Derived.Test.YtpologlcfohjeaaProg
import Derived.Test.YtpologlcfohjeaaMan
set_option linter.unusedVariables false
set_option linter.unusedSimpArgs false
namespace Go.Proofs.Ytpologlcfohjeaa.MendW
open Go.RowKit Go.Proofs.Ytpologlcfohjeaa.Base

def livesB (live : List Bool) (w : Int) : Bool := decide (1 ≤ w) && live.getD (w - 1).toNat false
def hasB (hv : List (List Bool)) (p a : Nat) : Bool := (hv.getD p []).getD a false
theorem lives_any (A : Option Addr) (n c : Nat) (live : List Bool) (x : Int) (w : World) (hB : Bools w A live) (hl : live.length = n) (hx : -9223372036854775808 ≤ x ∧ x ≤ 9223372036854775807) :
    Calls Try.prog 21 #[.slice A n c, .int .i64 x] w fun e w' => e = .returned (.bool (livesB live x)) ∧ w = w' := by
  obtain ⟨R, hR⟩ : ∃ R, livesB live x = R := ⟨_, rfl⟩
  rw [hR]
  have HR := Lib.hid hR
  clear hR
  have HL := Lib.hid hl
  by_cases h1 : 1 ≤ x
  · have t1 : decide (1 ≤ x) = true := by simp [h1]
    by_cases h2 : x ≤ n
    · have t2 : decide (x ≤ (n : Int)) = true := by simp [h2]
      obtain ⟨i, hi⟩ : ∃ i : Nat, x - 1 = (i : Int) := ⟨(x - 1).toNat, by omega⟩
      have hin : i < live.length := by omega
      obtain ⟨b, off, rfl, hc⟩ := hB.block (by omega)
      have g1 := hc i hin
      have w1 : IntKind.i64.wrap (x - 1) = (i : Int) := by rw [IntKind.wrap_i64]; omega
      have hlt : i < n := by omega
      have HRR : R = live[i] := by
        rw [← HR.out, livesB, t1, Bool.true_and, hi, Int.toNat_natCast, List.getD_eq_getElem?_getD, List.getElem?_eq_getElem hin]
        rfl
      subst HRR
      clear hc h1 h2 HR
      generalize live[i] = bb at g1
      go_enter Try.func21, Try.ntmps21
      go_wp2
      go_ret
      exact ⟨rfl, rfl⟩
    · have t2 : decide (x ≤ (n : Int)) = false := by simp; omega
      have HRR : R = false := by
        rw [← HR.out, livesB, List.getD_eq_getElem?_getD, List.getElem?_eq_none (by omega)]
        simp
      subst HRR
      clear h1 h2 HR
      go_enter Try.func21, Try.ntmps21
      go_wp2
      go_ret
      exact ⟨rfl, rfl⟩
  · have t1 : decide (1 ≤ x) = false := by simp; omega
    have HRR : R = false := by
      rw [← HR.out, livesB, t1, Bool.false_and]
    subst HRR
    clear h1 HR
    go_enter Try.func21, Try.ntmps21
    go_wp2
    go_ret
    exact ⟨rfl, rfl⟩
theorem has_any (A : Option Addr) (n c : Nat) (hv : List (List Bool)) (p a : Nat) (w : World) (hB : BRows w A hv) (hl : hv.length = n) :
    Calls Try.prog 20 #[.slice A n c, .int .i64 (p : Nat), .int .i64 (a : Nat)] w fun e w' => e = .returned (.bool (hasB hv p a)) ∧ w = w' := by
  obtain ⟨R, hR⟩ : ∃ R, hasB hv p a = R := ⟨_, rfl⟩
  rw [hR]
  have HR := Lib.hid hR
  clear hR
  by_cases h1 : p < n
  · obtain ⟨b, off, rfl, hc⟩ := hB.block (by omega)
    obtain ⟨B, cb, g1, hcb, hB1⟩ := hc p (by omega)
    have e1 : hv.getD p [] = hv[p] := by rw [List.getD_eq_getElem?_getD, List.getElem?_eq_getElem (by omega)]; rfl
    have HR2 := Lib.hid (show (hv.getD p []).getD a false = R from HR.out)
    rw [e1] at HR2
    clear hc HR e1
    generalize hv[p] = row at g1 hcb hB1 HR2
    obtain ⟨q, hq⟩ : ∃ q, row.length = q := ⟨_, rfl⟩
    rw [hq] at g1 hcb
    by_cases h2 : a < q
    · obtain ⟨b2, off2, rfl, hc2⟩ := hB1.block (by omega)
      have g2 := hc2 a (by omega)
      have HRR : R = row[a] := by
        rw [← HR2.out, List.getD_eq_getElem?_getD, List.getElem?_eq_getElem (by omega)]
        rfl
      subst HRR
      clear hc2 HR2
      generalize row[a] = bb at g2
      have t1 : decide (p < n) = true := by simp [h1]
      have t2 : decide (a < q) = true := by simp [h2]
      go_enter Try.func20, Try.ntmps20
      go_wp2
      go_ret
      exact ⟨rfl, rfl⟩
    · have t1 : decide (p < n) = true := by simp [h1]
      have t2 : decide (a < q) = false := by simp [h2]
      have HRR : R = false := by
        rw [← HR2.out, List.getD_eq_getElem?_getD, List.getElem?_eq_none (by omega)]
        rfl
      subst HRR
      clear HR2
      go_enter Try.func20, Try.ntmps20
      go_wp2
      go_ret
      exact ⟨rfl, rfl⟩
  · have t1 : decide (p < n) = false := by simp [h1]
    have HRR : R = false := by
      rw [← HR.out, hasB, List.getD_eq_getElem?_getD (l := hv), List.getElem?_eq_none (by omega)]
      rfl
    subst HRR
    clear HR
    go_enter Try.func20, Try.ntmps20
    go_wp2
    go_ret
    exact ⟨rfl, rfl⟩
end Go.Proofs.Ytpologlcfohjeaa.MendW
