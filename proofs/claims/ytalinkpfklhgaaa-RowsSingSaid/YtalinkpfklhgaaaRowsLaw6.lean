/- The law RowsPlays walked. -/
import Derived.Test.YtalinkpfklhgaaaRowsLaw5
set_option linter.unusedVariables false
set_option linter.unusedSimpArgs false
namespace Go.Proofs.Ytalinkpfklhgaaa.RowsW
open Go.RowKit Go.Proofs.Ytalinkpfklhgaaa.Base Go.Proofs.Ytalinkpfklhgaaa.GfP Go.Proofs.Ytalinkpfklhgaaa.GfW Go.Proofs.Ytalinkpfklhgaaa.GfR Go.Proofs.Ytalinkpfklhgaaa.Lin

/-- Rows so few and short that a reference is quick. -/
def smallR (ls : List (List Nat)) : Bool := decide (ls.length ≤ 8) && (decide (ls.length = 0) || decide (wid ls ≤ 8))
set_option maxRecDepth 100000 in
set_option maxHeartbeats 1000000 in
theorem small_any (A : Option Addr) (n c : Nat) (ls : List (List Nat)) (w : World) (hR : Base.Rows w A ls) (hl : ls.length = n) (hf : fewR ls = true) :
    Calls Try.prog 36 #[.slice A n c] w fun e w' => e = .returned (.bool (smallR ls)) ∧ w = w' := by
  have hn := (fewR_yes hf).1
  have hq := fewR_wid hf
  unfold smallR
  rw [hl]
  clear hf
  by_cases h8 : n ≤ 8
  · have e1 : decide ((n : Int) ≤ 8) = true := by simp; omega
    have e1' : decide (n ≤ 8) = true := by simp; omega
    by_cases h0 : n = 0
    · subst h0
      clear hl
      go_enter Try.func36, Try.ntmps36
      go_wp2
      go_ret
      exact ⟨rfl, rfl⟩
    · have e2 : ((n : Int) == 0) = false := int_ne (by omega)
      have e2' : decide (n = 0) = false := by simp; omega
      obtain ⟨b, off, rfl, hc⟩ := hR.block (by omega)
      obtain ⟨B0, c0, g0, hx⟩ := hc 0 (by omega)
      clear hx
      rw [Nat.add_zero, ← wid_of (by omega)] at g0
      have z0 : (0 : Int) < n := by omega
      rw [e1', e2']
      generalize wid ls = q at g0 hq ⊢
      clear hc hl hR
      by_cases h9 : q ≤ 8
      · have e3 : decide ((q : Int) ≤ 8) = true := by simp; omega
        have e3' : decide (q ≤ 8) = true := by simp; omega
        rw [e3']
        go_enter Try.func36, Try.ntmps36
        go_wp2
        go_ret
        exact ⟨rfl, rfl⟩
      · have e3 : decide ((q : Int) ≤ 8) = false := by simp; omega
        have e3' : decide (q ≤ 8) = false := by simp; omega
        rw [e3']
        go_enter Try.func36, Try.ntmps36
        go_wp2
        go_ret
        exact ⟨rfl, rfl⟩
  · have e1 : decide ((n : Int) ≤ 8) = false := by simp; omega
    have e1' : decide (n ≤ 8) = false := by simp; omega
    rw [e1']
    clear hl
    go_enter Try.func36, Try.ntmps36
    go_wp2
    go_ret
    exact ⟨rfl, rfl⟩
section
variable (A B : Option Addr) (n m c1 c2 x y : Nat) (la lb : List (List Nat)) (w : World)
set_option maxRecDepth 100000 in
set_option maxHeartbeats 1000000 in
theorem lawplays_far (hA : Base.Rows w A la) (hB : Base.Rows w B lb) (ha : la.length = n) (hb : lb.length = m) (hf : ¬ (fewR la = true ∧ fewR lb = true)) :
    Calls Try.prog 15 #[.slice A n c1, .slice B m c2, .int .u8 (x : Nat), .int .u8 (y : Nat)] w fun e w' => e = .returned (.bool true) ∧ Below w.heap.size w w' := by
  have HB : Below w.heap.size w w := Below.refl _ _
  have HFA := fun W (h : Base.Rows W A la) => few_any A n c1 la W h ha
  have HFB := fun W (h : Base.Rows W B lb) => few_any B m c2 lb W h hb
  generalize fewR la = x at HFA hf
  generalize fewR lb = y at HFB hf
  cases x <;> cases y <;> first | exact absurd ⟨rfl, rfl⟩ hf | skip
  all_goals (
    have HFA := Lib.hid HFA
    have HFB := Lib.hid HFB
    clear hf
    go_enter Try.func15, Try.ntmps15
    go_wp2_with (first | (go_at_call 34; (with_reducible refine (awake_any _).mono ?_); rintro e w2 ⟨rfl, hd⟩; (try replace g2 := cell_below hd g2); replace HB := bt HB HB.size hd; clear hd) | (go_at_call 35; (with_reducible refine (HFA.out _ (hA.below HB)).mono ?_); rintro e w2 ⟨rfl, rfl⟩) | (go_at_call 35; (with_reducible refine (HFB.out _ (hB.below HB)).mono ?_); rintro e w2 ⟨rfl, rfl⟩) | (go_at_call 36; (with_reducible refine (HSA.out _ (hA.below HB)).mono ?_); rintro e w2 ⟨rfl, rfl⟩) | (go_at_call 36; (with_reducible refine (HSB.out _ (hB.below HB)).mono ?_); rintro e w2 ⟨rfl, rfl⟩))
    go_ret
    exact ⟨rfl, HB⟩)
set_option maxRecDepth 100000 in
set_option maxHeartbeats 1000000 in
theorem lawplays_far2 (hA : Base.Rows w A la) (hB : Base.Rows w B lb) (ha : la.length = n) (hb : lb.length = m) (fa : fewR la = true) (fb : fewR lb = true) (hf : ¬ (smallR la = true ∧ smallR lb = true)) :
    Calls Try.prog 15 #[.slice A n c1, .slice B m c2, .int .u8 (x : Nat), .int .u8 (y : Nat)] w fun e w' => e = .returned (.bool true) ∧ Below w.heap.size w w' := by
  have HB : Below w.heap.size w w := Below.refl _ _
  have HFA := Lib.hid (fun W (h : Base.Rows W A la) => few_any A n c1 la W h ha)
  have HFB := Lib.hid (fun W (h : Base.Rows W B lb) => few_any B m c2 lb W h hb)
  rw [fa] at HFA
  rw [fb] at HFB
  have HSA := fun W (h : Base.Rows W A la) => small_any A n c1 la W h ha fa
  have HSB := fun W (h : Base.Rows W B lb) => small_any B m c2 lb W h hb fb
  generalize smallR la = x at HSA hf
  generalize smallR lb = y at HSB hf
  clear fa fb
  cases x <;> cases y <;> first | exact absurd ⟨rfl, rfl⟩ hf | skip
  all_goals (
    have HSA := Lib.hid HSA
    have HSB := Lib.hid HSB
    clear hf
    go_enter Try.func15, Try.ntmps15
    go_wp2_with (first | (go_at_call 34; (with_reducible refine (awake_any _).mono ?_); rintro e w2 ⟨rfl, hd⟩; (try replace g2 := cell_below hd g2); replace HB := bt HB HB.size hd; clear hd) | (go_at_call 35; (with_reducible refine (HFA.out _ (hA.below HB)).mono ?_); rintro e w2 ⟨rfl, rfl⟩) | (go_at_call 35; (with_reducible refine (HFB.out _ (hB.below HB)).mono ?_); rintro e w2 ⟨rfl, rfl⟩) | (go_at_call 36; (with_reducible refine (HSA.out _ (hA.below HB)).mono ?_); rintro e w2 ⟨rfl, rfl⟩) | (go_at_call 36; (with_reducible refine (HSB.out _ (hB.below HB)).mono ?_); rintro e w2 ⟨rfl, rfl⟩))
    go_ret
    exact ⟨rfl, HB⟩)
set_option maxRecDepth 100000 in
set_option maxHeartbeats 1000000 in
theorem lawplays_no_ra (hA : Base.Rows w A la) (hB : Base.Rows w B lb) (ha : la.length = n) (hb : lb.length = m) (fa : fewR la = true) (fb : fewR lb = true) (sa : smallR la = true) (sb : smallR lb = true) (hx : x ≤ 255) (hy : y ≤ 255) (n' k' : Nat) (hn' : ((x : Nat) : Int) % 40 = (n' : Nat)) (hk' : ((y : Nat) : Int) % 9 = (k' : Nat)) (hn9 : n' < 40) (hk9 : k' < 9) (hp : ¬ ((1 ≤ n' ∧ n' ≤ 32) ∧ (1 ≤ k' ∧ k' ≤ 32))) (ra : rightB la = false) :
    Calls Try.prog 15 #[.slice A n c1, .slice B m c2, .int .u8 (x : Nat), .int .u8 (y : Nat)] w fun e w' => e = .returned (.bool true) ∧ Below w.heap.size w w' := by
  have HB : Below w.heap.size w w := Below.refl _ _
  have fwa := fewR_wid fa
  have fwb := fewR_wid fb
  have fna : n ≤ 40 := by have := (fewR_yes fa).1; omega
  have fnb : m ≤ 40 := by have := (fewR_yes fb).1; omega
  have HFA := Lib.hid (fun W (h : Base.Rows W A la) => few_any A n c1 la W h ha)
  have HFB := Lib.hid (fun W (h : Base.Rows W B lb) => few_any B m c2 lb W h hb)
  rw [fa] at HFA
  rw [fb] at HFB
  have HSA := Lib.hid (fun W (h : Base.Rows W A la) => small_any A n c1 la W h ha fa)
  have HSB := Lib.hid (fun W (h : Base.Rows W B lb) => small_any B m c2 lb W h hb fb)
  rw [sa] at HSA
  rw [sb] at HSB
  have HRA := Lib.hid (fun W (h : Base.Rows W A la) => right_any A n c1 la W h ha (by omega) (by omega))
  have HRRA := Lib.hid (fun W (h : Base.Rows W A la) => rright A n c1 la W h ha (by omega))
  have HRRB := Lib.hid (fun W (h : Base.Rows W B lb) => rright B m c2 lb W h hb (by omega))
  rw [ra] at HRA HRRA
  have HM := Lib.hid (fun W (h9 : Base.Rows W A la) (h8 : Base.Rows W B lb) => mul_no A B n m c1 c2 la lb W h9 h8 ha hb (by omega) (by omega) (by omega) (by omega) (.inl ra))
  have HPW := Lib.hid (fun W => powers_no n' k' W (by omega))
  clear fa fb sa sb hp ra
  go_enter Try.func15, Try.ntmps15
  go_wp2_with (first | (go_at_call 34; (with_reducible refine (awake_any _).mono ?_); rintro e w2 ⟨rfl, hd⟩; (try replace g2 := cell_below hd g2); replace HB := bt HB HB.size hd; clear hd) | (go_at_call 35; (with_reducible refine (HFA.out _ (hA.below HB)).mono ?_); rintro e w2 ⟨rfl, rfl⟩) | (go_at_call 35; (with_reducible refine (HFB.out _ (hB.below HB)).mono ?_); rintro e w2 ⟨rfl, rfl⟩) | (go_at_call 36; (with_reducible refine (HSA.out _ (hA.below HB)).mono ?_); rintro e w2 ⟨rfl, rfl⟩) | (go_at_call 36; (with_reducible refine (HSB.out _ (hB.below HB)).mono ?_); rintro e w2 ⟨rfl, rfl⟩) | (go_at_call 46; (with_reducible refine (HRA.out _ (hA.below HB)).mono ?_); rintro e w3 ⟨rfl, hd⟩; (try replace g2 := cell_below hd g2); replace HB := bt HB HB.size hd; clear hd) | (go_at_call 38; (with_reducible refine (HRRA.out _ (hA.below HB)).mono ?_); rintro e w4 ⟨rfl, hd⟩; (try replace hX := hX.below hd); (try replace g2 := cell_below hd g2); replace HB := bt HB HB.size hd; clear hd) | (go_at_call 45; (with_reducible refine (HPW.out _).mono ?_); rintro e w5 ⟨rfl, rfl⟩))
  go_loop [11] (fun i => i = .int .i64 0) (fun _ => 0)
  case atStart => exact rfl
  case round =>
    obtain rfl := hrel
    go_wp2_with (first | (go_at_call 38; (with_reducible refine (HRRA.out _ (hA.below HB)).mono ?_); rintro e w4 ⟨rfl, hd⟩; (try replace hX := hX.below hd); (try replace g2 := cell_below hd g2); replace HB := bt HB HB.size hd; clear hd) | (go_at_call 38; (with_reducible refine (HRRB.out _ (hB.below HB)).mono ?_); rintro e w4 ⟨rfl, hd⟩; (try replace hX := hX.below hd); (try replace g2 := cell_below hd g2); replace HB := bt HB HB.size hd; clear hd) | (go_at_call 43; (with_reducible refine (HM.out _ (hA.below HB) (hB.below HB)).mono ?_); rintro e w6 ⟨rfl, hd⟩; (try replace g2 := cell_below hd g2); replace HB := bt HB HB.size hd; clear hd))
    go_ret
    exact ⟨rfl, HB⟩
set_option maxRecDepth 100000 in
set_option maxHeartbeats 1000000 in
theorem lawplays_no_rb (hA : Base.Rows w A la) (hB : Base.Rows w B lb) (ha : la.length = n) (hb : lb.length = m) (fa : fewR la = true) (fb : fewR lb = true) (sa : smallR la = true) (sb : smallR lb = true) (hx : x ≤ 255) (hy : y ≤ 255) (n' k' : Nat) (hn' : ((x : Nat) : Int) % 40 = (n' : Nat)) (hk' : ((y : Nat) : Int) % 9 = (k' : Nat)) (hn9 : n' < 40) (hk9 : k' < 9) (hp : ¬ ((1 ≤ n' ∧ n' ≤ 32) ∧ (1 ≤ k' ∧ k' ≤ 32))) (ra : rightB la = true) (rb : rightB lb = false) :
    Calls Try.prog 15 #[.slice A n c1, .slice B m c2, .int .u8 (x : Nat), .int .u8 (y : Nat)] w fun e w' => e = .returned (.bool true) ∧ Below w.heap.size w w' := by
  have HB : Below w.heap.size w w := Below.refl _ _
  have fwa := fewR_wid fa
  have fwb := fewR_wid fb
  have fna : n ≤ 40 := by have := (fewR_yes fa).1; omega
  have fnb : m ≤ 40 := by have := (fewR_yes fb).1; omega
  have HFA := Lib.hid (fun W (h : Base.Rows W A la) => few_any A n c1 la W h ha)
  have HFB := Lib.hid (fun W (h : Base.Rows W B lb) => few_any B m c2 lb W h hb)
  rw [fa] at HFA
  rw [fb] at HFB
  have HSA := Lib.hid (fun W (h : Base.Rows W A la) => small_any A n c1 la W h ha fa)
  have HSB := Lib.hid (fun W (h : Base.Rows W B lb) => small_any B m c2 lb W h hb fb)
  rw [sa] at HSA
  rw [sb] at HSB
  have HRA := Lib.hid (fun W (h : Base.Rows W A la) => right_any A n c1 la W h ha (by omega) (by omega))
  have HRRA := Lib.hid (fun W (h : Base.Rows W A la) => rright A n c1 la W h ha (by omega))
  have HRRB := Lib.hid (fun W (h : Base.Rows W B lb) => rright B m c2 lb W h hb (by omega))
  rw [ra] at HRA HRRA
  rw [rb] at HRRB
  have HM := Lib.hid (fun W (h9 : Base.Rows W A la) (h8 : Base.Rows W B lb) => mul_no A B n m c1 c2 la lb W h9 h8 ha hb (by omega) (by omega) (by omega) (by omega) (.inr (.inl rb)))
  have HPW := Lib.hid (fun W => powers_no n' k' W (by omega))
  clear fa fb sa sb hp ra rb
  go_enter Try.func15, Try.ntmps15
  go_wp2_with (first | (go_at_call 34; (with_reducible refine (awake_any _).mono ?_); rintro e w2 ⟨rfl, hd⟩; (try replace g2 := cell_below hd g2); replace HB := bt HB HB.size hd; clear hd) | (go_at_call 35; (with_reducible refine (HFA.out _ (hA.below HB)).mono ?_); rintro e w2 ⟨rfl, rfl⟩) | (go_at_call 35; (with_reducible refine (HFB.out _ (hB.below HB)).mono ?_); rintro e w2 ⟨rfl, rfl⟩) | (go_at_call 36; (with_reducible refine (HSA.out _ (hA.below HB)).mono ?_); rintro e w2 ⟨rfl, rfl⟩) | (go_at_call 36; (with_reducible refine (HSB.out _ (hB.below HB)).mono ?_); rintro e w2 ⟨rfl, rfl⟩) | (go_at_call 46; (with_reducible refine (HRA.out _ (hA.below HB)).mono ?_); rintro e w3 ⟨rfl, hd⟩; (try replace g2 := cell_below hd g2); replace HB := bt HB HB.size hd; clear hd) | (go_at_call 38; (with_reducible refine (HRRA.out _ (hA.below HB)).mono ?_); rintro e w4 ⟨rfl, hd⟩; (try replace hX := hX.below hd); (try replace g2 := cell_below hd g2); replace HB := bt HB HB.size hd; clear hd) | (go_at_call 45; (with_reducible refine (HPW.out _).mono ?_); rintro e w5 ⟨rfl, rfl⟩))
  go_loop [11] (fun i => i = .int .i64 0) (fun _ => 0)
  case atStart => exact rfl
  case round =>
    obtain rfl := hrel
    go_wp2_with (first | (go_at_call 38; (with_reducible refine (HRRA.out _ (hA.below HB)).mono ?_); rintro e w4 ⟨rfl, hd⟩; (try replace hX := hX.below hd); (try replace g2 := cell_below hd g2); replace HB := bt HB HB.size hd; clear hd) | (go_at_call 38; (with_reducible refine (HRRB.out _ (hB.below HB)).mono ?_); rintro e w4 ⟨rfl, hd⟩; (try replace hX := hX.below hd); (try replace g2 := cell_below hd g2); replace HB := bt HB HB.size hd; clear hd) | (go_at_call 43; (with_reducible refine (HM.out _ (hA.below HB) (hB.below HB)).mono ?_); rintro e w6 ⟨rfl, hd⟩; (try replace g2 := cell_below hd g2); replace HB := bt HB HB.size hd; clear hd))
    go_ret
    exact ⟨rfl, HB⟩
set_option maxRecDepth 100000 in
set_option maxHeartbeats 1000000 in
theorem lawplays_no_wd (hA : Base.Rows w A la) (hB : Base.Rows w B lb) (ha : la.length = n) (hb : lb.length = m) (fa : fewR la = true) (fb : fewR lb = true) (sa : smallR la = true) (sb : smallR lb = true) (hx : x ≤ 255) (hy : y ≤ 255) (n' k' : Nat) (hn' : ((x : Nat) : Int) % 40 = (n' : Nat)) (hk' : ((y : Nat) : Int) % 9 = (k' : Nat)) (hn9 : n' < 40) (hk9 : k' < 9) (hp : ¬ ((1 ≤ n' ∧ n' ≤ 32) ∧ (1 ≤ k' ∧ k' ≤ 32))) (ra : rightB la = true) (rb : rightB lb = true) (hw : wid la ≠ m) :
    Calls Try.prog 15 #[.slice A n c1, .slice B m c2, .int .u8 (x : Nat), .int .u8 (y : Nat)] w fun e w' => e = .returned (.bool true) ∧ Below w.heap.size w w' := by
  have HB : Below w.heap.size w w := Below.refl _ _
  have fwa := fewR_wid fa
  have fwb := fewR_wid fb
  have fna : n ≤ 40 := by have := (fewR_yes fa).1; omega
  have fnb : m ≤ 40 := by have := (fewR_yes fb).1; omega
  have HFA := Lib.hid (fun W (h : Base.Rows W A la) => few_any A n c1 la W h ha)
  have HFB := Lib.hid (fun W (h : Base.Rows W B lb) => few_any B m c2 lb W h hb)
  rw [fa] at HFA
  rw [fb] at HFB
  have HSA := Lib.hid (fun W (h : Base.Rows W A la) => small_any A n c1 la W h ha fa)
  have HSB := Lib.hid (fun W (h : Base.Rows W B lb) => small_any B m c2 lb W h hb fb)
  rw [sa] at HSA
  rw [sb] at HSB
  have HRA := Lib.hid (fun W (h : Base.Rows W A la) => right_any A n c1 la W h ha (by omega) (by omega))
  have HRRA := Lib.hid (fun W (h : Base.Rows W A la) => rright A n c1 la W h ha (by omega))
  have HRRB := Lib.hid (fun W (h : Base.Rows W B lb) => rright B m c2 lb W h hb (by omega))
  rw [ra] at HRA HRRA
  rw [rb] at HRRB
  have HM := Lib.hid (fun W (h9 : Base.Rows W A la) (h8 : Base.Rows W B lb) => mul_no A B n m c1 c2 la lb W h9 h8 ha hb (by omega) (by omega) (by omega) (by omega) (.inr (.inr hw)))
  obtain ⟨ra1, ra2, ra3, ra4, ra5⟩ := (right_iff la).1 ra
  obtain ⟨rb1, rb2, rb3, rb4, rb5⟩ := (right_iff lb).1 rb
  obtain ⟨b, off, rfl, hc0⟩ := hA.block (by omega)
  obtain ⟨B0, c0, g2, hx0⟩ := hc0 0 (by omega)
  clear hx0
  rw [Nat.add_zero, ← wid_of (by omega)] at g2
  have z0 : (0 : Int) < n := by omega
  generalize wid la = q at *
  have e9 : (((q : Nat) : Int) != ((m : Nat) : Int)) = true := int_bne (by omega)
  clear hc0 ra5 rb5
  have HPW := Lib.hid (fun W => powers_no n' k' W (by omega))
  clear fa fb sa sb hp ra rb
  go_enter Try.func15, Try.ntmps15
  go_wp2_with (first | (go_at_call 34; (with_reducible refine (awake_any _).mono ?_); rintro e w2 ⟨rfl, hd⟩; (try replace g2 := cell_below hd g2); replace HB := bt HB HB.size hd; clear hd) | (go_at_call 35; (with_reducible refine (HFA.out _ (hA.below HB)).mono ?_); rintro e w2 ⟨rfl, rfl⟩) | (go_at_call 35; (with_reducible refine (HFB.out _ (hB.below HB)).mono ?_); rintro e w2 ⟨rfl, rfl⟩) | (go_at_call 36; (with_reducible refine (HSA.out _ (hA.below HB)).mono ?_); rintro e w2 ⟨rfl, rfl⟩) | (go_at_call 36; (with_reducible refine (HSB.out _ (hB.below HB)).mono ?_); rintro e w2 ⟨rfl, rfl⟩) | (go_at_call 46; (with_reducible refine (HRA.out _ (hA.below HB)).mono ?_); rintro e w3 ⟨rfl, hd⟩; (try replace g2 := cell_below hd g2); replace HB := bt HB HB.size hd; clear hd) | (go_at_call 38; (with_reducible refine (HRRA.out _ (hA.below HB)).mono ?_); rintro e w4 ⟨rfl, hd⟩; (try replace hX := hX.below hd); (try replace g2 := cell_below hd g2); replace HB := bt HB HB.size hd; clear hd) | (go_at_call 45; (with_reducible refine (HPW.out _).mono ?_); rintro e w5 ⟨rfl, rfl⟩))
  go_loop [11] (fun i => i = .int .i64 0) (fun _ => 0)
  case atStart => exact rfl
  case round =>
    obtain rfl := hrel
    go_wp2_with (first | (go_at_call 38; (with_reducible refine (HRRA.out _ (hA.below HB)).mono ?_); rintro e w4 ⟨rfl, hd⟩; (try replace hX := hX.below hd); (try replace g2 := cell_below hd g2); replace HB := bt HB HB.size hd; clear hd) | (go_at_call 38; (with_reducible refine (HRRB.out _ (hB.below HB)).mono ?_); rintro e w4 ⟨rfl, hd⟩; (try replace hX := hX.below hd); (try replace g2 := cell_below hd g2); replace HB := bt HB HB.size hd; clear hd) | (go_at_call 43; (with_reducible refine (HM.out _ (hA.below HB) (hB.below HB)).mono ?_); rintro e w6 ⟨rfl, hd⟩; (try replace g2 := cell_below hd g2); replace HB := bt HB HB.size hd; clear hd))
    go_ret
    exact ⟨rfl, HB⟩
set_option maxRecDepth 100000 in
set_option maxHeartbeats 1000000 in
theorem lawplays_no_ok (hA : Base.Rows w A la) (hB : Base.Rows w B lb) (ha : la.length = n) (hb : lb.length = m) (fa : fewR la = true) (fb : fewR lb = true) (sa : smallR la = true) (sb : smallR lb = true) (hx : x ≤ 255) (hy : y ≤ 255) (n' k' : Nat) (hn' : ((x : Nat) : Int) % 40 = (n' : Nat)) (hk' : ((y : Nat) : Int) % 9 = (k' : Nat)) (hn9 : n' < 40) (hk9 : k' < 9) (hp : ¬ ((1 ≤ n' ∧ n' ≤ 32) ∧ (1 ≤ k' ∧ k' ≤ 32))) (ra : rightB la = true) (rb : rightB lb = true) (hw : wid la = m) :
    Calls Try.prog 15 #[.slice A n c1, .slice B m c2, .int .u8 (x : Nat), .int .u8 (y : Nat)] w fun e w' => e = .returned (.bool true) ∧ Below w.heap.size w w' := by
  have HB : Below w.heap.size w w := Below.refl _ _
  have fwa := fewR_wid fa
  have fwb := fewR_wid fb
  have fna : n ≤ 40 := by have := (fewR_yes fa).1; omega
  have fnb : m ≤ 40 := by have := (fewR_yes fb).1; omega
  have HFA := Lib.hid (fun W (h : Base.Rows W A la) => few_any A n c1 la W h ha)
  have HFB := Lib.hid (fun W (h : Base.Rows W B lb) => few_any B m c2 lb W h hb)
  rw [fa] at HFA
  rw [fb] at HFB
  have HSA := Lib.hid (fun W (h : Base.Rows W A la) => small_any A n c1 la W h ha fa)
  have HSB := Lib.hid (fun W (h : Base.Rows W B lb) => small_any B m c2 lb W h hb fb)
  rw [sa] at HSA
  rw [sb] at HSB
  have HRA := Lib.hid (fun W (h : Base.Rows W A la) => right_any A n c1 la W h ha (by omega) (by omega))
  have HRRA := Lib.hid (fun W (h : Base.Rows W A la) => rright A n c1 la W h ha (by omega))
  have HRRB := Lib.hid (fun W (h : Base.Rows W B lb) => rright B m c2 lb W h hb (by omega))
  rw [ra] at HRA HRRA
  rw [rb] at HRRB
  obtain ⟨ra1, ra2, ra3, ra4, ra5⟩ := (right_iff la).1 ra
  obtain ⟨rb1, rb2, rb3, rb4, rb5⟩ := (right_iff lb).1 rb
  obtain ⟨b, off, rfl, hc0⟩ := hA.block (by omega)
  obtain ⟨B0, c0, g2, hx0⟩ := hc0 0 (by omega)
  clear hx0
  rw [Nat.add_zero, ← wid_of (by omega)] at g2
  have z0 : (0 : Int) < n := by omega
  have HM := Lib.hid (fun W (h9 : Base.Rows W (some ⟨b, off, none⟩) la) (h8 : Base.Rows W B lb) => mul_rows (some ⟨b, off, none⟩) B n m c1 c2 _ la lb W h9 h8 ha hb ra rb hw rfl)
  have HM2 := Lib.hid (fun W (h9 : Base.Rows W (some ⟨b, off, none⟩) la) (h8 : Base.Rows W B lb) => rmul_rows (some ⟨b, off, none⟩) B n m c1 c2 (wid lb) la lb W h9 h8 ha hb (by omega) (by omega) (by omega) (by omega) (by omega) (fun i hi => (ra5 i hi).trans hw) rb5)
  have HE := Lib.hid (fun W A A' c c' (h9 : Base.Rows W A (tab n (wid lb) (mm m (fn la) (fn lb)))) (h8 : Base.Rows W A' (tab n (wid lb) (mm m (fn la) (fn lb)))) => equal_tab A A' n _ c c' _ W h9 h8 (by omega) (by omega))
  rw [hw] at g2
  have e9 : (((m : Nat) : Int) != ((m : Nat) : Int)) = false := int_beq rfl
  clear hw
  clear hc0 ra5 rb5
  have HPW := Lib.hid (fun W => powers_no n' k' W (by omega))
  clear fa fb sa sb hp ra rb
  go_enter Try.func15, Try.ntmps15
  go_wp2_with (first | (go_at_call 34; (with_reducible refine (awake_any _).mono ?_); rintro e w2 ⟨rfl, hd⟩; (try replace g2 := cell_below hd g2); replace HB := bt HB HB.size hd; clear hd) | (go_at_call 35; (with_reducible refine (HFA.out _ (hA.below HB)).mono ?_); rintro e w2 ⟨rfl, rfl⟩) | (go_at_call 35; (with_reducible refine (HFB.out _ (hB.below HB)).mono ?_); rintro e w2 ⟨rfl, rfl⟩) | (go_at_call 36; (with_reducible refine (HSA.out _ (hA.below HB)).mono ?_); rintro e w2 ⟨rfl, rfl⟩) | (go_at_call 36; (with_reducible refine (HSB.out _ (hB.below HB)).mono ?_); rintro e w2 ⟨rfl, rfl⟩) | (go_at_call 46; (with_reducible refine (HRA.out _ (hA.below HB)).mono ?_); rintro e w3 ⟨rfl, hd⟩; (try replace g2 := cell_below hd g2); replace HB := bt HB HB.size hd; clear hd) | (go_at_call 38; (with_reducible refine (HRRA.out _ (hA.below HB)).mono ?_); rintro e w4 ⟨rfl, hd⟩; (try replace hX := hX.below hd); (try replace g2 := cell_below hd g2); replace HB := bt HB HB.size hd; clear hd) | (go_at_call 45; (with_reducible refine (HPW.out _).mono ?_); rintro e w5 ⟨rfl, rfl⟩))
  go_loop [11] (fun i => i = .int .i64 0) (fun _ => 0)
  case atStart => exact rfl
  case round =>
    obtain rfl := hrel
    go_wp2_with (first | (go_at_call 38; (with_reducible refine (HRRA.out _ (hA.below HB)).mono ?_); rintro e w4 ⟨rfl, hd⟩; (try replace hX := hX.below hd); (try replace g2 := cell_below hd g2); replace HB := bt HB HB.size hd; clear hd) | (go_at_call 38; (with_reducible refine (HRRB.out _ (hB.below HB)).mono ?_); rintro e w4 ⟨rfl, hd⟩; (try replace hX := hX.below hd); (try replace g2 := cell_below hd g2); replace HB := bt HB HB.size hd; clear hd) | (go_at_call 43; (with_reducible refine (HM.out _ (hA.below HB) (hB.below HB)).mono ?_); rintro e w6 ⟨g6, c6, rfl, hc6, hX, hd⟩; (try replace g2 := cell_below hd g2); replace HB := bt HB HB.size hd; clear hd) | (go_at_call 47; (with_reducible refine (HM2.out _ (hA.below HB) (hB.below HB)).mono ?_); rintro e w7 ⟨A7, c7, rfl, hY, hd⟩; replace hX := hX.below hd; (try replace g2 := cell_below hd g2); replace HB := bt HB HB.size hd; clear hd) | (go_at_call 41; (with_reducible refine (HE.out _ _ _ _ _ hX hY).mono ?_); rintro e w8 ⟨rfl, hd⟩; (try replace g2 := cell_below hd g2); replace HB := bt HB HB.size hd; clear hd))
    go_ret
    exact ⟨rfl, HB⟩
set_option maxRecDepth 100000 in
set_option maxHeartbeats 1000000 in
theorem lawplays_ok_ra (hA : Base.Rows w A la) (hB : Base.Rows w B lb) (ha : la.length = n) (hb : lb.length = m) (fa : fewR la = true) (fb : fewR lb = true) (sa : smallR la = true) (sb : smallR lb = true) (hx : x ≤ 255) (hy : y ≤ 255) (n' k' : Nat) (hn' : ((x : Nat) : Int) % 40 = (n' : Nat)) (hk' : ((y : Nat) : Int) % 9 = (k' : Nat)) (hn9 : n' < 40) (hk9 : k' < 9) (hp : (1 ≤ n' ∧ n' ≤ 32) ∧ (1 ≤ k' ∧ k' ≤ 32)) (ra : rightB la = false) :
    Calls Try.prog 15 #[.slice A n c1, .slice B m c2, .int .u8 (x : Nat), .int .u8 (y : Nat)] w fun e w' => e = .returned (.bool true) ∧ Below w.heap.size w w' := by
  have HB : Below w.heap.size w w := Below.refl _ _
  have fwa := fewR_wid fa
  have fwb := fewR_wid fb
  have fna : n ≤ 40 := by have := (fewR_yes fa).1; omega
  have fnb : m ≤ 40 := by have := (fewR_yes fb).1; omega
  have HFA := Lib.hid (fun W (h : Base.Rows W A la) => few_any A n c1 la W h ha)
  have HFB := Lib.hid (fun W (h : Base.Rows W B lb) => few_any B m c2 lb W h hb)
  rw [fa] at HFA
  rw [fb] at HFB
  have HSA := Lib.hid (fun W (h : Base.Rows W A la) => small_any A n c1 la W h ha fa)
  have HSB := Lib.hid (fun W (h : Base.Rows W B lb) => small_any B m c2 lb W h hb fb)
  rw [sa] at HSA
  rw [sb] at HSB
  have HRA := Lib.hid (fun W (h : Base.Rows W A la) => right_any A n c1 la W h ha (by omega) (by omega))
  have HRRA := Lib.hid (fun W (h : Base.Rows W A la) => rright A n c1 la W h ha (by omega))
  have HRRB := Lib.hid (fun W (h : Base.Rows W B lb) => rright B m c2 lb W h hb (by omega))
  rw [ra] at HRA HRRA
  have HM := Lib.hid (fun W (h9 : Base.Rows W A la) (h8 : Base.Rows W B lb) => mul_no A B n m c1 c2 la lb W h9 h8 ha hb (by omega) (by omega) (by omega) (by omega) (.inl ra))
  have HPW := Lib.hid (fun W => powers_ok n' k' W hp.1.1 hp.1.2 hp.2.1 hp.2.2)
  have e7 : (((n' : Nat) : Int) != ((n' : Nat) : Int)) = false := int_beq rfl
  have e8 : (((k' : Nat) : Int) != ((k' : Nat) : Int)) = false := int_beq rfl
  have z7 : (0 : Int) < n' := by omega
  clear fa fb sa sb ra
  go_enter Try.func15, Try.ntmps15
  go_wp2_with (first | (go_at_call 34; (with_reducible refine (awake_any _).mono ?_); rintro e w2 ⟨rfl, hd⟩; (try replace g2 := cell_below hd g2); replace HB := bt HB HB.size hd; clear hd) | (go_at_call 35; (with_reducible refine (HFA.out _ (hA.below HB)).mono ?_); rintro e w2 ⟨rfl, rfl⟩) | (go_at_call 35; (with_reducible refine (HFB.out _ (hB.below HB)).mono ?_); rintro e w2 ⟨rfl, rfl⟩) | (go_at_call 36; (with_reducible refine (HSA.out _ (hA.below HB)).mono ?_); rintro e w2 ⟨rfl, rfl⟩) | (go_at_call 36; (with_reducible refine (HSB.out _ (hB.below HB)).mono ?_); rintro e w2 ⟨rfl, rfl⟩) | (go_at_call 46; (with_reducible refine (HRA.out _ (hA.below HB)).mono ?_); rintro e w3 ⟨rfl, hd⟩; (try replace g2 := cell_below hd g2); replace HB := bt HB HB.size hd; clear hd) | (go_at_call 38; (with_reducible refine (HRRA.out _ (hA.below HB)).mono ?_); rintro e w4 ⟨rfl, hd⟩; (try replace hX := hX.below hd); (try replace g2 := cell_below hd g2); replace HB := bt HB HB.size hd; clear hd) | (go_at_call 45; (with_reducible refine (HPW.out _).mono ?_); rintro e w5 ⟨g, cap, bs, rfl, hcap, hPM, hd⟩; (try replace g2 := cell_below hd g2); replace HB := bt HB HB.size hd; clear hd))
  have HB0 := HB
  clear HB
  go_loopw [11, 12] (fun i _ wr => ∃ a : Nat, a ≤ n' ∧ i = .int .i64 a ∧ Drawn w5 wr) (fun i _ _ => n' - (intOf i).toNat)
  case atStart => exact ⟨0, by omega, rfl, Drawn.refl _⟩
  case round =>
    obtain ⟨a, ha2, rfl, HD⟩ := hrel
    have HBr := bt HB0 HB0.size (HD.below (B := w5.heap.size))
    have HPr := hPM.below (HD.below (B := w5.heap.size))
    by_cases hlt : a < n'
    · have ht := HPr.top a hlt
      have hra := HPr.row a hlt
      obtain ⟨wi, rfl⟩ : ∃ wi : World, wi = wr := ⟨_, rfl⟩
      go_wp2
      go_loopw [12] (fun j wx => ∃ b : Nat, b ≤ k' ∧ j = .int .i64 b ∧ Drawn wi wx) (fun j _ => k' - (intOf j).toNat)
      case atStart => exact ⟨0, by omega, rfl, Drawn.refl _⟩
      case round =>
        obtain ⟨b9, hb9, rfl, HD1⟩ := hrel
        have ht1 := cell_below (HD1.below (B := wi.heap.size)) ht
        by_cases hlt2 : b9 < k'
        · have hc1 := cell_below (HD1.below (B := wi.heap.size)) (hra.cell b9 hlt2)
          rw [show (powT a b9).v = rp a b9 from pwr_rp a b9 (by omega)] at hc1
          have hle := rp_le a b9
          have HRP := Lib.hid (fun W => rpow_nat a b9 W (by omega) (by omega))
          generalize rp a b9 = z at hc1 hle HRP
          have w1 : IntKind.i64.wrap ((z : Nat) : Int) = ((z : Nat) : Int) := u8int z hle
          have e5 : (((z : Nat) : Int) != ((z : Nat) : Int)) = false := int_beq rfl
          go_upto_region 12 with fail
          go_quiet ((go_at_call 31; exact Calls.quiet_of ((HRP.out _).mono fun _ _ ⟨h1, h2⟩ => ⟨h1, 0, h2.symm⟩)))
          go_wp2
          go_roundw
          case rel => exact ⟨b9 + 1, by omega, by go_num, HD1.trans (Drawn.step _)⟩
          case measure => simp [intOf]; omega
        · obtain rfl : b9 = k' := by omega
          go_wp2
          go_roundw
          case rel => exact ⟨a + 1, by omega, by go_num, HD.trans HD1⟩
          case measure => simp [intOf]; omega
    · obtain rfl : a = n' := by omega
      have ht0 := HPr.top 0 (by omega)
      have HB := HBr
      clear HBr hPM HPr
      (try replace g2 := cell_below (HD.below (B := w5.heap.size)) g2)
      have t9 : decide ((a : Nat) < a) = false := by simp
      go_wp2_with (first | (go_at_call 38; (with_reducible refine (HRRA.out _ (hA.below HB)).mono ?_); rintro e w4 ⟨rfl, hd⟩; (try replace hX := hX.below hd); (try replace g2 := cell_below hd g2); replace HB := bt HB HB.size hd; clear hd) | (go_at_call 38; (with_reducible refine (HRRB.out _ (hB.below HB)).mono ?_); rintro e w4 ⟨rfl, hd⟩; (try replace hX := hX.below hd); (try replace g2 := cell_below hd g2); replace HB := bt HB HB.size hd; clear hd) | (go_at_call 43; (with_reducible refine (HM.out _ (hA.below HB) (hB.below HB)).mono ?_); rintro e w6 ⟨rfl, hd⟩; (try replace g2 := cell_below hd g2); replace HB := bt HB HB.size hd; clear hd))
      go_ret
      exact ⟨rfl, HB⟩
set_option maxRecDepth 100000 in
set_option maxHeartbeats 1000000 in
theorem lawplays_ok_rb (hA : Base.Rows w A la) (hB : Base.Rows w B lb) (ha : la.length = n) (hb : lb.length = m) (fa : fewR la = true) (fb : fewR lb = true) (sa : smallR la = true) (sb : smallR lb = true) (hx : x ≤ 255) (hy : y ≤ 255) (n' k' : Nat) (hn' : ((x : Nat) : Int) % 40 = (n' : Nat)) (hk' : ((y : Nat) : Int) % 9 = (k' : Nat)) (hn9 : n' < 40) (hk9 : k' < 9) (hp : (1 ≤ n' ∧ n' ≤ 32) ∧ (1 ≤ k' ∧ k' ≤ 32)) (ra : rightB la = true) (rb : rightB lb = false) :
    Calls Try.prog 15 #[.slice A n c1, .slice B m c2, .int .u8 (x : Nat), .int .u8 (y : Nat)] w fun e w' => e = .returned (.bool true) ∧ Below w.heap.size w w' := by
  have HB : Below w.heap.size w w := Below.refl _ _
  have fwa := fewR_wid fa
  have fwb := fewR_wid fb
  have fna : n ≤ 40 := by have := (fewR_yes fa).1; omega
  have fnb : m ≤ 40 := by have := (fewR_yes fb).1; omega
  have HFA := Lib.hid (fun W (h : Base.Rows W A la) => few_any A n c1 la W h ha)
  have HFB := Lib.hid (fun W (h : Base.Rows W B lb) => few_any B m c2 lb W h hb)
  rw [fa] at HFA
  rw [fb] at HFB
  have HSA := Lib.hid (fun W (h : Base.Rows W A la) => small_any A n c1 la W h ha fa)
  have HSB := Lib.hid (fun W (h : Base.Rows W B lb) => small_any B m c2 lb W h hb fb)
  rw [sa] at HSA
  rw [sb] at HSB
  have HRA := Lib.hid (fun W (h : Base.Rows W A la) => right_any A n c1 la W h ha (by omega) (by omega))
  have HRRA := Lib.hid (fun W (h : Base.Rows W A la) => rright A n c1 la W h ha (by omega))
  have HRRB := Lib.hid (fun W (h : Base.Rows W B lb) => rright B m c2 lb W h hb (by omega))
  rw [ra] at HRA HRRA
  rw [rb] at HRRB
  have HM := Lib.hid (fun W (h9 : Base.Rows W A la) (h8 : Base.Rows W B lb) => mul_no A B n m c1 c2 la lb W h9 h8 ha hb (by omega) (by omega) (by omega) (by omega) (.inr (.inl rb)))
  have HPW := Lib.hid (fun W => powers_ok n' k' W hp.1.1 hp.1.2 hp.2.1 hp.2.2)
  have e7 : (((n' : Nat) : Int) != ((n' : Nat) : Int)) = false := int_beq rfl
  have e8 : (((k' : Nat) : Int) != ((k' : Nat) : Int)) = false := int_beq rfl
  have z7 : (0 : Int) < n' := by omega
  clear fa fb sa sb ra rb
  go_enter Try.func15, Try.ntmps15
  go_wp2_with (first | (go_at_call 34; (with_reducible refine (awake_any _).mono ?_); rintro e w2 ⟨rfl, hd⟩; (try replace g2 := cell_below hd g2); replace HB := bt HB HB.size hd; clear hd) | (go_at_call 35; (with_reducible refine (HFA.out _ (hA.below HB)).mono ?_); rintro e w2 ⟨rfl, rfl⟩) | (go_at_call 35; (with_reducible refine (HFB.out _ (hB.below HB)).mono ?_); rintro e w2 ⟨rfl, rfl⟩) | (go_at_call 36; (with_reducible refine (HSA.out _ (hA.below HB)).mono ?_); rintro e w2 ⟨rfl, rfl⟩) | (go_at_call 36; (with_reducible refine (HSB.out _ (hB.below HB)).mono ?_); rintro e w2 ⟨rfl, rfl⟩) | (go_at_call 46; (with_reducible refine (HRA.out _ (hA.below HB)).mono ?_); rintro e w3 ⟨rfl, hd⟩; (try replace g2 := cell_below hd g2); replace HB := bt HB HB.size hd; clear hd) | (go_at_call 38; (with_reducible refine (HRRA.out _ (hA.below HB)).mono ?_); rintro e w4 ⟨rfl, hd⟩; (try replace hX := hX.below hd); (try replace g2 := cell_below hd g2); replace HB := bt HB HB.size hd; clear hd) | (go_at_call 45; (with_reducible refine (HPW.out _).mono ?_); rintro e w5 ⟨g, cap, bs, rfl, hcap, hPM, hd⟩; (try replace g2 := cell_below hd g2); replace HB := bt HB HB.size hd; clear hd))
  have HB0 := HB
  clear HB
  go_loopw [11, 12] (fun i _ wr => ∃ a : Nat, a ≤ n' ∧ i = .int .i64 a ∧ Drawn w5 wr) (fun i _ _ => n' - (intOf i).toNat)
  case atStart => exact ⟨0, by omega, rfl, Drawn.refl _⟩
  case round =>
    obtain ⟨a, ha2, rfl, HD⟩ := hrel
    have HBr := bt HB0 HB0.size (HD.below (B := w5.heap.size))
    have HPr := hPM.below (HD.below (B := w5.heap.size))
    by_cases hlt : a < n'
    · have ht := HPr.top a hlt
      have hra := HPr.row a hlt
      obtain ⟨wi, rfl⟩ : ∃ wi : World, wi = wr := ⟨_, rfl⟩
      go_wp2
      go_loopw [12] (fun j wx => ∃ b : Nat, b ≤ k' ∧ j = .int .i64 b ∧ Drawn wi wx) (fun j _ => k' - (intOf j).toNat)
      case atStart => exact ⟨0, by omega, rfl, Drawn.refl _⟩
      case round =>
        obtain ⟨b9, hb9, rfl, HD1⟩ := hrel
        have ht1 := cell_below (HD1.below (B := wi.heap.size)) ht
        by_cases hlt2 : b9 < k'
        · have hc1 := cell_below (HD1.below (B := wi.heap.size)) (hra.cell b9 hlt2)
          rw [show (powT a b9).v = rp a b9 from pwr_rp a b9 (by omega)] at hc1
          have hle := rp_le a b9
          have HRP := Lib.hid (fun W => rpow_nat a b9 W (by omega) (by omega))
          generalize rp a b9 = z at hc1 hle HRP
          have w1 : IntKind.i64.wrap ((z : Nat) : Int) = ((z : Nat) : Int) := u8int z hle
          have e5 : (((z : Nat) : Int) != ((z : Nat) : Int)) = false := int_beq rfl
          go_upto_region 12 with fail
          go_quiet ((go_at_call 31; exact Calls.quiet_of ((HRP.out _).mono fun _ _ ⟨h1, h2⟩ => ⟨h1, 0, h2.symm⟩)))
          go_wp2
          go_roundw
          case rel => exact ⟨b9 + 1, by omega, by go_num, HD1.trans (Drawn.step _)⟩
          case measure => simp [intOf]; omega
        · obtain rfl : b9 = k' := by omega
          go_wp2
          go_roundw
          case rel => exact ⟨a + 1, by omega, by go_num, HD.trans HD1⟩
          case measure => simp [intOf]; omega
    · obtain rfl : a = n' := by omega
      have ht0 := HPr.top 0 (by omega)
      have HB := HBr
      clear HBr hPM HPr
      (try replace g2 := cell_below (HD.below (B := w5.heap.size)) g2)
      have t9 : decide ((a : Nat) < a) = false := by simp
      go_wp2_with (first | (go_at_call 38; (with_reducible refine (HRRA.out _ (hA.below HB)).mono ?_); rintro e w4 ⟨rfl, hd⟩; (try replace hX := hX.below hd); (try replace g2 := cell_below hd g2); replace HB := bt HB HB.size hd; clear hd) | (go_at_call 38; (with_reducible refine (HRRB.out _ (hB.below HB)).mono ?_); rintro e w4 ⟨rfl, hd⟩; (try replace hX := hX.below hd); (try replace g2 := cell_below hd g2); replace HB := bt HB HB.size hd; clear hd) | (go_at_call 43; (with_reducible refine (HM.out _ (hA.below HB) (hB.below HB)).mono ?_); rintro e w6 ⟨rfl, hd⟩; (try replace g2 := cell_below hd g2); replace HB := bt HB HB.size hd; clear hd))
      go_ret
      exact ⟨rfl, HB⟩
set_option maxRecDepth 100000 in
set_option maxHeartbeats 1000000 in
theorem lawplays_ok_wd (hA : Base.Rows w A la) (hB : Base.Rows w B lb) (ha : la.length = n) (hb : lb.length = m) (fa : fewR la = true) (fb : fewR lb = true) (sa : smallR la = true) (sb : smallR lb = true) (hx : x ≤ 255) (hy : y ≤ 255) (n' k' : Nat) (hn' : ((x : Nat) : Int) % 40 = (n' : Nat)) (hk' : ((y : Nat) : Int) % 9 = (k' : Nat)) (hn9 : n' < 40) (hk9 : k' < 9) (hp : (1 ≤ n' ∧ n' ≤ 32) ∧ (1 ≤ k' ∧ k' ≤ 32)) (ra : rightB la = true) (rb : rightB lb = true) (hw : wid la ≠ m) :
    Calls Try.prog 15 #[.slice A n c1, .slice B m c2, .int .u8 (x : Nat), .int .u8 (y : Nat)] w fun e w' => e = .returned (.bool true) ∧ Below w.heap.size w w' := by
  have HB : Below w.heap.size w w := Below.refl _ _
  have fwa := fewR_wid fa
  have fwb := fewR_wid fb
  have fna : n ≤ 40 := by have := (fewR_yes fa).1; omega
  have fnb : m ≤ 40 := by have := (fewR_yes fb).1; omega
  have HFA := Lib.hid (fun W (h : Base.Rows W A la) => few_any A n c1 la W h ha)
  have HFB := Lib.hid (fun W (h : Base.Rows W B lb) => few_any B m c2 lb W h hb)
  rw [fa] at HFA
  rw [fb] at HFB
  have HSA := Lib.hid (fun W (h : Base.Rows W A la) => small_any A n c1 la W h ha fa)
  have HSB := Lib.hid (fun W (h : Base.Rows W B lb) => small_any B m c2 lb W h hb fb)
  rw [sa] at HSA
  rw [sb] at HSB
  have HRA := Lib.hid (fun W (h : Base.Rows W A la) => right_any A n c1 la W h ha (by omega) (by omega))
  have HRRA := Lib.hid (fun W (h : Base.Rows W A la) => rright A n c1 la W h ha (by omega))
  have HRRB := Lib.hid (fun W (h : Base.Rows W B lb) => rright B m c2 lb W h hb (by omega))
  rw [ra] at HRA HRRA
  rw [rb] at HRRB
  have HM := Lib.hid (fun W (h9 : Base.Rows W A la) (h8 : Base.Rows W B lb) => mul_no A B n m c1 c2 la lb W h9 h8 ha hb (by omega) (by omega) (by omega) (by omega) (.inr (.inr hw)))
  obtain ⟨ra1, ra2, ra3, ra4, ra5⟩ := (right_iff la).1 ra
  obtain ⟨rb1, rb2, rb3, rb4, rb5⟩ := (right_iff lb).1 rb
  obtain ⟨b, off, rfl, hc0⟩ := hA.block (by omega)
  obtain ⟨B0, c0, g2, hx0⟩ := hc0 0 (by omega)
  clear hx0
  rw [Nat.add_zero, ← wid_of (by omega)] at g2
  have z0 : (0 : Int) < n := by omega
  generalize wid la = q at *
  have e9 : (((q : Nat) : Int) != ((m : Nat) : Int)) = true := int_bne (by omega)
  clear hc0 ra5 rb5
  have HPW := Lib.hid (fun W => powers_ok n' k' W hp.1.1 hp.1.2 hp.2.1 hp.2.2)
  have e7 : (((n' : Nat) : Int) != ((n' : Nat) : Int)) = false := int_beq rfl
  have e8 : (((k' : Nat) : Int) != ((k' : Nat) : Int)) = false := int_beq rfl
  have z7 : (0 : Int) < n' := by omega
  clear fa fb sa sb ra rb
  go_enter Try.func15, Try.ntmps15
  go_wp2_with (first | (go_at_call 34; (with_reducible refine (awake_any _).mono ?_); rintro e w2 ⟨rfl, hd⟩; (try replace g2 := cell_below hd g2); replace HB := bt HB HB.size hd; clear hd) | (go_at_call 35; (with_reducible refine (HFA.out _ (hA.below HB)).mono ?_); rintro e w2 ⟨rfl, rfl⟩) | (go_at_call 35; (with_reducible refine (HFB.out _ (hB.below HB)).mono ?_); rintro e w2 ⟨rfl, rfl⟩) | (go_at_call 36; (with_reducible refine (HSA.out _ (hA.below HB)).mono ?_); rintro e w2 ⟨rfl, rfl⟩) | (go_at_call 36; (with_reducible refine (HSB.out _ (hB.below HB)).mono ?_); rintro e w2 ⟨rfl, rfl⟩) | (go_at_call 46; (with_reducible refine (HRA.out _ (hA.below HB)).mono ?_); rintro e w3 ⟨rfl, hd⟩; (try replace g2 := cell_below hd g2); replace HB := bt HB HB.size hd; clear hd) | (go_at_call 38; (with_reducible refine (HRRA.out _ (hA.below HB)).mono ?_); rintro e w4 ⟨rfl, hd⟩; (try replace hX := hX.below hd); (try replace g2 := cell_below hd g2); replace HB := bt HB HB.size hd; clear hd) | (go_at_call 45; (with_reducible refine (HPW.out _).mono ?_); rintro e w5 ⟨g, cap, bs, rfl, hcap, hPM, hd⟩; (try replace g2 := cell_below hd g2); replace HB := bt HB HB.size hd; clear hd))
  have HB0 := HB
  clear HB
  go_loopw [11, 12] (fun i _ wr => ∃ a : Nat, a ≤ n' ∧ i = .int .i64 a ∧ Drawn w5 wr) (fun i _ _ => n' - (intOf i).toNat)
  case atStart => exact ⟨0, by omega, rfl, Drawn.refl _⟩
  case round =>
    obtain ⟨a, ha2, rfl, HD⟩ := hrel
    have HBr := bt HB0 HB0.size (HD.below (B := w5.heap.size))
    have HPr := hPM.below (HD.below (B := w5.heap.size))
    by_cases hlt : a < n'
    · have ht := HPr.top a hlt
      have hra := HPr.row a hlt
      obtain ⟨wi, rfl⟩ : ∃ wi : World, wi = wr := ⟨_, rfl⟩
      go_wp2
      go_loopw [12] (fun j wx => ∃ b : Nat, b ≤ k' ∧ j = .int .i64 b ∧ Drawn wi wx) (fun j _ => k' - (intOf j).toNat)
      case atStart => exact ⟨0, by omega, rfl, Drawn.refl _⟩
      case round =>
        obtain ⟨b9, hb9, rfl, HD1⟩ := hrel
        have ht1 := cell_below (HD1.below (B := wi.heap.size)) ht
        by_cases hlt2 : b9 < k'
        · have hc1 := cell_below (HD1.below (B := wi.heap.size)) (hra.cell b9 hlt2)
          rw [show (powT a b9).v = rp a b9 from pwr_rp a b9 (by omega)] at hc1
          have hle := rp_le a b9
          have HRP := Lib.hid (fun W => rpow_nat a b9 W (by omega) (by omega))
          generalize rp a b9 = z at hc1 hle HRP
          have w1 : IntKind.i64.wrap ((z : Nat) : Int) = ((z : Nat) : Int) := u8int z hle
          have e5 : (((z : Nat) : Int) != ((z : Nat) : Int)) = false := int_beq rfl
          go_upto_region 12 with fail
          go_quiet ((go_at_call 31; exact Calls.quiet_of ((HRP.out _).mono fun _ _ ⟨h1, h2⟩ => ⟨h1, 0, h2.symm⟩)))
          go_wp2
          go_roundw
          case rel => exact ⟨b9 + 1, by omega, by go_num, HD1.trans (Drawn.step _)⟩
          case measure => simp [intOf]; omega
        · obtain rfl : b9 = k' := by omega
          go_wp2
          go_roundw
          case rel => exact ⟨a + 1, by omega, by go_num, HD.trans HD1⟩
          case measure => simp [intOf]; omega
    · obtain rfl : a = n' := by omega
      have ht0 := HPr.top 0 (by omega)
      have HB := HBr
      clear HBr hPM HPr
      (try replace g2 := cell_below (HD.below (B := w5.heap.size)) g2)
      have t9 : decide ((a : Nat) < a) = false := by simp
      go_wp2_with (first | (go_at_call 38; (with_reducible refine (HRRA.out _ (hA.below HB)).mono ?_); rintro e w4 ⟨rfl, hd⟩; (try replace hX := hX.below hd); (try replace g2 := cell_below hd g2); replace HB := bt HB HB.size hd; clear hd) | (go_at_call 38; (with_reducible refine (HRRB.out _ (hB.below HB)).mono ?_); rintro e w4 ⟨rfl, hd⟩; (try replace hX := hX.below hd); (try replace g2 := cell_below hd g2); replace HB := bt HB HB.size hd; clear hd) | (go_at_call 43; (with_reducible refine (HM.out _ (hA.below HB) (hB.below HB)).mono ?_); rintro e w6 ⟨rfl, hd⟩; (try replace g2 := cell_below hd g2); replace HB := bt HB HB.size hd; clear hd))
      go_ret
      exact ⟨rfl, HB⟩
set_option maxRecDepth 100000 in
set_option maxHeartbeats 1000000 in
theorem lawplays_ok_ok (hA : Base.Rows w A la) (hB : Base.Rows w B lb) (ha : la.length = n) (hb : lb.length = m) (fa : fewR la = true) (fb : fewR lb = true) (sa : smallR la = true) (sb : smallR lb = true) (hx : x ≤ 255) (hy : y ≤ 255) (n' k' : Nat) (hn' : ((x : Nat) : Int) % 40 = (n' : Nat)) (hk' : ((y : Nat) : Int) % 9 = (k' : Nat)) (hn9 : n' < 40) (hk9 : k' < 9) (hp : (1 ≤ n' ∧ n' ≤ 32) ∧ (1 ≤ k' ∧ k' ≤ 32)) (ra : rightB la = true) (rb : rightB lb = true) (hw : wid la = m) :
    Calls Try.prog 15 #[.slice A n c1, .slice B m c2, .int .u8 (x : Nat), .int .u8 (y : Nat)] w fun e w' => e = .returned (.bool true) ∧ Below w.heap.size w w' := by
  have HB : Below w.heap.size w w := Below.refl _ _
  have fwa := fewR_wid fa
  have fwb := fewR_wid fb
  have fna : n ≤ 40 := by have := (fewR_yes fa).1; omega
  have fnb : m ≤ 40 := by have := (fewR_yes fb).1; omega
  have HFA := Lib.hid (fun W (h : Base.Rows W A la) => few_any A n c1 la W h ha)
  have HFB := Lib.hid (fun W (h : Base.Rows W B lb) => few_any B m c2 lb W h hb)
  rw [fa] at HFA
  rw [fb] at HFB
  have HSA := Lib.hid (fun W (h : Base.Rows W A la) => small_any A n c1 la W h ha fa)
  have HSB := Lib.hid (fun W (h : Base.Rows W B lb) => small_any B m c2 lb W h hb fb)
  rw [sa] at HSA
  rw [sb] at HSB
  have HRA := Lib.hid (fun W (h : Base.Rows W A la) => right_any A n c1 la W h ha (by omega) (by omega))
  have HRRA := Lib.hid (fun W (h : Base.Rows W A la) => rright A n c1 la W h ha (by omega))
  have HRRB := Lib.hid (fun W (h : Base.Rows W B lb) => rright B m c2 lb W h hb (by omega))
  rw [ra] at HRA HRRA
  rw [rb] at HRRB
  obtain ⟨ra1, ra2, ra3, ra4, ra5⟩ := (right_iff la).1 ra
  obtain ⟨rb1, rb2, rb3, rb4, rb5⟩ := (right_iff lb).1 rb
  obtain ⟨b, off, rfl, hc0⟩ := hA.block (by omega)
  obtain ⟨B0, c0, g2, hx0⟩ := hc0 0 (by omega)
  clear hx0
  rw [Nat.add_zero, ← wid_of (by omega)] at g2
  have z0 : (0 : Int) < n := by omega
  have HM := Lib.hid (fun W (h9 : Base.Rows W (some ⟨b, off, none⟩) la) (h8 : Base.Rows W B lb) => mul_rows (some ⟨b, off, none⟩) B n m c1 c2 _ la lb W h9 h8 ha hb ra rb hw rfl)
  have HM2 := Lib.hid (fun W (h9 : Base.Rows W (some ⟨b, off, none⟩) la) (h8 : Base.Rows W B lb) => rmul_rows (some ⟨b, off, none⟩) B n m c1 c2 (wid lb) la lb W h9 h8 ha hb (by omega) (by omega) (by omega) (by omega) (by omega) (fun i hi => (ra5 i hi).trans hw) rb5)
  have HE := Lib.hid (fun W A A' c c' (h9 : Base.Rows W A (tab n (wid lb) (mm m (fn la) (fn lb)))) (h8 : Base.Rows W A' (tab n (wid lb) (mm m (fn la) (fn lb)))) => equal_tab A A' n _ c c' _ W h9 h8 (by omega) (by omega))
  rw [hw] at g2
  have e9 : (((m : Nat) : Int) != ((m : Nat) : Int)) = false := int_beq rfl
  clear hw
  clear hc0 ra5 rb5
  have HPW := Lib.hid (fun W => powers_ok n' k' W hp.1.1 hp.1.2 hp.2.1 hp.2.2)
  have e7 : (((n' : Nat) : Int) != ((n' : Nat) : Int)) = false := int_beq rfl
  have e8 : (((k' : Nat) : Int) != ((k' : Nat) : Int)) = false := int_beq rfl
  have z7 : (0 : Int) < n' := by omega
  clear fa fb sa sb ra rb
  go_enter Try.func15, Try.ntmps15
  go_wp2_with (first | (go_at_call 34; (with_reducible refine (awake_any _).mono ?_); rintro e w2 ⟨rfl, hd⟩; (try replace g2 := cell_below hd g2); replace HB := bt HB HB.size hd; clear hd) | (go_at_call 35; (with_reducible refine (HFA.out _ (hA.below HB)).mono ?_); rintro e w2 ⟨rfl, rfl⟩) | (go_at_call 35; (with_reducible refine (HFB.out _ (hB.below HB)).mono ?_); rintro e w2 ⟨rfl, rfl⟩) | (go_at_call 36; (with_reducible refine (HSA.out _ (hA.below HB)).mono ?_); rintro e w2 ⟨rfl, rfl⟩) | (go_at_call 36; (with_reducible refine (HSB.out _ (hB.below HB)).mono ?_); rintro e w2 ⟨rfl, rfl⟩) | (go_at_call 46; (with_reducible refine (HRA.out _ (hA.below HB)).mono ?_); rintro e w3 ⟨rfl, hd⟩; (try replace g2 := cell_below hd g2); replace HB := bt HB HB.size hd; clear hd) | (go_at_call 38; (with_reducible refine (HRRA.out _ (hA.below HB)).mono ?_); rintro e w4 ⟨rfl, hd⟩; (try replace hX := hX.below hd); (try replace g2 := cell_below hd g2); replace HB := bt HB HB.size hd; clear hd) | (go_at_call 45; (with_reducible refine (HPW.out _).mono ?_); rintro e w5 ⟨g, cap, bs, rfl, hcap, hPM, hd⟩; (try replace g2 := cell_below hd g2); replace HB := bt HB HB.size hd; clear hd))
  have HB0 := HB
  clear HB
  go_loopw [11, 12] (fun i _ wr => ∃ a : Nat, a ≤ n' ∧ i = .int .i64 a ∧ Drawn w5 wr) (fun i _ _ => n' - (intOf i).toNat)
  case atStart => exact ⟨0, by omega, rfl, Drawn.refl _⟩
  case round =>
    obtain ⟨a, ha2, rfl, HD⟩ := hrel
    have HBr := bt HB0 HB0.size (HD.below (B := w5.heap.size))
    have HPr := hPM.below (HD.below (B := w5.heap.size))
    by_cases hlt : a < n'
    · have ht := HPr.top a hlt
      have hra := HPr.row a hlt
      obtain ⟨wi, rfl⟩ : ∃ wi : World, wi = wr := ⟨_, rfl⟩
      go_wp2
      go_loopw [12] (fun j wx => ∃ b : Nat, b ≤ k' ∧ j = .int .i64 b ∧ Drawn wi wx) (fun j _ => k' - (intOf j).toNat)
      case atStart => exact ⟨0, by omega, rfl, Drawn.refl _⟩
      case round =>
        obtain ⟨b9, hb9, rfl, HD1⟩ := hrel
        have ht1 := cell_below (HD1.below (B := wi.heap.size)) ht
        by_cases hlt2 : b9 < k'
        · have hc1 := cell_below (HD1.below (B := wi.heap.size)) (hra.cell b9 hlt2)
          rw [show (powT a b9).v = rp a b9 from pwr_rp a b9 (by omega)] at hc1
          have hle := rp_le a b9
          have HRP := Lib.hid (fun W => rpow_nat a b9 W (by omega) (by omega))
          generalize rp a b9 = z at hc1 hle HRP
          have w1 : IntKind.i64.wrap ((z : Nat) : Int) = ((z : Nat) : Int) := u8int z hle
          have e5 : (((z : Nat) : Int) != ((z : Nat) : Int)) = false := int_beq rfl
          go_upto_region 12 with fail
          go_quiet ((go_at_call 31; exact Calls.quiet_of ((HRP.out _).mono fun _ _ ⟨h1, h2⟩ => ⟨h1, 0, h2.symm⟩)))
          go_wp2
          go_roundw
          case rel => exact ⟨b9 + 1, by omega, by go_num, HD1.trans (Drawn.step _)⟩
          case measure => simp [intOf]; omega
        · obtain rfl : b9 = k' := by omega
          go_wp2
          go_roundw
          case rel => exact ⟨a + 1, by omega, by go_num, HD.trans HD1⟩
          case measure => simp [intOf]; omega
    · obtain rfl : a = n' := by omega
      have ht0 := HPr.top 0 (by omega)
      have HB := HBr
      clear HBr hPM HPr
      (try replace g2 := cell_below (HD.below (B := w5.heap.size)) g2)
      have t9 : decide ((a : Nat) < a) = false := by simp
      go_wp2_with (first | (go_at_call 38; (with_reducible refine (HRRA.out _ (hA.below HB)).mono ?_); rintro e w4 ⟨rfl, hd⟩; (try replace hX := hX.below hd); (try replace g2 := cell_below hd g2); replace HB := bt HB HB.size hd; clear hd) | (go_at_call 38; (with_reducible refine (HRRB.out _ (hB.below HB)).mono ?_); rintro e w4 ⟨rfl, hd⟩; (try replace hX := hX.below hd); (try replace g2 := cell_below hd g2); replace HB := bt HB HB.size hd; clear hd) | (go_at_call 43; (with_reducible refine (HM.out _ (hA.below HB) (hB.below HB)).mono ?_); rintro e w6 ⟨g6, c6, rfl, hc6, hX, hd⟩; (try replace g2 := cell_below hd g2); replace HB := bt HB HB.size hd; clear hd) | (go_at_call 47; (with_reducible refine (HM2.out _ (hA.below HB) (hB.below HB)).mono ?_); rintro e w7 ⟨A7, c7, rfl, hY, hd⟩; replace hX := hX.below hd; (try replace g2 := cell_below hd g2); replace HB := bt HB HB.size hd; clear hd) | (go_at_call 41; (with_reducible refine (HE.out _ _ _ _ _ hX hY).mono ?_); rintro e w8 ⟨rfl, hd⟩; (try replace g2 := cell_below hd g2); replace HB := bt HB HB.size hd; clear hd))
      go_ret
      exact ⟨rfl, HB⟩
theorem lawplays (hA : Base.Rows w A la) (hB : Base.Rows w B lb) (ha : la.length = n) (hb : lb.length = m) (hx : x ≤ 255) (hy : y ≤ 255) :
    Calls Try.prog 15 #[.slice A n c1, .slice B m c2, .int .u8 (x : Nat), .int .u8 (y : Nat)] w fun e w' => e = .returned (.bool true) ∧ Below w.heap.size w w' := by
  by_cases hf : fewR la = true ∧ fewR lb = true
  · obtain ⟨fa, fb⟩ := hf
    by_cases hs : smallR la = true ∧ smallR lb = true
    · obtain ⟨sa, sb⟩ := hs
      obtain ⟨n', hn'⟩ : ∃ n' : Nat, ((x : Nat) : Int) % 40 = (n' : Nat) := ⟨x % 40, by omega⟩
      obtain ⟨k', hk'⟩ : ∃ k' : Nat, ((y : Nat) : Int) % 9 = (k' : Nat) := ⟨y % 9, by omega⟩
      have hn9 : n' < 40 := by omega
      have hk9 : k' < 9 := by omega
      by_cases hp : (1 ≤ n' ∧ n' ≤ 32) ∧ (1 ≤ k' ∧ k' ≤ 32)
      · by_cases ra : rightB la = true
        · by_cases rb : rightB lb = true
          · by_cases hw : wid la = m
            · exact lawplays_ok_ok A B n m c1 c2 x y la lb w hA hB ha hb fa fb sa sb hx hy n' k' hn' hk' hn9 hk9 hp ra rb hw
            · exact lawplays_ok_wd A B n m c1 c2 x y la lb w hA hB ha hb fa fb sa sb hx hy n' k' hn' hk' hn9 hk9 hp ra rb hw
          · exact lawplays_ok_rb A B n m c1 c2 x y la lb w hA hB ha hb fa fb sa sb hx hy n' k' hn' hk' hn9 hk9 hp ra (by simpa using rb)
        · exact lawplays_ok_ra A B n m c1 c2 x y la lb w hA hB ha hb fa fb sa sb hx hy n' k' hn' hk' hn9 hk9 hp (by simpa using ra)
      · by_cases ra : rightB la = true
        · by_cases rb : rightB lb = true
          · by_cases hw : wid la = m
            · exact lawplays_no_ok A B n m c1 c2 x y la lb w hA hB ha hb fa fb sa sb hx hy n' k' hn' hk' hn9 hk9 hp ra rb hw
            · exact lawplays_no_wd A B n m c1 c2 x y la lb w hA hB ha hb fa fb sa sb hx hy n' k' hn' hk' hn9 hk9 hp ra rb hw
          · exact lawplays_no_rb A B n m c1 c2 x y la lb w hA hB ha hb fa fb sa sb hx hy n' k' hn' hk' hn9 hk9 hp ra (by simpa using rb)
        · exact lawplays_no_ra A B n m c1 c2 x y la lb w hA hB ha hb fa fb sa sb hx hy n' k' hn' hk' hn9 hk9 hp (by simpa using ra)
    · exact lawplays_far2 A B n m c1 c2 x y la lb w hA hB ha hb fa fb hs
  · exact lawplays_far A B n m c1 c2 x y la lb w hA hB ha hb hf
end
end Go.Proofs.Ytalinkpfklhgaaa.RowsW
