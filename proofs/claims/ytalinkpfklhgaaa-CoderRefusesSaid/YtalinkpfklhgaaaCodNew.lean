/- coder.upTo, New and Sizes walked. -/
import Derived.Test.YtalinkpfklhgaaaCodTimes2
set_option linter.unusedVariables false
set_option linter.unusedSimpArgs false
namespace Go.Proofs.Ytalinkpfklhgaaa.CodW
open Go.RowKit Go.Proofs.Ytalinkpfklhgaaa.Base Go.Proofs.Ytalinkpfklhgaaa.GfP Go.Proofs.Ytalinkpfklhgaaa.GfW Go.Proofs.Ytalinkpfklhgaaa.Lin Go.Proofs.Ytalinkpfklhgaaa.RowsW Go.Proofs.Ytalinkpfklhgaaa.CodP

theorem info_int : (Try.prog.info? 3).map (fun i => (i.zero, i.size, i.bytes)) = some (some (.int .i64 0), 1, 8) := by kernel_rfl
/-- Whole numbers as values. -/
def zv (l : List Int) : List Value := l.map (Value.int .i64)
theorem zv_length (l : List Int) : (zv l).length = l.length := by simp [zv]
theorem own_ints {w : World} {base e n : Nat} {v : Value} {l : List Int} (h : w.ownsRow base e 1 v n (zv l)) (hle : ∀ x, x ∈ l → -9223372036854775808 ≤ x ∧ x ≤ 9223372036854775807) : ∃ A c, v = .slice A n c ∧ n ≤ c ∧ Ints w A l := by
  have hl : l.length = n := by have := h.1; rw [zv_length] at this; omega
  rcases h.2 with ⟨rfl, h0⟩ | ⟨g, cap, cur, rfl, hb, hg, hc, _⟩
  · subst h0
    have : l = [] := List.eq_nil_of_length_eq_zero hl
    subst this
    exact ⟨none, 0, rfl, Nat.le_refl _, Ints.nil _ _⟩
  · refine ⟨_, cap, rfl, hc, hle, .inr ⟨g, 0, rfl, fun j hj => ?_⟩⟩
    have hcl := h.cells (g := g) rfl j (.int .i64 l[j]) (by simp [zv, hj])
    have ha : (⟨g, 0, none⟩ : Addr).add j = ⟨g, 0 + j, none⟩ := by unfold Addr.add; split <;> simp_all
    rw [ha] at hcl
    exact hcl
theorem upL_le (k : Nat) (hk : k ≤ 1000) : ∀ x, x ∈ upL k → -9223372036854775808 ≤ x ∧ x ≤ 9223372036854775807 := fun x hx => by
  obtain ⟨i, hi, rfl⟩ := List.mem_map.1 hx
  have := List.mem_range.1 hi
  omega
set_option maxRecDepth 100000 in
set_option maxHeartbeats 1000000 in
theorem upto_any (k : Nat) (w : World) (hk : k ≤ 1000) :
    Calls Try.prog 67 #[.int .i64 (k : Nat)] w fun e w' => ∃ A c, e = .returned (.slice A k c) ∧ k ≤ c ∧ Ints w' A (upL k) ∧ Below w.heap.size w w' := by
  go_enter Try.func67, Try.ntmps67
  go_wp2
  go_loopw [3, 4, 6] (fun d _ i wr => ∃ a : Nat, a ≤ k ∧ i = .int .i64 a ∧ wr.ownsRow w.heap.size 3 1 d a (zv (upL a)) ∧ Below w.heap.size w wr) (fun _ _ i _ => k - (intOf i).toNat)
  case atStart => exact ⟨0, by omega, rfl, World.ownsRow_nil _ _ _ _, Below.refl _ _⟩
  case round =>
    obtain ⟨a, ha, rfl, HO, HB⟩ := hrel
    by_cases hlt : a < k
    · have hll : (zv (upL a)).length = a := by rw [zv_length, upL_length]
      have HLL := Lib.hid hll
      have HU := Lib.hid (show zv (upL (a + 1)) = zv (upL a) ++ [.int .i64 (a : Int)] by rw [upL_succ]; simp [zv])
      clear hll
      go_wp2_with (at_builtin; refine app_one w.heap.size rfl (.tmp 9) (.tmp 11) 50 3 (.int .i64 0) 8 rfl Try.underlying50 info_int rfl (by omega) _ (zv (upL a)) _ a HLL.out rfl rfl rfl HO HB HB.size (by omega) ?_; intro v1 w1 HO2 HB2 hg2)
      go_roundw
      case rel => exact ⟨a + 1, by omega, by go_num, by rw [HU.out]; exact HO2, HB2⟩
      case measure => simp [intOf]; omega
    · obtain rfl : a = k := by omega
      obtain ⟨A, c, rfl, h1, h2⟩ := own_ints HO (upL_le a hk)
      go_wp2
      go_ret
      exact ⟨A, c, rfl, h1, h2, HB⟩
/-- A code of k of n lies in the block cb. -/
structure CoderAt (w : World) (cb k n fb : Nat) (A : Option Addr) (c : Nat) (G : M) : Prop where
  f0 : w.cell? ⟨cb, 0, none⟩ = some (.int .i64 (k : Nat))
  f1 : w.cell? ⟨cb, 1, none⟩ = some (.int .i64 (n : Nat))
  f2 : w.cell? ⟨cb, 2, none⟩ = some (.pointer (some ⟨fb, 0, none⟩))
  f3 : w.cell? ⟨cb, 3, none⟩ = some (.slice A n c)
  field : FieldIn w fb
  rows : Base.Rows w A (tab n k G)
  code : CodeG k n G
  k1 : 1 ≤ k
  kn : k ≤ n
  n16 : n ≤ 16
  nc : n ≤ c
theorem CoderAt.below {w w' : World} {cb k n fb c : Nat} {A : Option Addr} {G : M} (h : CoderAt w cb k n fb A c G) (hb : Below w.heap.size w w') : CoderAt w' cb k n fb A c G :=
  ⟨cell_below hb h.f0, cell_below hb h.f1, cell_below hb h.f2, cell_below hb h.f3, h.field.below hb, h.rows.below hb, h.code, h.k1, h.kn, h.n16, h.nc⟩
theorem new_no (k n : Int) (w : World) (h : k < 1 ∨ n < k ∨ 16 < n) :
    Calls Try.prog 50 #[.int .i64 k, .int .i64 n] w fun e w' => e = .returned (.tuple #[.pointer none, .int .i64 1]) ∧ w = w' := by
  by_cases h1 : k < 1
  · have e1 : decide (k < 1) = true := by simp [h1]
    clear h
    go_enter Try.func50, Try.ntmps50
    go_wp2
    go_ret2
    exact ⟨rfl, rfl⟩
  · have e1 : decide (k < 1) = false := by simp; omega
    by_cases h2 : n < k
    · have e2 : decide (n < k) = true := by simp [h2]
      clear h
      go_enter Try.func50, Try.ntmps50
      go_wp2
      go_ret2
      exact ⟨rfl, rfl⟩
    · have e2 : decide (n < k) = false := by simp; omega
      have e3 : decide (16 < n) = true := by simp; omega
      clear h
      go_enter Try.func50, Try.ntmps50
      go_wp2
      go_ret2
      exact ⟨rfl, rfl⟩
theorem code_made {k n : Nat} (hn : n ≤ 32) (hk : k ≤ n) {O : M} (h : Eqv k k (mm k O (fn (tab k k powT))) dl ∧ Eqv k k (mm k (fn (tab k k powT)) O) dl) : CodeG k n (mm k powT O) :=
  CodeG.of_powers hn hk ((mm_fn_tab k k k O powT).symm.trans h.1) ((mm_tab_fn k k k powT O).symm.trans h.2)
set_option maxRecDepth 100000 in
set_option maxHeartbeats 1000000 in
theorem new_ok (k n : Nat) (w : World) (h1 : 1 ≤ k) (h2 : k ≤ n) (h3 : n ≤ 16) :
    Calls Try.prog 50 #[.int .i64 (k : Nat), .int .i64 (n : Nat)] w fun e w' => ∃ cb fb A c G, e = .returned (.tuple #[.pointer (some ⟨cb, 0, none⟩), .int .i64 0]) ∧ CoderAt w' cb k n fb A c G ∧ Below w.heap.size w w' := by
  have HB : Below w.heap.size w w := Below.refl _ _
  have n1 : 1 ≤ n := by omega
  have n32 : n ≤ 32 := by omega
  have k32 : k ≤ 32 := by omega
  have e1 : decide ((k : Int) < 1) = false := by simp; omega
  have e2 : decide ((n : Int) < k) = false := by simp; omega
  have e2' : decide (n < k) = false := by simp; omega
  have e3 : decide ((16 : Int) < n) = false := by simp; omega
  have HPW := Lib.hid (fun W => powers_rows n k W n1 n32 h1 k32)
  have HUP := Lib.hid (fun W => upto_any k W (by omega))
  have HPK := Lib.hid (fun W g c A2 c2 (h9 : Base.Rows W (some ⟨g, 0, none⟩) (tab n k powT)) (h8 : Ints W A2 (upL k)) => pick_good (some ⟨g, 0, none⟩) A2 n c k c2 (tab n k powT) (upL k) W h9 h8 (tab_length _ _ _) (upL_length k) (right_tab _ n1 n32 h1 k32) h1 k32 (upL_apart h2).rng)
  rw [selT_pick powT n k (upL k) (upL_apart h2).rng, upL_length, tab_congr (selT_up powT k k)] at HPK
  have hFT : Free k (fn (tab k k powT)) := free_tab (by
    have := powL_free (upL k) n n32 (upL_apart h2).rng (upL_apart h2).ne
    rw [upL_length] at this
    exact free_congr (selT_up powT k k) this)
  have HUN := Lib.hid (fun W g off c (h9 : Base.Rows W (some ⟨g, off, none⟩) (tab k k powT)) => undo_rows g off k c (tab k k powT) W h9 (tab_length _ _ _) (right_tab _ h1 k32 h1 k32) (wid_tab _ _ h1) hFT)
  have HML := Lib.hid (fun W A A' c c' O (h9 : Base.Rows W A (tab n k powT)) (h8 : Base.Rows W A' (tab k k O)) => mul_rows A A' n k c c' k (tab n k powT) (tab k k O) W h9 h8 (tab_length _ _ _) (tab_length _ _ _) (right_tab _ n1 n32 h1 k32) (right_tab _ h1 k32 h1 k32) (wid_tab _ _ n1) (wid_tab _ _ h1))
  clear hFT
  go_enter Try.func50, Try.ntmps50
  go_wp2_with (first | (go_at_call 45; (with_reducible refine (HPW.out _).mono ?_); rintro e w1 ⟨g1, c1, rfl, hc1, hP, hd⟩; replace HB := bt HB HB.size hd; clear hd) | (go_at_call 67; (with_reducible refine (HUP.out _).mono ?_); rintro e w2 ⟨A2, c2, rfl, hc2, hI, hd⟩; replace hP := hP.below hd; replace HB := bt HB HB.size hd; clear hd) | (go_at_call 42; (with_reducible refine (HPK.out _ _ _ _ _ hP hI).mono ?_); rintro e w3 ⟨A3, c3, rfl, hT, hd⟩; replace hP := hP.below hd; obtain ⟨b3, o3, rfl, hx3⟩ := hT.block (by rw [tab_length]; omega); clear hx3; replace HB := bt HB HB.size hd; clear hd) | (go_at_call 37; (with_reducible refine (HUN.out _ _ _ _ hT).mono ?_); rintro e w4 ⟨g4, c4, O, rfl, hc4, hO, hE, hd⟩; replace hP := hP.below hd; have HE := Lib.hid hE; clear hE; replace HB := bt HB HB.size hd; clear hd) | (go_at_call 43; (with_reducible refine (HML.out _ _ _ _ _ _ hP hO).mono ?_); rintro e w5 ⟨g5, c5, rfl, hc5, hG, hd⟩; replace HB := bt HB HB.size hd; clear hd) | (go_at_call 20; (with_reducible refine (new_field _).mono ?_); rintro e w6 ⟨fb, rfl, hF, hfb, hd⟩; replace hG := hG.below hd; replace HB := bt HB HB.size hd; clear hd))
  go_ret2
  have hb7 : Below w6.heap.size w6 (w6.alloc (.cells #[.int .i64 (k : Nat), .int .i64 (n : Nat), .pointer (some ⟨fb, 0, none⟩), .slice (some ⟨g5, 0, none⟩) n c5] 96)) := (Below.refl _ _).alloc (Nat.le_refl _) _
  have hg := heap_alloc_new w6 (.cells #[.int .i64 (k : Nat), .int .i64 (n : Nat), .pointer (some ⟨fb, 0, none⟩), .slice (some ⟨g5, 0, none⟩) n c5] 96)
  have hG2 := hG
  rw [tab_congr ((mm_fn_tab n k k (fn (tab n k powT)) O).trans (mm_tab_fn n k k powT O))] at hG2
  refine ⟨w6.heap.size, fb, some ⟨g5, 0, none⟩, c5, mm k powT O, rfl, ⟨?_, ?_, ?_, ?_, hF.below hb7, hG2.below hb7, code_made n32 h2 HE.out, h1, h2, h3, hc5⟩, bt HB HB.size hb7⟩
  all_goals (rw [cell_of_row _ _ _ _ _ _ hg]; rfl)
end Go.Proofs.Ytalinkpfklhgaaa.CodW
