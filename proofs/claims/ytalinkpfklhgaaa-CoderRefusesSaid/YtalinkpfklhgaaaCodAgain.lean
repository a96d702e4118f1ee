/- (*coder.Coder).Again walked. -/
import Derived.Test.YtalinkpfklhgaaaCodRead
set_option linter.unusedVariables false
set_option linter.unusedSimpArgs false
namespace Go.Proofs.Ytalinkpfklhgaaa.CodW
open Go.RowKit Go.Proofs.Ytalinkpfklhgaaa.Base Go.Proofs.Ytalinkpfklhgaaa.GfP Go.Proofs.Ytalinkpfklhgaaa.GfW Go.Proofs.Ytalinkpfklhgaaa.Lin Go.Proofs.Ytalinkpfklhgaaa.RowsW Go.Proofs.Ytalinkpfklhgaaa.CodP

/-- One row of rows. -/
theorem rows_one {w : World} {b off n k i : Nat} {G : M} (h : Base.Rows w (some ⟨b, off, none⟩) (tab n k G)) (hi : i < n) : Base.Rows w (some ⟨b, off + i, none⟩) (tab 1 k (fun _ => G i)) := by
  obtain ⟨b', off', e, hc⟩ := h.block (by rw [tab_length]; omega)
  cases e
  refine ⟨.inr ⟨b, off + i, rfl, fun j hj => ?_⟩⟩
  have hj0 : j = 0 := by rw [tab_length] at hj; omega
  subst hj0
  obtain ⟨B, c, h1, h2⟩ := hc i (by rw [tab_length]; exact hi)
  rw [tab_getElem] at h1 h2 ⊢
  exact ⟨B, c, h1, h2⟩
theorem again_nil (v : Value) (x : Int) (w : World) : Calls Try.prog 55 #[.pointer none, v, .int .i64 x] w fun e w' => e = .returned (.tuple #[.string ⟨#[]⟩, .int .i64 1]) ∧ w = w' := by
  have H := Lib.hid (read_nil v w)
  go_enter Try.func55, Try.ntmps55
  go_wp2_with (go_at_call 54; (with_reducible refine (H.out).mono ?_); rintro e w2 ⟨rfl, rfl⟩)
  go_ret2
  exact ⟨rfl, rfl⟩
section
variable (cb k n fb : Nat) (A : Option Addr) (c : Nat) (G : M) (A2 : Option Addr) (m c2 : Nat) (ps : List (Int × ByteArray)) (x : Int) (w : World)
theorem again_no (hC : CoderAt w cb k n fb A c G) (hP : Pieces w A2 ps) (hl : ps.length = m) (hm : m ≤ 1000000) (er : Int) (h : (er = 1 ∧ ¬ May n ps) ∨ (er = 5 ∧ May n ps ∧ ps.length < k)) :
    Calls Try.prog 55 #[.pointer (some ⟨cb, 0, none⟩), .slice A2 m c2, .int .i64 x] w fun e w' => e = .returned (.tuple #[.string ⟨#[]⟩, .int .i64 er]) ∧ Below w.heap.size w w' := by
  have HM := Lib.hid (read_no cb k n fb A c G A2 m c2 ps w hC hP hl hm er h)
  have e1 : (er != 0) = true := by
    rcases h with ⟨rfl, _⟩ | ⟨rfl, _⟩ <;> rfl
  clear h hC
  go_enter Try.func55, Try.ntmps55
  go_wp2_with (go_at_call 54; (with_reducible refine (HM.out).mono ?_); rintro e w2 ⟨rfl, hd⟩)
  go_ret2
  exact ⟨rfl, hd⟩
theorem again_far (hC : CoderAt w cb k n fb A c G) (hP : Pieces w A2 ps) (hl : ps.length = m) (hmc : m ≤ c2) (hm : m ≤ 1000000) (hM : May n ps) (hk : k ≤ m) (L : Nat) (hL : L ≤ 1000000) (hsz : ∀ i (h : i < ps.length), ps[i].2.size = L) (hx : x < 0 ∨ n ≤ x) :
    Calls Try.prog 55 #[.pointer (some ⟨cb, 0, none⟩), .slice A2 m c2, .int .i64 x] w fun e w' => e = .returned (.tuple #[.string ⟨#[]⟩, .int .i64 1]) ∧ Below w.heap.size w w' := by
  have h1 := hC.f1
  have HM := Lib.hid (read_ok cb k n fb A c G A2 m c2 ps w hC hP hl hmc hm hM hk L hL hsz)
  clear hC hsz
  by_cases hx0 : x < 0
  · have t1 : decide (x < 0) = true := by simp [hx0]
    clear hx
    go_enter Try.func55, Try.ntmps55
    go_wp2_with (go_at_call 54; (with_reducible refine (HM.out).mono ?_); rintro e w2 ⟨A9, c9, V, rfl, _, _, _, hd⟩; replace h1 := cell_below hd h1)
    go_ret2
    exact ⟨rfl, hd⟩
  · have t1 : decide (x < 0) = false := by simp; omega
    have t2 : decide ((n : Int) ≤ x) = true := by simp; omega
    clear hx
    go_enter Try.func55, Try.ntmps55
    go_wp2_with (go_at_call 54; (with_reducible refine (HM.out).mono ?_); rintro e w2 ⟨A9, c9, V, rfl, _, _, _, hd⟩; replace h1 := cell_below hd h1)
    go_ret2
    exact ⟨rfl, hd⟩
set_option maxRecDepth 100000 in
set_option maxHeartbeats 1000000 in
theorem again_ok (i : Nat) (hi : i < n) (hC : CoderAt w cb k n fb A c G) (hP : Pieces w A2 ps) (hl : ps.length = m) (hmc : m ≤ c2) (hm : m ≤ 1000000) (hM : May n ps) (hk : k ≤ m) (L : Nat) (hL : L ≤ 1000000) (hsz : ∀ i (h : i < ps.length), ps[i].2.size = L) :
    Calls Try.prog 55 #[.pointer (some ⟨cb, 0, none⟩), .slice A2 m c2, .int .i64 (i : Nat)] w fun e w' => ∃ V, e = .returned (.tuple #[.string (strOf L (mm k G (mm k V (tx (txts (ps.take k)))) i)), .int .i64 0]) ∧ Undoes k G (nums (ps.take k)) V ∧ Below w.heap.size w w' := by
  have HB : Below w.heap.size w w := Below.refl _ _
  have h1 := hC.f1
  have h3 := hC.f3
  have k1 := hC.k1
  have kn := hC.kn
  have n16 := hC.n16
  have nc := hC.nc
  have HM := Lib.hid (read_ok cb k n fb A c G A2 m c2 ps w hC hP hl hmc hm hM hk L hL hsz)
  obtain ⟨b, off, rfl, hx⟩ := hC.rows.block (by rw [tab_length]; omega)
  have HT := Lib.hid (fun W A8 c9 c8 Z (hc : CoderAt W cb k n fb (some ⟨b, off, none⟩) c G) (h8 : Strs W A8 k (txs k L Z)) => times_any cb fb (some ⟨b, off + i, none⟩) A8 1 k c9 c8 L (tab 1 k (fun _ => G i)) _ W hc.f2 hc.field (rows_one hc.rows hi) h8 (tab_length _ _ _) (by omega) (by omega) (by omega) hL (fun i h => by rw [tab_getElem, rw1_length]) (txs_size k L Z))
  have t1 : decide (((i : Nat) : Int) < 0) = false := by simp
  have t2 : decide (((n : Nat) : Int) ≤ ((i : Nat) : Int)) = false := by simp; omega
  have t2' : decide (n ≤ i) = false := by simp; omega
  clear hx hsz hM
  go_enter Try.func55, Try.ntmps55
  go_wp2_with (first | (go_at_call 54; (with_reducible refine (HM.out).mono ?_); rintro e w2 ⟨A9, c9, V, rfl, hc9, hZ, hU, hd⟩; replace h1 := cell_below hd h1; replace h3 := cell_below hd h3; have HU := Lib.hid hU; clear hU; replace HB := bt HB HB.size hd; clear hd) | (go_at_call 69; (with_reducible refine (HT.out _ _ _ _ _ (hC.below HB) hZ).mono ?_); rintro e w3 ⟨A7, c7, rfl, hc7, hS, hd⟩; obtain ⟨b7, o7, rfl, hx7⟩ := hS.block (by omega); have g7 := hx7 0 (by rw [txs_length]; omega); rw [Nat.add_zero, txs_getElem] at g7; clear hx7; replace HB := bt HB HB.size hd; clear hd))
  go_ret2
  refine ⟨V, ?_, HU.out, HB⟩
  have e9 : strOf L (mm k (fn (tab 1 k fun _ => G i)) (tx (txs k L (mm k V (tx (txts (ps.take k)))))) 0) = strOf L (mm k G (mm k V (tx (txts (ps.take k)))) i) :=
    strOf_congr fun p hp => sm_congr fun q hq => by
      rw [fn_tab (n := 1) (i := 0) (fun _ => G i) (by omega) hq, tx_txs k L (mm k V (tx (txts (ps.take k)))) q hq p hp]
  rw [e9]
  rfl
end
end Go.Proofs.Ytalinkpfklhgaaa.CodW
