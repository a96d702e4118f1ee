/- stripe.Cut and stripe.Join walked. -/
import Derived.Test.YtmlemichkeomjaaStrpP
import Derived.Test.YtmlemichkeomjaaCrcSum
set_option linter.unusedVariables false
set_option linter.unusedSimpArgs false
namespace Go.Proofs.Ytmlemichkeomjaa.StrpW
open Go.RowKit Go.Proofs.Ytmlemichkeomjaa.Base Go.Proofs.Ytmlemichkeomjaa.GfP Go.Proofs.Ytmlemichkeomjaa.GfW Go.Proofs.Ytmlemichkeomjaa.Lin Go.Proofs.Ytmlemichkeomjaa.RowsW Go.Proofs.Ytmlemichkeomjaa.CodP Go.Proofs.Ytmlemichkeomjaa.CodW Go.Proofs.Ytmlemichkeomjaa.BuildW
theorem cut_nil (s : ByteArray) (w : World) : Calls Try.prog 27 #[.pointer none, .string s] w fun e w' => e = .returned (.tuple #[.slice none 0 0, .int .i64 1]) ∧ Below w.heap.size w w' := by
  go_enter Try.func27, Try.ntmps27
  go_wp2_with (go_at_call 64; (with_reducible refine (sizes_nil _).mono ?_); rintro e w2 ⟨rfl, rfl⟩)
  go_ret2
  exact ⟨rfl, Below.refl _ _⟩
section
variable (cb k n fb : Nat) (A : Option Addr) (c : Nat) (G : M)
set_option maxRecDepth 100000 in
set_option maxHeartbeats 1000000 in
theorem cut_ok (s : ByteArray) (w : World) (hC : CoderAt w cb k n fb A c G) (hs : s.size ≤ 1000000) :
    Calls Try.prog 27 #[.pointer (some ⟨cb, 0, none⟩), .string s] w fun e w' => ∃ A' c', e = .returned (.tuple #[.slice A' n c', .int .i64 0]) ∧ n ≤ c' ∧ Strs w' A' n (pcs k n G s) ∧ Below w.heap.size w w' := by
  have k1 := hC.k1
  have k16 : k ≤ 16 := Nat.le_trans hC.kn hC.n16
  obtain ⟨L, hL⟩ : ∃ L, cutL k s.size = L := ⟨_, rfl⟩
  have h1 := cutL_ge (z := s.size) k1
  have h2 := cutL_lt (z := s.size) k1
  have h3 := cutL_le (z := s.size) k1
  have h4 := padL_length k1 s
  have hdiv : ((s.size : Int) + (k : Int) - 1) / (k : Int) = (L : Int) := by
    rw [← hL]; unfold cutL
    rw [Int.natCast_ediv]
    congr 1
    omega
  have hpart : ∀ i, CodP.part k s i = str (((padL k s).take ((i + 1) * L)).drop (i * L)) := fun i => by rw [CodP.part, hL]
  have HM := fun W A2 c2 (h : CoderAt W cb k n fb A c G) (hS : Strs W A2 k (parts k k s)) => make_ok cb k n fb A c G A2 c2 L (parts k k s) W h hS (by rw [← hL]; omega) (by rw [← hL]; exact parts_size k1 s)
  rw [show txs n L (mm k G (tx (parts k k s))) = pcs k n G s by rw [pcs, hL]] at HM
  have HM := Lib.hid HM
  rw [hL] at h1 h2 h3 h4
  obtain ⟨P, hP⟩ : ∃ P, L * k = P := ⟨_, rfl⟩
  rw [hP] at h1 h2 h4
  have HS := Lib.hid (fun W (h : CoderAt W cb k n fb A c G) => sizes_any cb k n fb A c G W h)
  have hpad : s ++ str (List.replicate (P - s.size) 0) = str (padL k s) := by rw [str_append, padL, hL, hP]; rfl
  have hpz : (str (List.replicate (P - s.size) 0)).size = P - s.size := by rw [str_size, List.length_replicate]
  have HR := repeat_any (P - s.size)
  generalize str (List.replicate (P - s.size) 0) = pd at hpad hpz HR
  have hpz2 : s.size + pd.size ≤ 1000016 := by omega
  have HR := Lib.hid (fun W => HR W (by omega))
  obtain ⟨z, hz⟩ : ∃ z, padL k s = z := ⟨_, rfl⟩
  rw [hz] at hpad h4
  have HPT := Lib.hid hpart
  have HPP := Lib.hid hP
  have hP3 : P ≤ 1000016 := by omega
  have HPD := Lib.hid hpad
  have HZ := Lib.hid hz
  have k0 : ((k : Int) == 0) = false := int_ne (by omega)
  have hsub : (P : Int) - (s.size : Int) = ((P - s.size : Nat) : Int) := by omega
  have hmul : (L : Int) * (k : Int) = (P : Int) := by rw [← hP, Int.natCast_mul]
  clear hpart hP hpad hz hL
  have HB : Below w.heap.size w w := Below.refl _ _
  go_enter Try.func27, Try.ntmps27
  go_wp2_with (first | (go_at_call 64; (with_reducible refine (HS.out _ (hC.below HB)).mono ?_); rintro e w2 ⟨rfl, hd⟩; replace HB := bt HB HB.size hd; clear hd) | (go_at_call 65; (with_reducible refine (HR.out _).mono ?_); rintro e w3 ⟨rfl, hd⟩; replace HB := bt HB HB.size hd; clear hd))
  rw [HPD.out]
  clear hsub hdiv HS HR h1 h2 h3
  go_loopw [9, 10, 40] (fun d _ i wr => ∃ a : Nat, a ≤ k ∧ i = .int .i64 a ∧ wr.ownsRow w.heap.size 9 1 d a (sv (parts a k s)) ∧ Below w.heap.size w wr) (fun _ _ i _ => k - (intOf i).toNat)
  case atStart => exact ⟨0, by omega, rfl, World.ownsRow_nil _ _ _ _, HB⟩
  case round =>
    clear HB
    obtain ⟨a, ha, rfl, HO, HB⟩ := hrel
    by_cases hlt : a < k
    · have hll : (sv (parts a k s)).length = a := by rw [sv_length, parts_length]
      have HLL := Lib.hid hll
      obtain ⟨X, hX⟩ : ∃ X, a * L = X := ⟨_, rfl⟩
      obtain ⟨Y, hY⟩ : ∃ Y, (a + 1) * L = Y := ⟨_, rfl⟩
      have hYP : Y ≤ P := by rw [← hY, ← HPP.out, Nat.mul_comm L k]; exact Nat.mul_le_mul_right _ hlt
      have hXY : X ≤ Y := by rw [← hX, ← hY]; exact Nat.mul_le_mul_right _ (Nat.le_succ a)
      have m1 : (a : Int) * (L : Int) = (X : Int) := by rw [← hX, Int.natCast_mul]
      have m2 : ((a : Int) + 1) * (L : Int) = (Y : Int) := by rw [← hY, Int.natCast_mul]; rfl
      have HST := Lib.hid (show sv (parts (a + 1) k s) = sv (parts a k s) ++ [.string ((str z).extract X Y)] by rw [parts_succ, sv_snoc, HPT.out, HZ.out, extract_str, str_list, hX, hY])
      have hzs : (str z).size = P := by rw [str_size]; exact h4
      clear hll hX hY hmul h4
      go_wp2_with (at_builtin; refine app_one w.heap.size rfl (.tmp 43) (.tmp 53) 40 9 (.string ByteArray.empty) 16 rfl Try.underlying40 info_str rfl (by omega) _ (sv (parts a k s)) _ a HLL.out rfl rfl rfl HO HB HB.size (by omega) ?_; intro v1 w1 HO2 HB2 hg2)
      go_roundw
      case rel => exact ⟨a + 1, by omega, by go_num, by rw [HST.out]; exact HO2, HB2⟩
      case measure => simp [intOf]; omega
    · obtain rfl : a = k := by omega
      obtain ⟨A2, c2, rfl, hS2, hc2, _⟩ := own_strs HO
      go_wp2_with (go_at_call 66; (with_reducible refine (HM.out _ _ _ (hC.below HB) hS2).mono ?_); rintro e w5 ⟨A5, c5, rfl, hc5, hS5, hd⟩; replace HB := bt HB HB.size hd; clear hd)
      go_ret2
      exact ⟨A5, c5, rfl, hc5, hS5, HB⟩
end
end Go.Proofs.Ytmlemichkeomjaa.StrpW
