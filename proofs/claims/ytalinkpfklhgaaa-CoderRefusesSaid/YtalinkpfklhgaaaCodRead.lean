/- (*coder.Coder).Read and Again walked. -/
import Derived.Test.YtalinkpfklhgaaaCodSplit
set_option linter.unusedVariables false
set_option linter.unusedSimpArgs false
namespace Go.Proofs.Ytalinkpfklhgaaa.CodW
open Go.RowKit Go.Proofs.Ytalinkpfklhgaaa.Base Go.Proofs.Ytalinkpfklhgaaa.GfP Go.Proofs.Ytalinkpfklhgaaa.GfW Go.Proofs.Ytalinkpfklhgaaa.Lin Go.Proofs.Ytalinkpfklhgaaa.RowsW Go.Proofs.Ytalinkpfklhgaaa.CodP

theorem Pieces.take {w : World} {A : Option Addr} {ps : List (Int × ByteArray)} (h : Pieces w A ps) (k : Nat) : Pieces w A (ps.take k) := by
  refine ⟨fun x hx => h.le x (List.mem_of_mem_take hx), ?_⟩
  rcases h.at_ with h1 | ⟨b, off, e, hc⟩
  · left; rw [h1]; simp
  · refine .inr ⟨b, off, e, fun j hj => ?_⟩
    have hj2 : j < ps.length := by rw [List.length_take] at hj; omega
    rw [List.getElem_take]
    exact hc j hj2
theorem nums_take_eq (ps : List (Int × ByteArray)) (k : Nat) : nums (ps.take k) = (nums ps).take k := by simp [nums, List.map_take]
theorem txts_take_eq (ps : List (Int × ByteArray)) (k : Nat) : txts (ps.take k) = (txts ps).take k := by simp [txts, List.map_take]
theorem Apart.take {n : Nat} {l : List Int} (h : Apart n l) (k : Nat) : Apart n (l.take k) := by
  refine ⟨fun i hi => ?_, fun i hi j hj => ?_⟩
  · rw [List.length_take] at hi
    rw [List.getElem_take]
    exact h.rng i (by omega)
  · rw [List.length_take] at hi
    rw [List.getElem_take, List.getElem_take]
    exact h.ne i (by omega) j hj
/-- What makes the texts out of pieces. -/
structure Undoes (k : Nat) (G : M) (l : List Int) (V : M) : Prop where
  left : Eqv k k (mm k V (selT G l)) dl
  right : Eqv k k (mm k (selT G l) V) dl
theorem read_nil (v : Value) (w : World) : Calls Try.prog 54 #[.pointer none, v] w fun e w' => e = .returned (.tuple #[.slice none 0 0, .int .i64 1]) ∧ w = w' := by
  have H := Lib.hid (may_nil v w)
  go_enter Try.func54, Try.ntmps54
  go_wp2_with (go_at_call 70; (with_reducible refine (H.out).mono ?_); rintro e w2 ⟨rfl, rfl⟩)
  go_ret2
  exact ⟨rfl, rfl⟩
section
variable (cb k n fb : Nat) (A : Option Addr) (c : Nat) (G : M) (A2 : Option Addr) (m c2 : Nat) (ps : List (Int × ByteArray)) (w : World)
/-- Pieces that are refused. -/
theorem read_no (hC : CoderAt w cb k n fb A c G) (hP : Pieces w A2 ps) (hl : ps.length = m) (hm : m ≤ 1000000) (er : Int) (h : (er = 1 ∧ ¬ May n ps) ∨ (er = 5 ∧ May n ps ∧ ps.length < k)) :
    Calls Try.prog 54 #[.pointer (some ⟨cb, 0, none⟩), .slice A2 m c2] w fun e w' => e = .returned (.tuple #[.slice none 0 0, .int .i64 er]) ∧ Below w.heap.size w w' := by
  have HM : Calls Try.prog 70 #[.pointer (some ⟨cb, 0, none⟩), .slice A2 m c2] w fun e w' => e = .returned (.int .i64 er) ∧ Below w.heap.size w w' := by
    refine (may_any cb k n fb A c G A2 m c2 ps w hC hP hl hm).mono ?_
    rintro e w' ⟨⟨x, he, h1⟩, hb⟩
    refine ⟨?_, hb⟩
    rw [he]
    rcases h with ⟨rfl, h2⟩ | ⟨rfl, h2, h3⟩
    · rcases h1 with ⟨rfl, _⟩ | ⟨_, h4, _⟩ | ⟨_, h4, _⟩
      · rfl
      · exact absurd h4 h2
      · exact absurd h4 h2
    · rcases h1 with ⟨_, h4⟩ | ⟨rfl, _⟩ | ⟨_, _, h4⟩
      · exact absurd h2 h4
      · rfl
      · omega
  have HM := Lib.hid HM
  have e1 : (er != 0) = true := by
    rcases h with ⟨rfl, _⟩ | ⟨rfl, _⟩ <;> rfl
  clear h hC
  go_enter Try.func54, Try.ntmps54
  go_wp2_with (go_at_call 70; (with_reducible refine (HM.out).mono ?_); rintro e w2 ⟨rfl, hd⟩)
  go_ret2
  exact ⟨rfl, hd⟩
set_option maxRecDepth 100000 in
set_option maxHeartbeats 1000000 in
/-- Pieces that are read. -/
theorem read_ok (hC : CoderAt w cb k n fb A c G) (hP : Pieces w A2 ps) (hl : ps.length = m) (hmc : m ≤ c2) (hm : m ≤ 1000000) (hM : May n ps) (hk : k ≤ m) (L : Nat) (hL : L ≤ 1000000) (hsz : ∀ i (h : i < ps.length), ps[i].2.size = L) :
    Calls Try.prog 54 #[.pointer (some ⟨cb, 0, none⟩), .slice A2 m c2] w fun e w' => ∃ A' c' V, e = .returned (.tuple #[.slice A' k c', .int .i64 0]) ∧ k ≤ c' ∧ Strs w' A' k (txs k L (mm k V (tx (txts (ps.take k))))) ∧ Undoes k G (nums (ps.take k)) V ∧ Below w.heap.size w w' := by
  have HB : Below w.heap.size w w := Below.refl _ _
  have h0 := hC.f0
  have h3 := hC.f3
  have k1 := hC.k1
  have kn := hC.kn
  have n16 := hC.n16
  have HM0 : Calls Try.prog 70 #[.pointer (some ⟨cb, 0, none⟩), .slice A2 m c2] w fun e w' => e = .returned (.int .i64 0) ∧ Below w.heap.size w w' := by
    refine (may_any cb k n fb A c G A2 m c2 ps w hC hP hl hm).mono ?_
    rintro e w' ⟨⟨x, he, h1⟩, hb⟩
    refine ⟨?_, hb⟩
    rw [he]
    rcases h1 with ⟨_, h4⟩ | ⟨_, _, h4⟩ | ⟨rfl, _⟩
    · exact absurd hM h4
    · omega
    · rfl
  have HM := Lib.hid HM0
  have hlk : (nums (ps.take k)).length = k := by rw [nums_length, List.length_take]; omega
  have hap : Apart n (nums (ps.take k)) := by rw [nums_take_eq]; exact Apart.take hM.apart k
  have HSP := Lib.hid (fun W A9 c9 (h : Pieces W A9 (ps.take k)) => split_any A9 k c9 (ps.take k) W h (by rw [List.length_take]; omega) (by omega))
  have HPK := Lib.hid (fun W A9 c9 (h9 : Base.Rows W A (tab n k G)) (h8 : Ints W A9 (nums (ps.take k))) => pick_good A A9 n c k c9 (tab n k G) (nums (ps.take k)) W h9 h8 (tab_length _ _ _) hlk (right_tab _ (by omega) (by omega) k1 (by omega)) k1 (by omega) hap.rng)
  rw [selT_pick G n k _ hap.rng, hlk] at HPK
  have hFT : Free k (fn (tab k k (selT G (nums (ps.take k))))) := free_tab (hC.code.free _ hlk hap)
  have HUN := Lib.hid (fun W g off c9 (h9 : Base.Rows W (some ⟨g, off, none⟩) (tab k k (selT G (nums (ps.take k))))) => undo_rows g off k c9 _ W h9 (tab_length _ _ _) (right_tab _ k1 (by omega) k1 (by omega)) (wid_tab _ _ (by omega)) hFT)
  have hts : ∀ i (h : i < (txts (ps.take k)).length), (txts (ps.take k))[i].size = L := fun i h => by
    rw [txts_getElem, List.getElem_take]
    exact hsz i (by rw [txts_length, List.length_take] at h; omega)
  have HT := Lib.hid (fun W A9 A8 c9 c8 O (hc : CoderAt W cb k n fb A c G) (h9 : Base.Rows W A9 (tab k k O)) (h8 : Strs W A8 k (txts (ps.take k))) => times_any cb fb A9 A8 k k c9 c8 L (tab k k O) _ W hc.f2 hc.field h9 h8 (tab_length _ _ _) (by omega) (by omega) (by omega) hL (fun i h => by rw [tab_getElem, rw1_length]) hts)
  obtain ⟨b, off, rfl, hc0⟩ := hP.block (by omega)
  have hPk := Pieces.take hP k
  clear hc0 hM hl hlk hap hFT hts hsz HM0
  go_enter Try.func54, Try.ntmps54
  go_wp2_with (first | (go_at_call 70; (with_reducible refine (HM.out).mono ?_); rintro e w2 ⟨rfl, hd⟩; replace h0 := cell_below hd h0; replace h3 := cell_below hd h3; replace HB := bt HB HB.size hd; clear hd) | (go_at_call 71; (with_reducible refine (HSP.out _ _ _ (hPk.below HB)).mono ?_); rintro e w3 ⟨A3, c3, A4, c4, rfl, hI, hT, hc3, hc4, hd⟩; replace h3 := cell_below hd h3; replace HB := bt HB HB.size hd; clear hd) | (go_at_call 42; (with_reducible refine (HPK.out _ _ _ (hC.below HB).rows hI).mono ?_); rintro e w4 ⟨A5, c5, rfl, hS, hd⟩; replace hT := hT.below hd; obtain ⟨b5, o5, rfl, hx5⟩ := hS.block (by rw [tab_length]; omega); clear hx5; replace HB := bt HB HB.size hd; clear hd) | (go_at_call 37; (with_reducible refine (HUN.out _ _ _ _ hS).mono ?_); rintro e w5 ⟨g6, c6, O, rfl, hc6, hO, hE, hd⟩; replace hT := hT.below hd; have HE := Lib.hid hE; clear hE; replace HB := bt HB HB.size hd; clear hd) | (go_at_call 69; (with_reducible refine (HT.out _ _ _ _ _ _ (hC.below HB) hO hT).mono ?_); rintro e w6 ⟨A7, c7, rfl, hc7, hZ, hd⟩; replace HB := bt HB HB.size hd; clear hd))
  go_ret2
  rw [txs_congr (mm_tab_fn k k L O (tx (txts (ps.take k))))] at hZ
  exact ⟨A7, c7, O, rfl, hc7, hZ, ⟨(mm_fn_tab k k k O (selT G (nums (ps.take k)))).symm.trans HE.out.1, (mm_tab_fn k k k (selT G (nums (ps.take k))) O).symm.trans HE.out.2⟩, HB⟩
end
end Go.Proofs.Ytalinkpfklhgaaa.CodW
