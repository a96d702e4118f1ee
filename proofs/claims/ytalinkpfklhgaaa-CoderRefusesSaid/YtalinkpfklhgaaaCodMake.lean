/- (*coder.Coder).Make, Sizes and Right walked. -/
import Derived.Test.YtalinkpfklhgaaaCodNew
import Derived.Outline
set_option linter.unusedVariables false
set_option linter.unusedSimpArgs false
namespace Go.Proofs.Ytalinkpfklhgaaa.CodW
open Go.RowKit Go.Proofs.Ytalinkpfklhgaaa.Base Go.Proofs.Ytalinkpfklhgaaa.GfP Go.Proofs.Ytalinkpfklhgaaa.GfW Go.Proofs.Ytalinkpfklhgaaa.Lin Go.Proofs.Ytalinkpfklhgaaa.RowsW Go.Proofs.Ytalinkpfklhgaaa.CodP

theorem make_nil (v : Value) (w : World) : Calls Try.prog 51 #[.pointer none, v] w fun e w' => e = .returned (.tuple #[.slice none 0 0, .int .i64 1]) ∧ w = w' := by
  go_enter Try.func51, Try.ntmps51
  go_wp2
  go_ret2
  exact ⟨rfl, rfl⟩
section
variable (cb k n fb : Nat) (A : Option Addr) (c : Nat) (G : M)
theorem make_no (A2 : Option Addr) (m c2 : Nat) (ss : List ByteArray) (w : World) (hC : CoderAt w cb k n fb A c G) (hS : Strs w A2 m ss) (hm : m ≤ 140737488355328) (h : m ≠ k ∨ evenB ss = false) :
    Calls Try.prog 51 #[.pointer (some ⟨cb, 0, none⟩), .slice A2 m c2] w fun e w' => e = .returned (.tuple #[.slice none 0 0, .int .i64 1]) ∧ w = w' := by
  have h0 := hC.f0
  by_cases hmk : m = k
  · have he := h.resolve_left (fun h9 => h9 hmk)
    have HE := even_any A2 m c2 ss w hS hm
    rw [he] at HE
    have HE := Lib.hid HE
    have e1 : (((m : Nat) : Int) != ((k : Nat) : Int)) = false := int_beq (by omega)
    clear h hmk he hC
    go_enter Try.func51, Try.ntmps51
    go_wp2_with (go_at_call 68; (with_reducible refine (HE.out).mono ?_); rintro e w2 ⟨rfl, rfl⟩)
    go_ret2
    exact ⟨rfl, rfl⟩
  · have e1 : (((m : Nat) : Int) != ((k : Nat) : Int)) = true := int_bne (by omega)
    clear h hC
    go_enter Try.func51, Try.ntmps51
    go_wp2
    go_ret2
    exact ⟨rfl, rfl⟩
theorem make_ok (A2 : Option Addr) (c2 L : Nat) (ss : List ByteArray) (w : World) (hC : CoderAt w cb k n fb A c G) (hS : Strs w A2 k ss) (hL : L ≤ 1000000) (he : ∀ i (h : i < ss.length), ss[i].size = L) :
    Calls Try.prog 51 #[.pointer (some ⟨cb, 0, none⟩), .slice A2 k c2] w fun e w' => ∃ A' c', e = .returned (.tuple #[.slice A' n c', .int .i64 0]) ∧ n ≤ c' ∧ Strs w' A' n (txs n L (mm k G (tx ss))) ∧ Below w.heap.size w w' := by
  have h0 := hC.f0
  have h3 := hC.f3
  have k1 := hC.k1
  have kn := hC.kn
  have n16 := hC.n16
  have hl := hS.len
  have HE := even_any A2 k c2 ss w hS (by omega)
  rw [(even_iff (L := L) (by rw [List.getD_eq_getElem?_getD, List.getElem?_eq_getElem (by omega)]; exact he 0 (by omega))).2 he] at HE
  have HE := Lib.hid HE
  have HT := times_any cb fb A A2 n k c c2 L (tab n k G) ss w hC.f2 hC.field hC.rows hS (tab_length _ _ _) (by omega) (by omega) (by omega) hL (fun i h => by rw [tab_getElem, rw1_length]) he
  rw [txs_congr (mm_tab_fn n k L G (tx ss))] at HT
  have HT := Lib.hid HT
  have e1 : (((k : Nat) : Int) != ((k : Nat) : Int)) = false := int_beq rfl
  clear hC he hl
  go_enter Try.func51, Try.ntmps51
  go_wp2_with (first | (go_at_call 68; (with_reducible refine (HE.out).mono ?_); rintro e w2 ⟨rfl, rfl⟩) | (go_at_call 69; (with_reducible refine (HT.out).mono ?_); rintro e w3 ⟨A3, c3, rfl, hc3, hS3, hd3⟩))
  go_ret2
  exact ⟨A3, c3, rfl, hc3, hS3, hd3⟩
theorem sizes_any (w : World) (hC : CoderAt w cb k n fb A c G) :
    Calls Try.prog 58 #[.pointer (some ⟨cb, 0, none⟩)] w fun e w' => e = .returned (.tuple #[.int .i64 (k : Nat), .int .i64 (n : Nat)]) ∧ Below w.heap.size w w' := by
  have h0 := hC.f0
  have h1 := hC.f1
  clear hC
  go_enter Try.func58, Try.ntmps58
  go_wp2
  go_quiet (fail)
  go_wp2
  go_ret2
  exact ⟨rfl, below_drewN (Below.refl _ _) _⟩
theorem sizes_nil (w : World) :
    Calls Try.prog 58 #[.pointer none] w fun e w' => e = .returned (.tuple #[.int .i64 0, .int .i64 0]) ∧ w = w' := by
  go_enter Try.func58, Try.ntmps58
  go_wp2
  go_ret2
  exact ⟨rfl, rfl⟩
set_option maxRecDepth 100000 in
set_option maxHeartbeats 1000000 in
/-- All pieces together are right. -/
theorem cright_yes (A2 : Option Addr) (c2 L : Nat) (X : M) (w : World) (hC : CoderAt w cb k n fb A c G) (hS : Strs w A2 n (txs n L (mm k G X))) (hc2 : n ≤ c2) (hL : L ≤ 1000000) :
    Calls Try.prog 57 #[.pointer (some ⟨cb, 0, none⟩), .slice A2 n c2] w fun e w' => e = .returned (.bool true) ∧ Below w.heap.size w w' := by
  have h0 := hC.f0
  have h1 := hC.f1
  have k1 := hC.k1
  have kn := hC.kn
  have n16 := hC.n16
  have htake : (txs n L (mm k G X)).take k = txs k L X := by
    have e1 : Eqv k L (mm k G X) X := fun i hi j hj => by
      rw [mm_congr (A := G) (A' := dl) (fun q hq => hC.code.one i hi q hq) (fun _ _ => rfl), mm_one_left X j hi]
    rw [← txs_congr e1]
    unfold txs
    rw [← List.map_take, List.take_range, Nat.min_eq_left kn]
  obtain ⟨b, off, rfl, hc⟩ := hS.block (by omega)
  have hS2 : Strs w (some ⟨b, off, none⟩) k (txs k L X) := by
    refine ⟨txs_length _ _ _, .inr ⟨b, off, rfl, fun j hj => ?_⟩⟩
    have hj2 : j < k := by rw [txs_length] at hj; exact hj
    rw [hc j (by rw [txs_length]; omega)]
    simp only [← htake, List.getElem_take]
  have HM := make_ok cb k n fb A c G (some ⟨b, off, none⟩) c2 L (txs k L X) w hC hS2 hL (txs_size k L X)
  have hcg : Eqv n L (mm k G (tx (txs k L X))) (mm k G X) := fun i _ j hj => mm_congr (fun _ _ => rfl) (fun q hq => tx_txs k L X q hq j hj)
  rw [txs_congr hcg] at HM
  have HM := Lib.hid HM
  have e1 : (((n : Nat) : Int) != ((n : Nat) : Int)) = false := int_beq rfl
  obtain ⟨tt, htt⟩ : ∃ tt, tt = txs n L (mm k G X) := ⟨_, rfl⟩
  rw [← htt] at HM hS
  have HLT := Lib.hid (show tt.length = n by rw [htt, txs_length])
  clear hC htake hS2 hcg hc htt
  go_enter Try.func57, Try.ntmps57
  go_wp2_with (go_at_call 51; (with_reducible refine (HM.out).mono ?_); rintro e w3 ⟨A3, c3, rfl, hc3, hS3, hd3⟩)
  go_loopw [7, 34] (fun _ i wr => ∃ a : Nat, a ≤ n ∧ i = .int .i64 a ∧ Drawn w3 wr) (fun _ i _ => n - (intOf i).toNat)
  case atStart => exact ⟨0, by omega, rfl, Drawn.refl _⟩
  case round =>
    obtain ⟨a, ha, rfl, HD⟩ := hrel
    have HDb := HD.below (B := w3.heap.size)
    by_cases hlt : a < n
    · have hat : a < tt.length := by have := HLT.out; omega
      obtain ⟨b5, off5, rfl, hc5⟩ := (hS3.below HDb).block (by omega)
      obtain ⟨b6, off6, e6, hc6⟩ := ((hS.below hd3).below HDb).block (by omega)
      cases e6
      have g5 := hc5 a hat
      have g6 := hc6 a hat
      clear hc5 hc6
      obtain ⟨s, hs⟩ : ∃ s, s = tt[a] := ⟨_, rfl⟩
      rw [← hs] at g5 g6
      clear hs
      have es : (s.toList == s.toList) = true := by simp
      go_upto_region 9 with fail
      go_quiet (fail)
      go_wp2
      go_roundw
      case rel => exact ⟨a + 1, by omega, by go_num, HD.trans (Drawn.step _)⟩
      case measure => simp [intOf]; omega
    · obtain rfl : a = n := by omega
      go_wp2
      go_ret
      exact ⟨rfl, bt hd3 hd3.size HDb⟩
end
end Go.Proofs.Ytalinkpfklhgaaa.CodW
