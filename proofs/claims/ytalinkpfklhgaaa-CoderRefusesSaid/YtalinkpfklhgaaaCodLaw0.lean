/- stooklaw03.few, sum and awake walked. -/
import Derived.Test.YtalinkpfklhgaaaCodMake
import Derived.Outline
set_option linter.unusedVariables false
set_option linter.unusedSimpArgs false
namespace Go.Proofs.Ytalinkpfklhgaaa.CodW
open Go.RowKit Go.Proofs.Ytalinkpfklhgaaa.Base Go.Proofs.Ytalinkpfklhgaaa.GfP Go.Proofs.Ytalinkpfklhgaaa.GfW Go.Proofs.Ytalinkpfklhgaaa.Lin Go.Proofs.Ytalinkpfklhgaaa.RowsW Go.Proofs.Ytalinkpfklhgaaa.CodP

/-- Texts few and short. -/
def fewT (ss : List ByteArray) : Bool := decide (ss.length < 100) && (ss.all fun s => decide (s.size ≤ 1000)) && decide (total ss ≤ 3000)
theorem fewT_yes {ss : List ByteArray} (h : fewT ss = true) : ss.length < 100 ∧ (∀ i (h : i < ss.length), ss[i].size ≤ 1000) ∧ total ss ≤ 3000 := by
  unfold fewT at h
  simp only [Bool.and_eq_true, decide_eq_true_eq, List.all_eq_true] at h
  exact ⟨h.1.1, fun i hi => h.1.2 _ (List.getElem_mem hi), h.2⟩
theorem fewT_long {ss : List ByteArray} {k : Nat} (hk : k < ss.length) (h : 1000 < ss[k].size) : fewT ss = false := by
  cases hb : fewT ss with
  | false => rfl
  | true => have := (fewT_yes hb).2.1 k hk; omega
set_option maxRecDepth 100000 in
set_option maxHeartbeats 1000000 in
theorem fewt_any (A : Option Addr) (n c : Nat) (ss : List ByteArray) (w : World) (hS : Strs w A n ss) (hn : n ≤ 9223372036854775807) :
    Calls Try.prog 49 #[.slice A n c] w fun e w' => e = .returned (.bool (fewT ss)) ∧ w = w' := by
  obtain ⟨R, hR⟩ : ∃ R, fewT ss = R := ⟨_, rfl⟩
  rw [hR]
  have HR := Lib.hid hR
  have HL := Lib.hid hS.len
  clear hR
  go_enter Try.func49, Try.ntmps49
  go_wp2
  go_loop [3, 4] (fun t i => ∃ k : Nat, k ≤ n ∧ k ≤ 100 ∧ i = .int .i64 k ∧ t = .int .i64 (total (ss.take k) : Nat) ∧ total (ss.take k) ≤ 1000 * k ∧ ∀ j (hj : j < ss.length), j < k → ss[j].size ≤ 1000) (fun _ i => n - (intOf i).toNat)
  case atStart => exact ⟨0, by omega, by omega, rfl, by simp [total], by simp [total], fun j _ h => by omega⟩
  case round =>
    obtain ⟨k, hk, hk2, rfl, rfl, htk, hall⟩ := hrel
    have HA := Lib.hid hall
    clear hall
    by_cases hlt : k < n
    · by_cases hlt2 : k < 100
      · have hkl : k < ss.length := by have := HL.out; omega
        obtain ⟨b, off, rfl, hc⟩ := hS.block (by omega)
        have hck := hc k hkl
        have HT := Lib.hid (show total (ss.take (k + 1)) = total (ss.take k) + ss[k].size by rw [take_snoc_list ss k hkl, total_append]; rfl)
        clear hc
        obtain ⟨s, hs⟩ : ∃ s, s = ss[k] := ⟨_, rfl⟩
        rw [← hs] at hck HT
        have HSK := Lib.hid hs
        clear hs
        have t1 : decide (k < n) = true := by simp [hlt]
        have t2 : decide (((k : Nat) : Int) < 100) = true := by simp; omega
        by_cases h9 : 1000 < s.size
        · have HH := Lib.hid h9
          go_wp2
          go_ret
          refine ⟨?_, rfl⟩
          rw [← HR.out, fewT_long hkl (by rw [← HSK.out]; exact HH.out)]
          rfl
        · generalize total (ss.take k) = tt at HT htk
          go_wp2
          go_round
          case rel =>
            refine ⟨k + 1, by omega, by omega, by go_num, by rw [HT.out]; go_num, by rw [HT.out]; omega, fun j hj hjk => ?_⟩
            rcases Nat.lt_or_ge j k with h | h
            · exact HA.out j hj h
            · obtain rfl : j = k := by omega
              rw [← HSK.out]; omega
          case measure => simp [intOf]; omega
      · have t1 : decide (k < n) = true := by simp [hlt]
        have t2 : decide (((k : Nat) : Int) < 100) = false := by simp; omega
        have t3 : decide (((n : Nat) : Int) < 100) = false := by simp; omega
        go_wp2
        go_ret
        refine ⟨?_, rfl⟩
        have : fewT ss = false := by
          cases hb : fewT ss with
          | false => rfl
          | true => have := (fewT_yes hb).1; have := HL.out; omega
        rw [← HR.out, this]
        rfl
    · obtain rfl : k = n := by omega
      have t1 : decide (k < k) = false := by simp
      have HTK := Lib.hid (show ss.take k = ss from List.take_of_length_le (by have := HL.out; omega))
      rw [HTK.out] at htk ⊢
      by_cases h100 : k < 100
      · have t3 : decide (((k : Nat) : Int) < 100) = true := by simp; omega
        by_cases h3 : total ss ≤ 3000
        · have t4 : decide (((total ss : Nat) : Int) ≤ 3000) = true := by simp; omega
          go_wp2
          go_ret
          refine ⟨?_, rfl⟩
          have : fewT ss = true := by
            unfold fewT
            simp only [Bool.and_eq_true, decide_eq_true_eq, List.all_eq_true]
            refine ⟨⟨by have := HL.out; omega, fun s hs => ?_⟩, h3⟩
            obtain ⟨j, hj, rfl⟩ := List.mem_iff_getElem.1 hs
            exact HA.out j hj (by have := HL.out; omega)
          rw [← HR.out, this]
          rfl
        · have t4 : decide (((total ss : Nat) : Int) ≤ 3000) = false := by simp; omega
          go_wp2
          go_ret
          refine ⟨?_, rfl⟩
          have : fewT ss = false := by
            cases hb : fewT ss with
            | false => rfl
            | true => have := (fewT_yes hb).2.2; omega
          rw [← HR.out, this]
          rfl
      · have t3 : decide (((k : Nat) : Int) < 100) = false := by simp; omega
        go_wp2
        go_ret
        refine ⟨?_, rfl⟩
        have : fewT ss = false := by
          cases hb : fewT ss with
          | false => rfl
          | true => have := (fewT_yes hb).1; have := HL.out; omega
        rw [← HR.out, this]
        rfl
/-- Two texts, byte by byte. -/
def addT (s t : ByteArray) : Nat → F := fun p => toF (txb s p) + toF (txb t p)
theorem addT_v {s t : ByteArray} {k : Nat} (hs : k < s.size) (ht : k < t.size) : bits BinOp.xor IntKind.u8 ((s[k].toNat : Nat) : Int) ((t[k].toNat : Nat) : Int) = (((addT s t k).v : Nat) : Int) := by
  rw [u8_xor_nat _ _ (by have := s[k].toNat_lt; omega) (by have := t[k].toNat_lt; omega), addT, v_add, toF_v (txb_le _ _), toF_v (txb_le _ _), txb_get hs, txb_get ht]
set_option maxRecDepth 100000 in
set_option maxHeartbeats 1000000 in
theorem sum_any (s t : ByteArray) (w : World) (h : s.size = t.size) (hs : s.size ≤ 1000000) :
    Calls Try.prog 52 #[.string s, .string t] w fun e w' => e = .returned (.string (strOf s.size (addT s t))) ∧ Below w.heap.size w w' := by
  have HST := Lib.hid h
  clear h
  go_enter Try.func52, Try.ntmps52
  go_wp2
  go_loopw [5, 6] (fun d i wr => ∃ k : Nat, k ≤ s.size ∧ i = .int .i64 k ∧ wr.ownsRow w.heap.size 5 1 d k (bv (br k (addT s t))) ∧ Below w.heap.size w wr) (fun _ i _ => s.size - (intOf i).toNat)
  case atStart => exact ⟨0, by omega, rfl, World.ownsRow_nil _ _ _ _, Below.refl _ _⟩
  case round =>
    obtain ⟨k, hk, rfl, HO, HB⟩ := hrel
    by_cases hlt : k < s.size
    · have hlt2 : k < t.size := by have := HST.out; omega
      have t1 : decide (k < s.size) = true := by simp [hlt]
      have t2 : decide (k < t.size) = true := by simp [hlt2]
      have hx := addT_v hlt hlt2
      have HN := Lib.hid (bv_br_succ k (addT s t))
      have hll : (bv (br k (addT s t))).length = k := by rw [bv_length, br_length]
      have HLL := Lib.hid hll
      clear hll
      go_upto_region 5 with fail
      go_region_law (first | (refine step_app_one w.heap.size rfl (.tmp 19) (.tmp 27) 29 5 (.int .u8 0) 1 rfl Try.underlying29 info_byte rfl (by omega) _ (bv (br k (addT s t))) (.int .u8 (((addT s t k).v : Nat) : Int)) k HLL.out rfl rfl rfl (HO.drew) (below_drewN HB 1) (below_drewN HB 1).size (by omega) ?_; intro v1 w1 HO1 HB1 hg1))
      all_goals go_wp2
      all_goals go_roundw
      any_goals (with_reducible refine ⟨k + 1, ?_, ?_, ?_, HB1⟩; omega; go_num; rw [HN.out]; exact HO1)
      all_goals (simp [intOf]; omega)
    · obtain rfl : k = s.size := by omega
      have t1 : decide (s.size < s.size) = false := by simp
      have hcv := conv_own Try.underlying29 Try.underlying5 Try.underlying9 HO (by omega)
      go_wp2
      go_ret
      exact ⟨rfl, HB⟩
theorem box_strs {w : World} {l : List ByteArray} (hl : 0 < l.length) : Strs (w.alloc (.cells (sv l).toArray 9)) (some ⟨w.heap.size, 0, none⟩) l.length l := by
  have hg := heap_alloc_new w (.cells (sv l).toArray 9)
  refine ⟨rfl, .inr ⟨_, 0, rfl, fun j hj => ?_⟩⟩
  rw [cell_of_row _ _ _ _ _ _ hg]
  simp [sv, hj]
theorem single_txs {n : Nat} {G : M} (h : CodeG 1 n G) (s : ByteArray) : txs n s.size (mm 1 G (tx [s])) = (List.range n).map fun _ => s := by
  refine List.map_congr_left fun i hi => ?_
  have e : ∀ p, p < s.size → mm 1 G (tx [s]) i p = tx [s] 0 p := fun p _ => by
    show (0 : F) + G i 0 * tx [s] 0 p = _
    rw [h.single i (List.mem_range.1 hi), Lin.zero_add, Lin.one_mul]
  rw [strOf_congr e]
  exact strOf_tx (ss := [s]) (by simp) rfl
theorem new_lit (k n : Nat) (K N : Int) (hk : K = (k : Nat)) (hn : N = (n : Nat)) (w : World) (h1 : 1 ≤ k) (h2 : k ≤ n) (h3 : n ≤ 16) :
    Calls Try.prog 50 #[.int .i64 K, .int .i64 N] w fun e w' => ∃ cb fb A c G, e = .returned (.tuple #[.pointer (some ⟨cb, 0, none⟩), .int .i64 0]) ∧ CoderAt w' cb k n fb A c G ∧ Below w.heap.size w w' := by
  subst hk hn
  exact new_ok k n w h1 h2 h3
def ab : ByteArray := ⟨#[97, 98]⟩
theorem make_ab (cb n fb c : Nat) (A : Option Addr) (G : M) (w : World) (hC : CoderAt w cb 1 n fb A c G) :
    Calls Try.prog 51 #[.pointer (some ⟨cb, 0, none⟩), .slice (some ⟨w.heap.size, 0, none⟩) 1 1] (w.alloc (.cells #[.string ⟨#[97, 98]⟩] 9)) fun e w' => ∃ g off c', e = .returned (.tuple #[.slice (some ⟨g, off, none⟩) n c', .int .i64 0]) ∧ (∀ i, i < n → w'.cell? ⟨g, off + i, none⟩ = some (.string ⟨#[97, 98]⟩)) ∧ Below w.heap.size w w' := by
  have hb : Below w.heap.size w (w.alloc (.cells #[.string ⟨#[97, 98]⟩] 9)) := (Below.refl _ _).alloc (Nat.le_refl _) _
  have hn := hC.kn
  have HM := make_ok cb 1 n fb A c G (some ⟨w.heap.size, 0, none⟩) 1 2 [ab] (w.alloc (.cells #[.string ⟨#[97, 98]⟩] 9)) (hC.below hb) (box_strs (w := w) (l := [ab]) (by simp)) (by omega) (fun i hi => by
    have : i = 0 := by simp at hi; omega
    subst this; rfl)
  rw [show txs n 2 (mm 1 G (tx [ab])) = (List.range n).map fun _ => ab from single_txs hC.code ab] at HM
  refine HM.mono ?_
  rintro e w' ⟨A', c', rfl, _, hS, hd⟩
  obtain ⟨g, off, rfl, hc⟩ := hS.block (by omega)
  refine ⟨g, off, c', rfl, fun i hi => ?_, hb.trans (hd.mono hb.size)⟩
  rw [hc i (by simp; exact hi)]
  simp [ab]
theorem make_empty (cb n fb c : Nat) (A : Option Addr) (G : M) (w : World) (hC : CoderAt w cb 2 n fb A c G) :
    Calls Try.prog 51 #[.pointer (some ⟨cb, 0, none⟩), .slice (some ⟨w.heap.size, 0, none⟩) 2 2] (w.alloc (.cells #[.string ⟨#[]⟩, .string ⟨#[]⟩] 9)) fun e w' => ∃ A' c', e = .returned (.tuple #[.slice A' n c', .int .i64 0]) ∧ Below w.heap.size w w' := by
  have hb : Below w.heap.size w (w.alloc (.cells #[.string ⟨#[]⟩, .string ⟨#[]⟩] 9)) := (Below.refl _ _).alloc (Nat.le_refl _) _
  refine (make_ok cb 2 n fb A c G (some ⟨w.heap.size, 0, none⟩) 2 0 [⟨#[]⟩, ⟨#[]⟩] (w.alloc (.cells #[.string ⟨#[]⟩, .string ⟨#[]⟩] 9)) (hC.below hb) (box_strs (w := w) (l := [⟨#[]⟩, ⟨#[]⟩]) (by simp)) (by omega) (fun i hi => by
    have : i = 0 ∨ i = 1 := by simp at hi; omega
    rcases this with rfl | rfl <;> rfl)).mono ?_
  rintro e w' ⟨A', c', rfl, _, _, hd⟩
  exact ⟨A', c', rfl, hb.trans (hd.mono hb.size)⟩
set_option maxRecDepth 100000 in
set_option maxHeartbeats 1000000 in
theorem awake_any (w : World) : Calls Try.prog 48 #[] w fun e w' => e = .returned (.bool true) ∧ Below w.heap.size w w' := by
  have HB : Below w.heap.size w w := Below.refl _ _
  have HN1 := Lib.hid (fun W => new_lit 1 3 1 3 rfl rfl W (by omega) (by omega) (by omega))
  have HN2 := Lib.hid (fun W => new_lit 2 3 2 3 rfl rfl W (by omega) (by omega) (by omega))
  go_enter Try.func48, Try.ntmps48
  go_wp2_with (first | (go_at_call 50; (with_reducible refine (HN1.out _).mono ?_); rintro e w1 ⟨cb, fb, A, c, G, rfl, hC, hd⟩; replace HB := bt HB HB.size hd; clear hd HN1) | (go_at_call 51; (with_reducible refine (make_ab _ _ _ _ _ _ _ hC).mono ?_); rintro e w2 ⟨g, off, c2, rfl, hcl, hd⟩; have g2 := hcl 2 (by omega); replace HB := bt HB HB.size hd; clear hd hC hcl) | (go_at_call 50; (with_reducible refine (HN2.out _).mono ?_); rintro e w3 ⟨cb2, fb2, A2, c3, G2, rfl, hC2, hd⟩; replace g2 := cell_below hd g2; replace HB := bt HB HB.size hd; clear hd HN2) | (go_at_call 51; (with_reducible refine (make_empty _ _ _ _ _ _ _ hC2).mono ?_); rintro e w4 ⟨A4, c4, rfl, hd⟩; replace g2 := cell_below hd g2; replace HB := bt HB HB.size hd; clear hd))
  go_ret
  exact ⟨rfl, HB⟩
end Go.Proofs.Ytalinkpfklhgaaa.CodW
