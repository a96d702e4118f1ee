/- stookref03.Even walked; what a piece gives back; plain. -/
import Derived.Test.YtalinkpfklhgaaaCodReads
set_option linter.unusedVariables false
set_option linter.unusedSimpArgs false
namespace Go.Proofs.Ytalinkpfklhgaaa.CodW
open Go.RowKit Go.Proofs.Ytalinkpfklhgaaa.Base Go.Proofs.Ytalinkpfklhgaaa.GfP Go.Proofs.Ytalinkpfklhgaaa.GfW Go.Proofs.Ytalinkpfklhgaaa.Lin Go.Proofs.Ytalinkpfklhgaaa.RowsW Go.Proofs.Ytalinkpfklhgaaa.CodP

theorem txts_even {ps : List (Int × ByteArray)} : evenB (txts ps) = true ↔ ∀ i (h : i < ps.length), ps[i].2.size = (ps[0]'(by omega)).2.size := by
  by_cases h0 : ps.length = 0
  · have : ps = [] := List.eq_nil_of_length_eq_zero h0
    subst this
    exact ⟨fun _ i h => by simp at h, fun _ => rfl⟩
  · have hl : 0 < (txts ps).length := by rw [txts_length]; omega
    rw [even_iff (L := (ps[0]'(by omega)).2.size) (by rw [List.getD_eq_getElem?_getD, List.getElem?_eq_getElem hl, Option.getD_some, txts_getElem])]
    exact ⟨fun h i hi => by have := h i (by rw [txts_length]; exact hi); rw [txts_getElem] at this; exact this, fun h i hi => by rw [txts_getElem]; exact h i (by rw [txts_length] at hi; exact hi)⟩
/-- Pieces good so far. -/
structure Okto (n : Nat) (ps : List (Int × ByteArray)) (a : Nat) : Prop where
  even : evenB (txts ps) = true
  rng : ∀ i (h : i < ps.length), i < a → 0 ≤ ps[i].1 ∧ ps[i].1 < n
  ne : ∀ i (h : i < ps.length), i < a → ∀ j (hj : j < i), ps[i].1 ≠ (ps[j]'(by omega)).1
theorem Okto.may {n : Nat} {ps : List (Int × ByteArray)} {a : Nat} (h : Okto n ps a) (ha : ps.length ≤ a) : May n ps :=
  ⟨⟨fun i hi => by rw [nums_getElem]; exact h.rng i (by rw [nums_length] at hi; exact hi) (by rw [nums_length] at hi; omega), fun i hi j hj => by rw [nums_getElem, nums_getElem]; exact h.ne i (by rw [nums_length] at hi; exact hi) (by rw [nums_length] at hi; omega) j hj⟩, txts_even.1 h.even⟩
/-- What is known of the judgement b when a pieces, and c more for the one after, are judged. -/
structure Judged (n : Nat) (ps : List (Int × ByteArray)) (a : Nat) (b : Bool) : Prop where
  bad : b = true → ¬ May n ps
  good : b = false → Okto n ps a
structure Judging (n : Nat) (ps : List (Int × ByteArray)) (a c : Nat) (b : Bool) : Prop where
  bad : b = true → ¬ May n ps
  good : b = false → Okto n ps a ∧ ∀ (h : a < ps.length), 0 ≤ ps[a].1 ∧ ps[a].1 < n ∧ ∀ j (hj : j < a), j < c → ps[a].1 ≠ (ps[j]'(by omega)).1
theorem Judged.start {n : Nat} {ps : List (Int × ByteArray)} : Judged n ps 0 (!evenB (txts ps)) := by
  refine ⟨fun h hm => ?_, fun h => ⟨by simpa using h, fun i _ hi => by omega, fun i _ hi => by omega⟩⟩
  have := txts_even.2 hm.even
  rw [this] at h
  exact absurd h (by decide)
theorem Judged.bad_range {n : Nat} {ps : List (Int × ByteArray)} {a : Nat} (ha : a < ps.length) (h : ps[a].1 < 0 ∨ (n : Int) ≤ ps[a].1) (c : Nat) : Judging n ps a c true := by
  refine ⟨fun _ hm => ?_, fun h => by cases h⟩
  have := hm.apart.rng a (by rw [nums_length]; exact ha)
  rw [nums_getElem] at this
  omega
theorem Judged.stay {n : Nat} {ps : List (Int × ByteArray)} {a : Nat} (h : Judged n ps a true) (c : Nat) : Judging n ps a c true := ⟨h.bad, fun h => by cases h⟩
theorem Judged.on {n : Nat} {ps : List (Int × ByteArray)} {a : Nat} (ha : a < ps.length) (h : Judged n ps a false) (h1 : 0 ≤ ps[a].1) (h2 : ps[a].1 < n) : Judging n ps a 0 false :=
  ⟨fun h => (by cases h), fun _ => ⟨h.good rfl, fun _ => ⟨h1, h2, fun j _ hj => by omega⟩⟩⟩
theorem Judging.stay {n : Nat} {ps : List (Int × ByteArray)} {a c : Nat} (h : Judging n ps a c true) (c' : Nat) : Judging n ps a c' true := ⟨h.bad, fun h => by cases h⟩
theorem Judging.eq {n : Nat} {ps : List (Int × ByteArray)} {a c : Nat} (ha : a < ps.length) (hc : c < a) (h : ps[a].1 = (ps[c]'(by omega)).1) (c' : Nat) : Judging n ps a c' true := by
  refine ⟨fun _ hm => ?_, fun h => by cases h⟩
  have := hm.apart.ne a (by rw [nums_length]; exact ha) c hc
  rw [nums_getElem, nums_getElem] at this
  exact this h
theorem Judging.ne {n : Nat} {ps : List (Int × ByteArray)} {a c : Nat} (ha : a < ps.length) (hc : c < a) (h : Judging n ps a c false) (hne : ps[a].1 ≠ (ps[c]'(by omega)).1) : Judging n ps a (c + 1) false := by
  refine ⟨fun h => (by cases h), fun _ => ⟨(h.good rfl).1, fun h3 => ?_⟩⟩
  obtain ⟨h4, h5, h6⟩ := (h.good rfl).2 h3
  refine ⟨h4, h5, fun j hj hj2 => ?_⟩
  by_cases e : j = c
  · subst e; exact hne
  · exact h6 j hj (by omega)
theorem Judging.done {n : Nat} {ps : List (Int × ByteArray)} {a : Nat} {b : Bool} (h : Judging n ps a a b) : Judged n ps (a + 1) b := by
  refine ⟨h.bad, fun hb => ?_⟩
  obtain ⟨h1, h2⟩ := h.good hb
  refine ⟨h1.even, fun i hi hia => ?_, fun i hi hia j hj => ?_⟩
  · by_cases e : i = a
    · subst e; exact ⟨(h2 hi).1, (h2 hi).2.1⟩
    · exact h1.rng i hi (by omega)
  · by_cases e : i = a
    · subst e; exact (h2 hi).2.2 j hj hj
    · exact h1.ne i hi (by omega) j hj
set_option maxRecDepth 100000 in
set_option maxHeartbeats 1000000 in
theorem reven_any (A : Option Addr) (n c : Nat) (ss : List ByteArray) (w : World) (hS : Strs w A n ss) (hn : n ≤ 140737488355328) :
    Calls Try.prog 53 #[.slice A n c] w fun e w' => e = .returned (.bool (evenB ss)) ∧ Below w.heap.size w w' := by
  obtain ⟨L, hL⟩ : ∃ L, (ss.getD 0 ByteArray.empty).size = L := ⟨_, rfl⟩
  have HI := Lib.hid (even_iff hL)
  have HL := Lib.hid hS.len
  obtain ⟨R, hR⟩ : ∃ R, evenB ss = R := ⟨_, rfl⟩
  rw [hR] at HI ⊢
  have HLL := Lib.hid hL
  clear hR hL
  go_enter Try.func53, Try.ntmps53
  go_wp2
  go_loopw [3] (fun i wr => ∃ k : Nat, k ≤ n ∧ i = .int .i64 k ∧ Below w.heap.size w wr ∧ ∀ j (hj : j < ss.length), j < k → ss[j].size = L) (fun i _ => n - (intOf i).toNat)
  case atStart => exact ⟨0, by omega, rfl, Below.refl _ _, fun j _ h => by omega⟩
  case round =>
    obtain ⟨k, hk, rfl, HB, hall⟩ := hrel
    have HA := Lib.hid hall
    clear hall
    by_cases hlt : k < n
    · have hkl : k < ss.length := by have := HL.out; omega
      obtain ⟨b, off, rfl, hc⟩ := (hS.below HB).block (by omega)
      have hck := hc k hkl
      have h0c := hc 0 (by omega)
      rw [Nat.add_zero] at h0c
      have z0 : (0 : Int) < n := by omega
      have HL0 := Lib.hid (show ss[0].size = L by rw [← HLL.out, List.getD_eq_getElem?_getD, List.getElem?_eq_getElem (by omega)]; rfl)
      obtain ⟨s, hs⟩ : ∃ s, s = ss[k] := ⟨_, rfl⟩
      obtain ⟨s0, hs0⟩ : ∃ s, s = ss[0] := ⟨_, rfl⟩
      rw [← hs] at hck
      rw [← hs0] at h0c HL0
      have HSK := Lib.hid hs
      have r1 := regrown_cell hck
      have r2 := regrown_cell h0c
      clear hc hs hs0
      by_cases he : s.size = s0.size
      · have e1 : (((s.size : Nat) : Int) != ((s0.size : Nat) : Int)) = false := int_beq (by omega)
        have HEQ := Lib.hid he
        clear he hck h0c
        go_upto_region 4 with fail
        (refine wp_region_quiet_below (by kernel_rfl) (by kernel_rfl) ?_; (repeat (go_big_quiet_step (fail))); refine wpQuiet_nil ?_; intro wq hw'; have HQ := below_of_regrown hw'; clear hw')
        have HE := bt HB HB.size HQ
        clear HQ HB r1 r2
        go_wp2
        go_roundw
        case rel =>
          refine ⟨k + 1, by omega, by go_num, HE, fun j hj hjk => ?_⟩
          rcases Nat.lt_or_ge j k with h | h
          · exact HA.out j hj h
          · obtain rfl : j = k := by omega
            rw [← HSK.out, HEQ.out, HL0.out]
        case measure => simp [intOf]; omega
      · have e1 : (((s.size : Nat) : Int) != ((s0.size : Nat) : Int)) = true := int_bne (by omega)
        have HEQ := Lib.hid he
        clear he hck h0c
        go_upto_region 4 with fail
        (refine wp_region_quiet_below (by kernel_rfl) (by kernel_rfl) ?_; (repeat (go_big_quiet_step (fail))); refine wpQuiet_nil ?_; intro wq hw'; have HQ := below_of_regrown hw'; clear hw')
        have HE := bt HB HB.size HQ
        clear HQ HB r1 r2
        go_wp2
        go_ret
        refine ⟨?_, HE⟩
        have : R = false := by
          cases R with
          | false => rfl
          | true =>
            have h1 := HI.out.1 rfl k hkl
            rw [← HSK.out] at h1
            exact absurd (h1.trans HL0.out.symm) HEQ.out
        rw [this]
        rfl
    · obtain rfl : k = n := by omega
      go_wp2
      go_ret
      refine ⟨?_, HB⟩
      have : R = true := HI.out.2 fun i hi => HA.out i hi (by have := HL.out; omega)
      rw [this]
      rfl
section
variable (cb k n fb : Nat) (A : Option Addr) (c : Nat) (G : M) (A2 : Option Addr) (c2 : Nat) (ps : List (Int × ByteArray)) (w : World)
/-- Again, at a piece among the first, gives that piece back. -/
theorem again_same (i : Nat) (hik : i < k) (hC : CoderAt w cb k n fb A c G) (hP : Pieces w A2 ps) (hmc : ps.length ≤ c2) (hm : ps.length ≤ 1000000) (hM : May n ps) (hk : k ≤ ps.length) (hL : ∀ i (h : i < ps.length), ps[i].2.size ≤ 1000000) (x : Int) (s : ByteArray) (hx : x = (ps[i]'(by omega)).1) (hs : s = (ps[i]'(by omega)).2) :
    Calls Try.prog 55 #[.pointer (some ⟨cb, 0, none⟩), .slice A2 ps.length c2, .int .i64 x] w fun e w' => e = .returned (.tuple #[.string s, .int .i64 0]) ∧ Below w.heap.size w w' := by
  subst hs
  have hr := hM.apart.rng i (by rw [nums_length]; omega)
  rw [nums_getElem, ← hx] at hr
  obtain ⟨m, rfl⟩ : ∃ m : Nat, x = m := ⟨x.toNat, by omega⟩
  refine (again_ok cb k n fb A c G A2 ps.length c2 ps w m (by omega) hC hP rfl hmc hm hM hk (ps[i]'(by omega)).2.size (hL i (by omega)) (fun j hj => (hM.even j hj).trans (hM.even i (by omega)).symm)).mono fun e w' ⟨V, h1, h4, h5⟩ => ⟨?_, h5⟩
  rw [h1]
  have hl : i < (txts (ps.take k)).length := by rw [txts_length, List.length_take]; omega
  have hl2 : i < (nums (ps.take k)).length := by rw [nums_length, List.length_take]; omega
  have e3 := selT_at (G := G) (m := m) hl2 (by rw [nums_getElem, List.getElem_take]; exact hx.symm)
  have e4 : (txts (ps.take k))[i] = (ps[i]'(by omega)).2 := by rw [txts_getElem, List.getElem_take]
  have : strOf (ps[i]'(by omega)).2.size (mm k G (mm k V (tx (txts (ps.take k)))) m) = (ps[i]'(by omega)).2 := by
    rw [strOf_congr (g := tx (txts (ps.take k)) i) fun p hp => ?_, strOf_tx hl (by rw [e4]), e4]
    have e5 : mm k G (mm k V (tx (txts (ps.take k)))) m p = mm k (selT G (nums (ps.take k))) (mm k V (tx (txts (ps.take k)))) i p := by
      unfold mm
      rw [e3]
    rw [e5, ← mm_assoc, mm_congr (A' := dl) (B := tx (txts (ps.take k))) (B' := tx (txts (ps.take k))) (fun q hq => h4.right i hik q hq) (fun _ _ => rfl), mm_one_left _ _ hik]
  rw [this]
end
end Go.Proofs.Ytalinkpfklhgaaa.CodW
