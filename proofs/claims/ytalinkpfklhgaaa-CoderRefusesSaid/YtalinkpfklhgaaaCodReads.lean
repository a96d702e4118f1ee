/- The law CoderReads walked. -/
import Derived.Test.YtalinkpfklhgaaaCodPicked
set_option linter.unusedVariables false
set_option linter.unusedSimpArgs false
namespace Go.Proofs.Ytalinkpfklhgaaa.CodW
open Go.RowKit Go.Proofs.Ytalinkpfklhgaaa.Base Go.Proofs.Ytalinkpfklhgaaa.GfP Go.Proofs.Ytalinkpfklhgaaa.GfW Go.Proofs.Ytalinkpfklhgaaa.Lin Go.Proofs.Ytalinkpfklhgaaa.RowsW Go.Proofs.Ytalinkpfklhgaaa.CodP

theorem PicksOf.some {n L : Nat} {Y : M} {ps : List (Int × ByteArray)} (h : PicksOf (txs n L Y) ps) (i : Nat) (hi : i < ps.length) : ∃ m : Nat, m < n ∧ ps[i].1 = (m : Int) ∧ ps[i].2 = strOf L (Y m) := by
  have hr := h.apart.rng i (by rw [nums_length]; exact hi)
  rw [nums_getElem, txs_length] at hr
  have ht := h.text i hi
  refine ⟨ps[i].1.toNat, by omega, by omega, ?_⟩
  rw [ht, List.getD_eq_getElem?_getD, List.getElem?_eq_getElem (by rw [txs_length]; omega), Option.getD_some, txs_getElem]
theorem PicksOf.size {n L : Nat} {Y : M} {ps : List (Int × ByteArray)} (h : PicksOf (txs n L Y) ps) (i : Nat) (hi : i < ps.length) : ps[i].2.size = L := by
  obtain ⟨m, _, _, e⟩ := h.some i hi
  rw [e, strOf_size]
theorem PicksOf.may {n L : Nat} {Y : M} {ps : List (Int × ByteArray)} (h : PicksOf (txs n L Y) ps) : May n ps := by
  refine ⟨?_, fun i hi => by rw [h.size i hi, h.size 0 (by omega)]⟩
  have := h.apart
  rw [txs_length] at this
  exact this
theorem undone {k n L : Nat} {G V X : M} {ps : List (Int × ByteArray)} (hk : k ≤ ps.length) (h : PicksOf (txs n L (mm k G X)) ps) (hU : Undoes k G (nums (ps.take k)) V) : Eqv k L (mm k V (tx (txts (ps.take k)))) X := fun i hi p hp => by
  have h1 : ∀ q, q < k → tx (txts (ps.take k)) q p = mm k (selT G (nums (ps.take k))) X q p := fun q hq => by
    obtain ⟨m, hm, e1, e2⟩ := h.some q (by omega)
    have hl : q < (txts (ps.take k)).length := by rw [txts_length, List.length_take]; omega
    have hl2 : q < (nums (ps.take k)).length := by rw [nums_length, List.length_take]; omega
    unfold tx
    rw [List.getD_eq_getElem?_getD, List.getElem?_eq_getElem hl, Option.getD_some, txts_getElem, List.getElem_take, e2, txb_strOf L _ p hp, toF_of]
    have e3 := selT_at (G := G) (m := m) hl2 (by rw [nums_getElem, List.getElem_take]; exact e1)
    unfold mm
    rw [e3]
  rw [mm_congr (A := V) (A' := V) (fun _ _ => rfl) h1, ← mm_assoc, mm_congr (A' := dl) (B := X) (B' := X) (fun q hq => hU.left i hi q hq) (fun _ _ => rfl), mm_one_left _ _ hi]
theorem texts_back {k L : Nat} {l : List ByteArray} {Y : M} (hl : l.length = k) (hs : ∀ i (h : i < l.length), l[i].size = L) (h : Eqv k L Y (tx l)) : txs k L Y = l := by
  rw [txs_congr h, ← hl, txs_tx hs]
section
variable (cb k n fb : Nat) (A : Option Addr) (c : Nat) (G : M) (A2 : Option Addr) (c2 L : Nat) (l : List ByteArray) (ps : List (Int × ByteArray)) (w : World)
theorem read_picks (hC : CoderAt w cb k n fb A c G) (hP : Pieces w A2 ps) (hmc : ps.length ≤ c2) (hm : ps.length ≤ 1000000) (hL : L ≤ 1000000) (hPk : PicksOf (txs n L (mm k G (tx l))) ps) (hk : k ≤ ps.length) (hl : l.length = k) (hs : ∀ i (h : i < l.length), l[i].size = L) :
    Calls Try.prog 54 #[.pointer (some ⟨cb, 0, none⟩), .slice A2 ps.length c2] w fun e w' => ∃ A' c', e = .returned (.tuple #[.slice A' k c', .int .i64 0]) ∧ k ≤ c' ∧ Strs w' A' k l ∧ Below w.heap.size w w' :=
  (read_ok cb k n fb A c G A2 ps.length c2 ps w hC hP rfl hmc hm hPk.may hk L hL hPk.size).mono fun e w' ⟨A', c', V, h1, h2, h3, h4, h5⟩ => ⟨A', c', h1, h2, by rw [texts_back hl hs (undone hk hPk h4)] at h3; exact h3, h5⟩
theorem read_few (hC : CoderAt w cb k n fb A c G) (hP : Pieces w A2 ps) (hm : ps.length ≤ 1000000) (hPk : PicksOf (txs n L (mm k G (tx l))) ps) (hk : ps.length < k) :
    Calls Try.prog 54 #[.pointer (some ⟨cb, 0, none⟩), .slice A2 ps.length c2] w fun e w' => e = .returned (.tuple #[.slice none 0 0, .int .i64 5]) ∧ Below w.heap.size w w' :=
  read_no cb k n fb A c G A2 ps.length c2 ps w hC hP rfl hm 5 (.inr ⟨rfl, hPk.may, hk⟩)
theorem again_picks (i : Nat) (hi : i < n) (hC : CoderAt w cb k n fb A c G) (hP : Pieces w A2 ps) (hmc : ps.length ≤ c2) (hm : ps.length ≤ 1000000) (hL : L ≤ 1000000) (hPk : PicksOf (txs n L (mm k G (tx l))) ps) (hk : k ≤ ps.length) :
    Calls Try.prog 55 #[.pointer (some ⟨cb, 0, none⟩), .slice A2 ps.length c2, .int .i64 (i : Nat)] w fun e w' => e = .returned (.tuple #[.string (strOf L (mm k G (tx l) i)), .int .i64 0]) ∧ Below w.heap.size w w' :=
  (again_ok cb k n fb A c G A2 ps.length c2 ps w i hi hC hP rfl hmc hm hPk.may hk L hL hPk.size).mono fun e w' ⟨V, h1, h4, h5⟩ => ⟨by rw [h1, strOf_congr fun p hp => mm_congr (A := G) (A' := G) (fun _ _ => rfl) (fun q hq => undone hk hPk h4 q hq p hp)], h5⟩
theorem head_same {i : Nat} (hG : CodeG k n G) (hi : i < k) (hl : l.length = k) (hs : ∀ i (h : i < l.length), l[i].size = L) : strOf L (mm k G (tx l) i) = l[i]'(by omega) := by
  rw [strOf_congr (g := tx l i) fun p hp => by rw [mm_congr (A' := dl) (B := tx l) (B' := tx l) (fun q hq => hG.one i hi q hq) (fun _ _ => rfl), mm_one_left _ _ hi], strOf_tx (by omega) (hs i (by omega))]
end
section
variable (A B : Option Addr) (k n m q c1 c2 z : Nat) (l : List ByteArray) (od : List Nat) (w : World)
set_option maxRecDepth 100000 in
set_option maxHeartbeats 2000000 in
theorem lawreads_far1 (hA : Strs w A m l) (hB : Bytes w B od) (hm : m ≤ 9223372036854775807) (hq : q ≤ 9223372036854775807) (hod : od.length = q) (hmc : m ≤ c1) (hx : k ≤ 255) (hy : n ≤ 255) (hz : z ≤ 255) (fa : fewT l = false) :
    Calls Try.prog 18 #[.int .u8 (k : Nat), .int .u8 (n : Nat), .slice A m c1, .slice B q c2, .int .u8 (z : Nat)] w fun e w' => e = .returned (.bool true) ∧ Below w.heap.size w w' := by
  have HFA := Lib.hid (fun W (h : Strs W A m l) => fewt_below A m c1 l _ fa W h (by omega))
  have HOD := Lib.hid hod
  clear hod
  have HB : Below w.heap.size w w := Below.refl _ _
  have ex := u8int k hx
  have ey := u8int n hy
  have ez := u8int z hz
  go_enter Try.func18, Try.ntmps18
  go_wp2_with (first | (go_at_call 48; (with_reducible refine (CodW.awake_any _).mono ?_); rintro e w2 ⟨rfl, hd⟩; replace HB := bt HB HB.size hd; clear hd) | (go_at_call 49; (with_reducible refine (HFA.out _ (hA.below HB)).mono ?_); rintro e w2 ⟨rfl, hd⟩; replace HB := bt HB HB.size hd; clear hd))
  go_ret
  exact ⟨rfl, HB⟩
set_option maxRecDepth 100000 in
set_option maxHeartbeats 2000000 in
theorem lawreads_far2 (hA : Strs w A m l) (hB : Bytes w B od) (hm : m ≤ 9223372036854775807) (hq : q ≤ 9223372036854775807) (hod : od.length = q) (hmc : m ≤ c1) (hx : k ≤ 255) (hy : n ≤ 255) (hz : z ≤ 255) (fa : fewT l = true) (hne : 200 < q) :
    Calls Try.prog 18 #[.int .u8 (k : Nat), .int .u8 (n : Nat), .slice A m c1, .slice B q c2, .int .u8 (z : Nat)] w fun e w' => e = .returned (.bool true) ∧ Below w.heap.size w w' := by
  have HFA := Lib.hid (fun W (h : Strs W A m l) => fewt_below A m c1 l _ fa W h (by omega))
  have HOD := Lib.hid hod
  clear hod
  have t1 : decide ((200 : Int) < ((q : Nat) : Int)) = true := by simp; omega
  have HB : Below w.heap.size w w := Below.refl _ _
  have ex := u8int k hx
  have ey := u8int n hy
  have ez := u8int z hz
  go_enter Try.func18, Try.ntmps18
  go_wp2_with (first | (go_at_call 48; (with_reducible refine (CodW.awake_any _).mono ?_); rintro e w2 ⟨rfl, hd⟩; replace HB := bt HB HB.size hd; clear hd) | (go_at_call 49; (with_reducible refine (HFA.out _ (hA.below HB)).mono ?_); rintro e w2 ⟨rfl, hd⟩; replace HB := bt HB HB.size hd; clear hd))
  go_ret
  exact ⟨rfl, HB⟩
set_option maxRecDepth 100000 in
set_option maxHeartbeats 2000000 in
theorem lawreads_new (hA : Strs w A m l) (hB : Bytes w B od) (hm : m ≤ 9223372036854775807) (hq : q ≤ 9223372036854775807) (hod : od.length = q) (hmc : m ≤ c1) (hx : k ≤ 255) (hy : n ≤ 255) (hz : z ≤ 255) (fa : fewT l = true) (hne : q ≤ 200) (hb : k < 1 ∨ n < k ∨ 16 < n) :
    Calls Try.prog 18 #[.int .u8 (k : Nat), .int .u8 (n : Nat), .slice A m c1, .slice B q c2, .int .u8 (z : Nat)] w fun e w' => e = .returned (.bool true) ∧ Below w.heap.size w w' := by
  have HFA := Lib.hid (fun W (h : Strs W A m l) => fewt_below A m c1 l _ fa W h (by omega))
  have HOD := Lib.hid hod
  clear hod
  have t1 : decide ((200 : Int) < ((q : Nat) : Int)) = false := by simp; omega
  have HN := Lib.hid (fun W => new_no k n W (by omega))
  have HB : Below w.heap.size w w := Below.refl _ _
  have ex := u8int k hx
  have ey := u8int n hy
  have ez := u8int z hz
  go_enter Try.func18, Try.ntmps18
  clear fa
  go_wp2_with (first | (go_at_call 48; (with_reducible refine (CodW.awake_any _).mono ?_); rintro e w2 ⟨rfl, hd⟩; replace HB := bt HB HB.size hd; clear hd) | (go_at_call 49; (with_reducible refine (HFA.out _ (hA.below HB)).mono ?_); rintro e w2 ⟨rfl, hd⟩; replace HB := bt HB HB.size hd; clear hd) | (go_at_call 50; (with_reducible refine (HN.out _).mono ?_); rintro e w2 ⟨rfl, rfl⟩) | (go_at_call 51; (with_reducible refine (make_nil _ _).mono ?_); rintro e w3 ⟨rfl, rfl⟩))
  go_ret
  exact ⟨rfl, HB⟩
set_option maxRecDepth 100000 in
set_option maxHeartbeats 2000000 in
theorem lawreads_make (hA : Strs w A m l) (hB : Bytes w B od) (hm : m ≤ 9223372036854775807) (hq : q ≤ 9223372036854775807) (hod : od.length = q) (hmc : m ≤ c1) (hx : k ≤ 255) (hy : n ≤ 255) (hz : z ≤ 255) (fa : fewT l = true) (hne : q ≤ 200) (hb : 1 ≤ k ∧ k ≤ n ∧ n ≤ 16) (ev : m ≠ k ∨ evenB l = false) :
    Calls Try.prog 18 #[.int .u8 (k : Nat), .int .u8 (n : Nat), .slice A m c1, .slice B q c2, .int .u8 (z : Nat)] w fun e w' => e = .returned (.bool true) ∧ Below w.heap.size w w' := by
  have HFA := Lib.hid (fun W (h : Strs W A m l) => fewt_below A m c1 l _ fa W h (by omega))
  have HOD := Lib.hid hod
  clear hod
  have t1 : decide ((200 : Int) < ((q : Nat) : Int)) = false := by simp; omega
  have HN := Lib.hid (fun W => new_ok k n W hb.1 hb.2.1 hb.2.2)
  have HM1 := Lib.hid (fun W cb fb A' c G (hC : CoderAt W cb k n fb A' c G) (h : Strs W A m l) => make_no cb k n fb A' c G A m c1 l W hC h (by have := (fewT_yes fa).1; have := h.len; omega) ev)
  clear ev
  have HB : Below w.heap.size w w := Below.refl _ _
  have ex := u8int k hx
  have ey := u8int n hy
  have ez := u8int z hz
  go_enter Try.func18, Try.ntmps18
  clear fa
  go_wp2_with (first | (go_at_call 48; (with_reducible refine (CodW.awake_any _).mono ?_); rintro e w2 ⟨rfl, hd⟩; replace HB := bt HB HB.size hd; clear hd) | (go_at_call 49; (with_reducible refine (HFA.out _ (hA.below HB)).mono ?_); rintro e w2 ⟨rfl, hd⟩; replace HB := bt HB HB.size hd; clear hd) | (go_at_call 50; (with_reducible refine (HN.out _).mono ?_); rintro e w2 ⟨cb, fb2, A5, c5, G, rfl, hC, hd⟩; replace HB := bt HB HB.size hd; clear hd) | (go_at_call 51; (with_reducible refine (HM1.out _ _ _ _ _ _ hC (hA.below HB)).mono ?_); rintro e w3 ⟨rfl, rfl⟩))
  go_ret
  exact ⟨rfl, HB⟩
set_option maxRecDepth 100000 in
set_option maxHeartbeats 4000000 in
theorem lawreads_good (hA : Strs w A k l) (hB : Bytes w B od) (hod : od.length = q) (hmc : k ≤ c1) (hx : k ≤ 255) (hy : n ≤ 255) (hz : z ≤ 255) (fa : fewT l = true) (hne : q ≤ 200) (hb : 1 ≤ k ∧ k ≤ n ∧ n ≤ 16) (ev : evenB l = true) :
    Calls Try.prog 18 #[.int .u8 (k : Nat), .int .u8 (n : Nat), .slice A k c1, .slice B q c2, .int .u8 (z : Nat)] w fun e w' => e = .returned (.bool true) ∧ Below w.heap.size w w' := by
  obtain ⟨k1, kn, n16⟩ := hb
  have hll := hA.len
  obtain ⟨L, hLs⟩ : ∃ L, l[0].size = L := ⟨_, rfl⟩
  have hL : L ≤ 1000 := by rw [← hLs]; exact (fewT_yes fa).2.1 0 (by omega)
  have hsz : ∀ i (hi : i < l.length), l[i].size = L := fun i hi => by rw [← hLs]; exact (even_iff (L := l[0].size) (by rw [List.getD_eq_getElem?_getD, List.getElem?_eq_getElem (by omega)]; rfl)).1 ev i hi
  have HFA := Lib.hid (fun W (h : Strs W A k l) => (fewt_any A k c1 l W h (by omega)).mono (fun e w' (h : e = .returned (.bool (fewT l)) ∧ W = w') => (show e = .returned (.bool true) ∧ Below W.heap.size W w' from ⟨by rw [h.1, fa], h.2 ▸ Below.refl _ _⟩)))
  have t1 : decide ((200 : Int) < ((q : Nat) : Int)) = false := by simp; omega
  have HN := Lib.hid (fun W => new_ok k n W k1 kn n16)
  have HM1 := Lib.hid (fun W cb fb A' c G (hC : CoderAt W cb k n fb A' c G) (h : Strs W A k l) => make_ok cb k n fb A' c G A c1 L l W hC h (by omega) hsz)
  have HPK := Lib.hid (fun W A' c' G (h : Strs W A' n (txs n L (mm k G (tx l)))) (h2 : Bytes W B od) => picked_any A' B n c' q c2 _ od W h h2 hod (by omega) (by omega) (by omega))
  have HRD := Lib.hid (fun W cb fb A' c G A2 c2 ps (hC : CoderAt W cb k n fb A' c G) (hP : Pieces W A2 ps) (h1 : ps.length ≤ c2) (h2 : ps.length ≤ q) (hPk : PicksOf (txs n L (mm k G (tx l))) ps) (hk : k ≤ ps.length) => read_picks cb k n fb A' c G A2 c2 L l ps W hC hP h1 (by omega) (by omega) hPk hk hll hsz)
  have HAG := Lib.hid (fun W cb fb A' c G A2 c2 ps i (hi : i < n) (hC : CoderAt W cb k n fb A' c G) (hP : Pieces W A2 ps) (h1 : ps.length ≤ c2) (h2 : ps.length ≤ q) (hPk : PicksOf (txs n L (mm k G (tx l))) ps) (hk : k ≤ ps.length) => again_picks cb k n fb A' c G A2 c2 L l ps W i hi hC hP h1 (by omega) (by omega) hPk hk)
  have HHS := Lib.hid (fun G i (hG : CodeG k n G) (hi : i < k) => head_same k n G L l hG hi hll hsz)
  have HLL := Lib.hid hll
  obtain ⟨i, hi⟩ : ∃ i : Nat, ((z : Nat) : Int) % (n : Nat) = (i : Nat) := ⟨z % n, by simp⟩
  have z0 : (0 : Int) < n := by omega
  have hin : i < n := by have := Int.emod_lt_of_pos (z : Int) z0; omega
  have en : (((k : Nat) : Int) != ((k : Nat) : Int)) = false := int_beq rfl
  clear ev hsz hLs
  have HB : Below w.heap.size w w := Below.refl _ _
  have ex := u8int k hx
  have ey := u8int n hy
  have ez := u8int z hz
  go_enter Try.func18, Try.ntmps18
  clear fa
  go_upto_region 7 with (first | (go_at_call 48; (with_reducible refine (CodW.awake_any _).mono ?_); rintro e w2 ⟨rfl, hd⟩; replace HB := bt HB HB.size hd; clear hd) | (go_at_call 49; (with_reducible refine (HFA.out _ (hA.below HB)).mono ?_); rintro e w2 ⟨rfl, hd⟩; replace HB := bt HB HB.size hd; clear hd) | (go_at_call 50; (with_reducible refine (HN.out _).mono ?_); rintro e w2 ⟨cb, fb2, A5, c5, G, rfl, hC, hd⟩; replace HB := bt HB HB.size hd; clear hd) | (go_at_call 51; (with_reducible refine (HM1.out _ _ _ _ _ _ hC (hA.below HB)).mono ?_); rintro e w3 ⟨A6, c6, rfl, hc6, hX, hd⟩; replace hC := hC.below hd; replace HB := bt HB HB.size hd; clear hd))
  go_upto_region 8 with (go_at_call 56; (with_reducible refine (HPK.out _ _ _ _ hX (hB.below HB)).mono ?_); rintro e w4 ⟨A7, c7, ps, rfl, hc7, hpq, hP, hPk, hd⟩; replace hC := hC.below hd; replace hX := hX.below hd; replace HB := bt HB HB.size hd; clear hd)
  have HPI := Lib.hid hPk
  clear hPk
  by_cases hlt : ps.length < k
  · have t2 : decide (((ps.length : Nat) : Int) < ((k : Nat) : Int)) = true := by simp [hlt]
    have t2' : decide (ps.length < k) = true := by simp [hlt]
    have HLT := Lib.hid hlt
    go_wp2_with (go_at_call 54; (with_reducible refine (read_few _ k n _ _ _ _ _ _ L l ps _ hC hP (by omega) HPI.out HLT.out).mono ?_); rintro e w5 ⟨rfl, hd⟩; replace HB := bt HB HB.size hd; clear hd)
    go_ret
    exact ⟨rfl, HB⟩
  · have t2 : decide (((ps.length : Nat) : Int) < ((k : Nat) : Int)) = false := by simp; omega
    have t2' : decide (ps.length < k) = false := by simp; omega
    have hkl : k ≤ ps.length := by omega
    clear hlt
    have HCG := Lib.hid hC.code
    obtain ⟨b6, o6, rfl, hx6⟩ := hX.block (by omega)
    have g6 := hx6 i (by rw [txs_length]; exact hin)
    rw [txs_getElem] at g6
    go_upto_region 12 with (first | (go_at_call 54; (with_reducible refine (HRD.out _ _ _ _ _ _ _ _ ps hC hP hc7 hpq HPI.out hkl).mono ?_); rintro e w5 ⟨A8, c8, rfl, hc8, hR, hd⟩; replace hC := hC.below hd; replace hX := hX.below hd; replace hP := hP.below hd; replace g6 := cell_below hd g6; replace HB := bt HB HB.size hd; clear hd) | (go_at_call 55; (with_reducible refine (HAG.out _ _ _ _ _ _ _ _ ps i hin hC hP hc7 hpq HPI.out hkl).mono ?_); rintro e w6 ⟨rfl, hd⟩; replace hC := hC.below hd; replace hX := hX.below hd; replace hR := hR.below hd; replace g6 := cell_below hd g6; replace HB := bt HB HB.size hd; clear hd))
    have HY := Lib.hid hX
    clear hx6
    have es : ∀ s : ByteArray, (s.toList == s.toList) = true := fun s => by simp
    generalize strOf L (mm k G (tx l) i) = sx at g6
    go_wp2_with (go_at_call 57; (with_reducible refine (cright_yes _ k n _ _ _ _ _ c6 L _ _ hC hX hc6 (by omega)).mono ?_); rintro e w7 ⟨rfl, hd⟩; replace hX := hX.below hd; replace hR := hR.below hd; replace HB := bt HB HB.size hd; clear hd)
    have HB0 := HB
    clear HB hC hP
    go_loopw [20] (fun i wr => ∃ a : Nat, a ≤ k ∧ i = .int .i64 a ∧ Below w7.heap.size w7 wr) (fun i _ => k - (intOf i).toNat)
    case atStart => exact ⟨0, by omega, rfl, Below.refl _ _⟩
    case round =>
      obtain ⟨a, ha, rfl, HB1⟩ := hrel
      by_cases hlt2 : a < k
      · have hal : a < l.length := by have := HLL.out; omega
        obtain ⟨bx, ox, rfl, hx9⟩ := (hR.below HB1).block (by omega)
        obtain ⟨by', oy, rfl, hy9⟩ := ((hA.below HB0).below HB1).block (by omega)
        obtain ⟨_, _, e1, hz9⟩ := (hX.below HB1).block (by omega)
        cases e1
        have g1 := hx9 a hal
        have g2 := hy9 a hal
        have g3 := hz9 a (by rw [txs_length]; omega)
        rw [txs_getElem, HHS.out G a HCG.out hlt2] at g3
        clear hx9 hy9 hz9 HY
        generalize l[a] = s at g1 g2 g3
        have es9 : (s.toList != s.toList) = false := by simp
        have r1 := regrown_cell g1
        have r2 := regrown_cell g2
        have r3 := regrown_cell g3
        have han : a < n := by omega
        go_upto_region 17 with fail
        (refine wp_region_quiet_below (by kernel_rfl) (by kernel_rfl) ?_; (repeat (go_big_quiet_step (fail))); refine wpQuiet_nil ?_; intro wq hw'; have HQ := below_of_regrown hw'; clear hw')
        have HE := bt HB1 HB1.size HQ
        clear HQ HB1 r1 r2 r3 g1 g2 g3
        go_wp2
        go_roundw
        case rel => exact ⟨a + 1, by omega, by go_num, HE⟩
        case measure => simp [intOf]; omega
      · obtain rfl : a = k := by omega
        go_wp2
        go_ret
        exact ⟨rfl, bt HB0 HB0.size HB1⟩
theorem lawreads (hA : Strs w A m l) (hB : Bytes w B od) (hm : m ≤ 9223372036854775807) (hq : q ≤ 9223372036854775807) (hod : od.length = q) (hmc : m ≤ c1) (hx : k ≤ 255) (hy : n ≤ 255) (hz : z ≤ 255) :
    Calls Try.prog 18 #[.int .u8 (k : Nat), .int .u8 (n : Nat), .slice A m c1, .slice B q c2, .int .u8 (z : Nat)] w fun e w' => e = .returned (.bool true) ∧ Below w.heap.size w w' := by
  by_cases fa : fewT l = true
  · by_cases hne : q ≤ 200
    · by_cases hb : 1 ≤ k ∧ k ≤ n ∧ n ≤ 16
      · by_cases ev : m = k ∧ evenB l = true
        · obtain ⟨rfl, ev⟩ := ev
          exact lawreads_good A B m n q c1 c2 z l od w hA hB hod hmc hx hy hz fa hne hb ev
        · refine lawreads_make A B k n m q c1 c2 z l od w hA hB hm hq hod hmc hx hy hz fa hne hb ?_
          by_cases a : m = k
          · exact .inr (by by_cases b : evenB l = true; exact absurd ⟨a, b⟩ ev; simpa using b)
          · exact .inl a
      · exact lawreads_new A B k n m q c1 c2 z l od w hA hB hm hq hod hmc hx hy hz fa hne (by omega)
    · exact lawreads_far2 A B k n m q c1 c2 z l od w hA hB hm hq hod hmc hx hy hz fa (by omega)
  · exact lawreads_far1 A B k n m q c1 c2 z l od w hA hB hm hq hod hmc hx hy hz (by simpa using fa)
end
end Go.Proofs.Ytalinkpfklhgaaa.CodW
