/- The law CoderSums walked. -/
import Derived.Test.YtalinkpfklhgaaaCodLaw0
set_option linter.unusedVariables false
set_option linter.unusedSimpArgs false
namespace Go.Proofs.Ytalinkpfklhgaaa.CodW
open Go.RowKit Go.Proofs.Ytalinkpfklhgaaa.Base Go.Proofs.Ytalinkpfklhgaaa.GfP Go.Proofs.Ytalinkpfklhgaaa.GfW Go.Proofs.Ytalinkpfklhgaaa.Lin Go.Proofs.Ytalinkpfklhgaaa.RowsW Go.Proofs.Ytalinkpfklhgaaa.CodP

theorem strs_regrown {w : World} {A : Option Addr} {n : Nat} {ss : List ByteArray} (h : Strs w A n ss) (p : Regrown) : Strs (Go.Sort.grow (redrawn w p.d) p.os) A n ss := h.below (below_of_regrown ⟨p, rfl⟩)
theorem fewt_below (A : Option Addr) (n c : Nat) (ss : List ByteArray) (R : Bool) (hR : fewT ss = R) (w : World) (hS : Strs w A n ss) (hn : n ≤ 9223372036854775807) :
    Calls Try.prog 49 #[.slice A n c] w fun e w' => e = .returned (.bool R) ∧ Below w.heap.size w w' := by
  rw [← hR]
  exact (fewt_any A n c ss w hS hn).mono fun e w' ⟨h1, h2⟩ => ⟨h1, h2 ▸ Below.refl _ _⟩
theorem even_size {ss : List ByteArray} (he : evenB ss = true) (h0 : 0 < ss.length) : ∀ i (h : i < ss.length), ss[i].size = ss[0].size := (even_iff (L := ss[0].size) (by rw [List.getD_eq_getElem?_getD, List.getElem?_eq_getElem h0]; rfl)).1 he
/-- The pieces of texts, or a refusal. -/
theorem make_some (cb k n fb : Nat) (A : Option Addr) (c : Nat) (G : M) (A2 : Option Addr) (m c2 : Nat) (ss : List ByteArray) (w : World) (hC : CoderAt w cb k n fb A c G) (hS : Strs w A2 m ss) (hm : m ≤ 140737488355328) (hf : fewT ss = true) :
    Calls Try.prog 51 #[.pointer (some ⟨cb, 0, none⟩), .slice A2 m c2] w fun e w' => ∃ v er, e = .returned (.tuple #[v, .int .i64 er]) ∧ Below w.heap.size w w' := by
  by_cases h : m = k ∧ evenB ss = true
  · obtain ⟨rfl, he⟩ := h
    have k1 := hC.k1
    have hl := hS.len
    have hsz := (fewT_yes hf).2.1 0 (by omega)
    exact (make_ok cb m n fb A c G A2 c2 ss[0].size ss w hC hS (by omega) (even_size he (by omega))).mono fun e w' ⟨A', c', h1, _, _, h2⟩ => ⟨_, _, h1, h2⟩
  · refine (make_no cb k n fb A c G A2 m c2 ss w hC hS hm ?_).mono fun e w' ⟨h1, h2⟩ => ⟨_, _, h1, h2 ▸ Below.refl _ _⟩
    by_cases a : m = k
    · exact .inr (by by_cases b : evenB ss = true; exact absurd ⟨a, b⟩ h; simpa using b)
    · exact .inl a
def addM (X Y : M) : M := fun i p => X i p + Y i p
theorem mm_addM (k : Nat) (G X Y : M) (i p : Nat) : mm k G (addM X Y) i p = addM (mm k G X) (mm k G Y) i p := by
  unfold mm addM
  rw [← sm_add]
  exact sm_congr fun j _ => mul_add _ _ _
theorem addT_tx {sa sb : List ByteArray} {i : Nat} (ha : i < sa.length) (hb : i < sb.length) : addT sa[i] sb[i] = addM (tx sa) (tx sb) i := by
  funext p
  unfold addT addM tx
  rw [List.getD_eq_getElem?_getD, List.getElem?_eq_getElem ha, List.getD_eq_getElem?_getD, List.getElem?_eq_getElem hb]
  rfl
section
variable (A B : Option Addr) (n m c1 c2 x : Nat) (sa sb : List ByteArray) (w : World)
set_option maxRecDepth 100000 in
set_option maxHeartbeats 2000000 in
theorem lawsums_far1 (hA : Strs w A n sa) (hB : Strs w B m sb) (hn : n ≤ 9223372036854775807) (hm : m ≤ 9223372036854775807) (fa : fewT sa = false) :
    Calls Try.prog 16 #[.int .u8 (x : Nat), .slice A n c1, .slice B m c2] w fun e w' => e = .returned (.bool true) ∧ Below w.heap.size w w' := by
  have HFA := Lib.hid (fun W (h : Strs W A n sa) => fewt_below A n c1 sa _ fa W h (by omega))
  have HFB := Lib.hid (fun W (h : Strs W B m sb) => fewt_below B m c2 sb _ rfl W h (by omega))
  have RA := strs_regrown hA
  have RB := strs_regrown hB
  go_enter Try.func16, Try.ntmps16
  go_upto_region 1 with fail
  (refine wp_region_quiet_below (by kernel_rfl) (by kernel_rfl) ?_; (repeat (go_big_quiet_step ((first | (go_at_call 48; with_reducible exact Calls.regrown_of (CodW.awake_any _)) | (go_at_call 49; with_reducible exact Calls.regrown_of (HFA.out _ (RA ⟨_, _⟩))) | (go_at_call 49; with_reducible exact Calls.regrown_of (HFB.out _ (RB ⟨_, _⟩))))))); refine wpQuiet_nil ?_; intro wq hw'; have HQ := below_of_regrown hw'; clear hw')
  have HB := HQ
  go_wp2_with (go_at_call 48; (with_reducible refine (CodW.awake_any _).mono ?_); rintro e w2 ⟨rfl, hd⟩; replace HB := bt HB HB.size hd; clear hd)
  go_ret
  exact ⟨rfl, HB⟩
set_option maxRecDepth 100000 in
set_option maxHeartbeats 2000000 in
theorem lawsums_far2 (hA : Strs w A n sa) (hB : Strs w B m sb) (hn : n ≤ 9223372036854775807) (hm : m ≤ 9223372036854775807) (fa : fewT sa = true) (fb : fewT sb = false) :
    Calls Try.prog 16 #[.int .u8 (x : Nat), .slice A n c1, .slice B m c2] w fun e w' => e = .returned (.bool true) ∧ Below w.heap.size w w' := by
  have HFA := Lib.hid (fun W (h : Strs W A n sa) => fewt_below A n c1 sa _ fa W h (by omega))
  have HFB := Lib.hid (fun W (h : Strs W B m sb) => fewt_below B m c2 sb _ fb W h (by omega))
  have RA := strs_regrown hA
  have RB := strs_regrown hB
  go_enter Try.func16, Try.ntmps16
  go_upto_region 1 with fail
  (refine wp_region_quiet_below (by kernel_rfl) (by kernel_rfl) ?_; (repeat (go_big_quiet_step ((first | (go_at_call 48; with_reducible exact Calls.regrown_of (CodW.awake_any _)) | (go_at_call 49; with_reducible exact Calls.regrown_of (HFA.out _ (RA ⟨_, _⟩))) | (go_at_call 49; with_reducible exact Calls.regrown_of (HFB.out _ (RB ⟨_, _⟩))))))); refine wpQuiet_nil ?_; intro wq hw'; have HQ := below_of_regrown hw'; clear hw')
  have HB := HQ
  go_wp2_with (go_at_call 48; (with_reducible refine (CodW.awake_any _).mono ?_); rintro e w2 ⟨rfl, hd⟩; replace HB := bt HB HB.size hd; clear hd)
  go_ret
  exact ⟨rfl, HB⟩
set_option maxRecDepth 100000 in
set_option maxHeartbeats 2000000 in
theorem lawsums_far3 (hA : Strs w A n sa) (hB : Strs w B m sb) (hn : n ≤ 9223372036854775807) (hm : m ≤ 9223372036854775807) (fa : fewT sa = true) (fb : fewT sb = true) (hne : n ≠ m) :
    Calls Try.prog 16 #[.int .u8 (x : Nat), .slice A n c1, .slice B m c2] w fun e w' => e = .returned (.bool true) ∧ Below w.heap.size w w' := by
  have HFA := Lib.hid (fun W (h : Strs W A n sa) => fewt_below A n c1 sa _ fa W h (by omega))
  have HFB := Lib.hid (fun W (h : Strs W B m sb) => fewt_below B m c2 sb _ fb W h (by omega))
  have e1 : (((n : Nat) : Int) != ((m : Nat) : Int)) = true := int_bne (by omega)
  have RA := strs_regrown hA
  have RB := strs_regrown hB
  go_enter Try.func16, Try.ntmps16
  go_upto_region 1 with fail
  (refine wp_region_quiet_below (by kernel_rfl) (by kernel_rfl) ?_; (repeat (go_big_quiet_step ((first | (go_at_call 48; with_reducible exact Calls.regrown_of (CodW.awake_any _)) | (go_at_call 49; with_reducible exact Calls.regrown_of (HFA.out _ (RA ⟨_, _⟩))) | (go_at_call 49; with_reducible exact Calls.regrown_of (HFB.out _ (RB ⟨_, _⟩))))))); refine wpQuiet_nil ?_; intro wq hw'; have HQ := below_of_regrown hw'; clear hw')
  have HB := HQ
  go_wp2_with (go_at_call 48; (with_reducible refine (CodW.awake_any _).mono ?_); rintro e w2 ⟨rfl, hd⟩; replace HB := bt HB HB.size hd; clear hd)
  go_ret
  exact ⟨rfl, HB⟩
set_option maxRecDepth 100000 in
set_option maxHeartbeats 2000000 in
theorem lawsums_far4 (hA : Strs w A n sa) (hB : Strs w B m sb) (hn : n ≤ 9223372036854775807) (hm : m ≤ 9223372036854775807) (fa : fewT sa = true) (fb : fewT sb = true) (hne : n = m) (h0 : n = 0) :
    Calls Try.prog 16 #[.int .u8 (x : Nat), .slice A n c1, .slice B m c2] w fun e w' => e = .returned (.bool true) ∧ Below w.heap.size w w' := by
  have HFA := Lib.hid (fun W (h : Strs W A n sa) => fewt_below A n c1 sa _ fa W h (by omega))
  have HFB := Lib.hid (fun W (h : Strs W B m sb) => fewt_below B m c2 sb _ fb W h (by omega))
  subst h0
  subst hne
  have RA := strs_regrown hA
  have RB := strs_regrown hB
  go_enter Try.func16, Try.ntmps16
  go_upto_region 1 with fail
  (refine wp_region_quiet_below (by kernel_rfl) (by kernel_rfl) ?_; (repeat (go_big_quiet_step ((first | (go_at_call 48; with_reducible exact Calls.regrown_of (CodW.awake_any _)) | (go_at_call 49; with_reducible exact Calls.regrown_of (HFA.out _ (RA ⟨_, _⟩))) | (go_at_call 49; with_reducible exact Calls.regrown_of (HFB.out _ (RB ⟨_, _⟩))))))); refine wpQuiet_nil ?_; intro wq hw'; have HQ := below_of_regrown hw'; clear hw')
  have HB := HQ
  go_wp2_with (go_at_call 48; (with_reducible refine (CodW.awake_any _).mono ?_); rintro e w2 ⟨rfl, hd⟩; replace HB := bt HB HB.size hd; clear hd)
  go_ret
  exact ⟨rfl, HB⟩
set_option maxRecDepth 100000 in
set_option maxHeartbeats 2000000 in
theorem lawsums_far5 (hA : Strs w A n sa) (hB : Strs w B n sb) (h0 : 0 < n) (fa : fewT sa = true) (fb : fewT sb = true) (s0 t0 : ByteArray) (hs0 : sa[0]? = some s0) (ht0 : sb[0]? = some t0) (hne : s0.size ≠ t0.size) :
    Calls Try.prog 16 #[.int .u8 (x : Nat), .slice A n c1, .slice B n c2] w fun e w' => e = .returned (.bool true) ∧ Below w.heap.size w w' := by
  have hn : n < 100 := by have := (fewT_yes fa).1; have := hA.len; omega
  have HFA := Lib.hid (fun W (h : Strs W A n sa) => fewt_below A n c1 sa _ fa W h (by omega))
  have HFB := Lib.hid (fun W (h : Strs W B n sb) => fewt_below B n c2 sb _ fb W h (by omega))
  have hla := hA.len
  have hlb := hB.len
  obtain ⟨ba, oa, rfl, ha9⟩ := hA.block (by omega)
  obtain ⟨bb, ob, rfl, hb9⟩ := hB.block (by omega)
  have g1 := ha9 0 (by omega)
  have g2 := hb9 0 (by omega)
  obtain ⟨_, e1⟩ := List.getElem?_eq_some_iff.1 hs0
  obtain ⟨_, e2⟩ := List.getElem?_eq_some_iff.1 ht0
  rw [Nat.add_zero, e1] at g1
  rw [Nat.add_zero, e2] at g2
  have HS0 := Lib.hid e1
  have HT0 := Lib.hid e2
  have r1 := regrown_cell g1
  have r2 := regrown_cell g2
  have en : (((n : Nat) : Int) != ((n : Nat) : Int)) = false := int_beq rfl
  have ez : (((n : Nat) : Int) == 0) = false := int_ne (by omega)
  have z0 : (0 : Int) < n := by omega
  clear ha9 hb9 hs0 ht0 e1 e2 g1 g2
  have e9 : (((s0.size : Nat) : Int) != ((t0.size : Nat) : Int)) = true := int_bne (by omega)
  have RA := strs_regrown hA
  have RB := strs_regrown hB
  go_enter Try.func16, Try.ntmps16
  go_upto_region 1 with fail
  (refine wp_region_quiet_below (by kernel_rfl) (by kernel_rfl) ?_; (repeat (go_big_quiet_step ((first | (go_at_call 48; with_reducible exact Calls.regrown_of (CodW.awake_any _)) | (go_at_call 49; with_reducible exact Calls.regrown_of (HFA.out _ (RA ⟨_, _⟩))) | (go_at_call 49; with_reducible exact Calls.regrown_of (HFB.out _ (RB ⟨_, _⟩))))))); refine wpQuiet_nil ?_; intro wq hw'; have HQ := below_of_regrown hw'; clear hw')
  have HB := HQ
  go_wp2_with (go_at_call 48; (with_reducible refine (CodW.awake_any _).mono ?_); rintro e w2 ⟨rfl, hd⟩; replace HB := bt HB HB.size hd; clear hd)
  go_ret
  exact ⟨rfl, HB⟩
set_option maxRecDepth 100000 in
set_option maxHeartbeats 2000000 in
theorem lawsums_new (hA : Strs w A n sa) (hB : Strs w B n sb) (h0 : 0 < n) (fa : fewT sa = true) (fb : fewT sb = true) (s0 t0 : ByteArray) (hs0 : sa[0]? = some s0) (ht0 : sb[0]? = some t0) (hne : s0.size = t0.size) (hx : x ≤ 255) (hb : x < n ∨ 16 < x) :
    Calls Try.prog 16 #[.int .u8 (x : Nat), .slice A n c1, .slice B n c2] w fun e w' => e = .returned (.bool true) ∧ Below w.heap.size w w' := by
  have hn : n < 100 := by have := (fewT_yes fa).1; have := hA.len; omega
  have HFA := Lib.hid (fun W (h : Strs W A n sa) => fewt_below A n c1 sa _ fa W h (by omega))
  have HFB := Lib.hid (fun W (h : Strs W B n sb) => fewt_below B n c2 sb _ fb W h (by omega))
  have hla := hA.len
  have hlb := hB.len
  obtain ⟨ba, oa, rfl, ha9⟩ := hA.block (by omega)
  obtain ⟨bb, ob, rfl, hb9⟩ := hB.block (by omega)
  have g1 := ha9 0 (by omega)
  have g2 := hb9 0 (by omega)
  obtain ⟨_, e1⟩ := List.getElem?_eq_some_iff.1 hs0
  obtain ⟨_, e2⟩ := List.getElem?_eq_some_iff.1 ht0
  rw [Nat.add_zero, e1] at g1
  rw [Nat.add_zero, e2] at g2
  have HS0 := Lib.hid e1
  have HT0 := Lib.hid e2
  have r1 := regrown_cell g1
  have r2 := regrown_cell g2
  have en : (((n : Nat) : Int) != ((n : Nat) : Int)) = false := int_beq rfl
  have ez : (((n : Nat) : Int) == 0) = false := int_ne (by omega)
  have z0 : (0 : Int) < n := by omega
  clear ha9 hb9 hs0 ht0 e1 e2 g1 g2
  have e9 : (((s0.size : Nat) : Int) != ((t0.size : Nat) : Int)) = false := int_beq (by omega)
  have ex := u8int x hx
  have HN := Lib.hid (fun W => new_no n x W (by omega))
  have RA := strs_regrown hA
  have RB := strs_regrown hB
  go_enter Try.func16, Try.ntmps16
  go_upto_region 1 with fail
  (refine wp_region_quiet_below (by kernel_rfl) (by kernel_rfl) ?_; (repeat (go_big_quiet_step ((first | (go_at_call 48; with_reducible exact Calls.regrown_of (CodW.awake_any _)) | (go_at_call 49; with_reducible exact Calls.regrown_of (HFA.out _ (RA ⟨_, _⟩))) | (go_at_call 49; with_reducible exact Calls.regrown_of (HFB.out _ (RB ⟨_, _⟩))))))); refine wpQuiet_nil ?_; intro wq hw'; have HQ := below_of_regrown hw'; clear hw')
  have HB := HQ
  clear r1 r2 RA RB HQ fa fb hla hlb
  go_wp2_with (first | (go_at_call 50; (with_reducible refine (HN.out _).mono ?_); rintro e w2 ⟨rfl, rfl⟩) | (go_at_call 51; (with_reducible refine (make_nil _ _).mono ?_); rintro e w3 ⟨rfl, rfl⟩))
  go_ret
  exact ⟨rfl, HB⟩
set_option maxRecDepth 100000 in
set_option maxHeartbeats 2000000 in
theorem lawsums_m1 (hA : Strs w A n sa) (hB : Strs w B n sb) (h0 : 0 < n) (fa : fewT sa = true) (fb : fewT sb = true) (s0 t0 : ByteArray) (hs0 : sa[0]? = some s0) (ht0 : sb[0]? = some t0) (hne : s0.size = t0.size) (hx : x ≤ 255) (hb : n ≤ x ∧ x ≤ 16) (ev : evenB sa = false) :
    Calls Try.prog 16 #[.int .u8 (x : Nat), .slice A n c1, .slice B n c2] w fun e w' => e = .returned (.bool true) ∧ Below w.heap.size w w' := by
  have hn : n < 100 := by have := (fewT_yes fa).1; have := hA.len; omega
  have HFA := Lib.hid (fun W (h : Strs W A n sa) => fewt_below A n c1 sa _ fa W h (by omega))
  have HFB := Lib.hid (fun W (h : Strs W B n sb) => fewt_below B n c2 sb _ fb W h (by omega))
  have hla := hA.len
  have hlb := hB.len
  obtain ⟨ba, oa, rfl, ha9⟩ := hA.block (by omega)
  obtain ⟨bb, ob, rfl, hb9⟩ := hB.block (by omega)
  have g1 := ha9 0 (by omega)
  have g2 := hb9 0 (by omega)
  obtain ⟨_, e1⟩ := List.getElem?_eq_some_iff.1 hs0
  obtain ⟨_, e2⟩ := List.getElem?_eq_some_iff.1 ht0
  rw [Nat.add_zero, e1] at g1
  rw [Nat.add_zero, e2] at g2
  have HS0 := Lib.hid e1
  have HT0 := Lib.hid e2
  have r1 := regrown_cell g1
  have r2 := regrown_cell g2
  have en : (((n : Nat) : Int) != ((n : Nat) : Int)) = false := int_beq rfl
  have ez : (((n : Nat) : Int) == 0) = false := int_ne (by omega)
  have z0 : (0 : Int) < n := by omega
  clear ha9 hb9 hs0 ht0 e1 e2 g1 g2
  have e9 : (((s0.size : Nat) : Int) != ((t0.size : Nat) : Int)) = false := int_beq (by omega)
  have ex := u8int x hx
  have HN := Lib.hid (fun W => new_ok n x W h0 hb.1 hb.2)
  have HM1 := Lib.hid (fun W cb fb A c G (hC : CoderAt W cb n x fb A c G) (h : Strs W (some ⟨ba, oa, none⟩) n sa) => make_no cb n x fb A c G (some ⟨ba, oa, none⟩) n c1 sa W hC h (by omega) (.inr ev))
  have HM2 := Lib.hid (fun W cb fb' A c G (hC : CoderAt W cb n x fb' A c G) (h : Strs W (some ⟨bb, ob, none⟩) n sb) => make_some cb n x fb' A c G (some ⟨bb, ob, none⟩) n c2 sb W hC h (by omega) fb)
  clear ev
  have RA := strs_regrown hA
  have RB := strs_regrown hB
  go_enter Try.func16, Try.ntmps16
  go_upto_region 1 with fail
  (refine wp_region_quiet_below (by kernel_rfl) (by kernel_rfl) ?_; (repeat (go_big_quiet_step ((first | (go_at_call 48; with_reducible exact Calls.regrown_of (CodW.awake_any _)) | (go_at_call 49; with_reducible exact Calls.regrown_of (HFA.out _ (RA ⟨_, _⟩))) | (go_at_call 49; with_reducible exact Calls.regrown_of (HFB.out _ (RB ⟨_, _⟩))))))); refine wpQuiet_nil ?_; intro wq hw'; have HQ := below_of_regrown hw'; clear hw')
  have HB := HQ
  clear r1 r2 RA RB HQ fa fb hla hlb
  go_wp2_with (first | (go_at_call 50; (with_reducible refine (HN.out _).mono ?_); rintro e w2 ⟨cb, fb2, A5, c5, G, rfl, hC, hd⟩; replace HB := bt HB HB.size hd; clear hd) | (go_at_call 51; (with_reducible refine (HM1.out _ _ _ _ _ _ hC (hA.below HB)).mono ?_); rintro e w3 ⟨rfl, rfl⟩) | (go_at_call 51; (with_reducible refine (HM2.out _ _ _ _ _ _ hC (hB.below HB)).mono ?_); rintro e w4 ⟨v4, er4, rfl, hd⟩; replace HB := bt HB HB.size hd; clear hd))
  go_ret
  exact ⟨rfl, HB⟩
set_option maxRecDepth 100000 in
set_option maxHeartbeats 2000000 in
theorem lawsums_m2 (hA : Strs w A n sa) (hB : Strs w B n sb) (h0 : 0 < n) (fa : fewT sa = true) (fb : fewT sb = true) (s0 t0 : ByteArray) (hs0 : sa[0]? = some s0) (ht0 : sb[0]? = some t0) (hne : s0.size = t0.size) (hx : x ≤ 255) (hb : n ≤ x ∧ x ≤ 16) (ev : evenB sa = true) (ev2 : evenB sb = false) :
    Calls Try.prog 16 #[.int .u8 (x : Nat), .slice A n c1, .slice B n c2] w fun e w' => e = .returned (.bool true) ∧ Below w.heap.size w w' := by
  have hn : n < 100 := by have := (fewT_yes fa).1; have := hA.len; omega
  have HFA := Lib.hid (fun W (h : Strs W A n sa) => fewt_below A n c1 sa _ fa W h (by omega))
  have HFB := Lib.hid (fun W (h : Strs W B n sb) => fewt_below B n c2 sb _ fb W h (by omega))
  have hla := hA.len
  have hlb := hB.len
  obtain ⟨ba, oa, rfl, ha9⟩ := hA.block (by omega)
  obtain ⟨bb, ob, rfl, hb9⟩ := hB.block (by omega)
  have g1 := ha9 0 (by omega)
  have g2 := hb9 0 (by omega)
  obtain ⟨_, e1⟩ := List.getElem?_eq_some_iff.1 hs0
  obtain ⟨_, e2⟩ := List.getElem?_eq_some_iff.1 ht0
  rw [Nat.add_zero, e1] at g1
  rw [Nat.add_zero, e2] at g2
  have HS0 := Lib.hid e1
  have HT0 := Lib.hid e2
  have r1 := regrown_cell g1
  have r2 := regrown_cell g2
  have en : (((n : Nat) : Int) != ((n : Nat) : Int)) = false := int_beq rfl
  have ez : (((n : Nat) : Int) == 0) = false := int_ne (by omega)
  have z0 : (0 : Int) < n := by omega
  clear ha9 hb9 hs0 ht0 e1 e2 g1 g2
  have e9 : (((s0.size : Nat) : Int) != ((t0.size : Nat) : Int)) = false := int_beq (by omega)
  have ex := u8int x hx
  have HN := Lib.hid (fun W => new_ok n x W h0 hb.1 hb.2)
  have HM1 := Lib.hid (fun W cb fb A c G (hC : CoderAt W cb n x fb A c G) (h : Strs W (some ⟨ba, oa, none⟩) n sa) => make_ok cb n x fb A c G (some ⟨ba, oa, none⟩) c1 s0.size sa W hC h (by have := (fewT_yes fa).2.1 0 (by omega); rw [HS0.out] at this; omega) (fun i hi => (even_size ev (by omega) i hi).trans (by rw [HS0.out])))
  have HM2 := Lib.hid (fun W cb fb' A c G (hC : CoderAt W cb n x fb' A c G) (h : Strs W (some ⟨bb, ob, none⟩) n sb) => make_no cb n x fb' A c G (some ⟨bb, ob, none⟩) n c2 sb W hC h (by omega) (.inr ev2))
  clear ev ev2
  have RA := strs_regrown hA
  have RB := strs_regrown hB
  go_enter Try.func16, Try.ntmps16
  go_upto_region 1 with fail
  (refine wp_region_quiet_below (by kernel_rfl) (by kernel_rfl) ?_; (repeat (go_big_quiet_step ((first | (go_at_call 48; with_reducible exact Calls.regrown_of (CodW.awake_any _)) | (go_at_call 49; with_reducible exact Calls.regrown_of (HFA.out _ (RA ⟨_, _⟩))) | (go_at_call 49; with_reducible exact Calls.regrown_of (HFB.out _ (RB ⟨_, _⟩))))))); refine wpQuiet_nil ?_; intro wq hw'; have HQ := below_of_regrown hw'; clear hw')
  have HB := HQ
  clear r1 r2 RA RB HQ fa fb hla hlb
  go_wp2_with (first | (go_at_call 50; (with_reducible refine (HN.out _).mono ?_); rintro e w2 ⟨cb, fb2, A5, c5, G, rfl, hC, hd⟩; replace HB := bt HB HB.size hd; clear hd) | (go_at_call 51; (with_reducible refine (HM1.out _ _ _ _ _ _ hC (hA.below HB)).mono ?_); rintro e w3 ⟨A6, c6, rfl, hc6, hX, hd⟩; replace hC := hC.below hd; replace HB := bt HB HB.size hd; clear hd) | (go_at_call 51; (with_reducible refine (HM2.out _ _ _ _ _ _ hC (hB.below HB)).mono ?_); rintro e w4 ⟨rfl, rfl⟩))
  go_ret
  exact ⟨rfl, HB⟩
set_option maxRecDepth 100000 in
set_option maxHeartbeats 2000000 in
theorem lawsums_good (hA : Strs w A n sa) (hB : Strs w B n sb) (h0 : 0 < n) (fa : fewT sa = true) (fb : fewT sb = true) (s0 t0 : ByteArray) (hs0 : sa[0]? = some s0) (ht0 : sb[0]? = some t0) (hne : s0.size = t0.size) (hx : x ≤ 255) (hb : n ≤ x ∧ x ≤ 16) (ev : evenB sa = true) (ev2 : evenB sb = true) :
    Calls Try.prog 16 #[.int .u8 (x : Nat), .slice A n c1, .slice B n c2] w fun e w' => e = .returned (.bool true) ∧ Below w.heap.size w w' := by
  have hn : n < 100 := by have := (fewT_yes fa).1; have := hA.len; omega
  have HFA := Lib.hid (fun W (h : Strs W A n sa) => fewt_below A n c1 sa _ fa W h (by omega))
  have HFB := Lib.hid (fun W (h : Strs W B n sb) => fewt_below B n c2 sb _ fb W h (by omega))
  have hla := hA.len
  have hlb := hB.len
  obtain ⟨ba, oa, rfl, ha9⟩ := hA.block (by omega)
  obtain ⟨bb, ob, rfl, hb9⟩ := hB.block (by omega)
  have g1 := ha9 0 (by omega)
  have g2 := hb9 0 (by omega)
  obtain ⟨_, e1⟩ := List.getElem?_eq_some_iff.1 hs0
  obtain ⟨_, e2⟩ := List.getElem?_eq_some_iff.1 ht0
  rw [Nat.add_zero, e1] at g1
  rw [Nat.add_zero, e2] at g2
  have HS0 := Lib.hid e1
  have HT0 := Lib.hid e2
  have r1 := regrown_cell g1
  have r2 := regrown_cell g2
  have en : (((n : Nat) : Int) != ((n : Nat) : Int)) = false := int_beq rfl
  have ez : (((n : Nat) : Int) == 0) = false := int_ne (by omega)
  have z0 : (0 : Int) < n := by omega
  clear ha9 hb9 hs0 ht0 e1 e2 g1 g2
  have e9 : (((s0.size : Nat) : Int) != ((t0.size : Nat) : Int)) = false := int_beq (by omega)
  have ex := u8int x hx
  have HN := Lib.hid (fun W => new_ok n x W h0 hb.1 hb.2)
  have hL : s0.size ≤ 1000 := by have := (fewT_yes fa).2.1 0 (by omega); rw [HS0.out] at this; exact this
  have hsa : ∀ i (hi : i < sa.length), sa[i].size = s0.size := fun i hi => (even_size ev (by omega) i hi).trans (by rw [HS0.out])
  have hsb : ∀ i (hi : i < sb.length), sb[i].size = s0.size := fun i hi => (even_size ev2 (by omega) i hi).trans (by rw [HT0.out]; exact hne.symm)
  generalize hLL : s0.size = L at *
  have HM1 := Lib.hid (fun W cb fb A c G (hC : CoderAt W cb n x fb A c G) (h : Strs W (some ⟨ba, oa, none⟩) n sa) => make_ok cb n x fb A c G (some ⟨ba, oa, none⟩) c1 L sa W hC h (by omega) hsa)
  have HM2 := Lib.hid (fun W cb fb A c G (hC : CoderAt W cb n x fb A c G) (h : Strs W (some ⟨bb, ob, none⟩) n sb) => make_ok cb n x fb A c G (some ⟨bb, ob, none⟩) c2 L sb W hC h (by omega) hsb)
  have HM3 := Lib.hid (fun W cb fb A c G A9 c9 (hC : CoderAt W cb n x fb A c G) (h : Strs W A9 n (txs n L (addM (tx sa) (tx sb)))) => make_ok cb n x fb A c G A9 c9 L _ W hC h (by omega) (txs_size n L _))
  have HSA := Lib.hid hsa
  have HSB := Lib.hid hsb
  have HLA := Lib.hid hla
  have HLB := Lib.hid hlb
  have HLL := Lib.hid hLL
  clear ev ev2 hsa hsb hne
  have RA := strs_regrown hA
  have RB := strs_regrown hB
  go_enter Try.func16, Try.ntmps16
  go_upto_region 1 with fail
  (refine wp_region_quiet_below (by kernel_rfl) (by kernel_rfl) ?_; (repeat (go_big_quiet_step ((first | (go_at_call 48; with_reducible exact Calls.regrown_of (CodW.awake_any _)) | (go_at_call 49; with_reducible exact Calls.regrown_of (HFA.out _ (RA ⟨_, _⟩))) | (go_at_call 49; with_reducible exact Calls.regrown_of (HFB.out _ (RB ⟨_, _⟩))))))); refine wpQuiet_nil ?_; intro wq hw'; have HQ := below_of_regrown hw'; clear hw')
  have HB := HQ
  clear r1 r2 RA RB HQ fa fb hla hlb
  clear hLL
  go_wp2_with (first | (go_at_call 50; (with_reducible refine (HN.out _).mono ?_); rintro e w2 ⟨cb, fb2, A5, c5, G, rfl, hC, hd⟩; replace HB := bt HB HB.size hd; clear hd) | (go_at_call 51; (with_reducible refine (HM1.out _ _ _ _ _ _ hC (hA.below HB)).mono ?_); rintro e w3 ⟨A6, c6, rfl, hc6, hX, hd⟩; replace hC := hC.below hd; replace HB := bt HB HB.size hd; clear hd) | (go_at_call 51; (with_reducible refine (HM2.out _ _ _ _ _ _ hC (hB.below HB)).mono ?_); rintro e w4 ⟨A7, c7, rfl, hc7, hY, hd⟩; replace hC := hC.below hd; replace hX := hX.below hd; replace HB := bt HB HB.size hd; clear hd))
  have HB0 := HB
  clear HB
  go_loopw [13, 14] (fun d i wr => ∃ k : Nat, k ≤ n ∧ i = .int .i64 k ∧ wr.ownsRow w4.heap.size 9 1 d k (sv (txs k L (addM (tx sa) (tx sb)))) ∧ Below w4.heap.size w4 wr) (fun _ i _ => n - (intOf i).toNat)
  case atStart => exact ⟨0, by omega, rfl, World.ownsRow_nil _ _ _ _, Below.refl _ _⟩
  case round =>
    obtain ⟨k, hk, rfl, HO, HB1⟩ := hrel
    have HB := bt HB0 HB0.size HB1
    by_cases hlt : k < n
    · have hka : k < sa.length := by have := HLA.out; omega
      have hkb : k < sb.length := by have := HLB.out; omega
      obtain ⟨_, _, e1, ha9⟩ := (hA.below HB).block (by omega)
      obtain ⟨_, _, e2, hb9⟩ := (hB.below HB).block (by omega)
      cases e1
      cases e2
      have g1 := ha9 k hka
      have g2 := hb9 k hkb
      have HSUM := Lib.hid (fun W => sum_any sa[k] sb[k] W (by rw [HSA.out k hka, HSB.out k hkb]) (by rw [HSA.out k hka]; omega))
      rw [HSA.out k hka, addT_tx hka hkb] at HSUM
      have HT := Lib.hid (txs_succ k L (addM (tx sa) (tx sb)))
      have hll : (sv (txs k L (addM (tx sa) (tx sb)))).length = k := by rw [sv_length, txs_length]
      have HLN := Lib.hid hll
      clear ha9 hb9 hll
      generalize sa[k] = s at g1 HSUM
      generalize sb[k] = t at g2 HSUM
      have HOd := HO.drew
      have HBd := below_drewN HB1 1
      go_upto_region 12 with fail
      go_region_law (first | (refine step_app_one w4.heap.size rfl (.tmp 90) (.tmp 100) 59 9 (.string ByteArray.empty) 16 rfl Try.underlying59 info_str rfl (by omega) _ (sv (txs k L (addM (tx sa) (tx sb)))) _ k HLN.out rfl rfl rfl HO5 HB5 HB5.size (by omega) ?_; intro v1 w1 HO6 HB6 hg6) | (go_simp; go_at_call 52; (with_reducible refine (HSUM.out _).mono ?_); rintro e w5 ⟨rfl, hd⟩; have HO5 := own_below HOd hd; have HB5 := bt HBd HBd.size hd))
      all_goals go_wp2
      all_goals go_roundw
      all_goals (first | exact ⟨k + 1, by omega, by go_num, by rw [HT.out, sv_snoc]; exact HO6, HB6⟩ | (simp [intOf]; omega))
    · obtain rfl : k = n := by omega
      obtain ⟨A9, c9, rfl, hl9, hc9, _⟩ := own_strs HO
      replace hC := hC.below HB1
      replace hX := hX.below HB1
      replace hY := hY.below HB1
      clear HO HB1
      go_wp2_with (go_at_call 51; (with_reducible refine (HM3.out _ _ _ _ _ _ _ _ hC hl9).mono ?_); rintro e w6 ⟨A8, c8, rfl, hc8, hZ, hd⟩; replace hX := hX.below hd; replace hY := hY.below hd; replace HB := bt HB HB.size hd; clear hd)
      have HB0 := HB
      clear HB hC hl9 HM1 HM2 HM3
      go_loopw [17] (fun i wr => ∃ a : Nat, a ≤ x ∧ i = .int .i64 a ∧ Below w6.heap.size w6 wr) (fun i _ => x - (intOf i).toNat)
      case atStart => exact ⟨0, by omega, rfl, Below.refl _ _⟩
      case round =>
        obtain ⟨a, ha, rfl, HB1⟩ := hrel
        by_cases hlt2 : a < x
        · obtain ⟨bx, ox, rfl, hx9⟩ := (hX.below HB1).block (by omega)
          obtain ⟨by', oy, rfl, hy9⟩ := (hY.below HB1).block (by omega)
          obtain ⟨bz, oz, rfl, hz9⟩ := (hZ.below HB1).block (by omega)
          have g1 := hx9 a (by rw [txs_length]; exact hlt2)
          have g2 := hy9 a (by rw [txs_length]; exact hlt2)
          have g3 := hz9 a (by rw [txs_length]; exact hlt2)
          rw [txs_getElem] at g1 g2 g3
          have HSUM := Lib.hid (fun W => sum_any (strOf L (mm k G (tx sa) a)) (strOf L (mm k G (tx sb) a)) W (by rw [strOf_size, strOf_size]) (by rw [strOf_size]; omega))
          have hz : strOf L (mm k G (tx (txs k L (addM (tx sa) (tx sb)))) a) = strOf (strOf L (mm k G (tx sa) a)).size (addT (strOf L (mm k G (tx sa) a)) (strOf L (mm k G (tx sb) a))) := by
            rw [strOf_size]
            refine strOf_congr fun p hp => ?_
            rw [mm_congr (A := G) (A' := G) (B' := addM (tx sa) (tx sb)) (fun _ _ => rfl) (fun q hq => tx_txs k L _ q hq p hp), mm_addM]
            unfold addT addM
            rw [txb_strOf L _ p hp, txb_strOf L _ p hp, toF_of, toF_of]
          rw [← hz] at HSUM
          clear hz hx9 hy9 hz9
          generalize strOf L (mm k G (tx (txs k L (addM (tx sa) (tx sb)))) a) = z at g3 HSUM
          generalize strOf L (mm k G (tx sa) a) = s at g1 HSUM
          generalize strOf L (mm k G (tx sb) a) = t at g2 HSUM
          have es : (z.toList == z.toList) = true := by simp
          have r1 := regrown_cell g1
          have r2 := regrown_cell g2
          have r3 := regrown_cell g3
          go_upto_region 19 with fail
          (refine wp_region_quiet_below (by kernel_rfl) (by kernel_rfl) ?_; (repeat (go_big_quiet_step ((go_at_call 52; with_reducible exact Calls.regrown_of (HSUM.out _))))); refine wpQuiet_nil ?_; intro wq hw'; have HQ := below_of_regrown hw'; clear hw')
          have HE := bt HB1 HB1.size HQ
          clear HQ HB1 r1 r2 r3 g1 g2 g3
          go_wp2
          go_roundw
          case rel => exact ⟨a + 1, by omega, by go_num, HE⟩
          case measure => simp [intOf]; omega
        · obtain rfl : a = x := by omega
          go_wp2
          go_ret
          exact ⟨rfl, bt HB0 HB0.size HB1⟩
theorem lawsums (hA : Strs w A n sa) (hB : Strs w B m sb) (hn : n ≤ 9223372036854775807) (hm : m ≤ 9223372036854775807) (hx : x ≤ 255) :
    Calls Try.prog 16 #[.int .u8 (x : Nat), .slice A n c1, .slice B m c2] w fun e w' => e = .returned (.bool true) ∧ Below w.heap.size w w' := by
  by_cases fa : fewT sa = true
  · by_cases fb : fewT sb = true
    · by_cases hne : n = m
      · subst hne
        by_cases h0 : n = 0
        · exact lawsums_far4 A B n n c1 c2 x sa sb w hA hB hn hm fa fb rfl h0
        · have hla := hA.len
          have hlb := hB.len
          have hs0 : sa[0]? = some sa[0] := List.getElem?_eq_getElem (by omega)
          have ht0 : sb[0]? = some sb[0] := List.getElem?_eq_getElem (by omega)
          by_cases hsz : sa[0].size = sb[0].size
          · by_cases hb : n ≤ x ∧ x ≤ 16
            · by_cases ev : evenB sa = true
              · by_cases ev2 : evenB sb = true
                · exact lawsums_good A B n c1 c2 x sa sb w hA hB (by omega) fa fb _ _ hs0 ht0 hsz hx hb ev ev2
                · exact lawsums_m2 A B n c1 c2 x sa sb w hA hB (by omega) fa fb _ _ hs0 ht0 hsz hx hb ev (by simpa using ev2)
              · exact lawsums_m1 A B n c1 c2 x sa sb w hA hB (by omega) fa fb _ _ hs0 ht0 hsz hx hb (by simpa using ev)
            · exact lawsums_new A B n c1 c2 x sa sb w hA hB (by omega) fa fb _ _ hs0 ht0 hsz hx (by omega)
          · exact lawsums_far5 A B n c1 c2 x sa sb w hA hB (by omega) fa fb _ _ hs0 ht0 hsz
      · exact lawsums_far3 A B n m c1 c2 x sa sb w hA hB hn hm fa fb hne
    · exact lawsums_far2 A B n m c1 c2 x sa sb w hA hB hn hm fa (by simpa using fb)
  · exact lawsums_far1 A B n m c1 c2 x sa sb w hA hB hn hm (by simpa using fa)
end
end Go.Proofs.Ytalinkpfklhgaaa.CodW
