/- The law CoderAll walked. -/
import Derived.Test.YtalinkpfklhgaaaCodReads
set_option linter.unusedVariables false
set_option linter.unusedSimpArgs false
namespace Go.Proofs.Ytalinkpfklhgaaa.CodW
open Go.RowKit Go.Proofs.Ytalinkpfklhgaaa.Base Go.Proofs.Ytalinkpfklhgaaa.GfP Go.Proofs.Ytalinkpfklhgaaa.GfW Go.Proofs.Ytalinkpfklhgaaa.Lin Go.Proofs.Ytalinkpfklhgaaa.RowsW Go.Proofs.Ytalinkpfklhgaaa.CodP

section
variable (A B : Option Addr) (k n m q c1 c2 : Nat) (l : List ByteArray) (od : List Nat) (w : World)
set_option maxRecDepth 100000 in
set_option maxHeartbeats 2000000 in
theorem lawall_far1 (hA : Strs w A m l) (hB : Bytes w B od) (hm : m ≤ 9223372036854775807) (hq : q ≤ 9223372036854775807) (hod : od.length = q) (hmc : m ≤ c1) (hx : k ≤ 255) (hy : n ≤ 255) (fa : fewT l = false) :
    Calls Try.prog 19 #[.int .u8 (k : Nat), .int .u8 (n : Nat), .slice A m c1, .slice B q c2] w fun e w' => e = .returned (.bool true) ∧ Below w.heap.size w w' := by
  have HFA := Lib.hid (fun W (h : Strs W A m l) => fewt_below A m c1 l _ fa W h (by omega))
  have HOD := Lib.hid hod
  clear hod
  have HB : Below w.heap.size w w := Below.refl _ _
  have ex := u8int k hx
  have ey := u8int n hy
  go_enter Try.func19, Try.ntmps19
  go_wp2_with (first | (go_at_call 48; (with_reducible refine (CodW.awake_any _).mono ?_); rintro e w2 ⟨rfl, hd⟩; replace HB := bt HB HB.size hd; clear hd) | (go_at_call 49; (with_reducible refine (HFA.out _ (hA.below HB)).mono ?_); rintro e w2 ⟨rfl, hd⟩; replace HB := bt HB HB.size hd; clear hd))
  go_ret
  exact ⟨rfl, HB⟩
set_option maxRecDepth 100000 in
set_option maxHeartbeats 2000000 in
theorem lawall_far2 (hA : Strs w A m l) (hB : Bytes w B od) (hm : m ≤ 9223372036854775807) (hq : q ≤ 9223372036854775807) (hod : od.length = q) (hmc : m ≤ c1) (hx : k ≤ 255) (hy : n ≤ 255) (fa : fewT l = true) (hne : 100 < q) :
    Calls Try.prog 19 #[.int .u8 (k : Nat), .int .u8 (n : Nat), .slice A m c1, .slice B q c2] w fun e w' => e = .returned (.bool true) ∧ Below w.heap.size w w' := by
  have HFA := Lib.hid (fun W (h : Strs W A m l) => fewt_below A m c1 l _ fa W h (by omega))
  have HOD := Lib.hid hod
  clear hod
  have t1 : decide ((100 : Int) < ((q : Nat) : Int)) = true := by simp; omega
  have HB : Below w.heap.size w w := Below.refl _ _
  have ex := u8int k hx
  have ey := u8int n hy
  go_enter Try.func19, Try.ntmps19
  go_wp2_with (first | (go_at_call 48; (with_reducible refine (CodW.awake_any _).mono ?_); rintro e w2 ⟨rfl, hd⟩; replace HB := bt HB HB.size hd; clear hd) | (go_at_call 49; (with_reducible refine (HFA.out _ (hA.below HB)).mono ?_); rintro e w2 ⟨rfl, hd⟩; replace HB := bt HB HB.size hd; clear hd))
  go_ret
  exact ⟨rfl, HB⟩
set_option maxRecDepth 100000 in
set_option maxHeartbeats 2000000 in
theorem lawall_new (hA : Strs w A m l) (hB : Bytes w B od) (hm : m ≤ 9223372036854775807) (hq : q ≤ 9223372036854775807) (hod : od.length = q) (hmc : m ≤ c1) (hx : k ≤ 255) (hy : n ≤ 255) (fa : fewT l = true) (hne : q ≤ 100) (hb : k < 1 ∨ n < k ∨ 16 < n) :
    Calls Try.prog 19 #[.int .u8 (k : Nat), .int .u8 (n : Nat), .slice A m c1, .slice B q c2] w fun e w' => e = .returned (.bool true) ∧ Below w.heap.size w w' := by
  have HFA := Lib.hid (fun W (h : Strs W A m l) => fewt_below A m c1 l _ fa W h (by omega))
  have HOD := Lib.hid hod
  clear hod
  have t1 : decide ((100 : Int) < ((q : Nat) : Int)) = false := by simp; omega
  have HN := Lib.hid (fun W => new_no k n W (by omega))
  have HB : Below w.heap.size w w := Below.refl _ _
  have ex := u8int k hx
  have ey := u8int n hy
  go_enter Try.func19, Try.ntmps19
  clear fa
  go_wp2_with (first | (go_at_call 48; (with_reducible refine (CodW.awake_any _).mono ?_); rintro e w2 ⟨rfl, hd⟩; replace HB := bt HB HB.size hd; clear hd) | (go_at_call 49; (with_reducible refine (HFA.out _ (hA.below HB)).mono ?_); rintro e w2 ⟨rfl, hd⟩; replace HB := bt HB HB.size hd; clear hd) | (go_at_call 50; (with_reducible refine (HN.out _).mono ?_); rintro e w2 ⟨rfl, rfl⟩) | (go_at_call 51; (with_reducible refine (make_nil _ _).mono ?_); rintro e w3 ⟨rfl, rfl⟩))
  go_ret
  exact ⟨rfl, HB⟩
set_option maxRecDepth 100000 in
set_option maxHeartbeats 2000000 in
theorem lawall_make (hA : Strs w A m l) (hB : Bytes w B od) (hm : m ≤ 9223372036854775807) (hq : q ≤ 9223372036854775807) (hod : od.length = q) (hmc : m ≤ c1) (hx : k ≤ 255) (hy : n ≤ 255) (fa : fewT l = true) (hne : q ≤ 100) (hb : 1 ≤ k ∧ k ≤ n ∧ n ≤ 16) (ev : m ≠ k ∨ evenB l = false) :
    Calls Try.prog 19 #[.int .u8 (k : Nat), .int .u8 (n : Nat), .slice A m c1, .slice B q c2] w fun e w' => e = .returned (.bool true) ∧ Below w.heap.size w w' := by
  have HFA := Lib.hid (fun W (h : Strs W A m l) => fewt_below A m c1 l _ fa W h (by omega))
  have HOD := Lib.hid hod
  clear hod
  have t1 : decide ((100 : Int) < ((q : Nat) : Int)) = false := by simp; omega
  have HN := Lib.hid (fun W => new_ok k n W hb.1 hb.2.1 hb.2.2)
  have HM1 := Lib.hid (fun W cb fb A' c G (hC : CoderAt W cb k n fb A' c G) (h : Strs W A m l) => make_no cb k n fb A' c G A m c1 l W hC h (by have := (fewT_yes fa).1; have := h.len; omega) ev)
  clear ev
  have HB : Below w.heap.size w w := Below.refl _ _
  have ex := u8int k hx
  have ey := u8int n hy
  go_enter Try.func19, Try.ntmps19
  clear fa
  go_wp2_with (first | (go_at_call 48; (with_reducible refine (CodW.awake_any _).mono ?_); rintro e w2 ⟨rfl, hd⟩; replace HB := bt HB HB.size hd; clear hd) | (go_at_call 49; (with_reducible refine (HFA.out _ (hA.below HB)).mono ?_); rintro e w2 ⟨rfl, hd⟩; replace HB := bt HB HB.size hd; clear hd) | (go_at_call 50; (with_reducible refine (HN.out _).mono ?_); rintro e w2 ⟨cb, fb2, A5, c5, G, rfl, hC, hd⟩; replace HB := bt HB HB.size hd; clear hd) | (go_at_call 51; (with_reducible refine (HM1.out _ _ _ _ _ _ hC (hA.below HB)).mono ?_); rintro e w3 ⟨rfl, rfl⟩))
  go_ret
  exact ⟨rfl, HB⟩
set_option maxRecDepth 100000 in
set_option maxHeartbeats 4000000 in
theorem lawall_good (hA : Strs w A k l) (hB : Bytes w B od) (hod : od.length = q) (hmc : k ≤ c1) (hx : k ≤ 255) (hy : n ≤ 255) (fa : fewT l = true) (hne : q ≤ 100) (hb : 1 ≤ k ∧ k ≤ n ∧ n ≤ 16) (ev : evenB l = true) :
    Calls Try.prog 19 #[.int .u8 (k : Nat), .int .u8 (n : Nat), .slice A k c1, .slice B q c2] w fun e w' => e = .returned (.bool true) ∧ Below w.heap.size w w' := by
  obtain ⟨k1, kn, n16⟩ := hb
  have hll := hA.len
  obtain ⟨L, hLs⟩ : ∃ L, l[0].size = L := ⟨_, rfl⟩
  have hL : L ≤ 1000 := by rw [← hLs]; exact (fewT_yes fa).2.1 0 (by omega)
  have hsz : ∀ i (hi : i < l.length), l[i].size = L := fun i hi => by rw [← hLs]; exact (even_iff (L := l[0].size) (by rw [List.getD_eq_getElem?_getD, List.getElem?_eq_getElem (by omega)]; rfl)).1 ev i hi
  have HFA := Lib.hid (fun W (h : Strs W A k l) => (fewt_any A k c1 l W h (by omega)).mono (fun e w' (h : e = .returned (.bool (fewT l)) ∧ W = w') => (show e = .returned (.bool true) ∧ Below W.heap.size W w' from ⟨by rw [h.1, fa], h.2 ▸ Below.refl _ _⟩)))
  have t1 : decide ((100 : Int) < ((q : Nat) : Int)) = false := by simp; omega
  have HN := Lib.hid (fun W => new_ok k n W k1 kn n16)
  have HM1 := Lib.hid (fun W cb fb A' c G (hC : CoderAt W cb k n fb A' c G) (h : Strs W A k l) => make_ok cb k n fb A' c G A c1 L l W hC h (by omega) hsz)
  have HPK := Lib.hid (fun W A' c' G (h : Strs W A' n (txs n L (mm k G (tx l)))) (h2 : Bytes W B od) => picked_any A' B n c' q c2 _ od W h h2 hod (by omega) (by omega) (by omega))
  have HAG := Lib.hid (fun W cb fb A' c G A2 c2 ps i (hi : i < n) (hC : CoderAt W cb k n fb A' c G) (hP : Pieces W A2 ps) (h1 : ps.length ≤ c2) (h2 : ps.length ≤ q) (hPk : PicksOf (txs n L (mm k G (tx l))) ps) (hk : k ≤ ps.length) => again_picks cb k n fb A' c G A2 c2 L l ps W i hi hC hP h1 (by omega) (by omega) hPk hk)
  have HLL := Lib.hid hll
  have en : (((k : Nat) : Int) != ((k : Nat) : Int)) = false := int_beq rfl
  clear ev hsz hLs
  have HB : Below w.heap.size w w := Below.refl _ _
  have ex := u8int k hx
  have ey := u8int n hy
  go_enter Try.func19, Try.ntmps19
  clear fa
  go_upto_region 7 with (first | (go_at_call 48; (with_reducible refine (CodW.awake_any _).mono ?_); rintro e w2 ⟨rfl, hd⟩; replace HB := bt HB HB.size hd; clear hd) | (go_at_call 49; (with_reducible refine (HFA.out _ (hA.below HB)).mono ?_); rintro e w2 ⟨rfl, hd⟩; replace HB := bt HB HB.size hd; clear hd) | (go_at_call 50; (with_reducible refine (HN.out _).mono ?_); rintro e w2 ⟨cb, fb2, A5, c5, G, rfl, hC, hd⟩; replace HB := bt HB HB.size hd; clear hd) | (go_at_call 51; (with_reducible refine (HM1.out _ _ _ _ _ _ hC (hA.below HB)).mono ?_); rintro e w3 ⟨A6, c6, rfl, hc6, hX, hd⟩; replace hC := hC.below hd; replace HB := bt HB HB.size hd; clear hd))
  go_upto_region 8 with (go_at_call 56; (with_reducible refine (HPK.out _ _ _ _ hX (hB.below HB)).mono ?_); rintro e w4 ⟨A7, c7, ps, rfl, hc7, hpq, hP, hPk, hd⟩; replace hC := hC.below hd; replace hX := hX.below hd; replace HB := bt HB HB.size hd; clear hd)
  have HPI := Lib.hid hPk
  clear hPk
  by_cases hlt : ps.length < k
  · have t2 : decide (((ps.length : Nat) : Int) < ((k : Nat) : Int)) = true := by simp [hlt]
    have t2' : decide (ps.length < k) = true := by simp [hlt]
    go_wp2
    go_ret
    exact ⟨rfl, HB⟩
  · have t2 : decide (((ps.length : Nat) : Int) < ((k : Nat) : Int)) = false := by simp; omega
    have t2' : decide (ps.length < k) = false := by simp; omega
    have hkl : k ≤ ps.length := by omega
    clear hlt
    go_wp2
    have HB0 := HB
    clear HB
    go_loopw [14, 15] (fun d i wr => ∃ a : Nat, a ≤ n ∧ i = .int .i64 a ∧ wr.ownsRow w4.heap.size 9 1 d a (sv (txs a L (mm k G (tx l)))) ∧ Below w4.heap.size w4 wr) (fun _ i _ => n - (intOf i).toNat)
    case atStart => exact ⟨0, by omega, rfl, World.ownsRow_nil _ _ _ _, Below.refl _ _⟩
    case round =>
      obtain ⟨a, ha, rfl, HO, HB1⟩ := hrel
      have HB := bt HB0 HB0.size HB1
      replace hC := hC.below HB1
      replace hX := hX.below HB1
      replace hP := hP.below HB1
      by_cases hlt2 : a < n
      · obtain ⟨b6, o6, rfl, hx6⟩ := hX.block (by omega)
        have g6 := hx6 a (by rw [txs_length]; exact hlt2)
        rw [txs_getElem] at g6
        have HT := Lib.hid (txs_succ a L (mm k G (tx l)))
        have HLN := Lib.hid (show (sv (txs a L (mm k G (tx l)))).length = a by rw [sv_length, txs_length])
        have es : ∀ s : ByteArray, (s.toList == s.toList) = true := fun s => by simp
        clear hx6
        go_upto_region 15 with (go_at_call 55; (with_reducible refine (HAG.out _ _ _ _ _ _ _ _ ps a hlt2 hC hP hc7 hpq HPI.out hkl).mono ?_); rintro e w6 ⟨rfl, hd⟩; replace HO := own_below HO hd; replace HB1 := bt HB1 HB1.size hd; replace g6 := cell_below hd g6; clear hd)
        generalize strOf L (mm k G (tx l) a) = sx at g6 HT
        go_upto_region 17 with fail
        go_wp2_with (at_builtin; refine app_one_at w4.heap.size rfl (.tmp 84) (.tmp 86) 59 9 (.string ByteArray.empty) 16 rfl Try.underlying59 info_str rfl (by omega) _ (sv (txs a L (mm k G (tx l)))) _ a HLN.out rfl rfl rfl HO HB1 HB1.size (by omega) ?_; intro g1 cc1 w1 HO6 HB6 hg6 _)
        go_roundw
        case rel => exact ⟨a + 1, by omega, by go_num, by rw [HT.out, sv_snoc]; exact HO6, HB6⟩
        case measure => simp [intOf]; omega
      · obtain rfl : a = n := by omega
        obtain ⟨A9, c9, rfl, hl9, hc9, _⟩ := own_strs HO
        have e1 : (((k : Nat) : Int) == ((k : Nat) : Int)) = true := by simp
        have e2 : (((a : Nat) : Int) == ((a : Nat) : Int)) = true := by simp
        clear HO HB1
        go_wp2_with (first | (go_at_call 58; (with_reducible refine (sizes_any _ k a _ _ _ _ _ hC).mono ?_); rintro e w7 ⟨rfl, hd⟩; replace hC := hC.below hd; replace hl9 := hl9.below hd; replace HB := bt HB HB.size hd; clear hd) | (go_at_call 57; (with_reducible refine (cright_yes _ k a _ _ _ _ _ c9 L _ _ hC hl9 hc9 (by omega)).mono ?_); rintro e w8 ⟨rfl, hd⟩; replace HB := bt HB HB.size hd; clear hd))
        go_ret
        exact ⟨rfl, HB⟩
theorem lawall (hA : Strs w A m l) (hB : Bytes w B od) (hm : m ≤ 9223372036854775807) (hq : q ≤ 9223372036854775807) (hod : od.length = q) (hmc : m ≤ c1) (hx : k ≤ 255) (hy : n ≤ 255) :
    Calls Try.prog 19 #[.int .u8 (k : Nat), .int .u8 (n : Nat), .slice A m c1, .slice B q c2] w fun e w' => e = .returned (.bool true) ∧ Below w.heap.size w w' := by
  by_cases fa : fewT l = true
  · by_cases hne : q ≤ 100
    · by_cases hb : 1 ≤ k ∧ k ≤ n ∧ n ≤ 16
      · by_cases ev : m = k ∧ evenB l = true
        · obtain ⟨rfl, ev⟩ := ev
          exact lawall_good A B m n q c1 c2 l od w hA hB hod hmc hx hy fa hne hb ev
        · refine lawall_make A B k n m q c1 c2 l od w hA hB hm hq hod hmc hx hy fa hne hb ?_
          by_cases a : m = k
          · exact .inr (by by_cases b : evenB l = true; exact absurd ⟨a, b⟩ ev; simpa using b)
          · exact .inl a
      · exact lawall_new A B k n m q c1 c2 l od w hA hB hm hq hod hmc hx hy fa hne (by omega)
    · exact lawall_far2 A B k n m q c1 c2 l od w hA hB hm hq hod hmc hx hy fa (by omega)
  · exact lawall_far1 A B k n m q c1 c2 l od w hA hB hm hq hod hmc hx hy (by simpa using fa)
end
end Go.Proofs.Ytalinkpfklhgaaa.CodW
