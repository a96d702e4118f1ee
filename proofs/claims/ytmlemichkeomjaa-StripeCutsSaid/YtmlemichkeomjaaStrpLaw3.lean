/- The law StripeCuts walked. -/
import Derived.Test.YtmlemichkeomjaaStrpPcs
import Derived.Test.YtmlemichkeomjaaStrpLaw2
set_option linter.unusedVariables false
set_option linter.unusedSimpArgs false
namespace Go.Proofs.Ytmlemichkeomjaa.StrpW
open Go.RowKit Go.Proofs.Ytmlemichkeomjaa.Base Go.Proofs.Ytmlemichkeomjaa.GfP Go.Proofs.Ytmlemichkeomjaa.GfW Go.Proofs.Ytmlemichkeomjaa.Lin Go.Proofs.Ytmlemichkeomjaa.RowsW Go.Proofs.Ytmlemichkeomjaa.CodP Go.Proofs.Ytmlemichkeomjaa.CodW Go.Proofs.Ytmlemichkeomjaa.BuildW Go.Proofs.Ytmlemichkeomjaa.CrcP
set_option maxRecDepth 100000 in
set_option maxHeartbeats 1000000 in
theorem sametexts_yes (A A2 : Option Addr) (n c c2 : Nat) (ss : List ByteArray) (w : World) (h1 : Strs w A n ss) (h2 : Strs w A2 n ss) (hn : n ≤ 1000) :
    Calls Try.prog 31 #[.slice A n c, .slice A2 n c2] w fun e w' => e = .returned (.bool true) ∧ Below w.heap.size w w' := by
  have HL := Lib.hid h1.len
  go_enter Try.func31, Try.ntmps31
  go_wp2
  go_loopw [5] (fun i wr => ∃ a : Nat, a ≤ n ∧ i = .int .i64 a ∧ Drawn w wr) (fun i _ => n - (intOf i).toNat)
  case atStart => exact ⟨0, by omega, rfl, Drawn.refl _⟩
  case round =>
    obtain ⟨a, ha, rfl, HD⟩ := hrel
    have HDb := HD.below (B := w.heap.size)
    by_cases hlt : a < n
    · have hat : a < ss.length := by have := HL.out; omega
      obtain ⟨b5, off5, rfl, hc5⟩ := (h1.below HDb).block (by omega)
      obtain ⟨b6, off6, rfl, hc6⟩ := (h2.below HDb).block (by omega)
      have g5 := hc5 a hat
      have g6 := hc6 a hat
      clear hc5 hc6
      obtain ⟨s, hs⟩ : ∃ s, s = ss[a] := ⟨_, rfl⟩
      rw [← hs] at g5 g6
      clear hs
      have es : (s.toList == s.toList) = true := by simp
      go_upto_region 6 with fail
      go_quiet (fail)
      go_wp2
      go_roundw
      case rel => exact ⟨a + 1, by omega, by go_num, HD.trans (Drawn.step _)⟩
      case measure => simp [intOf]; omega
    · obtain rfl : a = n := by omega
      go_wp2
      go_ret
      exact ⟨rfl, HDb⟩
theorem rsum16 (s : ByteArray) (w : World) (hs : s.size ≤ 140737488351232) :
    Calls Try.prog 33 #[.string s] w fun e w' => e = .returned (.int .u32 (crc s.data.toList : Nat)) ∧ Below w.heap.size w w' := by
  have h := crc_lt s.data.toList
  have HR := Lib.hid (CrcR.rsum s w hs)
  go_enter Try.func33, Try.ntmps33
  go_wp2_with (go_at_call 71; (with_reducible refine (HR.out).mono ?_); rintro e w2 ⟨rfl, rfl⟩)
  go_ret
  exact ⟨rfl, Below.refl _ _⟩
section
variable (k n : Nat) (s : ByteArray) (z : Int) (y : Nat) (w : World)
set_option maxRecDepth 100000 in
theorem cuts_far (hk : k ≤ 255) (hn : n ≤ 255) (hs : s.size ≤ 9223372036854775807) (hz : 375 < s.size) : Calls Try.prog 9 #[.int .u8 (k : Nat), .int .u8 (n : Nat), .string s, .int .i64 z, .int .u32 (y : Nat)] w fun e w' => e = .returned (.bool true) ∧ Below w.heap.size w w' := by
  have HB : Below w.heap.size w w := Below.refl _ _
  have e1 : decide ((375 : Int) < s.size) = true := decide_eq_true (by omega)
  go_enter Try.func9, Try.ntmps9
  go_wp2_with (first | (go_at_call 11; (with_reducible refine (awake16_any _).mono ?_); rintro e w2 ⟨rfl, hd⟩; replace HB := bt HB HB.size hd; clear hd))
  go_ret
  exact ⟨rfl, HB⟩
set_option maxRecDepth 100000 in
theorem cuts_no (hk : k ≤ 255) (hn : n ≤ 255) (hz : s.size ≤ 375) (h : (k : Int) < 1 ∨ (n : Int) < k ∨ 16 < (n : Int)) : Calls Try.prog 9 #[.int .u8 (k : Nat), .int .u8 (n : Nat), .string s, .int .i64 z, .int .u32 (y : Nat)] w fun e w' => e = .returned (.bool true) ∧ Below w.heap.size w w' := by
  have HB : Below w.heap.size w w := Below.refl _ _
  have e1 : decide ((375 : Int) < s.size) = false := decide_eq_false (by omega)
  have HN := Lib.hid (fun W => new_no k n W h)
  clear h
  go_enter Try.func9, Try.ntmps9
  go_wp2_with (first | (go_at_call 11; (with_reducible refine (awake16_any _).mono ?_); rintro e w2 ⟨rfl, hd⟩; replace HB := bt HB HB.size hd; clear hd) | (go_at_call 26; (with_reducible refine (HN.out _).mono ?_); rintro e w2 ⟨rfl, rfl⟩))
  go_ret
  exact ⟨rfl, HB⟩
theorem flat_small (k1 : 1 ≤ k) (hz : s.size ≤ 375) (k16 : k ≤ 16) (x : Nat) : (flat (parts x k s)).length ≤ 391 := by
  rw [flat_parts, List.length_take, padL_length k1]
  have := cutL_lt (z := s.size) k1
  omega
theorem flat_step (x : Nat) : str (flat (parts x k s)) ++ CodP.part k s x = str (flat (parts (x + 1) k s)) := by
  rw [str_append, parts_succ, flat_append]
  show _ = str (_ ++ (_ ++ []))
  rw [List.append_nil]
  rfl
set_option maxRecDepth 100000 in
set_option maxHeartbeats 4000000 in
theorem cuts_ok (hz : s.size ≤ 375) (k1 : 1 ≤ k) (kn : k ≤ n) (n16 : n ≤ 16) (hy : y < 4294967296) : Calls Try.prog 9 #[.int .u8 (k : Nat), .int .u8 (n : Nat), .string s, .int .i64 z, .int .u32 (y : Nat)] w fun e w' => e = .returned (.bool true) ∧ Below w.heap.size w w' := by
  have HB : Below w.heap.size w w := Below.refl _ _
  have e1 : decide ((375 : Int) < s.size) = false := decide_eq_false (by omega)
  have HN := Lib.hid (fun W => new_ok k n W k1 kn n16)
  have HC := Lib.hid (fun W cb fb A c G (h : CoderAt W cb k n fb A c G) => cut_ok cb k n fb A c G s W h (by omega))
  have HPC := Lib.hid (fun W => pieces_any s k n W k1 (by omega) n16 (by omega))
  have HST := Lib.hid (fun W A c A2 c2 (h1 : Strs W A n (rpcs n k s)) (h2 : Strs W A2 n (rpcs n k s)) => sametexts_yes A A2 n c c2 (rpcs n k s) W h1 h2 (by omega))
  go_enter Try.func9, Try.ntmps9
  go_wp2_with (first | (go_at_call 11; (with_reducible refine (awake16_any _).mono ?_); rintro e w2 ⟨rfl, hd⟩; replace HB := bt HB HB.size hd; clear hd) | (go_at_call 26; (with_reducible refine (HN.out _).mono ?_); rintro e w3 ⟨cb, fb, A, c, G, rfl, hC, hd⟩; replace HB := bt HB HB.size hd; clear hd) | (go_at_call 27; (with_reducible refine (HC.out _ _ _ _ _ _ hC).mono ?_); rintro e w4 ⟨A2, c2, rfl, hc2, hS2, hd⟩; replace hC := hC.below hd; replace HB := bt HB HB.size hd; clear hd) | (go_at_call 32; (with_reducible refine (HPC.out _).mono ?_); rintro e w5 ⟨A3, c3, rfl, hc3, hS3, hd⟩; replace hC := hC.below hd; replace hS2 := hS2.below hd; have hSR := hS2; rw [← pcs_rpcs hC.code kn n16 s] at hSR; replace HB := bt HB HB.size hd; clear hd) | (go_at_call 31; (with_reducible refine (HST.out _ _ _ _ _ hSR hS3).mono ?_); rintro e w6 ⟨rfl, hd⟩; replace hC := hC.below hd; replace hS2 := hS2.below hd; clear hSR; replace HB := bt HB HB.size hd; clear hd))
  clear HN HC HPC HST hS3
  have hG := hC.code
  have HFS := Lib.hid (flat_small k s k1 hz (by omega))
  have HFT := Lib.hid (flat_step k s)
  go_loopw [15, 16, 17] (fun d t i wr => ∃ (x : Nat) (ps : List (Int × ByteArray)), x ≤ k ∧ i = .int .i64 x ∧ ps.length = x ∧ t = .string (str (flat (parts x k s))) ∧ nums ps = upL x ∧ wr.ownsRow w6.heap.size 75 2 d x (pv ps) ∧ PicksOf (pcs k n G s) ps ∧ Below w6.heap.size w6 wr) (fun _ _ i _ => k - (intOf i).toNat)
  case atStart => exact ⟨0, [], by omega, rfl, rfl, rfl, rfl, World.ownsRow_nil _ _ _ _, PicksOf.nil _, Below.refl _ _⟩
  case round =>
    obtain ⟨x, ps, hx, rfl, hpx, rfl, hnu, HO, HP, HBw⟩ := hrel
    have HPI := Lib.hid HP
    have HNU := Lib.hid hnu
    have HPX := Lib.hid hpx
    clear HP hnu hpx
    by_cases hlt : x < k
    · have hil : x < (pcs k n G s).length := by rw [pcs_length]; omega
      obtain ⟨b1, o1, rfl, hcc1⟩ := hS2.block (by omega)
      have g6 := hcc1 x hil
      rw [pcs_head hG k1 s x hlt hil] at g6
      have hft := HFT.out x
      have hl1 : (str (flat (parts x k s))).size ≤ 391 := by rw [str_size]; exact HFS.out x
      have hl2 : (CodP.part k s x).size ≤ 1000 := by rw [part_size k1 s x hlt]; have := cutL_le (z := s.size) k1; omega
      have hni : ((x : Nat) : Int) ∉ nums ps := by
        rw [HNU.out]
        intro h
        obtain ⟨j, hj, e⟩ := List.mem_map.1 h
        have := List.mem_range.1 hj
        omega
      have HSN := Lib.hid (HPI.out.snoc hil hni)
      rw [pcs_head hG k1 s x hlt hil] at HSN
      have HNS := Lib.hid (show nums (ps ++ [(((x : Nat) : Int), CodP.part k s x)]) = upL (x + 1) by rw [upL_succ, ← HNU.out]; simp [nums])
      have HFX := Lib.hid hft
      have hbl : (pv ps).length = x * 2 := by rw [pv_length, HPX.out]
      generalize CodP.part k s x = t at g6 hl2 HSN HNS HFX
      have g2 := cell_below HBw g6
      have HG6 := Lib.hid g6
      clear g6
      generalize str (flat (parts x k s)) = u at hl1 HFX ⊢
      have hcat : u.size + t.size ≤ 2000 := by omega
      clear hcc1 hni hft
      go_wp2_with (at_builtin; refine app_two w6.heap.size rfl (.tmp 63) (.tmp 70) 73 75 (.agg #[.int .i64 0, .string ByteArray.empty]) 24 rfl Try.underlying73 info_piece rfl (by omega) _ (pv ps) _ _ x rfl rfl rfl rfl HO HBw HBw.size (by omega) ?_; intro v1 w1 HO1 HB1 hg1; have g3 := cell_below HB1 HG6.out; rw [show pv ps ++ [Value.int .i64 ((x : Nat) : Int), Value.string t] = pv (ps ++ [(((x : Nat) : Int), t)]) by rw [pv_append]; rfl] at HO1)
      rw [HFX.out]
      go_roundw
      case rel => exact ⟨x + 1, ps ++ [(((x : Nat) : Int), t)], by omega, by go_num, by rw [List.length_append, HPX.out]; rfl, rfl, HNS.out, HO1, HSN.out, HB1⟩
      case measure => simp [intOf]; omega
    · obtain rfl : x = k := by omega
      have HPK := HPI.out
      have hpl := HPX.out
      have hple : ∀ x, x ∈ ps → -9223372036854775808 ≤ x.1 ∧ x.1 ≤ 9223372036854775807 := fun x hx => by
        obtain ⟨i, hi, rfl⟩ := List.mem_iff_getElem.1 hx
        have := HPK.apart.rng i (by rw [nums_length]; exact hi)
        rw [nums_getElem, pcs_length] at this
        omega
      obtain ⟨Ao, co, rfl, hco, _, hPc⟩ := own_pieces HO hple
      replace HB := bt HB HB.size HBw
      replace hC := hC.below HBw
      have hfw := flat_whole k1 s
      rw [hfw]
      have hts : (str (padL x s)).size = cutL x s.size * x := by rw [str_size, padL_length k1]
      have hlt9 := cutL_lt (z := s.size) k1
      by_cases hz9 : z < 0 ∨ (cutL x s.size * x : Nat) < z
      · have HJ := join_form cb x n fb A c G Ao co ps s z y wr hC hPc (by omega) (by omega) (by omega) HPK (by omega) hz9
        rw [hpl] at HJ
        have HJ := Lib.hid HJ
        generalize str (padL x s) = T at hts ⊢
        have em' := em
        clear HPI HNU HPX HPK hpl hple hPc HO HBw hfw HFS HFT hS2
        by_cases h0 : z < 0
        · have f1 : decide (z < 0) = true := decide_eq_true h0
          clear hz9
          go_wp2_with (go_at_call 29; (with_reducible refine (HJ.out).mono ?_); rintro e w9 ⟨rfl, hd⟩; replace HB := bt HB HB.size hd; clear hd)
          go_ret
          exact ⟨by first | rfl | (rw [em]; rfl) | simp [em], HB⟩
        · have f1 : decide (z < 0) = false := decide_eq_false h0
          have f2 : decide ((T.size : Int) < z) = true := decide_eq_true (by omega)
          clear hz9 h0 hts hlt9
          go_wp2_with (go_at_call 29; (with_reducible refine (HJ.out).mono ?_); rintro e w9 ⟨rfl, hd⟩; replace HB := bt HB HB.size hd; clear hd)
          go_ret
          exact ⟨by first | rfl | (rw [em]; rfl) | simp [em], HB⟩
      · obtain ⟨m, rfl⟩ : ∃ m : Nat, z = (m : Int) := ⟨z.toNat, by omega⟩
        have HJ := join_sum cb x n fb A c G Ao co ps s y wr m hC hPc (by omega) (by omega) (by omega) HPK (by omega) (by omega)
        rw [hpl] at HJ
        have hex : (str (padL x s)).extract 0 m = str ((padL x s).take m) := by rw [extract_str]; rfl
        have hus : (str ((padL x s).take m)).size ≤ 140737488351232 := by rw [str_size, List.length_take]; have := padL_length k1 s; omega
        have HR := fun W => rsum16 (str ((padL x s).take m)) W hus
        have hcl := crc_lt ((padL x s).take m)
        rw [str_list] at HR
        have HR := Lib.hid HR
        have f1 : decide ((m : Int) < 0) = false := decide_eq_false (by omega)
        have f2 : decide (((str (padL x s)).size : Int) < m) = false := decide_eq_false (by omega)
        have f3 : m ≤ (str (padL x s)).size := by omega
        have HE := Lib.hid hex
        generalize str (padL x s) = T at HE f2 f3 ⊢
        generalize str ((padL x s).take m) = U at HE HR HJ
        generalize crc ((padL x s).take m) = cr at HR HJ hcl
        clear HPI HNU HPX HPK hpl hple hPc HO HBw hfw HFS HFT hS2 hex hts hlt9 hz9 hus
        by_cases hcy : cr = y
        · subst hcy
          rw [if_pos rfl, if_pos rfl] at HJ
          have HJ := Lib.hid HJ
          have hss : (U.toList == U.toList) = true := str_eq rfl
          go_wp2_with (first | (go_at_call 29; (with_reducible refine (HJ.out).mono ?_); rintro e w9 ⟨rfl, hd⟩; replace HB := bt HB HB.size hd; clear hd) | (go_at_call 33; rw [HE.out]; (with_reducible refine (HR.out _).mono ?_); rintro e w9 ⟨rfl, hd⟩; replace HB := bt HB HB.size hd; clear hd))
          go_ret
          exact ⟨by first | rfl | (rw [HE.out]; simp), HB⟩
        · rw [if_neg hcy, if_neg hcy] at HJ
          have HJ := Lib.hid HJ
          have f4 : ((cr : Int) != (y : Int)) = true := int_bne (by omega)
          clear hcy
          go_wp2_with (first | (go_at_call 29; (with_reducible refine (HJ.out).mono ?_); rintro e w9 ⟨rfl, hd⟩; replace HB := bt HB HB.size hd; clear hd) | (go_at_call 33; rw [HE.out]; (with_reducible refine (HR.out _).mono ?_); rintro e w9 ⟨rfl, hd⟩; replace HB := bt HB HB.size hd; clear hd))
          go_ret
          exact ⟨by first | rfl | (rw [em]; rfl) | simp [em], HB⟩
theorem lawcuts_all (hk : k ≤ 255) (hn : n ≤ 255) (hs : s.size ≤ 140737488351232) (hy : y < 4294967296) : Calls Try.prog 9 #[.int .u8 (k : Nat), .int .u8 (n : Nat), .string s, .int .i64 z, .int .u32 (y : Nat)] w fun e w' => e = .returned (.bool true) ∧ Below w.heap.size w w' := by
  by_cases hz : 375 < s.size
  · exact cuts_far k n s z y w hk hn (by omega) hz
  by_cases h : (k : Int) < 1 ∨ (n : Int) < k ∨ 16 < (n : Int)
  · exact cuts_no k n s z y w hk hn (by omega) h
  · exact cuts_ok k n s z y w (by omega) (by omega) (by omega) (by omega) hy
end
end Go.Proofs.Ytmlemichkeomjaa.StrpW
