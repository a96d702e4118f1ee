/- The law StripeReads walked. -/
import Derived.Test.YtmlemichkeomjaaStrp2
import Derived.Test.YtmlemichkeomjaaCrcBurst
set_option linter.unusedVariables false
set_option linter.unusedSimpArgs false
namespace Go.Proofs.Ytmlemichkeomjaa.StrpW
open Go.RowKit Go.Proofs.Ytmlemichkeomjaa.Base Go.Proofs.Ytmlemichkeomjaa.GfP Go.Proofs.Ytmlemichkeomjaa.GfW Go.Proofs.Ytmlemichkeomjaa.Lin Go.Proofs.Ytmlemichkeomjaa.RowsW Go.Proofs.Ytmlemichkeomjaa.CodP Go.Proofs.Ytmlemichkeomjaa.CodW Go.Proofs.Ytmlemichkeomjaa.BuildW Go.Proofs.Ytmlemichkeomjaa.CrcP Go.Proofs.Ytmlemichkeomjaa.CrcL
theorem mem_succ {ps : List (Int × ByteArray)} {k : Nat} (x : Int) (hk : k < ps.length) : decide (x ∈ (nums ps).take (k + 1)) = (decide (x ∈ (nums ps).take k) || decide (ps[k].1 = x)) := by
  rw [nums_take hk rfl]
  by_cases h : x ∈ (nums ps).take k
  · simp [h]
  · simp only [List.mem_append, List.mem_singleton, h, false_or, decide_false, Bool.false_or, decide_eq_decide]
    exact ⟨fun h => h.symm, fun h => h.symm⟩
theorem em : (str []).toList.isEmpty = true := by rw [ByteArray.toList_eq]; rfl
section
variable (k n : Nat) (s : ByteArray) (B : Option Addr) (q c9 : Nat) (od : List Nat) (a y : Nat) (w : World)
set_option maxRecDepth 100000 in
theorem reads_far (hB : Bytes w B od) (hk : k ≤ 255) (hn : n ≤ 255) (hs : s.size ≤ 9223372036854775807) (hq : q ≤ 9223372036854775807) (hz : 1500 < s.size ∨ 100 < q) : Calls Try.prog 8 #[.int .u8 (k : Nat), .int .u8 (n : Nat), .string s, .slice B q c9, .int .u16 (a : Nat), .int .u32 (y : Nat)] w fun e w' => e = .returned (.bool true) ∧ Below w.heap.size w w' := by
  have HB : Below w.heap.size w w := Below.refl _ _
  by_cases h1 : 1500 < s.size
  · have e1 : decide ((1500 : Int) < s.size) = true := by simp; omega
    clear hz
    go_enter Try.func8, Try.ntmps8
    go_wp2_with (first | (go_at_call 11; (with_reducible refine (awake16_any _).mono ?_); rintro e w2 ⟨rfl, hd⟩; replace HB := bt HB HB.size hd; clear hd))
    go_ret
    exact ⟨rfl, HB⟩
  · have e1 : decide ((1500 : Int) < s.size) = false := by simp; omega
    have e2 : decide ((100 : Int) < q) = true := by simp; omega
    clear hz
    go_enter Try.func8, Try.ntmps8
    go_wp2_with (first | (go_at_call 11; (with_reducible refine (awake16_any _).mono ?_); rintro e w2 ⟨rfl, hd⟩; replace HB := bt HB HB.size hd; clear hd))
    go_ret
    exact ⟨rfl, HB⟩
set_option maxRecDepth 100000 in
theorem reads_no (hB : Bytes w B od) (hk : k ≤ 255) (hn : n ≤ 255) (hz : s.size ≤ 1500) (hq : q ≤ 100) (h : (k : Int) < 1 ∨ (n : Int) < k ∨ 16 < (n : Int)) : Calls Try.prog 8 #[.int .u8 (k : Nat), .int .u8 (n : Nat), .string s, .slice B q c9, .int .u16 (a : Nat), .int .u32 (y : Nat)] w fun e w' => e = .returned (.bool true) ∧ Below w.heap.size w w' := by
  have HB : Below w.heap.size w w := Below.refl _ _
  have e1 : decide ((1500 : Int) < s.size) = false := by simp; omega
  have e2 : decide ((100 : Int) < q) = false := by simp; omega
  have HN := Lib.hid (fun W => new_no k n W h)
  clear h
  go_enter Try.func8, Try.ntmps8
  go_wp2_with (first | (go_at_call 11; (with_reducible refine (awake16_any _).mono ?_); rintro e w2 ⟨rfl, hd⟩; replace HB := bt HB HB.size hd; clear hd) | (go_at_call 26; (with_reducible refine (HN.out _).mono ?_); rintro e w2 ⟨rfl, rfl⟩) | (go_at_call 27; (with_reducible refine (cut_nil _ _).mono ?_); rintro e w2 ⟨rfl, hd⟩; replace HB := bt HB HB.size hd; clear hd))
  go_ret
  exact ⟨rfl, HB⟩
set_option maxRecDepth 100000 in
set_option maxHeartbeats 4000000 in
theorem reads_ok (hB : Bytes w B od) (hod : od.length = q) (hz : s.size ≤ 1500) (hq : q ≤ 100) (k1 : 1 ≤ k) (kn : k ≤ n) (n16 : n ≤ 16) (ha : a ≤ 65535) (hy : y < 4294967296) : Calls Try.prog 8 #[.int .u8 (k : Nat), .int .u8 (n : Nat), .string s, .slice B q c9, .int .u16 (a : Nat), .int .u32 (y : Nat)] w fun e w' => e = .returned (.bool true) ∧ Below w.heap.size w w' := by
  have HB : Below w.heap.size w w := Below.refl _ _
  have e1 : decide ((1500 : Int) < s.size) = false := by simp; omega
  have e2 : decide ((100 : Int) < q) = false := by simp; omega
  have HN := Lib.hid (fun W => new_ok k n W k1 kn n16)
  have HC := Lib.hid (fun W cb fb A c G (h : CoderAt W cb k n fb A c G) => cut_ok cb k n fb A c G s W h (by omega))
  have HOD := Lib.hid hod
  have z0 : (0 : Int) < n := by omega
  have zq : (n : Int) ≠ 0 := by omega
  clear hod
  go_enter Try.func8, Try.ntmps8
  go_wp2_with (first | (go_at_call 11; (with_reducible refine (awake16_any _).mono ?_); rintro e w2 ⟨rfl, hd⟩; replace HB := bt HB HB.size hd; clear hd) | (go_at_call 26; (with_reducible refine (HN.out _).mono ?_); rintro e w3 ⟨cb, fb, A, c, G, rfl, hC, hd⟩; replace HB := bt HB HB.size hd; clear hd) | (go_at_call 27; (with_reducible refine (HC.out _ _ _ _ _ _ hC).mono ?_); rintro e w4 ⟨A2, c2, rfl, hc2, hS2, hd⟩; replace hC := hC.below hd; replace HB := bt HB HB.size hd; clear hd))
  clear HN HC
  go_loopw [17, 18, 19, 20, 21] (fun d i _ _ _ wr => ∃ (x : Nat) (ps : List (Int × ByteArray)), x ≤ q ∧ i = .int .i64 x ∧ ps.length ≤ x ∧ wr.ownsRow w4.heap.size 75 2 d ps.length (pv ps) ∧ PicksOf (pcs k n G s) ps ∧ Below w4.heap.size w4 wr) (fun _ i _ _ _ _ => q - (intOf i).toNat)
  case atStart => exact ⟨0, [], by omega, rfl, by simp, World.ownsRow_nil _ _ _ _, PicksOf.nil _, Below.refl _ _⟩
  case round =>
    obtain ⟨x, ps, hx, rfl, hpx, HO, HP, HBw⟩ := hrel
    have HPI := Lib.hid HP
    have hple : ∀ x, x ∈ ps → -9223372036854775808 ≤ x.1 ∧ x.1 ≤ 9223372036854775807 := fun x hx => by
      obtain ⟨i, hi, rfl⟩ := List.mem_iff_getElem.1 hx
      have := HP.apart.rng i (by rw [nums_length]; exact hi)
      rw [nums_getElem, pcs_length] at this
      omega
    obtain ⟨Ao, co, rfl, hco, _, hPc⟩ := own_pieces HO hple
    clear HP
    by_cases hlt : x < q
    · have hal : x < od.length := by have := HOD.out; omega
      obtain ⟨b2, o2, rfl, hcc2⟩ := ((hB.below HB).below HBw).at_.resolve_left (by intro e; rw [e] at hal; simp at hal)
      have g1 := hcc2 x hal
      have hle := hB.getD_le x
      clear hcc2
      obtain ⟨v, hv⟩ : ∃ v, v = od.getD x 0 := ⟨_, rfl⟩
      rw [← hv] at g1 hle
      obtain ⟨i, hi⟩ : ∃ i : Nat, ((v : Nat) : Int) % (n : Nat) = (i : Nat) := ⟨v % n, by simp⟩
      have hiq : i < n := by have := Int.emod_lt_of_pos (v : Int) z0; omega
      have hil : i < (pcs k n G s).length := by rw [pcs_length]; exact hiq
      obtain ⟨b1, o1, rfl, hcc1⟩ := (hS2.below HBw).block (by omega)
      have g2 := hcc1 i hil
      clear hcc1 hv
      have w1' : IntKind.i64.wrap ((v : Nat) : Int) = ((v : Nat) : Int) := by rw [IntKind.wrap_i64]; omega
      go_wp2
      go_loop [20, 21] (fun f j => ∃ r : Nat, r ≤ ps.length ∧ j = .int .i64 r ∧ f = .bool (decide (((i : Nat) : Int) ∈ (nums ps).take r))) (fun _ j => ps.length - (intOf j).toNat)
      case atStart => exact ⟨0, by omega, rfl, by simp⟩
      case round =>
        obtain ⟨r, hr, rfl, rfl⟩ := hrel
        by_cases hrl : r < ps.length
        · obtain ⟨b0, off, rfl, hc⟩ := hPc.block (by omega)
          obtain ⟨g3, _⟩ := hc r hrl
          clear hc
          have hst := Lib.hid (mem_succ ((i : Nat) : Int) hrl)
          generalize ps[r].1 = z at g3 hst
          generalize decide (((i : Nat) : Int) ∈ (nums ps).take r) = f at hst ⊢
          cases f
          · by_cases hzi : z = i
            · have t1 : (z == (i : Int)) = true := by simp [hzi]
              have HY := Lib.hid hzi
              clear hzi
              go_wp2
              go_round
              case rel => exact ⟨r + 1, by omega, by go_num, by rw [hst.out]; simp [HY.out]⟩
              case measure => simp [intOf]; omega
            · have t1 : (z == (i : Int)) = false := by simp [hzi]
              have HY := Lib.hid hzi
              clear hzi
              go_wp2
              go_round
              case rel => exact ⟨r + 1, by omega, by go_num, by rw [hst.out]; simp [HY.out]⟩
              case measure => simp [intOf]; omega
          · go_wp2
            go_round
            case rel => exact ⟨r + 1, by omega, by go_num, by rw [hst.out]; rfl⟩
            case measure => simp [intOf]; omega
        · obtain rfl : r = ps.length := by omega
          rw [List.take_of_length_le (by rw [nums_length]; exact Nat.le_refl _)]
          have e5 : decide ((i : Int) < (n : Int)) = true := by simp; omega
          by_cases hmem : ((i : Nat) : Int) ∈ nums ps
          · have t1 : decide (((i : Nat) : Int) ∈ nums ps) = true := by simp [hmem]
            rw [t1]
            clear hmem t1
            go_wp2
            go_roundw
            case rel => exact ⟨x + 1, ps, by omega, by go_num, by omega, HO, HPI.out, HBw⟩
            case measure => simp [intOf]; omega
          · have t1 : decide (((i : Nat) : Int) ∈ nums ps) = false := by simp [hmem]
            rw [t1]
            have HM2 := Lib.hid hmem
            clear hmem t1
            go_wp2_with (at_builtin; refine app_two w4.heap.size rfl (.tmp 103) (.tmp 110) 73 75 (.agg #[.int .i64 0, .string ByteArray.empty]) 24 rfl Try.underlying73 info_piece rfl (by omega) _ (pv ps) _ _ ps.length rfl rfl rfl rfl HO HBw HBw.size (by omega) ?_; intro v1 w1 HO1 HB1 hg1; rw [show pv ps ++ [Value.int .i64 ((i : Nat) : Int), Value.string (pcs k n G s)[i]] = pv (ps ++ [(((i : Nat) : Int), (pcs k n G s)[i])]) by rw [pv_append]; rfl] at HO1)
            go_roundw
            case rel => exact ⟨x + 1, ps ++ [(((i : Nat) : Int), (pcs k n G s)[i])], by omega, by go_num, by simp; omega, by rw [List.length_append, List.length_singleton]; exact HO1, HPI.out.snoc hil HM2.out, HB1⟩
            case measure => simp [intOf]; omega
    · obtain rfl : x = q := by omega
      have HPK := HPI.out
      replace HB := HB.trans (HBw.mono HB.size)
      replace hC := hC.below HBw
      clear HBw HO hple
      have HP := (hPc)
      have hs1 : s.size ≤ 140737488351232 := by omega
      have HS := Lib.hid (fun W => CrcW.sum_any s W hs1)
      have hsum := crc_lt s.data.toList
      have k16 : k ≤ 16 := by omega
      by_cases hpk : ps.length < k
      · have HJ := Lib.hid (fun W c2 y (h1 : CoderAt W cb k n fb A c G) (h2 : Pieces W Ao ps) => join_few cb k n fb A c G Ao c2 ps s s.size y W h1 h2 (by omega) HPK hpk)
        clear HPI HPK
        go_wp2_with (first | (go_at_call 30; (with_reducible refine (HS.out _).mono ?_); rintro e w5 ⟨rfl, hd⟩; replace hC := hC.below hd; replace HP := HP.below hd; replace HB := bt HB HB.size hd; clear hd) | (go_at_call 29; (with_reducible refine (HJ.out _ _ _ hC HP).mono ?_); rintro e w6 ⟨rfl, hd⟩; replace HB := bt HB HB.size hd; clear hd))
        go_ret
        exact ⟨by show Ending.returned (Value.bool (str []).toList.isEmpty) = _; rw [em], HB⟩
      · have hpk2 : k ≤ ps.length := by omega
        have e6 : decide ((ps.length : Int) < (k : Int)) = false := by simp; omega
        have HJ := Lib.hid (fun W y (h1 : CoderAt W cb k n fb A c G) (h2 : Pieces W Ao ps) => join_sum cb k n fb A c G Ao co ps s y W s.size h1 h2 hco (by omega) (by omega) HPK hpk2 (cutL_ge k1))
        rw [padL_take] at HJ
        have HJ1 := Lib.hid (fun W (h1 : CoderAt W cb k n fb A c G) (h2 : Pieces W Ao ps) => by have := HJ.out W (crc s.data.toList) h1 h2; rw [if_pos rfl, if_pos rfl, list_str] at this; exact this)
        have hcv : ∀ W : World, (convert 9 70 (.string s)).run Try.prog W = .ok (.slice (some ⟨W.heap.size, 0, none⟩) s.size (grownCap W s.size 0 5)) (Lib.bytesWorld W 5 s) := fun W => Lib.run_convert_string_bytes W _ _ _ s Try.underlying9 Try.underlying70 Try.underlying5
        clear HPI HPK hpk2
        go_upto_region 22 with (first | (go_at_call 30; (with_reducible refine (HS.out _).mono ?_); rintro e w5 ⟨rfl, hd⟩; replace hC := hC.below hd; replace HP := HP.below hd; replace HB := bt HB HB.size hd; clear hd) | (go_at_call 29; (with_reducible refine (HJ1.out _ hC HP).mono ?_); rintro e w6 ⟨rfl, hd⟩; replace hC := hC.below hd; replace HP := HP.below hd; replace HB := bt HB HB.size hd; clear hd))
        have HM := Mine.conv w6 5 s
        have HB2 := bytes_below w6 5 s
        have hbs : w6.heap.size < (Lib.bytesWorld w6 5 s).heap.size := by rw [Lib.bytesWorld_size]; omega
        have hge := HB.size
        generalize hW7 : Lib.bytesWorld w6 5 s = w7 at HM HB2 hbs
        have hcv6 := hcv w6
        rw [hW7] at hcv6
        replace HB := bt HB HB.size HB2
        clear hcv hW7
        generalize grownCap w6 s.size 0 5 = cp at hcv6
        generalize hBb : w6.heap.size = Bb at HM hbs hge hcv6 HB2
        have HBB := Lib.hid hBb
        clear hBb
        have hC6 := Lib.hid hC
        have HP6 := Lib.hid HP
        clear hC HP
        obtain ⟨first, hr, hr2⟩ : ∃ first : Nat, (s.size ≠ 0 → ((a : Int) % (8 * (s.size : Int))) = (first : Int)) ∧ (s.size ≠ 0 → first < 8 * s.size) := ⟨a % (8 * s.size), fun _ => by rw [Int.natCast_emod, Int.natCast_mul]; rfl, fun h => Nat.mod_lt _ (by omega)⟩
        go_wp2
        have HHR := Lib.hid hr
        clear hr hcv6 hPc hS2 HOD hB
        go_loopw [25, 26] (fun i _ wr => ∃ (r u : Nat) (l : List UInt8), i = .int .i64 r ∧ r ≤ 32 ∧ u < 4294967296 ∧ l.length = s.size ∧ whole l = whole s.data.toList ^^^ u * 2 ^ first ∧ Mine wr Bb l ∧ Below w.heap.size w wr ∧ Below Bb w6 wr) (fun i _ _ => 32 - (intOf i).toNat)
        case atStart => exact ⟨0, 0, _, rfl, by omega, by omega, list_size _, by rw [Nat.zero_mul, Nat.xor_zero], HM, HB, HB2⟩
        case round =>
          clear HM HB HB2
          obtain ⟨r, u, l, rfl, hr32, hu, hl, hw, HM, HB, HB2⟩ := hrel
          by_cases hlt9 : r < 32 ∧ 0 < s.size
          · obtain ⟨hlt, hs0⟩ := hlt9
            have f1 : decide ((r : Int) < 32) = true := by simp; omega
            have f2 : decide ((0 : Int) < s.size) = true := decide_eq_true (by omega)
            have h2' : ((s.size : Int) == 0) = false := int_ne (by omega)
            have hr := HHR.out (by omega)
            have hr2 := hr2 (by omega)
            clear HJ HJ1 HS HHR
            by_cases hb : bits BinOp.and IntKind.u32 ((y : Int) / 2 ^ r) 1 = 1
            · have hb' := int_eq hb
              clear hb
              by_cases hp : first + r < 8 * s.size
              · have hj : (first + r) / 8 < l.length := by omega
                have hd : ((first : Int) + (r : Int)) / 8 = (((first + r) / 8 : Nat) : Int) := by omega
                have hm : ((first : Int) + (r : Int)) % 8 = (((first + r) % 8 : Nat) : Int) := by omega
                have hjs : (first + r) / 8 < s.size := by omega
                have hc1 := HM.cell _ hj
                have hf1 := HM.free _ hj
                have hm7 : (first + r) % 8 < 8 := by omega
                have hset := HM.set ((first + r) / 8) hj (l[(first + r) / 8] ^^^ UInt8.ofNat (2 ^ ((first + r) % 8)))
                have hwf := whole_flip l (first + r) hj
                generalize (first + r) / 8 = j at hj hd hjs hc1 hf1 hset hwf
                generalize (first + r) % 8 = t at hm hm7 hset hwf
                have HW := Lib.hid hwf
                have HS := Lib.hid hset
                clear hwf hset
                go_upto_region 28 with fail
                go_region
                have hv : bits BinOp.xor IntKind.u8 ((l[j].toNat : Nat) : Int) (2 ^ t % 256) = (((l[j] ^^^ UInt8.ofNat (2 ^ t)).toNat : Nat) : Int) := by
                  have h2r : 2 ^ t < 256 := Nat.pow_lt_pow_right (n := 8) (by omega) hm7
                  have e : ((2 : Int) ^ t % 256) = ((2 ^ t : Nat) : Int) := by
                    rw [Int.emod_eq_of_lt]
                    · simp
                    · exact Int.le_of_lt (Int.pow_pos (by omega))
                    · exact_mod_cast h2r
                  rw [e, u8_xor_nat _ _ (byte_lt _) h2r, UInt8.toNat_xor, UInt8.toNat_ofNat', Nat.mod_eq_of_lt h2r]
                rw [hv]
                have HM2 := HS.out.drew
                have HB3 : Below w.heap.size w (wr.setCell ⟨Bb, j, none⟩ (.int .u8 ((l[j] ^^^ UInt8.ofNat (2 ^ t)).toNat : Nat))).drew := below_drewN (HB.setCell (p := ⟨Bb, j, none⟩) hge _) 1
                have HB4 : Below Bb w6 (wr.setCell ⟨Bb, j, none⟩ (.int .u8 ((l[j] ^^^ UInt8.ofNat (2 ^ t)).toNat : Nat))).drew := below_drewN (HB2.setCell (p := ⟨Bb, j, none⟩) (Nat.le_refl _) _) 1
                generalize (wr.setCell ⟨Bb, j, none⟩ (.int .u8 ((l[j] ^^^ UInt8.ofNat (2 ^ t)).toNat : Nat))).drew = w5 at HM2 HB3 HB4 ⊢
                clear HS
                obtain ⟨u', hu', he'⟩ := burst_step (whole s.data.toList) u first r (first + r) hlt hu rfl
                have HU := Lib.hid he'
                have HW0 := Lib.hid hw
                clear he' hw
                go_wp2
                go_roundw
                case rel => exact ⟨r + 1, u', _, by go_num, by omega, hu', by rw [List.length_set]; exact hl, by rw [HW.out, HW0.out]; exact HU.out, HM2, HB3, HB4⟩
                case measure => simp [intOf]; omega
              · have f9 : decide ((first : Int) + (r : Int) < 8 * (s.size : Int)) = false := decide_eq_false (by omega)
                go_wp2
                go_roundw
                case rel => exact ⟨r + 1, u, l, by go_num, by omega, hu, hl, hw, HM, HB, HB2⟩
                case measure => simp [intOf]; omega
            · have hb' := int_ne hb
              clear hb
              go_wp2
              go_roundw
              case rel => exact ⟨r + 1, u, l, by go_num, by omega, hu, hl, hw, HM, HB, HB2⟩
              case measure => simp [intOf]; omega
          · have hC := hC6.out.below (w' := wr) (by rw [HBB.out]; exact HB2)
            have HP := HP6.out.below (w' := wr) (by rw [HBB.out]; exact HB2)
            have hfin : (¬ r < 32) ∨ (r < 32 ∧ ¬ 0 < s.size) := by omega
            have hq9 := HM.conv_str (c := cp) hl (by omega)
            have hsl : (str l).size ≤ 140737488351232 := by rw [str_size]; omega
            have HS2 := Lib.hid (fun W => CrcW.sum_any (str l) W hsl)
            rw [str_list] at HS2
            have hfirst : first ≤ 8 * s.size ∨ s.size = 0 := by omega
            have HJ2 : ∃ (e : Int) (T : ByteArray), ((l = s.data.toList ∧ e = 0 ∧ T = s) ∨ (¬ l = s.data.toList ∧ e = 7 ∧ T = str [])) ∧ ∀ W (h1 : CoderAt W cb k n fb A c G) (h2 : Pieces W Ao ps), Calls Try.prog 29 #[.pointer (some ⟨cb, 0, none⟩), .slice Ao ps.length co, .int .i64 s.size, .int .u32 (crc l : Nat)] W fun e' w' => e' = .returned (.tuple #[.string T, .int .i64 e]) ∧ Below W.heap.size W w' := by
              by_cases he : l = s.data.toList
              · refine ⟨0, s, .inl ⟨he, rfl, rfl⟩, fun W h1 h2 => ?_⟩
                have h9 := HJ.out W (crc l) h1 h2
                rw [if_pos (by rw [he]), if_pos (by rw [he]), list_str] at h9
                exact h9
              · have hs0 : s.size ≠ 0 := fun h0 => he (by rw [List.eq_nil_of_length_eq_zero (hl.trans h0), List.eq_nil_of_length_eq_zero ((list_size s).trans h0)])
                have hne := crc_burst s.data.toList l first u (by rw [list_size]; exact hl.symm) (by rw [list_size]; omega) hu hw he
                refine ⟨7, str [], .inr ⟨he, rfl, rfl⟩, fun W h1 h2 => ?_⟩
                have h9 := HJ.out W (crc l) h1 h2
                rw [if_neg (fun h => hne h.symm), if_neg (fun h => hne h.symm)] at h9
                exact h9
            obtain ⟨ee, T, hor, hJ2⟩ := HJ2
            have HJ2 := Lib.hid hJ2
            have hss : (s.toList == s.toList) = true := str_eq rfl
            have hcl := crc_lt l
            clear hlt9 hw hfirst hr2 HJ hJ2 HJ1 HS HHR
            rcases hfin with h | ⟨h, h0⟩
            · have f1 : decide ((r : Int) < 32) = false := by simp; omega
              clear h
              rcases hor with ⟨he, rfl, hT⟩ | ⟨he, rfl, hT⟩
              · have hcmp : ((str l).toList == s.toList) = true := str_eq (by rw [str_list]; exact he)
                clear he hT
                (go_wp2_with (first | (go_at_call 30; (with_reducible refine (HS2.out _).mono ?_); rintro e w8 ⟨rfl, hd⟩; replace hC := hC.below hd; replace HP := HP.below hd; replace HM := HM.below hd; replace HB := bt HB HB.size hd; clear hd) | (go_at_call 29; (with_reducible refine (HJ2.out _ hC HP).mono ?_); rintro e w9 ⟨rfl, hd⟩; replace HM := HM.below hd; have hq7 := HM.conv_str (c := cp) hl (by omega); replace HB := bt HB HB.size hd; clear hd)); go_ret; exact ⟨by first | rfl | (rw [hte]; rfl), HB⟩)
              · have hcmp : ((str l).toList == s.toList) = false := str_ne (by rw [str_list]; exact he)
                have hte : T.toList.isEmpty = true := by rw [hT]; exact em
                clear he hT
                (go_wp2_with (first | (go_at_call 30; (with_reducible refine (HS2.out _).mono ?_); rintro e w8 ⟨rfl, hd⟩; replace hC := hC.below hd; replace HP := HP.below hd; replace HM := HM.below hd; replace HB := bt HB HB.size hd; clear hd) | (go_at_call 29; (with_reducible refine (HJ2.out _ hC HP).mono ?_); rintro e w9 ⟨rfl, hd⟩; replace HM := HM.below hd; have hq7 := HM.conv_str (c := cp) hl (by omega); replace HB := bt HB HB.size hd; clear hd)); go_ret; exact ⟨by first | rfl | (rw [hte]; rfl), HB⟩)
            · have f1 : decide ((r : Int) < 32) = true := by simp; omega
              have f2 : decide ((0 : Int) < s.size) = false := decide_eq_false (by omega)
              clear h
              rcases hor with ⟨he, rfl, hT⟩ | ⟨he, rfl, hT⟩
              · have hcmp : ((str l).toList == s.toList) = true := str_eq (by rw [str_list]; exact he)
                clear he hT
                (go_wp2_with (first | (go_at_call 30; (with_reducible refine (HS2.out _).mono ?_); rintro e w8 ⟨rfl, hd⟩; replace hC := hC.below hd; replace HP := HP.below hd; replace HM := HM.below hd; replace HB := bt HB HB.size hd; clear hd) | (go_at_call 29; (with_reducible refine (HJ2.out _ hC HP).mono ?_); rintro e w9 ⟨rfl, hd⟩; replace HM := HM.below hd; have hq7 := HM.conv_str (c := cp) hl (by omega); replace HB := bt HB HB.size hd; clear hd)); go_ret; exact ⟨by first | rfl | (rw [hte]; rfl), HB⟩)
              · exact absurd (by rw [List.eq_nil_of_length_eq_zero (show l.length = 0 by omega), List.eq_nil_of_length_eq_zero ((list_size s).trans (show s.size = 0 by omega))]) he
theorem lawreads16_all (hB : Bytes w B od) (hod : od.length = q) (hk : k ≤ 255) (hn : n ≤ 255) (hs : s.size ≤ 140737488351232) (hq : q ≤ 9223372036854775807) (ha : a ≤ 65535) (hy : y < 4294967296) : Calls Try.prog 8 #[.int .u8 (k : Nat), .int .u8 (n : Nat), .string s, .slice B q c9, .int .u16 (a : Nat), .int .u32 (y : Nat)] w fun e w' => e = .returned (.bool true) ∧ Below w.heap.size w w' := by
  by_cases hz : 1500 < s.size ∨ 100 < q
  · exact reads_far k n s B q c9 od a y w hB hk hn (by omega) (by omega) hz
  by_cases h : (k : Int) < 1 ∨ (n : Int) < k ∨ 16 < (n : Int)
  · exact reads_no k n s B q c9 od a y w hB hk hn (by omega) (by omega) h
  · exact reads_ok k n s B q c9 od a y w hB hod (by omega) (by omega) (by omega) (by omega) (by omega) ha hy
end
end Go.Proofs.Ytmlemichkeomjaa.StrpW
