/- stookref03.Lagrange and Piece walked. -/
import Derived.Test.YtmlemichkeomjaaStrpLag
set_option linter.unusedVariables false
set_option linter.unusedSimpArgs false
namespace Go.Proofs.Ytmlemichkeomjaa.StrpW
open Go.RowKit Go.Proofs.Ytmlemichkeomjaa.Base Go.Proofs.Ytmlemichkeomjaa.GfP Go.Proofs.Ytmlemichkeomjaa.GfW Go.Proofs.Ytmlemichkeomjaa.Lin Go.Proofs.Ytmlemichkeomjaa.RowsW Go.Proofs.Ytmlemichkeomjaa.CodP Go.Proofs.Ytmlemichkeomjaa.CodW
/-- Elements as whole numbers. -/
def vals (X : Nat → F) (k : Nat) : List Int := (List.range k).map fun i => ((X i).v : Int)
theorem vals_length (X : Nat → F) (k : Nat) : (vals X k).length = k := by simp [vals]
theorem vals_getElem (X : Nat → F) (k i : Nat) (h : i < (vals X k).length) : (vals X k)[i] = ((X i).v : Int) := by simp [vals]
theorem vals_succ (X : Nat → F) (k : Nat) : vals X (k + 1) = vals X k ++ [((X k).v : Int)] := by
  unfold vals
  rw [List.range_succ]
  simp
theorem vals_le (X : Nat → F) (k : Nat) : ∀ x, x ∈ vals X k → -9223372036854775808 ≤ x ∧ x ≤ 9223372036854775807 := fun x hx => by
  obtain ⟨i, hi, rfl⟩ := List.mem_map.1 hx
  have := (X i).le
  omega
theorem v_xor {a b : Nat} (ha : a < 256) (hb : b < 256) : (toF a + toF b).v = a ^^^ b := by
  rw [v_add]
  show (a % 256) ^^^ (b % 256) = _
  rw [Nat.mod_eq_of_lt ha, Nat.mod_eq_of_lt hb]
set_option maxRecDepth 100000 in
set_option maxHeartbeats 1000000 in
theorem lagr_any (A : Option Addr) (k c x : Nat) (X : Nat → F) (w : World) (hI : Ints w A (vals X k)) (hk : k ≤ 16) (hx : x ≤ 16) :
    Calls Try.prog 112 #[.slice A k c, .int .i64 (x : Nat)] w fun e w' => e = .returned (.int .i64 ((sm k (fun i => X i * CodP.lg i (toF x) k)).v : Nat)) ∧ w = w' := by
  go_enter Try.func112, Try.ntmps112
  go_wp2
  go_loop [5, 6, 7, 8] (fun s i _ _ => ∃ a : Nat, a ≤ k ∧ i = .int .i64 a ∧ s = .int .i64 ((sm a (fun i => X i * CodP.lg i (toF x) k)).v : Nat)) (fun _ i _ _ => k - (intOf i).toNat)
  case atStart => exact ⟨0, by omega, rfl, rfl⟩
  case round =>
    obtain ⟨a, ha, rfl, rfl⟩ := hrel
    by_cases hlt : a < k
    · obtain ⟨b, off, rfl, hc⟩ := hI.at_.resolve_left (fun e => by have := congrArg List.length e; rw [vals_length] at this; simp only [List.length_nil] at this; omega)
      have g := hc a (by rw [vals_length]; exact hlt)
      rw [vals_getElem] at g
      have HS := Lib.hid (show sm (a + 1) (fun i => X i * CodP.lg i (toF x) k) = sm a (fun i => X i * CodP.lg i (toF x) k) + X a * CodP.lg a (toF x) k from rfl)
      generalize sm a (fun i => X i * CodP.lg i (toF x) k) = S at HS ⊢
      have hSl := S.le
      have hXl := (X a).le
      clear hc
      go_wp2
      go_loop [7, 8] (fun t j => ∃ q : Nat, q ≤ k ∧ j = .int .i64 q ∧ t = .int .i64 ((X a * CodP.lg a (toF x) q).v : Nat)) (fun _ j => k - (intOf j).toNat)
      case atStart => exact ⟨0, by omega, rfl, by rw [show CodP.lg a (toF x) 0 = 1 from rfl, Lin.mul_one]⟩
      case round =>
        obtain ⟨q, hq, rfl, rfl⟩ := hrel
        by_cases hlt2 : q < k
        · by_cases hqa : q = a
          · have e1 : ((q : Int) != (a : Int)) = false := int_beq (by omega)
            have HE := Lib.hid (show CodP.lg a (toF x) (q + 1) = CodP.lg a (toF x) q by rw [CodP.lg, if_pos hqa])
            clear hqa
            go_wp2
            go_round
            case rel => exact ⟨q + 1, by omega, by go_num, by rw [HE.out]⟩
            case measure => simp [intOf]; omega
          · have e1 : ((q : Int) != (a : Int)) = true := int_bne (by omega)
            have HE := Lib.hid (show CodP.lg a (toF x) (q + 1) = CodP.lg a (toF x) q * ((toF x + toF q) * (toF a + toF q).inv) by rw [CodP.lg, if_neg hqa])
            clear hqa
            have m1 := i64_xor_nat x q (by omega) (by omega)
            have m2 := i64_xor_nat a q (by omega) (by omega)
            have V1 := v_xor (a := x) (b := q) (by omega) (by omega)
            have V2 := v_xor (a := a) (b := q) (by omega) (by omega)
            have l1 : x ^^^ q ≤ 255 := by rw [← V1]; exact (toF x + toF q).le
            have l2 : a ^^^ q ≤ 255 := by rw [← V2]; exact (toF a + toF q).le
            generalize hT : X a * CodP.lg a (toF x) q = T
            have hTl := T.le
            have HT := Lib.hid hT
            have HV1 := Lib.hid V1
            have HV2 := Lib.hid V2
            have H1 := Lib.hid (fun W => GfR.rinv (a ^^^ q) W l2)
            have H2 := Lib.hid (fun W => GfR.rmul (x ^^^ q) (GfP.inv (a ^^^ q)) W l1 (GfP.inv_le _))
            have H3 := Lib.hid (fun W => GfR.rmul T.v (GfP.mul (x ^^^ q) (GfP.inv (a ^^^ q))) W hTl (GfP.mul_le _ _))
            clear hT V1 V2
            go_wp2_with (first | (go_at_call 137; (with_reducible refine (H1.out _).mono ?_); rintro e w2 ⟨rfl, rfl⟩) | (go_at_call 136; (with_reducible refine (H2.out _).mono ?_); rintro e w3 ⟨rfl, rfl⟩) | (go_at_call 136; (with_reducible refine (H3.out _).mono ?_); rintro e w4 ⟨rfl, rfl⟩))
            go_round
            case rel => exact ⟨q + 1, by omega, by go_num, by rw [HE.out, ← Lin.mul_assoc, HT.out, v_mul, v_mul, HV1.out]; show _ = Value.int .i64 ((GfP.mul T.v (GfP.mul (x ^^^ q) (GfP.inv (toF a + toF q).v)) : Nat) : Int); rw [HV2.out]⟩
            case measure => simp [intOf]; omega
        · obtain rfl : q = k := by omega
          generalize X a * CodP.lg a (toF x) q = T at HS ⊢
          have hTl := T.le
          have m1 := i64_xor_nat S.v T.v (by omega) (by omega)
          go_wp2
          go_round
          case rel => exact ⟨a + 1, by omega, by go_num, by rw [HS.out, v_add]⟩
          case measure => simp [intOf]; omega
    · obtain rfl : a = k := by omega
      go_wp2
      go_ret
      exact ⟨rfl, rfl⟩
theorem byte_zero (v : F) : IntKind.u8.wrap ((v.v : Nat) : Int) = ((v.v : Nat) : Int) := by
  have := v.le
  rw [IntKind.wrap_u8]
  omega
theorem bv_br (L : Nat) (f : Nat → F) : bv (br (L + 1) f) = bv (br L f) ++ [.int .u8 ((f L).v : Nat)] := by
  rw [br_succ, bv_append]
  show _ = _
  unfold bv
  simp only [List.map_cons, List.map_nil, ofNat_v]
set_option maxRecDepth 100000 in
set_option maxHeartbeats 2000000 in
theorem piece_any (A : Option Addr) (k c x L : Nat) (ss : List ByteArray) (w : World) (hS : Strs w A k ss) (h0 : 0 < k) (hk : k ≤ 16) (hx : x ≤ 16) (hL : L ≤ 1000000) (hsz : ∀ i (h : i < ss.length), ss[i].size = L) :
    Calls Try.prog 70 #[.slice A k c, .int .i64 (x : Nat)] w fun e w' => e = .returned (.string (strOf L (fun p => sm k (fun i => tx ss i p * CodP.lg i (toF x) k)))) ∧ Below w.heap.size w w' := by
  have HZ := Lib.hid hsz
  have HLS := Lib.hid hS.len
  obtain ⟨b, off, rfl, hc⟩ := hS.block (by omega)
  have HC := Lib.hid hc
  have g0 := hc 0 (by have := hS.len; omega)
  have z0 := hsz 0 (by have := hS.len; omega)
  rw [Nat.add_zero] at g0
  generalize ss[0]'(by have := hS.len; omega) = s0 at g0 z0
  obtain ⟨V, hV⟩ : ∃ V : Nat → F, V = fun p => sm k (fun i => tx ss i p * CodP.lg i (toF x) k) := ⟨_, rfl⟩
  rw [← hV]
  have HV := Lib.hid hV
  clear hc hsz hV hS
  go_enter Try.func70, Try.ntmps70
  go_wp2
  go_loopw [5, 6, 7, 8] (fun d i _ _ wr => ∃ p : Nat, p ≤ L ∧ i = .int .i64 p ∧ wr.ownsRow w.heap.size 5 1 d p (bv (br p V)) ∧ Below w.heap.size w wr) (fun _ i _ _ _ => L - (intOf i).toNat)
  case atStart => exact ⟨0, by omega, rfl, World.ownsRow_nil _ _ _ _, Below.refl _ _⟩
  case round =>
    obtain ⟨p, hp, rfl, HO, HB⟩ := hrel
    obtain ⟨wi, rfl⟩ : ∃ wi : World, wi = wr := ⟨_, rfl⟩
    have g1 := cell_below HB g0
    by_cases hlt : p < L
    · go_wp2
      go_loopw [7, 8] (fun v j wx => ∃ a : Nat, a ≤ k ∧ j = .int .i64 a ∧ wx.ownsRow wi.heap.size 3 1 v a (zv (vals (fun i => tx ss i p) a)) ∧ Below wi.heap.size wi wx) (fun _ j _ => k - (intOf j).toNat)
      case atStart => exact ⟨0, by omega, rfl, World.ownsRow_nil _ _ _ _, Below.refl _ _⟩
      case round =>
        obtain ⟨a, ha, rfl, HI, HBx⟩ := hrel
        by_cases hlt2 : a < k
        · have hal : a < ss.length := by have := HLS.out; omega
          have g2 := cell_below HBx (cell_below HB (HC.out a hal))
          have hps : p < ss[a].size := by rw [HZ.out a hal]; exact hlt
          have HT := Lib.hid (show zv (vals (fun i => tx ss i p) (a + 1)) = zv (vals (fun i => tx ss i p) a) ++ [.int .i64 ((ss[a][p].toNat : Nat) : Int)] by rw [vals_succ]; simp only [zv, List.map_append, List.map_cons, List.map_nil, tx_at hal, txb_get hps])
          have hll : (zv (vals (fun i => tx ss i p) a)).length = a := by rw [zv_length, vals_length]
          have HLL := Lib.hid hll
          clear hll
          have hb8 := (ss[a][p]).toNat_lt
          have w1 := u8int ss[a][p].toNat (by omega)
          generalize ss[a] = s at g2 hps HT hb8 w1
          go_wp2_with (at_builtin; refine app_one wi.heap.size rfl (.tmp 23) (.tmp 31) 22 3 (.int .i64 0) 8 rfl Try.underlying22 info_int rfl (by omega) _ (zv (vals (fun i => tx ss i p) a)) _ a HLL.out rfl rfl rfl HI HBx HBx.size (by omega) ?_; intro v1 w1 HO2 HB2 hg2)
          go_roundw
          case rel => exact ⟨a + 1, by omega, by go_num, by rw [HT.out]; exact HO2, HB2⟩
          case measure => simp [intOf]; omega
        · obtain rfl : a = k := by omega
          obtain ⟨A4, c4, rfl, hc4, hI4⟩ := own_ints HI (vals_le _ _)
          have HO4 := own_below HO HBx
          have HB4 := bt HB HB.size HBx
          have HLG := Lib.hid (lagr_any A4 a c4 x (fun i => tx ss i p) wr hI4 hk hx)
          have HVV := Lib.hid (show V p = sm a (fun i => tx ss i p * CodP.lg i (toF x) a) by rw [HV.out])
          rw [← HVV.out] at HLG
          have hbw := byte_zero (V p)
          have HST := Lib.hid (bv_br p V)
          have hbl : (bv (br p V)).length = p := by rw [bv_length, br_length]
          have HBL := Lib.hid hbl
          generalize (V p).v = y at HLG hbw HST
          clear hbl HO HB g1 HI HBx hI4
          go_wp2_with (first | (go_at_call 112; (with_reducible refine (HLG.out).mono ?_); rintro e w5 ⟨rfl, rfl⟩) | (at_builtin; refine app_one w.heap.size rfl (.tmp 33) (.tmp 38) 70 5 (.int .u8 0) 1 rfl Try.underlying70 info_byte rfl (by omega) _ (bv (br p V)) _ p HBL.out rfl rfl rfl HO4 HB4 HB4.size (by omega) ?_; intro v1 w1 HO2 HB2 hg2))
          go_roundw
          case rel => exact ⟨p + 1, by omega, by go_num, by rw [HST.out]; exact HO2, HB2⟩
          case measure => simp [intOf]; omega
    · obtain rfl : p = L := by omega
      have hcv := conv_own Try.underlying70 Try.underlying5 Try.underlying9 HO (by omega)
      go_wp2
      go_ret
      exact ⟨rfl, HB⟩
end Go.Proofs.Ytmlemichkeomjaa.StrpW
