/- The law CrcBursts of chapter 4 walked. -/
import Derived.Test.YtdjgdhpncocahaaCrcSum
import Derived.Test.YtdjgdhpncocahaaCrcBurstP
import Derived.Lib.ConvBytes
set_option linter.unusedVariables false
set_option linter.unusedSimpArgs false
namespace Go.Proofs.Ytdjgdhpncocahaa.CrcL
open Go.RowKit Go.Proofs.Ytdjgdhpncocahaa.Base Go.Proofs.Ytdjgdhpncocahaa.CrcP Go.Proofs.Ytdjgdhpncocahaa.CrcW Go.Proofs.Ytdjgdhpncocahaa.CrcR

/-- A text that lies in a block of one's own. -/
structure Mine (w : World) (B : Nat) (l : List UInt8) : Prop where
  cell : ∀ j (h : j < l.length), w.cell? ⟨B, j, none⟩ = some (.int .u8 ((l[j].toNat : Nat) : Int))
  free : ∀ j, j < l.length → w.frozen? ⟨B, j, none⟩ = false
theorem Mine.conv (w : World) (e : TypeId) (s : ByteArray) : Mine (Lib.bytesWorld w e s) w.heap.size s.data.toList := by
  refine ⟨fun j h => ?_, fun j h => ?_⟩
  · rw [Lib.bytesWorld_cell w e s j (by rw [list_size] at h; exact h)]
    simp only [List.getD_eq_getElem?_getD, List.getElem?_eq_getElem h, Option.getD_some]
  · unfold World.frozen?
    rw [Lib.bytesWorld_at_new]
    have : s.data.toList.length ≤ (Lib.bytesCells w e s).size := by
      rw [list_size]
      simp [Lib.bytesCells]
    simp only [Bool.and_eq_false_iff, decide_eq_false_iff_not]
    left; omega
theorem Mine.set {w : World} {B : Nat} {l : List UInt8} (h : Mine w B l) (j : Nat) (hj : j < l.length) (v : UInt8) : Mine (w.setCell ⟨B, j, none⟩ (.int .u8 ((v.toNat : Nat) : Int))) B (l.set j v) := by
  refine ⟨fun i hi => ?_, fun i hi => ?_⟩
  · rw [cell_set (h.cell j hj), List.getElem_set]
    split
    · rename_i e; subst e; simp
    · rename_i e
      have := h.cell i (by simpa using hi)
      simp [this, Ne.symm e, e]
  · rw [World.frozen?_setCell]; exact h.free i (by simpa using hi)
theorem Mine.drew {w : World} {B : Nat} {l : List UInt8} (h : Mine w B l) : Mine w.drew B l := ⟨h.cell, h.free⟩
theorem Mine.lt {w : World} {B : Nat} {l : List UInt8} (h : Mine w B l) (h0 : 0 < l.length) : B < w.heap.size := World.block_lt_of_cell? w _ (h.cell 0 h0)
theorem Mine.bytes {w : World} {B : Nat} {l : List UInt8} (h : Mine w B l) (hl : l.length ≤ 140737488355328) : Bytes w (some ⟨B, 0, none⟩) (l.map UInt8.toNat) := by
  refine ⟨fun x hx => ?_, by simpa using hl, .inr ⟨B, 0, rfl, fun j hj => ?_⟩⟩
  · obtain ⟨b, _, rfl⟩ := List.mem_map.1 hx
    have := b.toNat_lt
    omega
  · have hj' : j < l.length := by simpa using hj
    rw [Nat.zero_add, h.cell j hj']
    simp [List.getD_eq_getElem?_getD, hj']
theorem Mine.below {w w' : World} {B : Nat} {l : List UInt8} (h : Mine w B l) (hb : Below w.heap.size w w') : Mine w' B l :=
  ⟨fun j hj => cell_below hb (h.cell j hj), fun j hj => (frozen_below hb (h.cell j hj)).trans (h.free j hj)⟩
theorem Mine.conv_str {w : World} {B n c : Nat} {l : List UInt8} (h : Mine w B l) (hl : l.length = n) (hn : n ≤ 140737488355328) : (convert 42 9 (.slice (some ⟨B, 0, none⟩) n c)).run Try.prog w = .ok (.string (str l)) w := by
  rw [Base.conv_str Try.underlying42 Try.underlying5 Try.underlying9 w _ _ n c (h.bytes (by omega)) (by simpa using hl), List.map_map]
  have : (UInt8.ofNat ∘ UInt8.toNat) = id := by funext b; simp
  rw [this, List.map_id]
theorem bytes_below (w : World) (e : TypeId) (s : ByteArray) : Below w.heap.size w (Lib.bytesWorld w e s) :=
  ⟨rfl, rfl, rfl, by rw [Lib.bytesWorld_size]; omega, fun k hk => Lib.bytesWorld_at_old w e s k hk⟩

set_option maxRecDepth 100000 in
set_option maxHeartbeats 1000000 in
theorem bursts_any (s : ByteArray) (x c : Nat) (w : World) (hs : s.size ≤ 140737488351232) (hx : x ≤ 65535) (hc : c < 4294967296) :
    Calls Try.prog 7 #[.string s, .int .u16 x, .int .u32 c] w fun e w' => e = .returned (.bool true) ∧ Below w.heap.size w w' := by
  have HB : Below w.heap.size w w := Below.refl _ _
  by_cases h1 : 3000 < s.size
  · go_enter Try.func7, Try.ntmps7
    go_wp2_with (go_at_call 33; (with_reducible refine (awake_any _).mono ?_); rintro e w2 ⟨rfl, hd⟩; (first | replace HB := bt HB HB.size hd | replace HB := bt_drew HB HB.size hd | replace HB := bt_drewN HB HB.size hd); clear hd)
    all_goals (go_ret; exact ⟨rfl, HB⟩)
  by_cases h2 : s.size = 0
  · have h2' : ((s.size : Int) == 0) = true := int_eq (by omega)
    go_enter Try.func7, Try.ntmps7
    go_wp2_with (go_at_call 33; (with_reducible refine (awake_any _).mono ?_); rintro e w2 ⟨rfl, hd⟩; (first | replace HB := bt HB HB.size hd | replace HB := bt_drew HB HB.size hd | replace HB := bt_drewN HB HB.size hd); clear hd)
    all_goals (go_ret; exact ⟨rfl, HB⟩)
  have h2' : ((s.size : Int) == 0) = false := int_ne (by omega)
  by_cases h3 : c = 0
  · have h3' : ((c : Int) == 0) = true := int_eq (by omega)
    go_enter Try.func7, Try.ntmps7
    go_wp2_with (go_at_call 33; (with_reducible refine (awake_any _).mono ?_); rintro e w2 ⟨rfl, hd⟩; (first | replace HB := bt HB HB.size hd | replace HB := bt_drew HB HB.size hd | replace HB := bt_drewN HB HB.size hd); clear hd)
    all_goals (go_ret; exact ⟨rfl, HB⟩)
  have h3' : ((c : Int) == 0) = false := int_ne (by omega)
  have hcv : ∀ W : World, (convert 9 42 (.string s)).run Try.prog W = .ok (.slice (some ⟨W.heap.size, 0, none⟩) s.size (grownCap W s.size 0 5)) (Lib.bytesWorld W 5 s) := fun W => Lib.run_convert_string_bytes W _ _ _ s Try.underlying9 Try.underlying42 Try.underlying5
  have hr : ((x : Int) % (8 * (s.size : Int))) = ((x % (8 * s.size) : Nat) : Int) := by rw [Int.natCast_emod, Int.natCast_mul]; rfl
  have hr2 : x % (8 * s.size) < 8 * s.size := Nat.mod_lt _ (by omega)
  generalize x % (8 * s.size) = first at hr hr2
  go_enter Try.func7, Try.ntmps7
  go_upto_region 4 with (go_at_call 33; (with_reducible refine (awake_any _).mono ?_); rintro e w2 ⟨rfl, hd⟩; (first | replace HB := bt HB HB.size hd | replace HB := bt_drew HB HB.size hd | replace HB := bt_drewN HB HB.size hd); clear hd)
  have HM := Mine.conv w2 5 s
  have HB2 := bt HB HB.size (bytes_below w2 5 s)
  have hbs : w2.heap.size < (Lib.bytesWorld w2 5 s).heap.size := by rw [Lib.bytesWorld_size]; omega
  have hge := HB.size
  clear HB hcv
  generalize Lib.bytesWorld w2 5 s = w3 at HM HB2 hbs ⊢
  generalize grownCap w2 s.size 0 5 = cp
  generalize w2.heap.size = B at *
  go_wp2
  go_loopw [9] (fun i wr => ∃ (k u : Nat) (l : List UInt8), i = .int .i64 k ∧ k ≤ 32 ∧ u < 4294967296 ∧ l.length = s.size ∧ whole l = whole s.data.toList ^^^ u * 2 ^ first ∧ Mine wr B l ∧ Below w.heap.size w wr) (fun i _ => 32 - (intOf i).toNat)
  case atStart => exact ⟨0, 0, _, rfl, by omega, by omega, list_size _, by rw [Nat.zero_mul, Nat.xor_zero], HM, HB2⟩
  case round =>
    clear HM HB2
    obtain ⟨k, u, l, rfl, hk, hu, hl, hw, HM, HB⟩ := hrel
    by_cases hlt : k < 32
    · by_cases hb : bits BinOp.and IntKind.u32 ((c : Int) / 2 ^ k) 1 = 1
      · have hb' := int_eq hb
        clear hb
        by_cases hp : first + k < 8 * s.size
        · have hj : (first + k) / 8 < l.length := by omega
          have hd : ((first : Int) + (k : Int)) / 8 = (((first + k) / 8 : Nat) : Int) := by omega
          have hm : ((first : Int) + (k : Int)) % 8 = (((first + k) % 8 : Nat) : Int) := by omega
          have hjs : (first + k) / 8 < s.size := by omega
          have hc1 := HM.cell _ hj
          have hf1 := HM.free _ hj
          have hm7 : (first + k) % 8 < 8 := by omega
          have hset := HM.set ((first + k) / 8) hj (l[(first + k) / 8] ^^^ UInt8.ofNat (2 ^ ((first + k) % 8)))
          have hwf := whole_flip l (first + k) hj
          generalize (first + k) / 8 = j at hj hd hjs hc1 hf1 hset hwf
          generalize (first + k) % 8 = r at hm hm7 hset hwf
          have HW := Lib.hid hwf
          have HS := Lib.hid hset
          clear hwf hset
          go_upto_region 9 with fail
          go_region
          have hv : bits BinOp.xor IntKind.u8 ((l[j].toNat : Nat) : Int) (2 ^ r % 256) = (((l[j] ^^^ UInt8.ofNat (2 ^ r)).toNat : Nat) : Int) := by
            have h2r : 2 ^ r < 256 := Nat.pow_lt_pow_right (n := 8) (by omega) hm7
            have e : ((2 : Int) ^ r % 256) = ((2 ^ r : Nat) : Int) := by
              rw [Int.emod_eq_of_lt]
              · simp
              · exact Int.le_of_lt (Int.pow_pos (by omega))
              · exact_mod_cast h2r
            rw [e, u8_xor_nat _ _ (byte_lt _) h2r, UInt8.toNat_xor, UInt8.toNat_ofNat', Nat.mod_eq_of_lt h2r]
          rw [hv]
          have HM2 := HS.out.drew
          have HB3 : Below w.heap.size w (wr.setCell ⟨B, j, none⟩ (.int .u8 ((l[j] ^^^ UInt8.ofNat (2 ^ r)).toNat : Nat))).drew 
            := below_drewN (HB.setCell (p := ⟨B, j, none⟩) hge _) 1
          generalize (wr.setCell ⟨B, j, none⟩ (.int .u8 ((l[j] ^^^ UInt8.ofNat (2 ^ r)).toNat : Nat))).drew = w5 at HM2 HB3 ⊢
          clear HS
          obtain ⟨u', hu', he'⟩ := burst_step (whole s.data.toList) u first k (first + k) hlt hu rfl
          have HU := Lib.hid he'
          have HW0 := Lib.hid hw
          clear he' hw
          go_wp2
          go_roundw
          case rel => exact ⟨k + 1, u', _, by go_num, by omega, hu', by rw [List.length_set]; exact hl, by rw [HW.out, HW0.out]; exact HU.out, HM2, HB3⟩
          case measure => simp [intOf]; omega
        · go_wp2
          go_roundw
          case rel => exact ⟨k + 1, u, l, by go_num, by omega, hu, hl, hw, HM, HB⟩
          case measure => simp [intOf]; omega
      · have hb' := int_ne hb
        clear hb
        go_wp2
        go_roundw
        case rel => exact ⟨k + 1, u, l, by go_num, by omega, hu, hl, hw, HM, HB⟩
        case measure => simp [intOf]; omega
    · obtain rfl : k = 32 := by omega
      have hq := HM.conv_str (c := cp) hl (by omega)
      by_cases he : l = s.data.toList
      · have hcmp : ((str l).toList == s.toList) = true := str_eq (by rw [str_list]; exact he)
        clear he
        go_wp2
        go_ret
        exact ⟨rfl, HB⟩
      · have hcmp : ((str l).toList == s.toList) = false := str_ne (by rw [str_list]; exact he)
        have hne := crc_burst s.data.toList l first u (by rw [list_size]; exact hl.symm) (by rw [list_size]; omega) hu hw he
        have hc1 := crc_lt s.data.toList
        have hc2 := crc_lt l
        have hop : opened (l ++ four (crc s.data.toList)) = ([], 7) := by
          unfold opened
          have hlen : (l ++ four (crc s.data.toList)).length = l.length + 4 := by rw [List.length_append, four_length]
          rw [hlen, if_neg (by omega), Nat.add_sub_cancel, List.drop_left, List.take_left, if_neg]
          intro h
          exact hne (four_inj hc1 hc2 h).symm
        have hnc : (((crc (str l).data.toList : Nat) : Int) != ((crc s.data.toList : Nat) : Int)) = true := by
          rw [str_list]; exact int_bne (by omega)
        clear hw he hne
        have hex : (str (sealed s.data.toList)).extract s.size (str (sealed s.data.toList)).size = str (four (crc s.data.toList)) := by
          rw [extract_str, str_list, List.take_of_length_le (by rw [← str_size]; exact Nat.le_refl _)]
          unfold sealed
          rw [← list_size s, List.drop_left]
        have hap : str l ++ str (four (crc s.data.toList)) = str (l ++ four (crc s.data.toList)) := by rw [str_append]; rfl
        have hsz1 : (str (sealed s.data.toList)).size = s.size + 4 := by rw [str_size, sealed, List.length_append, four_length, list_size]
        have hsz2 : (str l).size = s.size := by rw [str_size]; exact hl
        have hsz3 : (str (four (crc s.data.toList))).size = 4 := by rw [str_size, four_length]
        have hsz4 : (str (l ++ four (crc s.data.toList))).size ≤ 140737488351232 := by rw [str_size, List.length_append, four_length]; omega
        have hopen : ∀ W : World, Calls Try.prog 39 #[.string (str (l ++ four (crc s.data.toList)))] W fun e w' => e = .returned (.tuple #[.string (str []), .int .i64 7]) ∧ Below W.heap.size W w' := fun W => by
          have := open_any (str (l ++ four (crc s.data.toList))) W hsz4
          rw [str_list, hop] at this
          exact this
        have hex2 := hex
        rw [hsz1] at hex2
        go_upto_region 12 with fail
        (refine wp_region_quiet_below (by kernel_rfl) (by kernel_rfl) ?_; (repeat (go_big_quiet_step ((first | (go_at_call 40; exact Calls.regrown_of (seal_any _ _ hs)) | (go_at_call 39; exact Calls.regrown_of (hopen _)))))); (refine BigFrame.wpQuiet_want (by rfl) (fun K hK => quiet_conv 42 9 (.tmp 74) rfl _ _ rfl (fun wx hwx => (HM.below (below_of_regrown hwx)).conv_str (c := cp) hl (by omega)) ?_); refine hK _ ?_; clear hK K; go_simp); (repeat (go_big_quiet_step ((first | (go_at_call 40; exact Calls.regrown_of (seal_any _ _ hs)) | (go_at_call 39; exact Calls.regrown_of (hopen _)))))); refine wpQuiet_nil ?_; intro pq; generalize hw' : Go.Sort.grow (redrawn _ pq.d) pq.os = wq; have HQ := below_of_regrown ⟨pq, hw'.symm⟩; clear hw')
        have hq2 := (HM.below HQ).conv_str (c := cp) hl (by omega)
        have HB9 := bt HB HB.size HQ
        clear HB
        have HB := HB9
        clear HB9
        have hsl : (str l).size ≤ 140737488351232 := by omega
        go_wp2_with (first | (go_at_call 34; (with_reducible refine (sum_any _ _ hsl).mono ?_); rintro e w2 ⟨rfl, hd⟩; (first | replace HB := bt HB HB.size hd | replace HB := bt_drew HB HB.size hd | replace HB := bt_drewN HB HB.size hd); clear hd) | (go_at_call 34; (with_reducible refine (sum_any _ _ hs).mono ?_); rintro e w2 ⟨rfl, hd⟩; (first | replace HB := bt HB HB.size hd | replace HB := bt_drew HB HB.size hd | replace HB := bt_drewN HB HB.size hd); clear hd))
        go_ret
        exact ⟨rfl, HB⟩
end Go.Proofs.Ytdjgdhpncocahaa.CrcL
