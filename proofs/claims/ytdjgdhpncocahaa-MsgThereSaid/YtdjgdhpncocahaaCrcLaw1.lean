/- The laws of chapter 4 walked. -/
import Derived.Test.YtdjgdhpncocahaaCrcRef
set_option linter.unusedVariables false
set_option linter.unusedSimpArgs false
namespace Go.Proofs.Ytdjgdhpncocahaa.CrcL
open Go.RowKit Go.Proofs.Ytdjgdhpncocahaa.Base Go.Proofs.Ytdjgdhpncocahaa.CrcP Go.Proofs.Ytdjgdhpncocahaa.CrcW Go.Proofs.Ytdjgdhpncocahaa.CrcR

theorem run_index_tab (w : World) (x : Nat) (h : x < 256) : (Instr.index 48 (.agg tabv) (.int .u8 (x : Int))).run Try.prog w = .ok (.int .u32 ((sts 8 x : Nat) : Int)) w := by
  unfold Instr.index
  simp [run_underlying Try.underlying48, asIntOf]
  rw [if_pos h]
  simp [part, isAgg, run_underlying Try.underlying43, tabv_get x h]
set_option maxRecDepth 100000 in
set_option maxHeartbeats 400000 in
theorem plays_big (s t : ByteArray) (x : Nat) (w : World) (h : 3000 < s.size ∨ 3000 < t.size) (hs : s.size ≤ 140737488351232) (ht : t.size ≤ 140737488351232) :
    Calls Try.prog 6 #[.string s, .string t, .int .u8 x] w fun e w' => e = .returned (.bool true) ∧ Below w.heap.size w w' := by
  have HB : Below w.heap.size w w := Below.refl _ _
  by_cases h1 : 3000 < s.size
  · clear h
    go_enter Try.func6, Try.ntmps6
    go_wp2_with (go_at_call 33; (with_reducible refine (awake_any _).mono ?_); rintro e w2 ⟨rfl, hd⟩; (first | replace HB := bt HB HB.size hd | replace HB := bt_drew HB HB.size hd | replace HB := bt_drewN HB HB.size hd); clear hd)
    all_goals (go_ret; exact ⟨rfl, HB⟩)
  · have h2 : 3000 < t.size := by omega
    clear h
    go_enter Try.func6, Try.ntmps6
    go_wp2_with (go_at_call 33; (with_reducible refine (awake_any _).mono ?_); rintro e w2 ⟨rfl, hd⟩; (first | replace HB := bt HB HB.size hd | replace HB := bt_drew HB HB.size hd | replace HB := bt_drewN HB HB.size hd); clear hd)
    all_goals (go_ret; exact ⟨rfl, HB⟩)
theorem lt_u8 {x : Nat} (h : x < 256) : x < 4294967296 := by omega
set_option maxRecDepth 100000 in
set_option maxHeartbeats 1000000 in
theorem plays_any (s t : ByteArray) (x : Nat) (w : World) (hs : s.size ≤ 140737488351232) (ht : t.size ≤ 140737488351232) (hx : x ≤ 255) :
    Calls Try.prog 6 #[.string s, .string t, .int .u8 x] w fun e w' => e = .returned (.bool true) ∧ Below w.heap.size w w' := by
  by_cases hb : 3000 < s.size ∨ 3000 < t.size
  · exact plays_big s t x w hb hs ht
  · have hs1 : ¬ 3000 < s.size := by omega
    have ht1 : ¬ 3000 < t.size := by omega
    clear hb
    have HB : Below w.heap.size w w := Below.refl _ _
    have hc := crc_lt s.data.toList
    have hc2 := crc_lt (s ++ t).data.toList
    have hm := more_lt t.data.toList hc
    have hst : (s ++ t).size ≤ 140737488351232 := by rw [ByteArray.size_append]; omega
    have hst2 : s.size + t.size ≤ 9223372036854775807 := by omega
    have hcz := crc_lt (s.data.toList ++ t.data.toList)
    have f1 : (((crc s.data.toList : Nat) : Int) == ((crc s.data.toList : Nat) : Int)) = true := by simp
    have f2 : (((more (crc s.data.toList) t.data.toList : Nat) : Int) == ((crc (s.data.toList ++ t.data.toList) : Nat) : Int)) = true := by
      have := more_append 0 s.data.toList t.data.toList
      have e2 : more (crc s.data.toList) t.data.toList = crc (s.data.toList ++ t.data.toList) := this
      rw [e2]; simp
    have hx2 : x < 256 := by omega
    have hx3 := lt_u8 hx2
    have hsx := sts_lt 8 hx3
    have hi := fun wx => run_index_tab wx x hx2
    go_enter Try.func6, Try.ntmps6
    have v1 : IntKind.i64.wrap ((crc s.data.toList : Nat) : Int) = ((crc s.data.toList : Nat) : Int) := IntWalk.i64_in _ (by omega)
    have v2 : IntKind.i64.wrap ((more (crc s.data.toList) t.data.toList : Nat) : Int) = ((more (crc s.data.toList) t.data.toList : Nat) : Int) := IntWalk.i64_in _ (by omega)
    have v3 : IntKind.i64.wrap ((sts 8 x : Nat) : Int) = ((sts 8 x : Nat) : Int) := IntWalk.i64_in _ (by omega)
    have v4 : IntKind.i64.wrap (x : Int) = (x : Int) := IntWalk.i64_in _ (by omega)
    go_upto_region 3 with (go_at_call 33; (with_reducible refine (awake_any _).mono ?_); rintro e w2 ⟨rfl, hd⟩; (first | replace HB := bt HB HB.size hd | replace HB := bt_drew HB HB.size hd | replace HB := bt_drewN HB HB.size hd); clear hd)
    (refine wp_region_quiet_below (by kernel_rfl) (by kernel_rfl) ?_; (repeat (go_big_quiet_step ((first | (go_at_call 34; exact Calls.regrown_of (sum_any _ _ (by assumption))) | (go_at_call 36; exact Calls.regrown_of (more_any _ _ _ (by assumption) (by assumption))) | (go_at_call 37; exact Calls.regrown_of (table_any _)) | (go_at_call 35; exact Calls.regrown_of ((rsum _ _ (by assumption)).mono fun _ _ h => ⟨h.1, h.2 ▸ Below.refl _ _⟩)) | (go_at_call 38; exact Calls.regrown_of ((rsteps _ _ (by assumption)).mono fun _ _ h => ⟨h.1, h.2 ▸ Below.refl _ _⟩)))))); refine wpQuiet_nil ?_; intro wq hw'; have HQ := below_of_regrown hw'; clear hw')
    go_wp2
    go_ret
    exact ⟨rfl, bt HB HB.size HQ⟩
end Go.Proofs.Ytdjgdhpncocahaa.CrcL
