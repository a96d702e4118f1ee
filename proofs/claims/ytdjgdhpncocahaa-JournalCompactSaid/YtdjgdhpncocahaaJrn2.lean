/- Journals read, opened, appended to, laid down: walked. -/
import Derived.Test.YtdjgdhpncocahaaJrn
import Derived.Test.YtdjgdhpncocahaaBuild0
set_option linter.unusedVariables false
set_option linter.unusedSimpArgs false
namespace Go.Proofs.Ytdjgdhpncocahaa.JrnW
open Go.RowKit Go.Proofs.Ytdjgdhpncocahaa.Base Go.Proofs.Ytdjgdhpncocahaa.TapeP Go.Proofs.Ytdjgdhpncocahaa.TapeW Go.Proofs.Ytdjgdhpncocahaa.CrcP Go.Proofs.Ytdjgdhpncocahaa.CrcW Go.Proofs.Ytdjgdhpncocahaa.JrnP Go.Proofs.Ytdjgdhpncocahaa.BuildW

/-- Strings as values. -/
def sv (ss : List ByteArray) : List Value := ss.map Value.string
theorem sv_length (ss : List ByteArray) : (sv ss).length = ss.length := by simp [sv]
theorem sv_append (l m : List ByteArray) : sv (l ++ m) = sv l ++ sv m := by simp [sv]
theorem info_str : (Try.prog.info? 9).map (fun i => (i.zero, i.size, i.bytes)) = some (some (.string (str [])), 1, 16) := by kernel_rfl
/-- What is owned is read. -/
theorem own_strs {w : World} {base e n : Nat} {v : Value} {ss : List ByteArray} (h : w.ownsRow base e 1 v n (sv ss)) : ∃ A c, v = .slice A n c ∧ Strs w A n ss := by
  have hl : ss.length = n := by have := h.1; rw [sv_length] at this; omega
  rcases h.2 with ⟨rfl, h0⟩ | ⟨g, cap, cur, rfl, _⟩
  · have : ss = [] := List.eq_nil_of_length_eq_zero (by omega)
    subst this
    exact ⟨none, 0, by rw [h0], by rw [h0]; exact Strs.nil _ _⟩
  · refine ⟨_, cap, rfl, hl, ?_⟩
    by_cases h0 : n = 0
    · exact .inl h0
    · refine .inr ⟨g, 0, rfl, fun j hj => ?_⟩
      have hc := h.cells (g := g) rfl j (.string ss[j]) (by simp [sv, hj])
      have ha : (⟨g, 0, none⟩ : Addr).add j = ⟨g, 0 + j, none⟩ := by unfold Addr.add; split <;> simp_all
      rw [ha] at hc
      exact hc
theorem map_snoc (l : List (List UInt8)) (x : List UInt8) : sv ((l ++ [x]).map str) = sv (l.map str) ++ [Value.string (str x)] := by simp [sv]

set_option maxRecDepth 100000 in
set_option maxHeartbeats 1000000 in
theorem read_any (s : ByteArray) (w : World) (hs : s.size ≤ 1000000000) :
    Calls Try.prog 57 #[.string s] w fun e w' => ∃ v, e = .returned (.tuple #[v, .int .i64 ((recs s.data.toList).2 : Nat)]) ∧ w'.ownsRow w.heap.size 9 1 v (recs s.data.toList).1.length (sv ((recs s.data.toList).1.map str)) ∧ Below w.heap.size w w' := by
  go_enter Try.func57, Try.ntmps57
  go_wp2
  refine wp_scope_loop 0 (fun a' wr => ∃ (p : Nat) (acc : List (List UInt8)) (v : Value) (u1 u6 u7 u8 u9 u10 u11 u12 u13 u14 u15 u16 u17 u18 u19 u20 u21 u22 u23 u24 u25 : Value), p ≤ s.size ∧ recs s.data.toList = (acc ++ (recs (s.data.toList.drop p)).1, p + (recs (s.data.toList.drop p)).2) ∧ acc.length ≤ p ∧ wr.ownsRow w.heap.size 9 1 v acc.length (sv (acc.map str)) ∧ Below w.heap.size w wr ∧ a' = { tmps := #[.string s, u1, .slice none 0 0, .int .i64 0, v, .int .i64 p, u6, u7, u8, u9, u10, u11, u12, u13, u14, u15, u16, u17, u18, u19, u20, u21, u22, u23, u24, u25], defers := [] }) (fun a' _ => s.size - (intOf (a'.tmps.getD 5 undef)).toNat) rfl ?_ ?_
  · intro hloop
    go_wp2
    go_step3
    go_step
    go_step
    exact hloop _ _ ⟨0, [], _, _, _, _, _, _, _, _, _, _, _, _, _, _, _, _, _, _, _, _, _, _, by omega, by rw [List.drop_zero, List.nil_append, Nat.zero_add], by simp, own_none _ _ _ _, Below.refl _ _, rfl⟩
  · rintro a' wr ⟨p, acc, v, u1, u6, u7, u8, u9, u10, u11, u12, u13, u14, u15, u16, u17, u18, u19, u20, u21, u22, u23, u24, u25, hp, hrec, hlen, HO, HB, rfl⟩
    have hex : (s.extract p s.size).data.toList = s.data.toList.drop p := by rw [extract_str, str_list, List.take_of_length_le (by rw [list_size]; exact Nat.le_refl _)]
    have hes : (s.extract p s.size).size ≤ 140737488351232 := extract_le _ _ (by omega)
    have hon := one_any (s.extract p s.size) wr hes
    rw [hex] at hon
    have hole := one1_le (s.data.toList.drop p)
    rw [List.length_drop, list_size] at hole
    by_cases h0 : (one1 (s.data.toList.drop p)).2 = 0
    · rw [recs_none h0] at hrec
      rw [h0] at hon
      have HR := Lib.hid hrec
      have HN := Lib.hid hon
      clear hrec hon h0 hole hex
      go_wp2_with fail
      refine HN.out.mono ?_
      rintro e w2 ⟨rfl, hd⟩
      replace HO := own_below HO hd
      (first | replace HB := bt HB HB.size hd | replace HB := bt_drew HB HB.size hd | replace HB := bt_drewN HB HB.size hd); clear hd
      go_wp2
      all_goals simp only [Exit.jump]
      go_ret2
      refine ⟨_, by rw [HR.out]; rfl, ?_, HB⟩
      rw [HR.out, List.append_nil]
      exact HO
    · have hpos : 0 < (one1 (s.data.toList.drop p)).2 := by omega
      have hnx : recs s.data.toList = ((acc ++ [(one1 (s.data.toList.drop p)).1]) ++ (recs (s.data.toList.drop (p + (one1 (s.data.toList.drop p)).2))).1, (p + (one1 (s.data.toList.drop p)).2) + (recs (s.data.toList.drop (p + (one1 (s.data.toList.drop p)).2))).2) := by
        rw [hrec, recs_some h0, List.drop_drop, List.append_assoc, Nat.add_assoc]
        rfl
      generalize one1 (s.data.toList.drop p) = o at hon hnx hpos hole h0
      obtain ⟨x, k⟩ := o
      dsimp only at hon hnx hpos hole h0
      have HR := Lib.hid hnx
      have HN := Lib.hid hon
      clear hrec hon h0 hex hnx
      go_wp2_with fail
      refine HN.out.mono ?_
      rintro e w2 ⟨rfl, hd⟩
      replace HO := own_below HO hd
      (first | replace HB := bt HB HB.size hd | replace HB := bt_drew HB HB.size hd | replace HB := bt_drewN HB HB.size hd); clear hd
      have hl2 : (sv (acc.map str)).length = acc.length := by rw [sv_length, List.length_map]
      have HL2 := Lib.hid hl2
      clear hl2 HN
      go_wp2_with (at_builtin; refine app_one w.heap.size rfl (.tmp 17) (.tmp 19) 26 9 (.string (str [])) 16 rfl Try.underlying26 info_str rfl (by omega) _ _ _ acc.length HL2.out rfl rfl rfl HO HB HB.size (by omega) ?_; intro v1 w3 HO1 HB1 hg1)
      go_step3
      refine ⟨rfl, ⟨p + k, acc ++ [x], _, _, _, _, _, _, _, _, _, _, _, _, _, _, _, _, _, _, _, _, _, _, by omega, HR.out, by rw [List.length_append]; simp only [List.length_cons, List.length_nil]; omega, by rw [map_snoc, List.length_append]; exact HO1, HB1, rfl⟩, ?_⟩
      simp [intOf]; omega
end Go.Proofs.Ytdjgdhpncocahaa.JrnW
