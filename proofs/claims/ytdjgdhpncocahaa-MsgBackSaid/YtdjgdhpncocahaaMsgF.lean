/- A sealed text with one byte changed does not open. -/
import Derived.Test.YtdjgdhpncocahaaMsgL
import Derived.Test.YtdjgdhpncocahaaCrcBurst
set_option linter.unusedVariables false
set_option linter.unusedSimpArgs false
namespace Go.Proofs.Ytdjgdhpncocahaa.MsgW
open Go.RowKit Go.Proofs.Ytdjgdhpncocahaa.Base Go.Proofs.Ytdjgdhpncocahaa.CrcP Go.Proofs.Ytdjgdhpncocahaa.CrcW Go.Proofs.Ytdjgdhpncocahaa.CrcL
theorem xor_ne {a v : UInt8} (h : v ≠ 0) : a ^^^ v ≠ a := by
  intro e
  apply h
  have e2 : a ^^^ (a ^^^ v) = a ^^^ a := by rw [e]
  rw [← UInt8.xor_assoc, UInt8.xor_self, UInt8.zero_xor] at e2
  exact e2
theorem set_ne {α : Type} {l : List α} {j : Nat} {x : α} (hj : j < l.length) (h : x ≠ l[j]) : l.set j x ≠ l := by
  intro e
  have e2 : (l.set j x)[j]? = l[j]? := by rw [e]
  rw [List.getElem?_set_self hj, List.getElem?_eq_getElem hj] at e2
  exact h (Option.some.inj e2)
theorem opened_two (a q : List UInt8) (hq : q.length = 4) (h : q ≠ four (crc a)) : opened (a ++ q) = ([], 7) := by
  unfold opened
  have hl : (a ++ q).length = a.length + 4 := by rw [List.length_append, hq]
  rw [hl, if_neg (by omega), Nat.add_sub_cancel, List.take_left, List.drop_left, if_neg h]
theorem flip_opened (l : List UInt8) (j : Nat) (v : UInt8) (hv : v ≠ 0) (hj : j < (sealed l).length) : opened ((sealed l).set j ((sealed l)[j] ^^^ v)) = ([], 7) := by
  have hl : (sealed l).length = l.length + 4 := by rw [sealed, List.length_append, four_length]
  rcases Nat.lt_or_ge j l.length with h | h
  · have e1 : (sealed l)[j] = l[j] := List.getElem_append_left h
    have e2 : (sealed l).set j ((sealed l)[j] ^^^ v) = l.set j (l[j] ^^^ v) ++ four (crc l) := by
      rw [e1]
      show (l ++ four (crc l)).set j _ = _
      rw [List.set_append, if_pos h]
    rw [e2]
    refine opened_two _ _ (four_length _) fun e => ?_
    have hb := v.toNat_lt
    refine crc_burst l (l.set j (l[j] ^^^ v)) (8 * j) v.toNat (List.length_set ..).symm (by omega) (by omega) (whole_set l j v h) (set_ne h (xor_ne hv)) ?_
    exact (four_inj (crc_lt _) (crc_lt _) e).symm
  · have hj2 : j - l.length < (four (crc l)).length := by rw [four_length]; omega
    have e1 : (sealed l)[j] = (four (crc l))[j - l.length] := List.getElem_append_right h
    have e2 : (sealed l).set j ((sealed l)[j] ^^^ v) = l ++ (four (crc l)).set (j - l.length) ((four (crc l))[j - l.length] ^^^ v) := by
      rw [e1]
      show (l ++ four (crc l)).set j _ = _
      rw [List.set_append, if_neg (by omega)]
    rw [e2]
    exact opened_two _ _ (by rw [List.length_set, four_length]) (set_ne hj2 (xor_ne hv))
theorem sealed_len (l : List UInt8) : (sealed l).length = l.length + 4 := by rw [sealed, List.length_append, four_length]
end Go.Proofs.Ytdjgdhpncocahaa.MsgW
