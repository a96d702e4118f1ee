/- The laws CrcOpens, CrcCuts of chapter 4 walked. -/
import Derived.Test.YtmlemichkeomjaaCrcLaw1
set_option linter.unusedVariables false
set_option linter.unusedSimpArgs false
namespace Go.Proofs.Ytmlemichkeomjaa.CrcL
open Go.RowKit Go.Proofs.Ytmlemichkeomjaa.Base Go.Proofs.Ytmlemichkeomjaa.CrcP Go.Proofs.Ytmlemichkeomjaa.CrcW Go.Proofs.Ytmlemichkeomjaa.CrcR

theorem opened_sealed (l : List UInt8) : opened (sealed l) = (l, 0) := by
  unfold opened sealed
  have h : (l ++ four (crc l)).length = l.length + 4 := by rw [List.length_append, four_length]
  rw [h, if_neg (by omega), Nat.add_sub_cancel, List.take_left, List.drop_left, if_pos rfl]
theorem open_sealed (s : ByteArray) (w : World) (hs : s.size ≤ 140737488350000) :
    Calls Try.prog 116 #[.string (str (sealed s.data.toList))] w fun e w' => e = .returned (.tuple #[.string s, .int .i64 0]) ∧ Below w.heap.size w w' := by
  have h := open_any (str (sealed s.data.toList)) w (by rw [str_size, sealed, List.length_append, four_length, list_size]; omega)
  rw [str_list, opened_sealed] at h
  exact h
theorem seal_sealed (s : ByteArray) (w : World) (hs : s.size ≤ 140737488350000) :
    Calls Try.prog 114 #[.string (str (sealed s.data.toList))] w fun e w' => e = .returned (.string (str (sealed (sealed s.data.toList)))) ∧ Below w.heap.size w w' := by
  have h := seal_any (str (sealed s.data.toList)) w (by rw [str_size, sealed, List.length_append, four_length, list_size]; omega)
  rw [str_list] at h
  exact h
theorem open_sealed2 (s : ByteArray) (w : World) (hs : s.size ≤ 140737488340000) :
    Calls Try.prog 116 #[.string (str (sealed (sealed s.data.toList)))] w fun e w' => e = .returned (.tuple #[.string (str (sealed s.data.toList)), .int .i64 0]) ∧ Below w.heap.size w w' :=
  open_sealed (str (sealed s.data.toList)) w (by rw [str_size, sealed, List.length_append, four_length, list_size]; omega)

theorem cut_more (l : List UInt8) (k : Nat) : more (crc (l.take k)) (l.drop k) = crc l := by
  have := more_append 0 (l.take k) (l.drop k)
  rw [List.take_append_drop] at this
  exact this
end Go.Proofs.Ytmlemichkeomjaa.CrcL
