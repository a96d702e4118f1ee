/- A text cut into so many parts, plain. -/
import Derived.Test.YtmlemichkeomjaaJoin
import Derived.Test.YtmlemichkeomjaaM5
set_option linter.unusedVariables false
set_option linter.unusedSimpArgs false
namespace Go.Proofs.Ytmlemichkeomjaa.CodP
open Go.Proofs.Ytmlemichkeomjaa Go.Proofs.Ytmlemichkeomjaa.Base Go.Proofs.Ytmlemichkeomjaa.Lin Go.Proofs.Ytmlemichkeomjaa.RowsW Go.Proofs.Ytmlemichkeomjaa.BuildW

/-- How long the parts are. -/
def cutL (k z : Nat) : Nat := (z + k - 1) / k
theorem cutL_ge {k z : Nat} (hk : 1 ≤ k) : z ≤ cutL k z * k := by
  unfold cutL
  have h := Nat.div_add_mod (z + k - 1) k
  have h2 := Nat.mod_lt (z + k - 1) (show 0 < k by omega)
  rw [Nat.mul_comm] at h
  omega
theorem cutL_lt {k z : Nat} (hk : 1 ≤ k) : cutL k z * k < z + k := by
  unfold cutL
  have h := Nat.div_mul_le_self (z + k - 1) k
  omega
theorem cutL_le {k z : Nat} (hk : 1 ≤ k) : cutL k z ≤ z := by
  have h := cutL_lt (z := z) hk
  rcases Nat.lt_or_ge z (cutL k z) with h1 | h1
  · have h2 : (z + 1) * k ≤ cutL k z * k := Nat.mul_le_mul_right _ h1
    rw [Nat.succ_mul] at h2
    have h3 : z * 1 ≤ z * k := Nat.mul_le_mul_left _ hk
    omega
  · exact h1
def padL (k : Nat) (s : ByteArray) : List UInt8 := s.data.toList ++ List.replicate (cutL k s.size * k - s.size) 0
theorem padL_length {k : Nat} (hk : 1 ≤ k) (s : ByteArray) : (padL k s).length = cutL k s.size * k := by
  unfold padL
  rw [List.length_append, list_size, List.length_replicate]
  have := cutL_ge (z := s.size) hk
  omega
theorem padL_take (k : Nat) (s : ByteArray) : (padL k s).take s.size = s.data.toList := by
  unfold padL
  rw [List.take_append_of_le_length (by rw [list_size]; omega), List.take_of_length_le (by rw [list_size]; omega)]
def part (k : Nat) (s : ByteArray) (i : Nat) : ByteArray := str (((padL k s).take ((i + 1) * cutL k s.size)).drop (i * cutL k s.size))
def parts (j k : Nat) (s : ByteArray) : List ByteArray := (List.range j).map (part k s)
theorem parts_length (j k : Nat) (s : ByteArray) : (parts j k s).length = j := by simp [parts]
theorem parts_succ (j k : Nat) (s : ByteArray) : parts (j + 1) k s = parts j k s ++ [part k s j] := by
  unfold parts
  rw [List.range_succ]
  simp
theorem parts_getElem (j k : Nat) (s : ByteArray) (i : Nat) (h : i < (parts j k s).length) : (parts j k s)[i] = part k s i := by simp [parts]
theorem part_size {k : Nat} (hk : 1 ≤ k) (s : ByteArray) (i : Nat) (hi : i < k) : (part k s i).size = cutL k s.size := by
  unfold part
  rw [str_size, List.length_drop, List.length_take, padL_length hk]
  have h : (i + 1) * cutL k s.size ≤ cutL k s.size * k := by rw [Nat.mul_comm _ k]; exact Nat.mul_le_mul_right _ hi
  rw [Nat.min_eq_left h, Nat.succ_mul]
  omega
theorem parts_size {k : Nat} (hk : 1 ≤ k) (s : ByteArray) : ∀ i (h : i < (parts k k s).length), (parts k k s)[i].size = cutL k s.size := fun i h => by
  rw [parts_getElem, part_size hk s i (by rw [parts_length] at h; exact h)]
theorem flat_parts (k : Nat) (s : ByteArray) : ∀ j, flat (parts j k s) = (padL k s).take (j * cutL k s.size)
  | 0 => by rw [Nat.zero_mul, List.take_zero]; rfl
  | j + 1 => by
    rw [parts_succ, flat_append, flat_parts k s j]
    show _ ++ ((part k s j).data.toList ++ []) = _
    rw [List.append_nil, part, str_list]
    have h : (padL k s).take (j * cutL k s.size) = ((padL k s).take ((j + 1) * cutL k s.size)).take (j * cutL k s.size) := by
      rw [List.take_take, Nat.min_eq_left (Nat.mul_le_mul_right _ (Nat.le_succ j))]
    rw [h, List.take_append_drop]
theorem flat_whole {k : Nat} (hk : 1 ≤ k) (s : ByteArray) : flat (parts k k s) = padL k s := by
  rw [flat_parts, List.take_of_length_le (by rw [padL_length hk, Nat.mul_comm]; exact Nat.le_refl _)]
theorem flat_back {k : Nat} (hk : 1 ≤ k) (s : ByteArray) : (flat (parts k k s)).take s.size = s.data.toList := by
  rw [flat_whole hk, padL_take]
/-- The pieces of a text. -/
def pcs (k n : Nat) (G : M) (s : ByteArray) : List ByteArray := txs n (cutL k s.size) (mm k G (tx (parts k k s)))
theorem pcs_length (k n : Nat) (G : M) (s : ByteArray) : (pcs k n G s).length = n := txs_length _ _ _
theorem pcs_size (k n : Nat) (G : M) (s : ByteArray) : ∀ i (h : i < (pcs k n G s).length), (pcs k n G s)[i].size = cutL k s.size := txs_size _ _ _
end Go.Proofs.Ytmlemichkeomjaa.CodP
