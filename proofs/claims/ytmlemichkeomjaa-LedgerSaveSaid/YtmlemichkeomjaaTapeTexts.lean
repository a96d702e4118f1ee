/- tape.Texts answers the bytes of texts. -/
import Derived.Test.YtmlemichkeomjaaM6
import Derived.Test.YtmlemichkeomjaaBuild
import Derived.Test.YtmlemichkeomjaaM1
set_option linter.unusedVariables false
set_option linter.unusedSimpArgs false
namespace Go.Proofs.Ytmlemichkeomjaa.TapeW
open Go.RowKit Go.Proofs.Ytmlemichkeomjaa.Base Go.Proofs.Ytmlemichkeomjaa.TapeP Go.Proofs.Ytmlemichkeomjaa.BuildW

/-- The texts one behind the other. -/
def laid : List ByteArray → List UInt8
  | [] => []
  | s :: l => text s.data.toList ++ laid l
def texts (l : List ByteArray) : List UInt8 := num l.length ++ laid l
theorem laid_append (l m : List ByteArray) : laid (l ++ m) = laid l ++ laid m := by
  induction l with
  | nil => rfl
  | cons s l ih => show text _ ++ laid (l ++ m) = (text _ ++ laid l) ++ laid m; rw [ih, List.append_assoc]
theorem text_length (s : ByteArray) (h : s.size ≤ 9007199254740991) : (text s.data.toList).length ≤ s.size + 8 := by
  unfold text
  rw [List.length_append, list_size]
  have := num_length 7 s.size (by omega)
  omega
theorem laid_length (l : List ByteArray) (h : total l ≤ 9007199254740991) : (laid l).length ≤ total l + 8 * l.length := by
  induction l with
  | nil => exact Nat.zero_le _
  | cons s l ih =>
    have h0 : total (s :: l) = s.size + total l := rfl
    have h1 := text_length s (by omega)
    have h2 := ih (by omega)
    show (text _ ++ laid l).length ≤ s.size + total l + 8 * (l.length + 1)
    rw [List.length_append]
    omega

end Go.Proofs.Ytmlemichkeomjaa.TapeW
