/- The sizes of texts, each counted up to a bound. -/
import Derived.Test.YtdjgdhpncocahaaStrs
set_option linter.unusedVariables false
set_option linter.unusedSimpArgs false
namespace Go.Proofs.Ytdjgdhpncocahaa.Base
open Go.RowKit

theorem cell_old {w : World} {a : Addr} {v : Value} (o : Obj) (h : w.cell? a = some v) : (w.alloc o).cell? a = some v := cell_below ((Below.refl w.heap.size w).alloc (Nat.le_refl _) o) h
/-- So many bytes, each text's no more than so many. -/
def summed : List ByteArray → Nat
  | [] => 0
  | s :: l => min s.size 100000 + summed l
theorem summed_append (l m : List ByteArray) : summed (l ++ m) = summed l + summed m := by
  induction l with
  | nil => show summed m = 0 + summed m; omega
  | cons s l ih => show min s.size 100000 + summed (l ++ m) = min s.size 100000 + summed l + summed m; omega
theorem summed_le (l : List ByteArray) : summed l ≤ 100000 * l.length := by
  induction l with
  | nil => exact Nat.zero_le _
  | cons s l ih => show min s.size 100000 + summed l ≤ 100000 * (l.length + 1); omega
theorem summed_total (l : List ByteArray) (h : summed l ≤ 3000) : total l = summed l := by
  induction l with
  | nil => rfl
  | cons s l ih =>
    have h0 : min s.size 100000 + summed l ≤ 3000 := h
    show s.size + total l = min s.size 100000 + summed l
    rw [ih (by omega)]
    omega
end Go.Proofs.Ytdjgdhpncocahaa.Base
