/- The laws of chapter 4 walked. -/
import Derived.Test.YtmlemichkeomjaaCrcRef
set_option linter.unusedVariables false
set_option linter.unusedSimpArgs false
namespace Go.Proofs.Ytmlemichkeomjaa.CrcL
open Go.RowKit Go.Proofs.Ytmlemichkeomjaa.Base Go.Proofs.Ytmlemichkeomjaa.CrcP Go.Proofs.Ytmlemichkeomjaa.CrcW Go.Proofs.Ytmlemichkeomjaa.CrcR

theorem run_index_tab (w : World) (x : Nat) (h : x < 256) : (Instr.index 190 (.agg tabv) (.int .u8 (x : Int))).run Try.prog w = .ok (.int .u32 ((sts 8 x : Nat) : Int)) w := by
  unfold Instr.index
  simp [run_underlying Try.underlying190, asIntOf]
  rw [if_pos h]
  simp [part, isAgg, run_underlying Try.underlying72, tabv_get x h]
theorem lt_u8 {x : Nat} (h : x < 256) : x < 4294967296 := by omega
end Go.Proofs.Ytmlemichkeomjaa.CrcL
