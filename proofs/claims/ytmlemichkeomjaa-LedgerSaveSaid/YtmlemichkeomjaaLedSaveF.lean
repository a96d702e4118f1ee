/- stooklaw20.LedgerSave, whole. -/
import Derived.Test.YtmlemichkeomjaaLedSave
set_option linter.unusedVariables false
namespace Go.Proofs.Ytmlemichkeomjaa.LedW
open Go.RowKit Go.Proofs.Ytmlemichkeomjaa.Base Go.Proofs.Ytmlemichkeomjaa.MendW Go.Proofs.Ytmlemichkeomjaa.ManP Go.Proofs.Ytmlemichkeomjaa.ManW Go.Proofs.Ytmlemichkeomjaa.LedP
theorem savelaw_any (t p n : Nat) (A : Option Addr) (n1 c1 : Nat) (rs : List LR) (vs : Nat → MV) (w : World) (ht : t ≤ 255) (hp : p ≤ 255) (hn : n ≤ 255) (hR : RecsV w A rs vs) (hl1 : rs.length = n1) (hn1 : n1 ≤ maxLen) :
    Calls Try.prog 10 #[.int .u8 (t : Nat), .int .u8 (p : Nat), .int .u8 (n : Nat), .slice A n1 c1] w fun e w' => e = .returned (.bool true) ∧ Below w.heap.size w w' := by
  by_cases hg : (1 ≤ t ∧ t ≤ 16) ∧ (1 ≤ p ∧ p ≤ 16) ∧ (1 ≤ n ∧ n ≤ 16)
  · exact save_good t p n A n1 c1 rs vs w hR hl1 hn1 hg.1 hg.2.1 hg.2.2
  · exact save_bad t p n A n1 c1 rs vs w hR hl1 hn1 ht hp hn (by omega)
end Go.Proofs.Ytmlemichkeomjaa.LedW
