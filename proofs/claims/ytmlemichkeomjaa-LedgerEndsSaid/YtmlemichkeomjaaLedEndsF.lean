/- stooklaw20.LedgerEnds, whole. -/
import Derived.Test.YtmlemichkeomjaaLedEnds
set_option linter.unusedVariables false
namespace Go.Proofs.Ytmlemichkeomjaa.LedW
open Go.RowKit Go.Proofs.Ytmlemichkeomjaa.Base Go.Proofs.Ytmlemichkeomjaa.MendW Go.Proofs.Ytmlemichkeomjaa.ManP Go.Proofs.Ytmlemichkeomjaa.ManW Go.Proofs.Ytmlemichkeomjaa.LedP
theorem ends_any (t p n eb : Nat) (A : Option Addr) (n1 c1 : Nat) (rs : List LR) (vs : Nat → MV) (B : Option Addr) (n2 c2 : Nat) (qs : List LR) (us : Nat → MV) (w : World) (ht : t ≤ 255) (hp : p ≤ 255) (hn : n ≤ 255) (heb : eb ≤ 255) (hR : RecsV w A rs vs) (hl1 : rs.length = n1) (hn1 : n1 ≤ maxLen) (hQ : RecsV w B qs us) (hl2 : qs.length = n2) (hn2 : n2 ≤ maxLen) :
    Calls Try.prog 6 #[.int .u8 (t : Nat), .int .u8 (p : Nat), .int .u8 (n : Nat), .slice A n1 c1, .slice B n2 c2, .int .u8 (eb : Nat)] w fun e w' => e = .returned (.bool true) ∧ Below w.heap.size w w' := by
  by_cases hg : (1 ≤ t ∧ t ≤ 16) ∧ (1 ≤ p ∧ p ≤ 16) ∧ (1 ≤ n ∧ n ≤ 16)
  · exact ends_good t p n eb A n1 c1 rs vs B n2 c2 qs us w hR hl1 hn1 hQ hl2 hn2 heb hg.1 hg.2.1 hg.2.2
  · exact ends_bad t p n eb A n1 c1 rs vs B n2 c2 qs us w hR hl1 hn1 hQ hl2 hn2 heb ht hp hn (by omega)
end Go.Proofs.Ytmlemichkeomjaa.LedW
