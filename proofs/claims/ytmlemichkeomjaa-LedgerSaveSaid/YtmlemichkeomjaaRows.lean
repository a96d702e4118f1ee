/-
  No cell of these rows narrows 'for every input' (looked for: loops, veiled, ifaces, maps, wideKeys, modest, calm, conditions, laid).
  DERIVED. THE GIVEN ROWS OF THIS SEAT. 8 by the template 'for every input the law returns true; each argument reads behind the call as it read before'; 0 by the template 'total and deterministic' (their statements: YtmlemichkeomjaaTotals.lean).
  GIVEN WITH THE SEED: the statements are not yours to turn. If you find one false, say at which input.
  Laid BY PROGRAM, IN A SANDBOX (cutbox-rows.mjs): the forced cells as the released guide's own fill.sh prints them over the translation c528fc1f2e0fd634… (all of the seat's roots in one cut). By AI agents, Wed Nov 11 2026. No macro, syntax, notation, axiom, sorry.
-/
import Derived.Test.YtmlemichkeomjaaChecked
import GoSem.Claim
import GoSem.ClaimJoined
import GoSem.ClaimMapViews
import Derived.JoinedTies
import Derived.KernelRfl
namespace Go.Proofs.Ytmlemichkeomjaa
/- THE CELL 'sum', in the pinned program and in every row, IS THE sha256 OF THE DUMP (.gsa) THAT YtmlemichkeomjaaProg.lean LOADS. Nothing in Lean hashes anything: it is a label: what it is worth is what the hold of that sum in a sandbox is worth. -/
noncomputable def Try.pinned : Pinned := { name := "ytmlemichkeomjaa", sum := "c528fc1f2e0fd634d5d5c58fe1427864386d7b606c9d7a38cdb3e33fd9d12452", checked := Try.checked }
namespace Rows
def none {H : Type} : Left H := { results := [], args := [] }

/-- 'stooklaw16.StripeBack': WHATEVER THE INPUT: true; the input reads as it did. -/
def stripeBackSpec : ChangeSpec := { name := "stripeBack", fn := fun _ => fun
  | [d1, d2] => { results := [.lit (.bool true)], args := [d1, d2] }
  | _ => none }
def stripeBackRow : OpenClaim := { program := "ytmlemichkeomjaa", sum := "c528fc1f2e0fd634d5d5c58fe1427864386d7b606c9d7a38cdb3e33fd9d12452", func := "stook/stooklaw16.StripeBack", spec := "stripeBack", inPlace := ["internal/abi.NoEscape", "internal/bytealg.MakeNoZero"], unfollowed := true, recurses := true, apart := false }
def StripeBackSaid : Prop := stripeBackRow.holds Try.pinned (OpenSpec.ofChange stripeBackSpec)

/-- ITS FALSE NEIGHBOUR: 'it returns false'. Refute it at one input. -/
def stripeBackWrong : ChangeSpec := { name := "stripeBack", fn := fun _ => fun
  | [d1, d2] => { results := [.lit (.bool false)], args := [d1, d2] }
  | _ => none }
def StripeBackWrongFalsely : Prop := stripeBackRow.holds Try.pinned (OpenSpec.ofChange stripeBackWrong)

/-- 'stooklaw20.LedgerPlays': WHATEVER THE INPUT: true; the input reads as it did. -/
def ledgerPlaysSpec : ChangeSpec := { name := "ledgerPlays", fn := fun _ => fun
  | [d1, d2, d3, d4] => { results := [.lit (.bool true)], args := [d1, d2, d3, d4] }
  | _ => none }
def ledgerPlaysRow : OpenClaim := { program := "ytmlemichkeomjaa", sum := "c528fc1f2e0fd634d5d5c58fe1427864386d7b606c9d7a38cdb3e33fd9d12452", func := "stook/stooklaw20.LedgerPlays", spec := "ledgerPlays", unfollowed := true, recurses := true, apart := false }
def LedgerPlaysSaid : Prop := ledgerPlaysRow.holds Try.pinned (OpenSpec.ofChange ledgerPlaysSpec)

/-- ITS FALSE NEIGHBOUR: 'it returns false'. Refute it at one input. -/
def ledgerPlaysWrong : ChangeSpec := { name := "ledgerPlays", fn := fun _ => fun
  | [d1, d2, d3, d4] => { results := [.lit (.bool false)], args := [d1, d2, d3, d4] }
  | _ => none }
def LedgerPlaysWrongFalsely : Prop := ledgerPlaysRow.holds Try.pinned (OpenSpec.ofChange ledgerPlaysWrong)

/-- 'stooklaw20.LedgerOnce': WHATEVER THE INPUT: true; the input reads as it did. -/
def ledgerOnceSpec : ChangeSpec := { name := "ledgerOnce", fn := fun _ => fun
  | [d1, d2, d3, d4] => { results := [.lit (.bool true)], args := [d1, d2, d3, d4] }
  | _ => none }
def ledgerOnceRow : OpenClaim := { program := "ytmlemichkeomjaa", sum := "c528fc1f2e0fd634d5d5c58fe1427864386d7b606c9d7a38cdb3e33fd9d12452", func := "stook/stooklaw20.LedgerOnce", spec := "ledgerOnce", unfollowed := true, recurses := true, apart := false }
def LedgerOnceSaid : Prop := ledgerOnceRow.holds Try.pinned (OpenSpec.ofChange ledgerOnceSpec)

/-- ITS FALSE NEIGHBOUR: 'it returns false'. Refute it at one input. -/
def ledgerOnceWrong : ChangeSpec := { name := "ledgerOnce", fn := fun _ => fun
  | [d1, d2, d3, d4] => { results := [.lit (.bool false)], args := [d1, d2, d3, d4] }
  | _ => none }
def LedgerOnceWrongFalsely : Prop := ledgerOnceRow.holds Try.pinned (OpenSpec.ofChange ledgerOnceWrong)

/-- 'stooklaw20.LedgerEnds': WHATEVER THE INPUT: true; the input reads as it did. -/
def ledgerEndsSpec : ChangeSpec := { name := "ledgerEnds", fn := fun _ => fun
  | [d1, d2, d3, d4, d5, d6] => { results := [.lit (.bool true)], args := [d1, d2, d3, d4, d5, d6] }
  | _ => none }
def ledgerEndsRow : OpenClaim := { program := "ytmlemichkeomjaa", sum := "c528fc1f2e0fd634d5d5c58fe1427864386d7b606c9d7a38cdb3e33fd9d12452", func := "stook/stooklaw20.LedgerEnds", spec := "ledgerEnds", unfollowed := true, recurses := true, apart := false }
def LedgerEndsSaid : Prop := ledgerEndsRow.holds Try.pinned (OpenSpec.ofChange ledgerEndsSpec)

/-- ITS FALSE NEIGHBOUR: 'it returns false'. Refute it at one input. -/
def ledgerEndsWrong : ChangeSpec := { name := "ledgerEnds", fn := fun _ => fun
  | [d1, d2, d3, d4, d5, d6] => { results := [.lit (.bool false)], args := [d1, d2, d3, d4, d5, d6] }
  | _ => none }
def LedgerEndsWrongFalsely : Prop := ledgerEndsRow.holds Try.pinned (OpenSpec.ofChange ledgerEndsWrong)

/-- 'stooklaw16.StripeSizes': WHATEVER THE INPUT: true; the input reads as it did. -/
def stripeSizesSpec : ChangeSpec := { name := "stripeSizes", fn := fun _ => fun
  | [d1, d2, d3] => { results := [.lit (.bool true)], args := [d1, d2, d3] }
  | _ => none }
def stripeSizesRow : OpenClaim := { program := "ytmlemichkeomjaa", sum := "c528fc1f2e0fd634d5d5c58fe1427864386d7b606c9d7a38cdb3e33fd9d12452", func := "stook/stooklaw16.StripeSizes", spec := "stripeSizes", inPlace := ["internal/abi.NoEscape", "internal/bytealg.MakeNoZero"], unfollowed := true, recurses := true, apart := false }
def StripeSizesSaid : Prop := stripeSizesRow.holds Try.pinned (OpenSpec.ofChange stripeSizesSpec)

/-- ITS FALSE NEIGHBOUR: 'it returns false'. Refute it at one input. -/
def stripeSizesWrong : ChangeSpec := { name := "stripeSizes", fn := fun _ => fun
  | [d1, d2, d3] => { results := [.lit (.bool false)], args := [d1, d2, d3] }
  | _ => none }
def StripeSizesWrongFalsely : Prop := stripeSizesRow.holds Try.pinned (OpenSpec.ofChange stripeSizesWrong)

/-- 'stooklaw16.StripeReads': WHATEVER THE INPUT: true; the input reads as it did. -/
def stripeReadsSpec : ChangeSpec := { name := "stripeReads", fn := fun _ => fun
  | [d1, d2, d3, d4, d5, d6] => { results := [.lit (.bool true)], args := [d1, d2, d3, d4, d5, d6] }
  | _ => none }
def stripeReadsRow : OpenClaim := { program := "ytmlemichkeomjaa", sum := "c528fc1f2e0fd634d5d5c58fe1427864386d7b606c9d7a38cdb3e33fd9d12452", func := "stook/stooklaw16.StripeReads", spec := "stripeReads", inPlace := ["internal/abi.NoEscape", "internal/bytealg.MakeNoZero"], unfollowed := true, recurses := true, apart := false }
def StripeReadsSaid : Prop := stripeReadsRow.holds Try.pinned (OpenSpec.ofChange stripeReadsSpec)

/-- ITS FALSE NEIGHBOUR: 'it returns false'. Refute it at one input. -/
def stripeReadsWrong : ChangeSpec := { name := "stripeReads", fn := fun _ => fun
  | [d1, d2, d3, d4, d5, d6] => { results := [.lit (.bool false)], args := [d1, d2, d3, d4, d5, d6] }
  | _ => none }
def StripeReadsWrongFalsely : Prop := stripeReadsRow.holds Try.pinned (OpenSpec.ofChange stripeReadsWrong)

/-- 'stooklaw16.StripeCuts': WHATEVER THE INPUT: true; the input reads as it did. -/
def stripeCutsSpec : ChangeSpec := { name := "stripeCuts", fn := fun _ => fun
  | [d1, d2, d3, d4, d5] => { results := [.lit (.bool true)], args := [d1, d2, d3, d4, d5] }
  | _ => none }
def stripeCutsRow : OpenClaim := { program := "ytmlemichkeomjaa", sum := "c528fc1f2e0fd634d5d5c58fe1427864386d7b606c9d7a38cdb3e33fd9d12452", func := "stook/stooklaw16.StripeCuts", spec := "stripeCuts", inPlace := ["internal/abi.NoEscape", "internal/bytealg.MakeNoZero"], unfollowed := true, recurses := true, apart := false }
def StripeCutsSaid : Prop := stripeCutsRow.holds Try.pinned (OpenSpec.ofChange stripeCutsSpec)

/-- ITS FALSE NEIGHBOUR: 'it returns false'. Refute it at one input. -/
def stripeCutsWrong : ChangeSpec := { name := "stripeCuts", fn := fun _ => fun
  | [d1, d2, d3, d4, d5] => { results := [.lit (.bool false)], args := [d1, d2, d3, d4, d5] }
  | _ => none }
def StripeCutsWrongFalsely : Prop := stripeCutsRow.holds Try.pinned (OpenSpec.ofChange stripeCutsWrong)

/-- 'stooklaw20.LedgerSave': WHATEVER THE INPUT: true; the input reads as it did. -/
def ledgerSaveSpec : ChangeSpec := { name := "ledgerSave", fn := fun _ => fun
  | [d1, d2, d3, d4] => { results := [.lit (.bool true)], args := [d1, d2, d3, d4] }
  | _ => none }
def ledgerSaveRow : OpenClaim := { program := "ytmlemichkeomjaa", sum := "c528fc1f2e0fd634d5d5c58fe1427864386d7b606c9d7a38cdb3e33fd9d12452", func := "stook/stooklaw20.LedgerSave", spec := "ledgerSave", inPlace := ["internal/abi.NoEscape"], unfollowed := true, recurses := true, apart := false }
def LedgerSaveSaid : Prop := ledgerSaveRow.holds Try.pinned (OpenSpec.ofChange ledgerSaveSpec)

/-- ITS FALSE NEIGHBOUR: 'it returns false'. Refute it at one input. -/
def ledgerSaveWrong : ChangeSpec := { name := "ledgerSave", fn := fun _ => fun
  | [d1, d2, d3, d4] => { results := [.lit (.bool false)], args := [d1, d2, d3, d4] }
  | _ => none }
def LedgerSaveWrongFalsely : Prop := ledgerSaveRow.holds Try.pinned (OpenSpec.ofChange ledgerSaveWrong)

/- THE SECOND FORM. 'bulk': how many values and letters a reading holds, each counted each time it is reached (what is shared counts as often as it is met; a slice's spare places count too). A statement '..UptoSaid' is the law's where the arguments, and the package variables that the reading takes, are together of bulk at most 1048576: NARROWER than '..Said'. Prove '..Said' where nothing that the law and all that it calls make is longer than what came in: it says more and counts as full. Else prove '..UptoSaid'. A law counts once. -/
mutual
def uptoBulk {H : Type} : DataW H → Nat
  | .lit (.string bytes) => bytes.length + 1
  | .lit _ => 1
  | .nil => 1
  | .ptr d => uptoBulk d + 1
  | .slice elems spare => uptoBulkAll elems + uptoBulkAll spare + 1
  | .agg parts => uptoBulkAll parts + 1
  | .iface _ d => uptoBulk d + 1
  | .map entries => uptoBulkEntries entries + 1
  | .held _ => 1
def uptoBulkAll {H : Type} : List (DataW H) → Nat
  | [] => 0
  | d :: r => uptoBulk d + uptoBulkAll r
def uptoBulkEntries {H : Type} : List (Lit × DataW H) → Nat
  | [] => 0
  | x :: r => uptoBulkEntry x + uptoBulkEntries r
def uptoBulkEntry {H : Type} : Lit × DataW H → Nat
  | (.string bytes, d) => bytes.length + uptoBulk d + 1
  | (_, d) => uptoBulk d + 1
 end
def uptoSmall : (H : Type) → List (DataW H) → Bool := fun _ ds => decide (uptoBulkAll ds ≤ 1048576)
def OpenSpec.upto (s : _root_.Go.ChangeSpec) : _root_.Go.OpenSpec := { _root_.Go.OpenSpec.ofChange s with cond := some uptoSmall }

/-- 'stooklaw16.StripeBack', WHERE WHAT IT READS IS OF BULK AT MOST 1048576: true; the input reads as it did. -/
def stripeBackUptoRow : OpenClaim := { program := "ytmlemichkeomjaa", sum := "c528fc1f2e0fd634d5d5c58fe1427864386d7b606c9d7a38cdb3e33fd9d12452", func := "stook/stooklaw16.StripeBack", spec := "stripeBack", inPlace := ["internal/abi.NoEscape", "internal/bytealg.MakeNoZero"], unfollowed := true, recurses := true, apart := false, narrowed := true }
def StripeBackUptoSaid : Prop := stripeBackUptoRow.holds Try.pinned (OpenSpec.upto stripeBackSpec)

/-- 'stooklaw20.LedgerPlays', WHERE WHAT IT READS IS OF BULK AT MOST 1048576: true; the input reads as it did. -/
def ledgerPlaysUptoRow : OpenClaim := { program := "ytmlemichkeomjaa", sum := "c528fc1f2e0fd634d5d5c58fe1427864386d7b606c9d7a38cdb3e33fd9d12452", func := "stook/stooklaw20.LedgerPlays", spec := "ledgerPlays", unfollowed := true, recurses := true, apart := false, narrowed := true }
def LedgerPlaysUptoSaid : Prop := ledgerPlaysUptoRow.holds Try.pinned (OpenSpec.upto ledgerPlaysSpec)

/-- 'stooklaw20.LedgerOnce', WHERE WHAT IT READS IS OF BULK AT MOST 1048576: true; the input reads as it did. -/
def ledgerOnceUptoRow : OpenClaim := { program := "ytmlemichkeomjaa", sum := "c528fc1f2e0fd634d5d5c58fe1427864386d7b606c9d7a38cdb3e33fd9d12452", func := "stook/stooklaw20.LedgerOnce", spec := "ledgerOnce", unfollowed := true, recurses := true, apart := false, narrowed := true }
def LedgerOnceUptoSaid : Prop := ledgerOnceUptoRow.holds Try.pinned (OpenSpec.upto ledgerOnceSpec)

/-- 'stooklaw20.LedgerEnds', WHERE WHAT IT READS IS OF BULK AT MOST 1048576: true; the input reads as it did. -/
def ledgerEndsUptoRow : OpenClaim := { program := "ytmlemichkeomjaa", sum := "c528fc1f2e0fd634d5d5c58fe1427864386d7b606c9d7a38cdb3e33fd9d12452", func := "stook/stooklaw20.LedgerEnds", spec := "ledgerEnds", unfollowed := true, recurses := true, apart := false, narrowed := true }
def LedgerEndsUptoSaid : Prop := ledgerEndsUptoRow.holds Try.pinned (OpenSpec.upto ledgerEndsSpec)

/-- 'stooklaw16.StripeSizes', WHERE WHAT IT READS IS OF BULK AT MOST 1048576: true; the input reads as it did. -/
def stripeSizesUptoRow : OpenClaim := { program := "ytmlemichkeomjaa", sum := "c528fc1f2e0fd634d5d5c58fe1427864386d7b606c9d7a38cdb3e33fd9d12452", func := "stook/stooklaw16.StripeSizes", spec := "stripeSizes", inPlace := ["internal/abi.NoEscape", "internal/bytealg.MakeNoZero"], unfollowed := true, recurses := true, apart := false, narrowed := true }
def StripeSizesUptoSaid : Prop := stripeSizesUptoRow.holds Try.pinned (OpenSpec.upto stripeSizesSpec)

/-- 'stooklaw16.StripeReads', WHERE WHAT IT READS IS OF BULK AT MOST 1048576: true; the input reads as it did. -/
def stripeReadsUptoRow : OpenClaim := { program := "ytmlemichkeomjaa", sum := "c528fc1f2e0fd634d5d5c58fe1427864386d7b606c9d7a38cdb3e33fd9d12452", func := "stook/stooklaw16.StripeReads", spec := "stripeReads", inPlace := ["internal/abi.NoEscape", "internal/bytealg.MakeNoZero"], unfollowed := true, recurses := true, apart := false, narrowed := true }
def StripeReadsUptoSaid : Prop := stripeReadsUptoRow.holds Try.pinned (OpenSpec.upto stripeReadsSpec)

/-- 'stooklaw16.StripeCuts', WHERE WHAT IT READS IS OF BULK AT MOST 1048576: true; the input reads as it did. -/
def stripeCutsUptoRow : OpenClaim := { program := "ytmlemichkeomjaa", sum := "c528fc1f2e0fd634d5d5c58fe1427864386d7b606c9d7a38cdb3e33fd9d12452", func := "stook/stooklaw16.StripeCuts", spec := "stripeCuts", inPlace := ["internal/abi.NoEscape", "internal/bytealg.MakeNoZero"], unfollowed := true, recurses := true, apart := false, narrowed := true }
def StripeCutsUptoSaid : Prop := stripeCutsUptoRow.holds Try.pinned (OpenSpec.upto stripeCutsSpec)

/-- 'stooklaw20.LedgerSave', WHERE WHAT IT READS IS OF BULK AT MOST 1048576: true; the input reads as it did. -/
def ledgerSaveUptoRow : OpenClaim := { program := "ytmlemichkeomjaa", sum := "c528fc1f2e0fd634d5d5c58fe1427864386d7b606c9d7a38cdb3e33fd9d12452", func := "stook/stooklaw20.LedgerSave", spec := "ledgerSave", inPlace := ["internal/abi.NoEscape"], unfollowed := true, recurses := true, apart := false, narrowed := true }
def LedgerSaveUptoSaid : Prop := ledgerSaveUptoRow.holds Try.pinned (OpenSpec.upto ledgerSaveSpec)

end Rows
end Go.Proofs.Ytmlemichkeomjaa
