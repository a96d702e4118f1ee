/-
  No cell of these rows narrows 'for every input' (looked for: loops, veiled, ifaces, maps, wideKeys, modest, calm, conditions, laid).
  DERIVED. THE GIVEN ROWS OF THIS SEAT. 17 by the template 'for every input the law returns true; each argument reads behind the call as it read before'; 0 by the template 'total and deterministic' (their statements: YtalinkpfklhgaaaTotals.lean).
  GIVEN WITH THE SEED: the statements are not yours to turn. If you find one false, say at which input.
  Laid BY PROGRAM, IN A SANDBOX (cutbox-rows.mjs): the forced cells as the released guide's own fill.sh prints them over the translation 58b27cddfe637559… (all of the seat's roots in one cut). By AI agents, Wed Nov 11 2026. No macro, syntax, notation, axiom, sorry.
-/
import Derived.Test.YtalinkpfklhgaaaChecked
import GoSem.Claim
import GoSem.ClaimJoined
import GoSem.ClaimMapViews
import Derived.JoinedTies
import Derived.KernelRfl
namespace Go.Proofs.Ytalinkpfklhgaaa
/- THE CELL 'sum', in the pinned program and in every row, IS THE sha256 OF THE DUMP (.gsa) THAT YtalinkpfklhgaaaProg.lean LOADS. Nothing in Lean hashes anything: it is a label: what it is worth is what the hold of that sum in a sandbox is worth. -/
noncomputable def Try.pinned : Pinned := { name := "ytalinkpfklhgaaa", sum := "58b27cddfe637559bc9258141ef2126c40dbbcf32b40e9b4de6ec1fc15ab6fe5", checked := Try.checked }
namespace Rows
def none {H : Type} : Left H := { results := [], args := [] }

/-- 'stooklaw01.GfField': WHATEVER THE INPUT: true; the input reads as it did. -/
def gfFieldSpec : ChangeSpec := { name := "gfField", fn := fun _ => fun
  | [d1, d2, d3] => { results := [.lit (.bool true)], args := [d1, d2, d3] }
  | _ => none }
def gfFieldRow : OpenClaim := { program := "ytalinkpfklhgaaa", sum := "58b27cddfe637559bc9258141ef2126c40dbbcf32b40e9b4de6ec1fc15ab6fe5", func := "stook/stooklaw01.GfField", spec := "gfField", apart := false }
def GfFieldSaid : Prop := gfFieldRow.holds Try.pinned (OpenSpec.ofChange gfFieldSpec)

/-- ITS FALSE NEIGHBOUR: 'it returns false'. Refute it at one input. -/
def gfFieldWrong : ChangeSpec := { name := "gfField", fn := fun _ => fun
  | [d1, d2, d3] => { results := [.lit (.bool false)], args := [d1, d2, d3] }
  | _ => none }
def GfFieldWrongFalsely : Prop := gfFieldRow.holds Try.pinned (OpenSpec.ofChange gfFieldWrong)

/-- 'stooklaw01.GfDots': WHATEVER THE INPUT: true; the input reads as it did. -/
def gfDotsSpec : ChangeSpec := { name := "gfDots", fn := fun _ => fun
  | [d1, d2] => { results := [.lit (.bool true)], args := [d1, d2] }
  | _ => none }
def gfDotsRow : OpenClaim := { program := "ytalinkpfklhgaaa", sum := "58b27cddfe637559bc9258141ef2126c40dbbcf32b40e9b4de6ec1fc15ab6fe5", func := "stook/stooklaw01.GfDots", spec := "gfDots", apart := false }
def GfDotsSaid : Prop := gfDotsRow.holds Try.pinned (OpenSpec.ofChange gfDotsSpec)

/-- ITS FALSE NEIGHBOUR: 'it returns false'. Refute it at one input. -/
def gfDotsWrong : ChangeSpec := { name := "gfDots", fn := fun _ => fun
  | [d1, d2] => { results := [.lit (.bool false)], args := [d1, d2] }
  | _ => none }
def GfDotsWrongFalsely : Prop := gfDotsRow.holds Try.pinned (OpenSpec.ofChange gfDotsWrong)

/-- 'stooklaw01.GfRound': WHATEVER THE INPUT: true; the input reads as it did. -/
def gfRoundSpec : ChangeSpec := { name := "gfRound", fn := fun _ => fun
  | [d1, d2, d3] => { results := [.lit (.bool true)], args := [d1, d2, d3] }
  | _ => none }
def gfRoundRow : OpenClaim := { program := "ytalinkpfklhgaaa", sum := "58b27cddfe637559bc9258141ef2126c40dbbcf32b40e9b4de6ec1fc15ab6fe5", func := "stook/stooklaw01.GfRound", spec := "gfRound", apart := false }
def GfRoundSaid : Prop := gfRoundRow.holds Try.pinned (OpenSpec.ofChange gfRoundSpec)

/-- ITS FALSE NEIGHBOUR: 'it returns false'. Refute it at one input. -/
def gfRoundWrong : ChangeSpec := { name := "gfRound", fn := fun _ => fun
  | [d1, d2, d3] => { results := [.lit (.bool false)], args := [d1, d2, d3] }
  | _ => none }
def GfRoundWrongFalsely : Prop := gfRoundRow.holds Try.pinned (OpenSpec.ofChange gfRoundWrong)

/-- 'stooklaw01.GfPowers': WHATEVER THE INPUT: true; the input reads as it did. -/
def gfPowersSpec : ChangeSpec := { name := "gfPowers", fn := fun _ => fun
  | [d1, d2, d3] => { results := [.lit (.bool true)], args := [d1, d2, d3] }
  | _ => none }
def gfPowersRow : OpenClaim := { program := "ytalinkpfklhgaaa", sum := "58b27cddfe637559bc9258141ef2126c40dbbcf32b40e9b4de6ec1fc15ab6fe5", func := "stook/stooklaw01.GfPowers", spec := "gfPowers", apart := false }
def GfPowersSaid : Prop := gfPowersRow.holds Try.pinned (OpenSpec.ofChange gfPowersSpec)

/-- ITS FALSE NEIGHBOUR: 'it returns false'. Refute it at one input. -/
def gfPowersWrong : ChangeSpec := { name := "gfPowers", fn := fun _ => fun
  | [d1, d2, d3] => { results := [.lit (.bool false)], args := [d1, d2, d3] }
  | _ => none }
def GfPowersWrongFalsely : Prop := gfPowersRow.holds Try.pinned (OpenSpec.ofChange gfPowersWrong)

/-- 'stooklaw01.GfPlays': WHATEVER THE INPUT: true; the input reads as it did. -/
def gfPlaysSpec : ChangeSpec := { name := "gfPlays", fn := fun _ => fun
  | [d1, d2, d3] => { results := [.lit (.bool true)], args := [d1, d2, d3] }
  | _ => none }
def gfPlaysRow : OpenClaim := { program := "ytalinkpfklhgaaa", sum := "58b27cddfe637559bc9258141ef2126c40dbbcf32b40e9b4de6ec1fc15ab6fe5", func := "stook/stooklaw01.GfPlays", spec := "gfPlays", apart := false }
def GfPlaysSaid : Prop := gfPlaysRow.holds Try.pinned (OpenSpec.ofChange gfPlaysSpec)

/-- ITS FALSE NEIGHBOUR: 'it returns false'. Refute it at one input. -/
def gfPlaysWrong : ChangeSpec := { name := "gfPlays", fn := fun _ => fun
  | [d1, d2, d3] => { results := [.lit (.bool false)], args := [d1, d2, d3] }
  | _ => none }
def GfPlaysWrongFalsely : Prop := gfPlaysRow.holds Try.pinned (OpenSpec.ofChange gfPlaysWrong)

/-- 'stooklaw01.GfNil': WHATEVER THE INPUT: true; the input reads as it did. -/
def gfNilSpec : ChangeSpec := { name := "gfNil", fn := fun _ => fun
  | [d1, d2, d3] => { results := [.lit (.bool true)], args := [d1, d2, d3] }
  | _ => none }
def gfNilRow : OpenClaim := { program := "ytalinkpfklhgaaa", sum := "58b27cddfe637559bc9258141ef2126c40dbbcf32b40e9b4de6ec1fc15ab6fe5", func := "stook/stooklaw01.GfNil", spec := "gfNil", apart := false }
def GfNilSaid : Prop := gfNilRow.holds Try.pinned (OpenSpec.ofChange gfNilSpec)

/-- ITS FALSE NEIGHBOUR: 'it returns false'. Refute it at one input. -/
def gfNilWrong : ChangeSpec := { name := "gfNil", fn := fun _ => fun
  | [d1, d2, d3] => { results := [.lit (.bool false)], args := [d1, d2, d3] }
  | _ => none }
def GfNilWrongFalsely : Prop := gfNilRow.holds Try.pinned (OpenSpec.ofChange gfNilWrong)

/-- 'stooklaw02.RowsSing': WHATEVER THE INPUT: true; the input reads as it did. -/
def rowsSingSpec : ChangeSpec := { name := "rowsSing", fn := fun _ => fun
  | [d] => { results := [.lit (.bool true)], args := [d] }
  | _ => none }
def rowsSingRow : OpenClaim := { program := "ytalinkpfklhgaaa", sum := "58b27cddfe637559bc9258141ef2126c40dbbcf32b40e9b4de6ec1fc15ab6fe5", func := "stook/stooklaw02.RowsSing", spec := "rowsSing", unfollowed := true, recurses := true, apart := false }
def RowsSingSaid : Prop := rowsSingRow.holds Try.pinned (OpenSpec.ofChange rowsSingSpec)

/-- ITS FALSE NEIGHBOUR: 'it returns false'. Refute it at one input. -/
def rowsSingWrong : ChangeSpec := { name := "rowsSing", fn := fun _ => fun
  | [d] => { results := [.lit (.bool false)], args := [d] }
  | _ => none }
def RowsSingWrongFalsely : Prop := rowsSingRow.holds Try.pinned (OpenSpec.ofChange rowsSingWrong)

/-- 'stooklaw02.RowsTwice': WHATEVER THE INPUT: true; the input reads as it did. -/
def rowsTwiceSpec : ChangeSpec := { name := "rowsTwice", fn := fun _ => fun
  | [d1, d2] => { results := [.lit (.bool true)], args := [d1, d2] }
  | _ => none }
def rowsTwiceRow : OpenClaim := { program := "ytalinkpfklhgaaa", sum := "58b27cddfe637559bc9258141ef2126c40dbbcf32b40e9b4de6ec1fc15ab6fe5", func := "stook/stooklaw02.RowsTwice", spec := "rowsTwice", unfollowed := true, recurses := true, apart := false }
def RowsTwiceSaid : Prop := rowsTwiceRow.holds Try.pinned (OpenSpec.ofChange rowsTwiceSpec)

/-- ITS FALSE NEIGHBOUR: 'it returns false'. Refute it at one input. -/
def rowsTwiceWrong : ChangeSpec := { name := "rowsTwice", fn := fun _ => fun
  | [d1, d2] => { results := [.lit (.bool false)], args := [d1, d2] }
  | _ => none }
def RowsTwiceWrongFalsely : Prop := rowsTwiceRow.holds Try.pinned (OpenSpec.ofChange rowsTwiceWrong)

/-- 'stooklaw02.RowsPicks': WHATEVER THE INPUT: true; the input reads as it did. -/
def rowsPicksSpec : ChangeSpec := { name := "rowsPicks", fn := fun _ => fun
  | [d1, d2] => { results := [.lit (.bool true)], args := [d1, d2] }
  | _ => none }
def rowsPicksRow : OpenClaim := { program := "ytalinkpfklhgaaa", sum := "58b27cddfe637559bc9258141ef2126c40dbbcf32b40e9b4de6ec1fc15ab6fe5", func := "stook/stooklaw02.RowsPicks", spec := "rowsPicks", unfollowed := true, recurses := true, apart := false }
def RowsPicksSaid : Prop := rowsPicksRow.holds Try.pinned (OpenSpec.ofChange rowsPicksSpec)

/-- ITS FALSE NEIGHBOUR: 'it returns false'. Refute it at one input. -/
def rowsPicksWrong : ChangeSpec := { name := "rowsPicks", fn := fun _ => fun
  | [d1, d2] => { results := [.lit (.bool false)], args := [d1, d2] }
  | _ => none }
def RowsPicksWrongFalsely : Prop := rowsPicksRow.holds Try.pinned (OpenSpec.ofChange rowsPicksWrong)

/-- 'stooklaw02.RowsUndo': WHATEVER THE INPUT: true; the input reads as it did. -/
def rowsUndoSpec : ChangeSpec := { name := "rowsUndo", fn := fun _ => fun
  | [d] => { results := [.lit (.bool true)], args := [d] }
  | _ => none }
def rowsUndoRow : OpenClaim := { program := "ytalinkpfklhgaaa", sum := "58b27cddfe637559bc9258141ef2126c40dbbcf32b40e9b4de6ec1fc15ab6fe5", func := "stook/stooklaw02.RowsUndo", spec := "rowsUndo", unfollowed := true, recurses := true, apart := false }
def RowsUndoSaid : Prop := rowsUndoRow.holds Try.pinned (OpenSpec.ofChange rowsUndoSpec)

/-- ITS FALSE NEIGHBOUR: 'it returns false'. Refute it at one input. -/
def rowsUndoWrong : ChangeSpec := { name := "rowsUndo", fn := fun _ => fun
  | [d] => { results := [.lit (.bool false)], args := [d] }
  | _ => none }
def RowsUndoWrongFalsely : Prop := rowsUndoRow.holds Try.pinned (OpenSpec.ofChange rowsUndoWrong)

/-- 'stooklaw02.RowsBrackets': WHATEVER THE INPUT: true; the input reads as it did. -/
def rowsBracketsSpec : ChangeSpec := { name := "rowsBrackets", fn := fun _ => fun
  | [d1, d2, d3] => { results := [.lit (.bool true)], args := [d1, d2, d3] }
  | _ => none }
def rowsBracketsRow : OpenClaim := { program := "ytalinkpfklhgaaa", sum := "58b27cddfe637559bc9258141ef2126c40dbbcf32b40e9b4de6ec1fc15ab6fe5", func := "stook/stooklaw02.RowsBrackets", spec := "rowsBrackets", unfollowed := true, recurses := true, apart := false }
def RowsBracketsSaid : Prop := rowsBracketsRow.holds Try.pinned (OpenSpec.ofChange rowsBracketsSpec)

/-- ITS FALSE NEIGHBOUR: 'it returns false'. Refute it at one input. -/
def rowsBracketsWrong : ChangeSpec := { name := "rowsBrackets", fn := fun _ => fun
  | [d1, d2, d3] => { results := [.lit (.bool false)], args := [d1, d2, d3] }
  | _ => none }
def RowsBracketsWrongFalsely : Prop := rowsBracketsRow.holds Try.pinned (OpenSpec.ofChange rowsBracketsWrong)

/-- 'stooklaw02.RowsPowers': WHATEVER THE INPUT: true; the input reads as it did. -/
def rowsPowersSpec : ChangeSpec := { name := "rowsPowers", fn := fun _ => fun
  | [d1, d2, d3] => { results := [.lit (.bool true)], args := [d1, d2, d3] }
  | _ => none }
def rowsPowersRow : OpenClaim := { program := "ytalinkpfklhgaaa", sum := "58b27cddfe637559bc9258141ef2126c40dbbcf32b40e9b4de6ec1fc15ab6fe5", func := "stook/stooklaw02.RowsPowers", spec := "rowsPowers", unfollowed := true, recurses := true, apart := false }
def RowsPowersSaid : Prop := rowsPowersRow.holds Try.pinned (OpenSpec.ofChange rowsPowersSpec)

/-- ITS FALSE NEIGHBOUR: 'it returns false'. Refute it at one input. -/
def rowsPowersWrong : ChangeSpec := { name := "rowsPowers", fn := fun _ => fun
  | [d1, d2, d3] => { results := [.lit (.bool false)], args := [d1, d2, d3] }
  | _ => none }
def RowsPowersWrongFalsely : Prop := rowsPowersRow.holds Try.pinned (OpenSpec.ofChange rowsPowersWrong)

/-- 'stooklaw02.RowsPlays': WHATEVER THE INPUT: true; the input reads as it did. -/
def rowsPlaysSpec : ChangeSpec := { name := "rowsPlays", fn := fun _ => fun
  | [d1, d2, d3, d4] => { results := [.lit (.bool true)], args := [d1, d2, d3, d4] }
  | _ => none }
def rowsPlaysRow : OpenClaim := { program := "ytalinkpfklhgaaa", sum := "58b27cddfe637559bc9258141ef2126c40dbbcf32b40e9b4de6ec1fc15ab6fe5", func := "stook/stooklaw02.RowsPlays", spec := "rowsPlays", unfollowed := true, recurses := true, apart := false }
def RowsPlaysSaid : Prop := rowsPlaysRow.holds Try.pinned (OpenSpec.ofChange rowsPlaysSpec)

/-- ITS FALSE NEIGHBOUR: 'it returns false'. Refute it at one input. -/
def rowsPlaysWrong : ChangeSpec := { name := "rowsPlays", fn := fun _ => fun
  | [d1, d2, d3, d4] => { results := [.lit (.bool false)], args := [d1, d2, d3, d4] }
  | _ => none }
def RowsPlaysWrongFalsely : Prop := rowsPlaysRow.holds Try.pinned (OpenSpec.ofChange rowsPlaysWrong)

/-- 'stooklaw03.CoderSums': WHATEVER THE INPUT: true; the input reads as it did. -/
def coderSumsSpec : ChangeSpec := { name := "coderSums", fn := fun _ => fun
  | [d1, d2, d3] => { results := [.lit (.bool true)], args := [d1, d2, d3] }
  | _ => none }
def coderSumsRow : OpenClaim := { program := "ytalinkpfklhgaaa", sum := "58b27cddfe637559bc9258141ef2126c40dbbcf32b40e9b4de6ec1fc15ab6fe5", func := "stook/stooklaw03.CoderSums", spec := "coderSums", unfollowed := true, recurses := true, apart := false }
def CoderSumsSaid : Prop := coderSumsRow.holds Try.pinned (OpenSpec.ofChange coderSumsSpec)

/-- ITS FALSE NEIGHBOUR: 'it returns false'. Refute it at one input. -/
def coderSumsWrong : ChangeSpec := { name := "coderSums", fn := fun _ => fun
  | [d1, d2, d3] => { results := [.lit (.bool false)], args := [d1, d2, d3] }
  | _ => none }
def CoderSumsWrongFalsely : Prop := coderSumsRow.holds Try.pinned (OpenSpec.ofChange coderSumsWrong)

/-- 'stooklaw03.CoderRefuses': WHATEVER THE INPUT: true; the input reads as it did. -/
def coderRefusesSpec : ChangeSpec := { name := "coderRefuses", fn := fun _ => fun
  | [d1, d2, d3, d4] => { results := [.lit (.bool true)], args := [d1, d2, d3, d4] }
  | _ => none }
def coderRefusesRow : OpenClaim := { program := "ytalinkpfklhgaaa", sum := "58b27cddfe637559bc9258141ef2126c40dbbcf32b40e9b4de6ec1fc15ab6fe5", func := "stook/stooklaw03.CoderRefuses", spec := "coderRefuses", unfollowed := true, recurses := true, apart := false }
def CoderRefusesSaid : Prop := coderRefusesRow.holds Try.pinned (OpenSpec.ofChange coderRefusesSpec)

/-- ITS FALSE NEIGHBOUR: 'it returns false'. Refute it at one input. -/
def coderRefusesWrong : ChangeSpec := { name := "coderRefuses", fn := fun _ => fun
  | [d1, d2, d3, d4] => { results := [.lit (.bool false)], args := [d1, d2, d3, d4] }
  | _ => none }
def CoderRefusesWrongFalsely : Prop := coderRefusesRow.holds Try.pinned (OpenSpec.ofChange coderRefusesWrong)

/-- 'stooklaw03.CoderReads': WHATEVER THE INPUT: true; the input reads as it did. -/
def coderReadsSpec : ChangeSpec := { name := "coderReads", fn := fun _ => fun
  | [d1, d2, d3, d4, d5] => { results := [.lit (.bool true)], args := [d1, d2, d3, d4, d5] }
  | _ => none }
def coderReadsRow : OpenClaim := { program := "ytalinkpfklhgaaa", sum := "58b27cddfe637559bc9258141ef2126c40dbbcf32b40e9b4de6ec1fc15ab6fe5", func := "stook/stooklaw03.CoderReads", spec := "coderReads", unfollowed := true, recurses := true, apart := false }
def CoderReadsSaid : Prop := coderReadsRow.holds Try.pinned (OpenSpec.ofChange coderReadsSpec)

/-- ITS FALSE NEIGHBOUR: 'it returns false'. Refute it at one input. -/
def coderReadsWrong : ChangeSpec := { name := "coderReads", fn := fun _ => fun
  | [d1, d2, d3, d4, d5] => { results := [.lit (.bool false)], args := [d1, d2, d3, d4, d5] }
  | _ => none }
def CoderReadsWrongFalsely : Prop := coderReadsRow.holds Try.pinned (OpenSpec.ofChange coderReadsWrong)

/-- 'stooklaw03.CoderAll': WHATEVER THE INPUT: true; the input reads as it did. -/
def coderAllSpec : ChangeSpec := { name := "coderAll", fn := fun _ => fun
  | [d1, d2, d3, d4] => { results := [.lit (.bool true)], args := [d1, d2, d3, d4] }
  | _ => none }
def coderAllRow : OpenClaim := { program := "ytalinkpfklhgaaa", sum := "58b27cddfe637559bc9258141ef2126c40dbbcf32b40e9b4de6ec1fc15ab6fe5", func := "stook/stooklaw03.CoderAll", spec := "coderAll", unfollowed := true, recurses := true, apart := false }
def CoderAllSaid : Prop := coderAllRow.holds Try.pinned (OpenSpec.ofChange coderAllSpec)

/-- ITS FALSE NEIGHBOUR: 'it returns false'. Refute it at one input. -/
def coderAllWrong : ChangeSpec := { name := "coderAll", fn := fun _ => fun
  | [d1, d2, d3, d4] => { results := [.lit (.bool false)], args := [d1, d2, d3, d4] }
  | _ => none }
def CoderAllWrongFalsely : Prop := coderAllRow.holds Try.pinned (OpenSpec.ofChange coderAllWrong)

/- THE SECOND FORM. 'bulk': how many values and letters a reading holds, each counted each time it is reached (what is shared counts as often as it is met; a slice's spare places count too). A statement '..UptoSaid' is the law's where the arguments, and the package variables that the reading takes, are together of bulk at most 1048576: NARROWER than '..Said'. Prove '..Said' where nothing that the law and all that it calls make is longer than what came in: it says more and counts as full. Else prove '..UptoSaid'. A law counts once. -/
mutual
def uptoBulk {H : Type} : DataW H → Nat
  | .lit (.string bytes) => bytes.length + 1
  | .lit _ => 1
  | .nil => 1
  | .ptr d => uptoBulk d + 1
  | .slice elems spare => uptoBulkAll elems + uptoBulkAll spare + 1
  | .agg parts => uptoBulkAll parts + 1
  | .iface _ d => uptoBulk d + 1
  | .map entries => uptoBulkEntries entries + 1
  | .held _ => 1
def uptoBulkAll {H : Type} : List (DataW H) → Nat
  | [] => 0
  | d :: r => uptoBulk d + uptoBulkAll r
def uptoBulkEntries {H : Type} : List (Lit × DataW H) → Nat
  | [] => 0
  | x :: r => uptoBulkEntry x + uptoBulkEntries r
def uptoBulkEntry {H : Type} : Lit × DataW H → Nat
  | (.string bytes, d) => bytes.length + uptoBulk d + 1
  | (_, d) => uptoBulk d + 1
 end
def uptoSmall : (H : Type) → List (DataW H) → Bool := fun _ ds => decide (uptoBulkAll ds ≤ 1048576)
def OpenSpec.upto (s : _root_.Go.ChangeSpec) : _root_.Go.OpenSpec := { _root_.Go.OpenSpec.ofChange s with cond := some uptoSmall }

/-- 'stooklaw01.GfField', WHERE WHAT IT READS IS OF BULK AT MOST 1048576: true; the input reads as it did. -/
def gfFieldUptoRow : OpenClaim := { program := "ytalinkpfklhgaaa", sum := "58b27cddfe637559bc9258141ef2126c40dbbcf32b40e9b4de6ec1fc15ab6fe5", func := "stook/stooklaw01.GfField", spec := "gfField", apart := false, narrowed := true }
def GfFieldUptoSaid : Prop := gfFieldUptoRow.holds Try.pinned (OpenSpec.upto gfFieldSpec)

/-- 'stooklaw01.GfDots', WHERE WHAT IT READS IS OF BULK AT MOST 1048576: true; the input reads as it did. -/
def gfDotsUptoRow : OpenClaim := { program := "ytalinkpfklhgaaa", sum := "58b27cddfe637559bc9258141ef2126c40dbbcf32b40e9b4de6ec1fc15ab6fe5", func := "stook/stooklaw01.GfDots", spec := "gfDots", apart := false, narrowed := true }
def GfDotsUptoSaid : Prop := gfDotsUptoRow.holds Try.pinned (OpenSpec.upto gfDotsSpec)

/-- 'stooklaw01.GfRound', WHERE WHAT IT READS IS OF BULK AT MOST 1048576: true; the input reads as it did. -/
def gfRoundUptoRow : OpenClaim := { program := "ytalinkpfklhgaaa", sum := "58b27cddfe637559bc9258141ef2126c40dbbcf32b40e9b4de6ec1fc15ab6fe5", func := "stook/stooklaw01.GfRound", spec := "gfRound", apart := false, narrowed := true }
def GfRoundUptoSaid : Prop := gfRoundUptoRow.holds Try.pinned (OpenSpec.upto gfRoundSpec)

/-- 'stooklaw01.GfPowers', WHERE WHAT IT READS IS OF BULK AT MOST 1048576: true; the input reads as it did. -/
def gfPowersUptoRow : OpenClaim := { program := "ytalinkpfklhgaaa", sum := "58b27cddfe637559bc9258141ef2126c40dbbcf32b40e9b4de6ec1fc15ab6fe5", func := "stook/stooklaw01.GfPowers", spec := "gfPowers", apart := false, narrowed := true }
def GfPowersUptoSaid : Prop := gfPowersUptoRow.holds Try.pinned (OpenSpec.upto gfPowersSpec)

/-- 'stooklaw01.GfPlays', WHERE WHAT IT READS IS OF BULK AT MOST 1048576: true; the input reads as it did. -/
def gfPlaysUptoRow : OpenClaim := { program := "ytalinkpfklhgaaa", sum := "58b27cddfe637559bc9258141ef2126c40dbbcf32b40e9b4de6ec1fc15ab6fe5", func := "stook/stooklaw01.GfPlays", spec := "gfPlays", apart := false, narrowed := true }
def GfPlaysUptoSaid : Prop := gfPlaysUptoRow.holds Try.pinned (OpenSpec.upto gfPlaysSpec)

/-- 'stooklaw01.GfNil', WHERE WHAT IT READS IS OF BULK AT MOST 1048576: true; the input reads as it did. -/
def gfNilUptoRow : OpenClaim := { program := "ytalinkpfklhgaaa", sum := "58b27cddfe637559bc9258141ef2126c40dbbcf32b40e9b4de6ec1fc15ab6fe5", func := "stook/stooklaw01.GfNil", spec := "gfNil", apart := false, narrowed := true }
def GfNilUptoSaid : Prop := gfNilUptoRow.holds Try.pinned (OpenSpec.upto gfNilSpec)

/-- 'stooklaw02.RowsSing', WHERE WHAT IT READS IS OF BULK AT MOST 1048576: true; the input reads as it did. -/
def rowsSingUptoRow : OpenClaim := { program := "ytalinkpfklhgaaa", sum := "58b27cddfe637559bc9258141ef2126c40dbbcf32b40e9b4de6ec1fc15ab6fe5", func := "stook/stooklaw02.RowsSing", spec := "rowsSing", unfollowed := true, recurses := true, apart := false, narrowed := true }
def RowsSingUptoSaid : Prop := rowsSingUptoRow.holds Try.pinned (OpenSpec.upto rowsSingSpec)

/-- 'stooklaw02.RowsTwice', WHERE WHAT IT READS IS OF BULK AT MOST 1048576: true; the input reads as it did. -/
def rowsTwiceUptoRow : OpenClaim := { program := "ytalinkpfklhgaaa", sum := "58b27cddfe637559bc9258141ef2126c40dbbcf32b40e9b4de6ec1fc15ab6fe5", func := "stook/stooklaw02.RowsTwice", spec := "rowsTwice", unfollowed := true, recurses := true, apart := false, narrowed := true }
def RowsTwiceUptoSaid : Prop := rowsTwiceUptoRow.holds Try.pinned (OpenSpec.upto rowsTwiceSpec)

/-- 'stooklaw02.RowsPicks', WHERE WHAT IT READS IS OF BULK AT MOST 1048576: true; the input reads as it did. -/
def rowsPicksUptoRow : OpenClaim := { program := "ytalinkpfklhgaaa", sum := "58b27cddfe637559bc9258141ef2126c40dbbcf32b40e9b4de6ec1fc15ab6fe5", func := "stook/stooklaw02.RowsPicks", spec := "rowsPicks", unfollowed := true, recurses := true, apart := false, narrowed := true }
def RowsPicksUptoSaid : Prop := rowsPicksUptoRow.holds Try.pinned (OpenSpec.upto rowsPicksSpec)

/-- 'stooklaw02.RowsUndo', WHERE WHAT IT READS IS OF BULK AT MOST 1048576: true; the input reads as it did. -/
def rowsUndoUptoRow : OpenClaim := { program := "ytalinkpfklhgaaa", sum := "58b27cddfe637559bc9258141ef2126c40dbbcf32b40e9b4de6ec1fc15ab6fe5", func := "stook/stooklaw02.RowsUndo", spec := "rowsUndo", unfollowed := true, recurses := true, apart := false, narrowed := true }
def RowsUndoUptoSaid : Prop := rowsUndoUptoRow.holds Try.pinned (OpenSpec.upto rowsUndoSpec)

/-- 'stooklaw02.RowsBrackets', WHERE WHAT IT READS IS OF BULK AT MOST 1048576: true; the input reads as it did. -/
def rowsBracketsUptoRow : OpenClaim := { program := "ytalinkpfklhgaaa", sum := "58b27cddfe637559bc9258141ef2126c40dbbcf32b40e9b4de6ec1fc15ab6fe5", func := "stook/stooklaw02.RowsBrackets", spec := "rowsBrackets", unfollowed := true, recurses := true, apart := false, narrowed := true }
def RowsBracketsUptoSaid : Prop := rowsBracketsUptoRow.holds Try.pinned (OpenSpec.upto rowsBracketsSpec)

/-- 'stooklaw02.RowsPowers', WHERE WHAT IT READS IS OF BULK AT MOST 1048576: true; the input reads as it did. -/
def rowsPowersUptoRow : OpenClaim := { program := "ytalinkpfklhgaaa", sum := "58b27cddfe637559bc9258141ef2126c40dbbcf32b40e9b4de6ec1fc15ab6fe5", func := "stook/stooklaw02.RowsPowers", spec := "rowsPowers", unfollowed := true, recurses := true, apart := false, narrowed := true }
def RowsPowersUptoSaid : Prop := rowsPowersUptoRow.holds Try.pinned (OpenSpec.upto rowsPowersSpec)

/-- 'stooklaw02.RowsPlays', WHERE WHAT IT READS IS OF BULK AT MOST 1048576: true; the input reads as it did. -/
def rowsPlaysUptoRow : OpenClaim := { program := "ytalinkpfklhgaaa", sum := "58b27cddfe637559bc9258141ef2126c40dbbcf32b40e9b4de6ec1fc15ab6fe5", func := "stook/stooklaw02.RowsPlays", spec := "rowsPlays", unfollowed := true, recurses := true, apart := false, narrowed := true }
def RowsPlaysUptoSaid : Prop := rowsPlaysUptoRow.holds Try.pinned (OpenSpec.upto rowsPlaysSpec)

/-- 'stooklaw03.CoderSums', WHERE WHAT IT READS IS OF BULK AT MOST 1048576: true; the input reads as it did. -/
def coderSumsUptoRow : OpenClaim := { program := "ytalinkpfklhgaaa", sum := "58b27cddfe637559bc9258141ef2126c40dbbcf32b40e9b4de6ec1fc15ab6fe5", func := "stook/stooklaw03.CoderSums", spec := "coderSums", unfollowed := true, recurses := true, apart := false, narrowed := true }
def CoderSumsUptoSaid : Prop := coderSumsUptoRow.holds Try.pinned (OpenSpec.upto coderSumsSpec)

/-- 'stooklaw03.CoderRefuses', WHERE WHAT IT READS IS OF BULK AT MOST 1048576: true; the input reads as it did. -/
def coderRefusesUptoRow : OpenClaim := { program := "ytalinkpfklhgaaa", sum := "58b27cddfe637559bc9258141ef2126c40dbbcf32b40e9b4de6ec1fc15ab6fe5", func := "stook/stooklaw03.CoderRefuses", spec := "coderRefuses", unfollowed := true, recurses := true, apart := false, narrowed := true }
def CoderRefusesUptoSaid : Prop := coderRefusesUptoRow.holds Try.pinned (OpenSpec.upto coderRefusesSpec)

/-- 'stooklaw03.CoderReads', WHERE WHAT IT READS IS OF BULK AT MOST 1048576: true; the input reads as it did. -/
def coderReadsUptoRow : OpenClaim := { program := "ytalinkpfklhgaaa", sum := "58b27cddfe637559bc9258141ef2126c40dbbcf32b40e9b4de6ec1fc15ab6fe5", func := "stook/stooklaw03.CoderReads", spec := "coderReads", unfollowed := true, recurses := true, apart := false, narrowed := true }
def CoderReadsUptoSaid : Prop := coderReadsUptoRow.holds Try.pinned (OpenSpec.upto coderReadsSpec)

/-- 'stooklaw03.CoderAll', WHERE WHAT IT READS IS OF BULK AT MOST 1048576: true; the input reads as it did. -/
def coderAllUptoRow : OpenClaim := { program := "ytalinkpfklhgaaa", sum := "58b27cddfe637559bc9258141ef2126c40dbbcf32b40e9b4de6ec1fc15ab6fe5", func := "stook/stooklaw03.CoderAll", spec := "coderAll", unfollowed := true, recurses := true, apart := false, narrowed := true }
def CoderAllUptoSaid : Prop := coderAllUptoRow.holds Try.pinned (OpenSpec.upto coderAllSpec)

end Rows
end Go.Proofs.Ytalinkpfklhgaaa
