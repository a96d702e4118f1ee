/-
  No cell of these rows narrows 'for every input' (looked for: loops, veiled, ifaces, maps, wideKeys, modest, calm, conditions, laid).
  DERIVED. THE GIVEN ROWS OF THIS SEAT. 20 by the template 'for every input the law returns true; each argument reads behind the call as it read before'; 0 by the template 'total and deterministic' (their statements: YtdjgdhpncocahaaTotals.lean).
  GIVEN WITH THE SEED: the statements are not yours to turn. If you find one false, say at which input.
  Laid BY PROGRAM, IN A SANDBOX (cutbox-rows.mjs): the forced cells as the released guide's own fill.sh prints them over the translation 50ae26e85cdcbcec… (all of the seat's roots in one cut). By AI agents, Wed Nov 11 2026. No macro, syntax, notation, axiom, sorry.
-/
import Derived.Test.YtdjgdhpncocahaaChecked
import GoSem.Claim
import GoSem.ClaimJoined
import GoSem.ClaimMapViews
import Derived.JoinedTies
import Derived.KernelRfl
namespace Go.Proofs.Ytdjgdhpncocahaa
/- THE CELL 'sum', in the pinned program and in every row, IS THE sha256 OF THE DUMP (.gsa) THAT YtdjgdhpncocahaaProg.lean LOADS. Nothing in Lean hashes anything: it is a label: what it is worth is what the hold of that sum in a sandbox is worth. -/
noncomputable def Try.pinned : Pinned := { name := "ytdjgdhpncocahaa", sum := "50ae26e85cdcbcec16c969fbea63ca05a07b4077f01c151bfda1e4f84c72a087", checked := Try.checked }
namespace Rows
def none {H : Type} : Left H := { results := [], args := [] }

/-- 'stooklaw05.TapeOnce': WHATEVER THE INPUT: true; the input reads as it did. -/
def tapeOnceSpec : ChangeSpec := { name := "tapeOnce", fn := fun _ => fun
  | [d1, d2] => { results := [.lit (.bool true)], args := [d1, d2] }
  | _ => none }
def tapeOnceRow : OpenClaim := { program := "ytdjgdhpncocahaa", sum := "50ae26e85cdcbcec16c969fbea63ca05a07b4077f01c151bfda1e4f84c72a087", func := "stook/stooklaw05.TapeOnce", spec := "tapeOnce", apart := false }
def TapeOnceSaid : Prop := tapeOnceRow.holds Try.pinned (OpenSpec.ofChange tapeOnceSpec)

/-- ITS FALSE NEIGHBOUR: 'it returns false'. Refute it at one input. -/
def tapeOnceWrong : ChangeSpec := { name := "tapeOnce", fn := fun _ => fun
  | [d1, d2] => { results := [.lit (.bool false)], args := [d1, d2] }
  | _ => none }
def TapeOnceWrongFalsely : Prop := tapeOnceRow.holds Try.pinned (OpenSpec.ofChange tapeOnceWrong)

/-- 'stooklaw21.MsgAnswers': WHATEVER THE INPUT: true; the input reads as it did. -/
def msgAnswersSpec : ChangeSpec := { name := "msgAnswers", fn := fun _ => fun
  | [d1, d2, d3] => { results := [.lit (.bool true)], args := [d1, d2, d3] }
  | _ => none }
def msgAnswersRow : OpenClaim := { program := "ytdjgdhpncocahaa", sum := "50ae26e85cdcbcec16c969fbea63ca05a07b4077f01c151bfda1e4f84c72a087", func := "stook/stooklaw21.MsgAnswers", spec := "msgAnswers", apart := false }
def MsgAnswersSaid : Prop := msgAnswersRow.holds Try.pinned (OpenSpec.ofChange msgAnswersSpec)

/-- ITS FALSE NEIGHBOUR: 'it returns false'. Refute it at one input. -/
def msgAnswersWrong : ChangeSpec := { name := "msgAnswers", fn := fun _ => fun
  | [d1, d2, d3] => { results := [.lit (.bool false)], args := [d1, d2, d3] }
  | _ => none }
def MsgAnswersWrongFalsely : Prop := msgAnswersRow.holds Try.pinned (OpenSpec.ofChange msgAnswersWrong)

/-- 'stooklaw04.CrcSums': WHATEVER THE INPUT: true; the input reads as it did. -/
def crcSumsSpec : ChangeSpec := { name := "crcSums", fn := fun _ => fun
  | [d1, d2, d3] => { results := [.lit (.bool true)], args := [d1, d2, d3] }
  | _ => none }
def crcSumsRow : OpenClaim := { program := "ytdjgdhpncocahaa", sum := "50ae26e85cdcbcec16c969fbea63ca05a07b4077f01c151bfda1e4f84c72a087", func := "stook/stooklaw04.CrcSums", spec := "crcSums", apart := false }
def CrcSumsSaid : Prop := crcSumsRow.holds Try.pinned (OpenSpec.ofChange crcSumsSpec)

/-- ITS FALSE NEIGHBOUR: 'it returns false'. Refute it at one input. -/
def crcSumsWrong : ChangeSpec := { name := "crcSums", fn := fun _ => fun
  | [d1, d2, d3] => { results := [.lit (.bool false)], args := [d1, d2, d3] }
  | _ => none }
def CrcSumsWrongFalsely : Prop := crcSumsRow.holds Try.pinned (OpenSpec.ofChange crcSumsWrong)

/-- 'stooklaw04.CrcPlays': WHATEVER THE INPUT: true; the input reads as it did. -/
def crcPlaysSpec : ChangeSpec := { name := "crcPlays", fn := fun _ => fun
  | [d1, d2, d3] => { results := [.lit (.bool true)], args := [d1, d2, d3] }
  | _ => none }
def crcPlaysRow : OpenClaim := { program := "ytdjgdhpncocahaa", sum := "50ae26e85cdcbcec16c969fbea63ca05a07b4077f01c151bfda1e4f84c72a087", func := "stook/stooklaw04.CrcPlays", spec := "crcPlays", apart := false }
def CrcPlaysSaid : Prop := crcPlaysRow.holds Try.pinned (OpenSpec.ofChange crcPlaysSpec)

/-- ITS FALSE NEIGHBOUR: 'it returns false'. Refute it at one input. -/
def crcPlaysWrong : ChangeSpec := { name := "crcPlays", fn := fun _ => fun
  | [d1, d2, d3] => { results := [.lit (.bool false)], args := [d1, d2, d3] }
  | _ => none }
def CrcPlaysWrongFalsely : Prop := crcPlaysRow.holds Try.pinned (OpenSpec.ofChange crcPlaysWrong)

/-- 'stooklaw04.CrcBursts': WHATEVER THE INPUT: true; the input reads as it did. -/
def crcBurstsSpec : ChangeSpec := { name := "crcBursts", fn := fun _ => fun
  | [d1, d2, d3] => { results := [.lit (.bool true)], args := [d1, d2, d3] }
  | _ => none }
def crcBurstsRow : OpenClaim := { program := "ytdjgdhpncocahaa", sum := "50ae26e85cdcbcec16c969fbea63ca05a07b4077f01c151bfda1e4f84c72a087", func := "stook/stooklaw04.CrcBursts", spec := "crcBursts", apart := false }
def CrcBurstsSaid : Prop := crcBurstsRow.holds Try.pinned (OpenSpec.ofChange crcBurstsSpec)

/-- ITS FALSE NEIGHBOUR: 'it returns false'. Refute it at one input. -/
def crcBurstsWrong : ChangeSpec := { name := "crcBursts", fn := fun _ => fun
  | [d1, d2, d3] => { results := [.lit (.bool false)], args := [d1, d2, d3] }
  | _ => none }
def CrcBurstsWrongFalsely : Prop := crcBurstsRow.holds Try.pinned (OpenSpec.ofChange crcBurstsWrong)

/-- 'stooklaw04.CrcOpens': WHATEVER THE INPUT: true; the input reads as it did. -/
def crcOpensSpec : ChangeSpec := { name := "crcOpens", fn := fun _ => fun
  | [d] => { results := [.lit (.bool true)], args := [d] }
  | _ => none }
def crcOpensRow : OpenClaim := { program := "ytdjgdhpncocahaa", sum := "50ae26e85cdcbcec16c969fbea63ca05a07b4077f01c151bfda1e4f84c72a087", func := "stook/stooklaw04.CrcOpens", spec := "crcOpens", apart := false }
def CrcOpensSaid : Prop := crcOpensRow.holds Try.pinned (OpenSpec.ofChange crcOpensSpec)

/-- ITS FALSE NEIGHBOUR: 'it returns false'. Refute it at one input. -/
def crcOpensWrong : ChangeSpec := { name := "crcOpens", fn := fun _ => fun
  | [d] => { results := [.lit (.bool false)], args := [d] }
  | _ => none }
def CrcOpensWrongFalsely : Prop := crcOpensRow.holds Try.pinned (OpenSpec.ofChange crcOpensWrong)

/-- 'stooklaw04.CrcCuts': WHATEVER THE INPUT: true; the input reads as it did. -/
def crcCutsSpec : ChangeSpec := { name := "crcCuts", fn := fun _ => fun
  | [d1, d2] => { results := [.lit (.bool true)], args := [d1, d2] }
  | _ => none }
def crcCutsRow : OpenClaim := { program := "ytdjgdhpncocahaa", sum := "50ae26e85cdcbcec16c969fbea63ca05a07b4077f01c151bfda1e4f84c72a087", func := "stook/stooklaw04.CrcCuts", spec := "crcCuts", apart := false }
def CrcCutsSaid : Prop := crcCutsRow.holds Try.pinned (OpenSpec.ofChange crcCutsSpec)

/-- ITS FALSE NEIGHBOUR: 'it returns false'. Refute it at one input. -/
def crcCutsWrong : ChangeSpec := { name := "crcCuts", fn := fun _ => fun
  | [d1, d2] => { results := [.lit (.bool false)], args := [d1, d2] }
  | _ => none }
def CrcCutsWrongFalsely : Prop := crcCutsRow.holds Try.pinned (OpenSpec.ofChange crcCutsWrong)

/-- 'stooklaw05.TapeLays': WHATEVER THE INPUT: true; the input reads as it did. -/
def tapeLaysSpec : ChangeSpec := { name := "tapeLays", fn := fun _ => fun
  | [d1, d2, d3] => { results := [.lit (.bool true)], args := [d1, d2, d3] }
  | _ => none }
def tapeLaysRow : OpenClaim := { program := "ytdjgdhpncocahaa", sum := "50ae26e85cdcbcec16c969fbea63ca05a07b4077f01c151bfda1e4f84c72a087", func := "stook/stooklaw05.TapeLays", spec := "tapeLays", inPlace := ["internal/abi.NoEscape"], recurses := true, apart := false }
def TapeLaysSaid : Prop := tapeLaysRow.holds Try.pinned (OpenSpec.ofChange tapeLaysSpec)

/-- ITS FALSE NEIGHBOUR: 'it returns false'. Refute it at one input. -/
def tapeLaysWrong : ChangeSpec := { name := "tapeLays", fn := fun _ => fun
  | [d1, d2, d3] => { results := [.lit (.bool false)], args := [d1, d2, d3] }
  | _ => none }
def TapeLaysWrongFalsely : Prop := tapeLaysRow.holds Try.pinned (OpenSpec.ofChange tapeLaysWrong)

/-- 'stooklaw05.TapeStays': WHATEVER THE INPUT: true; the input reads as it did. -/
def tapeStaysSpec : ChangeSpec := { name := "tapeStays", fn := fun _ => fun
  | [d1, d2] => { results := [.lit (.bool true)], args := [d1, d2] }
  | _ => none }
def tapeStaysRow : OpenClaim := { program := "ytdjgdhpncocahaa", sum := "50ae26e85cdcbcec16c969fbea63ca05a07b4077f01c151bfda1e4f84c72a087", func := "stook/stooklaw05.TapeStays", spec := "tapeStays", apart := false }
def TapeStaysSaid : Prop := tapeStaysRow.holds Try.pinned (OpenSpec.ofChange tapeStaysSpec)

/-- ITS FALSE NEIGHBOUR: 'it returns false'. Refute it at one input. -/
def tapeStaysWrong : ChangeSpec := { name := "tapeStays", fn := fun _ => fun
  | [d1, d2] => { results := [.lit (.bool false)], args := [d1, d2] }
  | _ => none }
def TapeStaysWrongFalsely : Prop := tapeStaysRow.holds Try.pinned (OpenSpec.ofChange tapeStaysWrong)

/-- 'stooklaw05.TapeNil': WHATEVER THE INPUT: true; the input reads as it did. -/
def tapeNilSpec : ChangeSpec := { name := "tapeNil", fn := fun _ => fun
  | [d] => { results := [.lit (.bool true)], args := [d] }
  | _ => none }
def tapeNilRow : OpenClaim := { program := "ytdjgdhpncocahaa", sum := "50ae26e85cdcbcec16c969fbea63ca05a07b4077f01c151bfda1e4f84c72a087", func := "stook/stooklaw05.TapeNil", spec := "tapeNil", apart := false }
def TapeNilSaid : Prop := tapeNilRow.holds Try.pinned (OpenSpec.ofChange tapeNilSpec)

/-- ITS FALSE NEIGHBOUR: 'it returns false'. Refute it at one input. -/
def tapeNilWrong : ChangeSpec := { name := "tapeNil", fn := fun _ => fun
  | [d] => { results := [.lit (.bool false)], args := [d] }
  | _ => none }
def TapeNilWrongFalsely : Prop := tapeNilRow.holds Try.pinned (OpenSpec.ofChange tapeNilWrong)

/-- 'stooklaw05.TapeBack': WHATEVER THE INPUT: true; the input reads as it did. -/
def tapeBackSpec : ChangeSpec := { name := "tapeBack", fn := fun _ => fun
  | [d1, d2, d3, d4, d5] => { results := [.lit (.bool true)], args := [d1, d2, d3, d4, d5] }
  | _ => none }
def tapeBackRow : OpenClaim := { program := "ytdjgdhpncocahaa", sum := "50ae26e85cdcbcec16c969fbea63ca05a07b4077f01c151bfda1e4f84c72a087", func := "stook/stooklaw05.TapeBack", spec := "tapeBack", inPlace := ["internal/abi.NoEscape"], apart := false }
def TapeBackSaid : Prop := tapeBackRow.holds Try.pinned (OpenSpec.ofChange tapeBackSpec)

/-- ITS FALSE NEIGHBOUR: 'it returns false'. Refute it at one input. -/
def tapeBackWrong : ChangeSpec := { name := "tapeBack", fn := fun _ => fun
  | [d1, d2, d3, d4, d5] => { results := [.lit (.bool false)], args := [d1, d2, d3, d4, d5] }
  | _ => none }
def TapeBackWrongFalsely : Prop := tapeBackRow.holds Try.pinned (OpenSpec.ofChange tapeBackWrong)

/-- 'stooklaw19.JournalAgain': WHATEVER THE INPUT: true; the input reads as it did. -/
def journalAgainSpec : ChangeSpec := { name := "journalAgain", fn := fun _ => fun
  | [d] => { results := [.lit (.bool true)], args := [d] }
  | _ => none }
def journalAgainRow : OpenClaim := { program := "ytdjgdhpncocahaa", sum := "50ae26e85cdcbcec16c969fbea63ca05a07b4077f01c151bfda1e4f84c72a087", func := "stook/stooklaw19.JournalAgain", spec := "journalAgain", inPlace := ["internal/abi.NoEscape"], apart := false }
def JournalAgainSaid : Prop := journalAgainRow.holds Try.pinned (OpenSpec.ofChange journalAgainSpec)

/-- ITS FALSE NEIGHBOUR: 'it returns false'. Refute it at one input. -/
def journalAgainWrong : ChangeSpec := { name := "journalAgain", fn := fun _ => fun
  | [d] => { results := [.lit (.bool false)], args := [d] }
  | _ => none }
def JournalAgainWrongFalsely : Prop := journalAgainRow.holds Try.pinned (OpenSpec.ofChange journalAgainWrong)

/-- 'stooklaw19.JournalCompact': WHATEVER THE INPUT: true; the input reads as it did. -/
def journalCompactSpec : ChangeSpec := { name := "journalCompact", fn := fun _ => fun
  | [d1, d2, d3] => { results := [.lit (.bool true)], args := [d1, d2, d3] }
  | _ => none }
def journalCompactRow : OpenClaim := { program := "ytdjgdhpncocahaa", sum := "50ae26e85cdcbcec16c969fbea63ca05a07b4077f01c151bfda1e4f84c72a087", func := "stook/stooklaw19.JournalCompact", spec := "journalCompact", unfollowed := true, recurses := true, apart := false }
def JournalCompactSaid : Prop := journalCompactRow.holds Try.pinned (OpenSpec.ofChange journalCompactSpec)

/-- ITS FALSE NEIGHBOUR: 'it returns false'. Refute it at one input. -/
def journalCompactWrong : ChangeSpec := { name := "journalCompact", fn := fun _ => fun
  | [d1, d2, d3] => { results := [.lit (.bool false)], args := [d1, d2, d3] }
  | _ => none }
def JournalCompactWrongFalsely : Prop := journalCompactRow.holds Try.pinned (OpenSpec.ofChange journalCompactWrong)

/-- 'stooklaw19.JournalGrows': WHATEVER THE INPUT: true; the input reads as it did. -/
def journalGrowsSpec : ChangeSpec := { name := "journalGrows", fn := fun _ => fun
  | [d1, d2] => { results := [.lit (.bool true)], args := [d1, d2] }
  | _ => none }
def journalGrowsRow : OpenClaim := { program := "ytdjgdhpncocahaa", sum := "50ae26e85cdcbcec16c969fbea63ca05a07b4077f01c151bfda1e4f84c72a087", func := "stook/stooklaw19.JournalGrows", spec := "journalGrows", inPlace := ["internal/abi.NoEscape"], apart := false }
def JournalGrowsSaid : Prop := journalGrowsRow.holds Try.pinned (OpenSpec.ofChange journalGrowsSpec)

/-- ITS FALSE NEIGHBOUR: 'it returns false'. Refute it at one input. -/
def journalGrowsWrong : ChangeSpec := { name := "journalGrows", fn := fun _ => fun
  | [d1, d2] => { results := [.lit (.bool false)], args := [d1, d2] }
  | _ => none }
def JournalGrowsWrongFalsely : Prop := journalGrowsRow.holds Try.pinned (OpenSpec.ofChange journalGrowsWrong)

/-- 'stooklaw19.JournalTorn': WHATEVER THE INPUT: true; the input reads as it did. -/
def journalTornSpec : ChangeSpec := { name := "journalTorn", fn := fun _ => fun
  | [d1, d2, d3] => { results := [.lit (.bool true)], args := [d1, d2, d3] }
  | _ => none }
def journalTornRow : OpenClaim := { program := "ytdjgdhpncocahaa", sum := "50ae26e85cdcbcec16c969fbea63ca05a07b4077f01c151bfda1e4f84c72a087", func := "stook/stooklaw19.JournalTorn", spec := "journalTorn", inPlace := ["internal/abi.NoEscape"], unfollowed := true, recurses := true, apart := false }
def JournalTornSaid : Prop := journalTornRow.holds Try.pinned (OpenSpec.ofChange journalTornSpec)

/-- ITS FALSE NEIGHBOUR: 'it returns false'. Refute it at one input. -/
def journalTornWrong : ChangeSpec := { name := "journalTorn", fn := fun _ => fun
  | [d1, d2, d3] => { results := [.lit (.bool false)], args := [d1, d2, d3] }
  | _ => none }
def JournalTornWrongFalsely : Prop := journalTornRow.holds Try.pinned (OpenSpec.ofChange journalTornWrong)

/-- 'stooklaw19.JournalPlays': WHATEVER THE INPUT: true; the input reads as it did. -/
def journalPlaysSpec : ChangeSpec := { name := "journalPlays", fn := fun _ => fun
  | [d1, d2] => { results := [.lit (.bool true)], args := [d1, d2] }
  | _ => none }
def journalPlaysRow : OpenClaim := { program := "ytdjgdhpncocahaa", sum := "50ae26e85cdcbcec16c969fbea63ca05a07b4077f01c151bfda1e4f84c72a087", func := "stook/stooklaw19.JournalPlays", spec := "journalPlays", inPlace := ["internal/abi.NoEscape"], unfollowed := true, recurses := true, apart := false }
def JournalPlaysSaid : Prop := journalPlaysRow.holds Try.pinned (OpenSpec.ofChange journalPlaysSpec)

/-- ITS FALSE NEIGHBOUR: 'it returns false'. Refute it at one input. -/
def journalPlaysWrong : ChangeSpec := { name := "journalPlays", fn := fun _ => fun
  | [d1, d2] => { results := [.lit (.bool false)], args := [d1, d2] }
  | _ => none }
def JournalPlaysWrongFalsely : Prop := journalPlaysRow.holds Try.pinned (OpenSpec.ofChange journalPlaysWrong)

/-- 'stooklaw19.JournalCrash': WHATEVER THE INPUT: true; the input reads as it did. -/
def journalCrashSpec : ChangeSpec := { name := "journalCrash", fn := fun _ => fun
  | [d1, d2] => { results := [.lit (.bool true)], args := [d1, d2] }
  | _ => none }
def journalCrashRow : OpenClaim := { program := "ytdjgdhpncocahaa", sum := "50ae26e85cdcbcec16c969fbea63ca05a07b4077f01c151bfda1e4f84c72a087", func := "stook/stooklaw19.JournalCrash", spec := "journalCrash", inPlace := ["internal/abi.NoEscape"], unfollowed := true, recurses := true, apart := false }
def JournalCrashSaid : Prop := journalCrashRow.holds Try.pinned (OpenSpec.ofChange journalCrashSpec)

/-- ITS FALSE NEIGHBOUR: 'it returns false'. Refute it at one input. -/
def journalCrashWrong : ChangeSpec := { name := "journalCrash", fn := fun _ => fun
  | [d1, d2] => { results := [.lit (.bool false)], args := [d1, d2] }
  | _ => none }
def JournalCrashWrongFalsely : Prop := journalCrashRow.holds Try.pinned (OpenSpec.ofChange journalCrashWrong)

/-- 'stooklaw19.JournalNil': WHATEVER THE INPUT: true; the input reads as it did. -/
def journalNilSpec : ChangeSpec := { name := "journalNil", fn := fun _ => fun
  | [d] => { results := [.lit (.bool true)], args := [d] }
  | _ => none }
def journalNilRow : OpenClaim := { program := "ytdjgdhpncocahaa", sum := "50ae26e85cdcbcec16c969fbea63ca05a07b4077f01c151bfda1e4f84c72a087", func := "stook/stooklaw19.JournalNil", spec := "journalNil", inPlace := ["internal/abi.NoEscape"], unfollowed := true, recurses := true, apart := false }
def JournalNilSaid : Prop := journalNilRow.holds Try.pinned (OpenSpec.ofChange journalNilSpec)

/-- ITS FALSE NEIGHBOUR: 'it returns false'. Refute it at one input. -/
def journalNilWrong : ChangeSpec := { name := "journalNil", fn := fun _ => fun
  | [d] => { results := [.lit (.bool false)], args := [d] }
  | _ => none }
def JournalNilWrongFalsely : Prop := journalNilRow.holds Try.pinned (OpenSpec.ofChange journalNilWrong)

/-- 'stooklaw21.MsgThere': WHATEVER THE INPUT: true; the input reads as it did. -/
def msgThereSpec : ChangeSpec := { name := "msgThere", fn := fun _ => fun
  | [d1, d2, d3] => { results := [.lit (.bool true)], args := [d1, d2, d3] }
  | _ => none }
def msgThereRow : OpenClaim := { program := "ytdjgdhpncocahaa", sum := "50ae26e85cdcbcec16c969fbea63ca05a07b4077f01c151bfda1e4f84c72a087", func := "stook/stooklaw21.MsgThere", spec := "msgThere", inPlace := ["internal/abi.NoEscape"], unfollowed := true, recurses := true, apart := false }
def MsgThereSaid : Prop := msgThereRow.holds Try.pinned (OpenSpec.ofChange msgThereSpec)

/-- ITS FALSE NEIGHBOUR: 'it returns false'. Refute it at one input. -/
def msgThereWrong : ChangeSpec := { name := "msgThere", fn := fun _ => fun
  | [d1, d2, d3] => { results := [.lit (.bool false)], args := [d1, d2, d3] }
  | _ => none }
def MsgThereWrongFalsely : Prop := msgThereRow.holds Try.pinned (OpenSpec.ofChange msgThereWrong)

/-- 'stooklaw21.MsgBack': WHATEVER THE INPUT: true; the input reads as it did. -/
def msgBackSpec : ChangeSpec := { name := "msgBack", fn := fun _ => fun
  | [d1, d2, d3] => { results := [.lit (.bool true)], args := [d1, d2, d3] }
  | _ => none }
def msgBackRow : OpenClaim := { program := "ytdjgdhpncocahaa", sum := "50ae26e85cdcbcec16c969fbea63ca05a07b4077f01c151bfda1e4f84c72a087", func := "stook/stooklaw21.MsgBack", spec := "msgBack", inPlace := ["internal/abi.NoEscape"], unfollowed := true, recurses := true, apart := false }
def MsgBackSaid : Prop := msgBackRow.holds Try.pinned (OpenSpec.ofChange msgBackSpec)

/-- ITS FALSE NEIGHBOUR: 'it returns false'. Refute it at one input. -/
def msgBackWrong : ChangeSpec := { name := "msgBack", fn := fun _ => fun
  | [d1, d2, d3] => { results := [.lit (.bool false)], args := [d1, d2, d3] }
  | _ => none }
def MsgBackWrongFalsely : Prop := msgBackRow.holds Try.pinned (OpenSpec.ofChange msgBackWrong)

/- THE SECOND FORM. 'bulk': how many values and letters a reading holds, each counted each time it is reached (what is shared counts as often as it is met; a slice's spare places count too). A statement '..UptoSaid' is the law's where the arguments, and the package variables that the reading takes, are together of bulk at most 1048576: NARROWER than '..Said'. Prove '..Said' where nothing that the law and all that it calls make is longer than what came in: it says more and counts as full. Else prove '..UptoSaid'. A law counts once. -/
mutual
def uptoBulk {H : Type} : DataW H → Nat
  | .lit (.string bytes) => bytes.length + 1
  | .lit _ => 1
  | .nil => 1
  | .ptr d => uptoBulk d + 1
  | .slice elems spare => uptoBulkAll elems + uptoBulkAll spare + 1
  | .agg parts => uptoBulkAll parts + 1
  | .iface _ d => uptoBulk d + 1
  | .map entries => uptoBulkEntries entries + 1
  | .held _ => 1
def uptoBulkAll {H : Type} : List (DataW H) → Nat
  | [] => 0
  | d :: r => uptoBulk d + uptoBulkAll r
def uptoBulkEntries {H : Type} : List (Lit × DataW H) → Nat
  | [] => 0
  | x :: r => uptoBulkEntry x + uptoBulkEntries r
def uptoBulkEntry {H : Type} : Lit × DataW H → Nat
  | (.string bytes, d) => bytes.length + uptoBulk d + 1
  | (_, d) => uptoBulk d + 1
 end
def uptoSmall : (H : Type) → List (DataW H) → Bool := fun _ ds => decide (uptoBulkAll ds ≤ 1048576)
def OpenSpec.upto (s : _root_.Go.ChangeSpec) : _root_.Go.OpenSpec := { _root_.Go.OpenSpec.ofChange s with cond := some uptoSmall }

/-- 'stooklaw05.TapeOnce', WHERE WHAT IT READS IS OF BULK AT MOST 1048576: true; the input reads as it did. -/
def tapeOnceUptoRow : OpenClaim := { program := "ytdjgdhpncocahaa", sum := "50ae26e85cdcbcec16c969fbea63ca05a07b4077f01c151bfda1e4f84c72a087", func := "stook/stooklaw05.TapeOnce", spec := "tapeOnce", apart := false, narrowed := true }
def TapeOnceUptoSaid : Prop := tapeOnceUptoRow.holds Try.pinned (OpenSpec.upto tapeOnceSpec)

/-- 'stooklaw21.MsgAnswers', WHERE WHAT IT READS IS OF BULK AT MOST 1048576: true; the input reads as it did. -/
def msgAnswersUptoRow : OpenClaim := { program := "ytdjgdhpncocahaa", sum := "50ae26e85cdcbcec16c969fbea63ca05a07b4077f01c151bfda1e4f84c72a087", func := "stook/stooklaw21.MsgAnswers", spec := "msgAnswers", apart := false, narrowed := true }
def MsgAnswersUptoSaid : Prop := msgAnswersUptoRow.holds Try.pinned (OpenSpec.upto msgAnswersSpec)

/-- 'stooklaw04.CrcSums', WHERE WHAT IT READS IS OF BULK AT MOST 1048576: true; the input reads as it did. -/
def crcSumsUptoRow : OpenClaim := { program := "ytdjgdhpncocahaa", sum := "50ae26e85cdcbcec16c969fbea63ca05a07b4077f01c151bfda1e4f84c72a087", func := "stook/stooklaw04.CrcSums", spec := "crcSums", apart := false, narrowed := true }
def CrcSumsUptoSaid : Prop := crcSumsUptoRow.holds Try.pinned (OpenSpec.upto crcSumsSpec)

/-- 'stooklaw04.CrcPlays', WHERE WHAT IT READS IS OF BULK AT MOST 1048576: true; the input reads as it did. -/
def crcPlaysUptoRow : OpenClaim := { program := "ytdjgdhpncocahaa", sum := "50ae26e85cdcbcec16c969fbea63ca05a07b4077f01c151bfda1e4f84c72a087", func := "stook/stooklaw04.CrcPlays", spec := "crcPlays", apart := false, narrowed := true }
def CrcPlaysUptoSaid : Prop := crcPlaysUptoRow.holds Try.pinned (OpenSpec.upto crcPlaysSpec)

/-- 'stooklaw04.CrcBursts', WHERE WHAT IT READS IS OF BULK AT MOST 1048576: true; the input reads as it did. -/
def crcBurstsUptoRow : OpenClaim := { program := "ytdjgdhpncocahaa", sum := "50ae26e85cdcbcec16c969fbea63ca05a07b4077f01c151bfda1e4f84c72a087", func := "stook/stooklaw04.CrcBursts", spec := "crcBursts", apart := false, narrowed := true }
def CrcBurstsUptoSaid : Prop := crcBurstsUptoRow.holds Try.pinned (OpenSpec.upto crcBurstsSpec)

/-- 'stooklaw04.CrcOpens', WHERE WHAT IT READS IS OF BULK AT MOST 1048576: true; the input reads as it did. -/
def crcOpensUptoRow : OpenClaim := { program := "ytdjgdhpncocahaa", sum := "50ae26e85cdcbcec16c969fbea63ca05a07b4077f01c151bfda1e4f84c72a087", func := "stook/stooklaw04.CrcOpens", spec := "crcOpens", apart := false, narrowed := true }
def CrcOpensUptoSaid : Prop := crcOpensUptoRow.holds Try.pinned (OpenSpec.upto crcOpensSpec)

/-- 'stooklaw04.CrcCuts', WHERE WHAT IT READS IS OF BULK AT MOST 1048576: true; the input reads as it did. -/
def crcCutsUptoRow : OpenClaim := { program := "ytdjgdhpncocahaa", sum := "50ae26e85cdcbcec16c969fbea63ca05a07b4077f01c151bfda1e4f84c72a087", func := "stook/stooklaw04.CrcCuts", spec := "crcCuts", apart := false, narrowed := true }
def CrcCutsUptoSaid : Prop := crcCutsUptoRow.holds Try.pinned (OpenSpec.upto crcCutsSpec)

/-- 'stooklaw05.TapeLays', WHERE WHAT IT READS IS OF BULK AT MOST 1048576: true; the input reads as it did. -/
def tapeLaysUptoRow : OpenClaim := { program := "ytdjgdhpncocahaa", sum := "50ae26e85cdcbcec16c969fbea63ca05a07b4077f01c151bfda1e4f84c72a087", func := "stook/stooklaw05.TapeLays", spec := "tapeLays", inPlace := ["internal/abi.NoEscape"], recurses := true, apart := false, narrowed := true }
def TapeLaysUptoSaid : Prop := tapeLaysUptoRow.holds Try.pinned (OpenSpec.upto tapeLaysSpec)

/-- 'stooklaw05.TapeStays', WHERE WHAT IT READS IS OF BULK AT MOST 1048576: true; the input reads as it did. -/
def tapeStaysUptoRow : OpenClaim := { program := "ytdjgdhpncocahaa", sum := "50ae26e85cdcbcec16c969fbea63ca05a07b4077f01c151bfda1e4f84c72a087", func := "stook/stooklaw05.TapeStays", spec := "tapeStays", apart := false, narrowed := true }
def TapeStaysUptoSaid : Prop := tapeStaysUptoRow.holds Try.pinned (OpenSpec.upto tapeStaysSpec)

/-- 'stooklaw05.TapeNil', WHERE WHAT IT READS IS OF BULK AT MOST 1048576: true; the input reads as it did. -/
def tapeNilUptoRow : OpenClaim := { program := "ytdjgdhpncocahaa", sum := "50ae26e85cdcbcec16c969fbea63ca05a07b4077f01c151bfda1e4f84c72a087", func := "stook/stooklaw05.TapeNil", spec := "tapeNil", apart := false, narrowed := true }
def TapeNilUptoSaid : Prop := tapeNilUptoRow.holds Try.pinned (OpenSpec.upto tapeNilSpec)

/-- 'stooklaw05.TapeBack', WHERE WHAT IT READS IS OF BULK AT MOST 1048576: true; the input reads as it did. -/
def tapeBackUptoRow : OpenClaim := { program := "ytdjgdhpncocahaa", sum := "50ae26e85cdcbcec16c969fbea63ca05a07b4077f01c151bfda1e4f84c72a087", func := "stook/stooklaw05.TapeBack", spec := "tapeBack", inPlace := ["internal/abi.NoEscape"], apart := false, narrowed := true }
def TapeBackUptoSaid : Prop := tapeBackUptoRow.holds Try.pinned (OpenSpec.upto tapeBackSpec)

/-- 'stooklaw19.JournalAgain', WHERE WHAT IT READS IS OF BULK AT MOST 1048576: true; the input reads as it did. -/
def journalAgainUptoRow : OpenClaim := { program := "ytdjgdhpncocahaa", sum := "50ae26e85cdcbcec16c969fbea63ca05a07b4077f01c151bfda1e4f84c72a087", func := "stook/stooklaw19.JournalAgain", spec := "journalAgain", inPlace := ["internal/abi.NoEscape"], apart := false, narrowed := true }
def JournalAgainUptoSaid : Prop := journalAgainUptoRow.holds Try.pinned (OpenSpec.upto journalAgainSpec)

/-- 'stooklaw19.JournalCompact', WHERE WHAT IT READS IS OF BULK AT MOST 1048576: true; the input reads as it did. -/
def journalCompactUptoRow : OpenClaim := { program := "ytdjgdhpncocahaa", sum := "50ae26e85cdcbcec16c969fbea63ca05a07b4077f01c151bfda1e4f84c72a087", func := "stook/stooklaw19.JournalCompact", spec := "journalCompact", unfollowed := true, recurses := true, apart := false, narrowed := true }
def JournalCompactUptoSaid : Prop := journalCompactUptoRow.holds Try.pinned (OpenSpec.upto journalCompactSpec)

/-- 'stooklaw19.JournalGrows', WHERE WHAT IT READS IS OF BULK AT MOST 1048576: true; the input reads as it did. -/
def journalGrowsUptoRow : OpenClaim := { program := "ytdjgdhpncocahaa", sum := "50ae26e85cdcbcec16c969fbea63ca05a07b4077f01c151bfda1e4f84c72a087", func := "stook/stooklaw19.JournalGrows", spec := "journalGrows", inPlace := ["internal/abi.NoEscape"], apart := false, narrowed := true }
def JournalGrowsUptoSaid : Prop := journalGrowsUptoRow.holds Try.pinned (OpenSpec.upto journalGrowsSpec)

/-- 'stooklaw19.JournalTorn', WHERE WHAT IT READS IS OF BULK AT MOST 1048576: true; the input reads as it did. -/
def journalTornUptoRow : OpenClaim := { program := "ytdjgdhpncocahaa", sum := "50ae26e85cdcbcec16c969fbea63ca05a07b4077f01c151bfda1e4f84c72a087", func := "stook/stooklaw19.JournalTorn", spec := "journalTorn", inPlace := ["internal/abi.NoEscape"], unfollowed := true, recurses := true, apart := false, narrowed := true }
def JournalTornUptoSaid : Prop := journalTornUptoRow.holds Try.pinned (OpenSpec.upto journalTornSpec)

/-- 'stooklaw19.JournalPlays', WHERE WHAT IT READS IS OF BULK AT MOST 1048576: true; the input reads as it did. -/
def journalPlaysUptoRow : OpenClaim := { program := "ytdjgdhpncocahaa", sum := "50ae26e85cdcbcec16c969fbea63ca05a07b4077f01c151bfda1e4f84c72a087", func := "stook/stooklaw19.JournalPlays", spec := "journalPlays", inPlace := ["internal/abi.NoEscape"], unfollowed := true, recurses := true, apart := false, narrowed := true }
def JournalPlaysUptoSaid : Prop := journalPlaysUptoRow.holds Try.pinned (OpenSpec.upto journalPlaysSpec)

/-- 'stooklaw19.JournalCrash', WHERE WHAT IT READS IS OF BULK AT MOST 1048576: true; the input reads as it did. -/
def journalCrashUptoRow : OpenClaim := { program := "ytdjgdhpncocahaa", sum := "50ae26e85cdcbcec16c969fbea63ca05a07b4077f01c151bfda1e4f84c72a087", func := "stook/stooklaw19.JournalCrash", spec := "journalCrash", inPlace := ["internal/abi.NoEscape"], unfollowed := true, recurses := true, apart := false, narrowed := true }
def JournalCrashUptoSaid : Prop := journalCrashUptoRow.holds Try.pinned (OpenSpec.upto journalCrashSpec)

/-- 'stooklaw19.JournalNil', WHERE WHAT IT READS IS OF BULK AT MOST 1048576: true; the input reads as it did. -/
def journalNilUptoRow : OpenClaim := { program := "ytdjgdhpncocahaa", sum := "50ae26e85cdcbcec16c969fbea63ca05a07b4077f01c151bfda1e4f84c72a087", func := "stook/stooklaw19.JournalNil", spec := "journalNil", inPlace := ["internal/abi.NoEscape"], unfollowed := true, recurses := true, apart := false, narrowed := true }
def JournalNilUptoSaid : Prop := journalNilUptoRow.holds Try.pinned (OpenSpec.upto journalNilSpec)

/-- 'stooklaw21.MsgThere', WHERE WHAT IT READS IS OF BULK AT MOST 1048576: true; the input reads as it did. -/
def msgThereUptoRow : OpenClaim := { program := "ytdjgdhpncocahaa", sum := "50ae26e85cdcbcec16c969fbea63ca05a07b4077f01c151bfda1e4f84c72a087", func := "stook/stooklaw21.MsgThere", spec := "msgThere", inPlace := ["internal/abi.NoEscape"], unfollowed := true, recurses := true, apart := false, narrowed := true }
def MsgThereUptoSaid : Prop := msgThereUptoRow.holds Try.pinned (OpenSpec.upto msgThereSpec)

/-- 'stooklaw21.MsgBack', WHERE WHAT IT READS IS OF BULK AT MOST 1048576: true; the input reads as it did. -/
def msgBackUptoRow : OpenClaim := { program := "ytdjgdhpncocahaa", sum := "50ae26e85cdcbcec16c969fbea63ca05a07b4077f01c151bfda1e4f84c72a087", func := "stook/stooklaw21.MsgBack", spec := "msgBack", inPlace := ["internal/abi.NoEscape"], unfollowed := true, recurses := true, apart := false, narrowed := true }
def MsgBackUptoSaid : Prop := msgBackUptoRow.holds Try.pinned (OpenSpec.upto msgBackSpec)

end Rows
end Go.Proofs.Ytdjgdhpncocahaa
