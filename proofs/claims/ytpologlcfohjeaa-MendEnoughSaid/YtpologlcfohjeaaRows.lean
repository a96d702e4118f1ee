/-
  No cell of these rows narrows 'for every input' (looked for: loops, veiled, ifaces, maps, wideKeys, modest, calm, conditions, laid).
  DERIVED. THE GIVEN ROWS OF THIS SEAT. 3 by the template 'for every input the law returns true; each argument reads behind the call as it read before'; 0 by the template 'total and deterministic' (their statements: YtpologlcfohjeaaTotals.lean).
  GIVEN WITH THE SEED: the statements are not yours to turn. If you find one false, say at which input.
  Laid BY PROGRAM, IN A SANDBOX (cutbox-rows.mjs): the forced cells as the released guide's own fill.sh prints them over the translation 3287d42fc198938c… (all of the seat's roots in one cut). By AI agents, Wed Nov 11 2026. No macro, syntax, notation, axiom, sorry.
-/
import Derived.Test.YtpologlcfohjeaaChecked
import GoSem.Claim
import GoSem.ClaimJoined
import GoSem.ClaimMapViews
import Derived.JoinedTies
import Derived.KernelRfl
namespace Go.Proofs.Ytpologlcfohjeaa
/- THE CELL 'sum', in the pinned program and in every row, IS THE sha256 OF THE DUMP (.gsa) THAT YtpologlcfohjeaaProg.lean LOADS. Nothing in Lean hashes anything: it is a label: what it is worth is what the hold of that sum in a sandbox is worth. -/
noncomputable def Try.pinned : Pinned := { name := "ytpologlcfohjeaa", sum := "3287d42fc198938c543d58357861e9a8ae8da6b6a6f7373ed044aeb392fd96c6", checked := Try.checked }
namespace Rows
def none {H : Type} : Left H := { results := [], args := [] }

/-- 'stooklaw18.MendSafe': WHATEVER THE INPUT: true; the input reads as it did. -/
def mendSafeSpec : ChangeSpec := { name := "mendSafe", fn := fun _ => fun
  | [d1, d2, d3, d4, d5] => { results := [.lit (.bool true)], args := [d1, d2, d3, d4, d5] }
  | _ => none }
def mendSafeRow : OpenClaim := { program := "ytpologlcfohjeaa", sum := "3287d42fc198938c543d58357861e9a8ae8da6b6a6f7373ed044aeb392fd96c6", func := "stook/stooklaw18.MendSafe", spec := "mendSafe", apart := false }
def MendSafeSaid : Prop := mendSafeRow.holds Try.pinned (OpenSpec.ofChange mendSafeSpec)

/-- ITS FALSE NEIGHBOUR: 'it returns false'. Refute it at one input. -/
def mendSafeWrong : ChangeSpec := { name := "mendSafe", fn := fun _ => fun
  | [d1, d2, d3, d4, d5] => { results := [.lit (.bool false)], args := [d1, d2, d3, d4, d5] }
  | _ => none }
def MendSafeWrongFalsely : Prop := mendSafeRow.holds Try.pinned (OpenSpec.ofChange mendSafeWrong)

/-- 'stooklaw18.MendNothing': WHATEVER THE INPUT: true; the input reads as it did. -/
def mendNothingSpec : ChangeSpec := { name := "mendNothing", fn := fun _ => fun
  | [d1, d2, d3, d4, d5, d6] => { results := [.lit (.bool true)], args := [d1, d2, d3, d4, d5, d6] }
  | _ => none }
def mendNothingRow : OpenClaim := { program := "ytpologlcfohjeaa", sum := "3287d42fc198938c543d58357861e9a8ae8da6b6a6f7373ed044aeb392fd96c6", func := "stook/stooklaw18.MendNothing", spec := "mendNothing", unfollowed := true, recurses := true, apart := false }
def MendNothingSaid : Prop := mendNothingRow.holds Try.pinned (OpenSpec.ofChange mendNothingSpec)

/-- ITS FALSE NEIGHBOUR: 'it returns false'. Refute it at one input. -/
def mendNothingWrong : ChangeSpec := { name := "mendNothing", fn := fun _ => fun
  | [d1, d2, d3, d4, d5, d6] => { results := [.lit (.bool false)], args := [d1, d2, d3, d4, d5, d6] }
  | _ => none }
def MendNothingWrongFalsely : Prop := mendNothingRow.holds Try.pinned (OpenSpec.ofChange mendNothingWrong)

/-- 'stooklaw18.MendEnough': WHATEVER THE INPUT: true; the input reads as it did. -/
def mendEnoughSpec : ChangeSpec := { name := "mendEnough", fn := fun _ => fun
  | [d1, d2, d3, d4, d5, d6] => { results := [.lit (.bool true)], args := [d1, d2, d3, d4, d5, d6] }
  | _ => none }
def mendEnoughRow : OpenClaim := { program := "ytpologlcfohjeaa", sum := "3287d42fc198938c543d58357861e9a8ae8da6b6a6f7373ed044aeb392fd96c6", func := "stook/stooklaw18.MendEnough", spec := "mendEnough", unfollowed := true, recurses := true, apart := false }
def MendEnoughSaid : Prop := mendEnoughRow.holds Try.pinned (OpenSpec.ofChange mendEnoughSpec)

/-- ITS FALSE NEIGHBOUR: 'it returns false'. Refute it at one input. -/
def mendEnoughWrong : ChangeSpec := { name := "mendEnough", fn := fun _ => fun
  | [d1, d2, d3, d4, d5, d6] => { results := [.lit (.bool false)], args := [d1, d2, d3, d4, d5, d6] }
  | _ => none }
def MendEnoughWrongFalsely : Prop := mendEnoughRow.holds Try.pinned (OpenSpec.ofChange mendEnoughWrong)

/- THE SECOND FORM. 'bulk': how many values and letters a reading holds, each counted each time it is reached (what is shared counts as often as it is met; a slice's spare places count too). A statement '..UptoSaid' is the law's where the arguments, and the package variables that the reading takes, are together of bulk at most 1048576: NARROWER than '..Said'. Prove '..Said' where nothing that the law and all that it calls make is longer than what came in: it says more and counts as full. Else prove '..UptoSaid'. A law counts once. -/
mutual
def uptoBulk {H : Type} : DataW H → Nat
  | .lit (.string bytes) => bytes.length + 1
  | .lit _ => 1
  | .nil => 1
  | .ptr d => uptoBulk d + 1
  | .slice elems spare => uptoBulkAll elems + uptoBulkAll spare + 1
  | .agg parts => uptoBulkAll parts + 1
  | .iface _ d => uptoBulk d + 1
  | .map entries => uptoBulkEntries entries + 1
  | .held _ => 1
def uptoBulkAll {H : Type} : List (DataW H) → Nat
  | [] => 0
  | d :: r => uptoBulk d + uptoBulkAll r
def uptoBulkEntries {H : Type} : List (Lit × DataW H) → Nat
  | [] => 0
  | x :: r => uptoBulkEntry x + uptoBulkEntries r
def uptoBulkEntry {H : Type} : Lit × DataW H → Nat
  | (.string bytes, d) => bytes.length + uptoBulk d + 1
  | (_, d) => uptoBulk d + 1
 end
def uptoSmall : (H : Type) → List (DataW H) → Bool := fun _ ds => decide (uptoBulkAll ds ≤ 1048576)
def OpenSpec.upto (s : _root_.Go.ChangeSpec) : _root_.Go.OpenSpec := { _root_.Go.OpenSpec.ofChange s with cond := some uptoSmall }

/-- 'stooklaw18.MendSafe', WHERE WHAT IT READS IS OF BULK AT MOST 1048576: true; the input reads as it did. -/
def mendSafeUptoRow : OpenClaim := { program := "ytpologlcfohjeaa", sum := "3287d42fc198938c543d58357861e9a8ae8da6b6a6f7373ed044aeb392fd96c6", func := "stook/stooklaw18.MendSafe", spec := "mendSafe", apart := false, narrowed := true }
def MendSafeUptoSaid : Prop := mendSafeUptoRow.holds Try.pinned (OpenSpec.upto mendSafeSpec)

/-- 'stooklaw18.MendNothing', WHERE WHAT IT READS IS OF BULK AT MOST 1048576: true; the input reads as it did. -/
def mendNothingUptoRow : OpenClaim := { program := "ytpologlcfohjeaa", sum := "3287d42fc198938c543d58357861e9a8ae8da6b6a6f7373ed044aeb392fd96c6", func := "stook/stooklaw18.MendNothing", spec := "mendNothing", unfollowed := true, recurses := true, apart := false, narrowed := true }
def MendNothingUptoSaid : Prop := mendNothingUptoRow.holds Try.pinned (OpenSpec.upto mendNothingSpec)

/-- 'stooklaw18.MendEnough', WHERE WHAT IT READS IS OF BULK AT MOST 1048576: true; the input reads as it did. -/
def mendEnoughUptoRow : OpenClaim := { program := "ytpologlcfohjeaa", sum := "3287d42fc198938c543d58357861e9a8ae8da6b6a6f7373ed044aeb392fd96c6", func := "stook/stooklaw18.MendEnough", spec := "mendEnough", unfollowed := true, recurses := true, apart := false, narrowed := true }
def MendEnoughUptoSaid : Prop := mendEnoughUptoRow.holds Try.pinned (OpenSpec.upto mendEnoughSpec)

end Rows
end Go.Proofs.Ytpologlcfohjeaa
