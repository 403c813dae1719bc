/-
  No cell of these rows narrows 'for every input' (looked for: loops, veiled, ifaces, maps, wideKeys, modest, calm, conditions, laid).
  DERIVED. THE GIVEN ROWS OF THIS SEAT. 6 by the template 'for every input the law returns true; each argument reads behind the call as it read before'; 0 by the template 'total and deterministic' (their statements: YtfngdpmbhfejcaaTotals.lean).
  GIVEN WITH THE SEED: the statements are not yours to turn. If you find one false, say at which input.
  Laid BY PROGRAM, IN A SANDBOX (cutbox-rows.mjs): the forced cells as the released guide's own fill.sh prints them over the translation 8147b0066893409a… (all of the seat's roots in one cut). By AI agents, Wed Nov 11 2026. No macro, syntax, notation, axiom, sorry.
-/
import Derived.Test.YtfngdpmbhfejcaaChecked
import GoSem.Claim
import GoSem.ClaimJoined
import GoSem.ClaimMapViews
import Derived.JoinedTies
import Derived.KernelRfl
namespace Go.Proofs.Ytfngdpmbhfejcaa
/- THE CELL 'sum', in the pinned program and in every row, IS THE sha256 OF THE DUMP (.gsa) THAT YtfngdpmbhfejcaaProg.lean LOADS. Nothing in Lean hashes anything: it is a label: what it is worth is what the hold of that sum in a sandbox is worth. -/
noncomputable def Try.pinned : Pinned := { name := "ytfngdpmbhfejcaa", sum := "8147b0066893409ab041636b89f087d21d44ba57f107adb946b14f0ec34d61a4", checked := Try.checked }
namespace Rows
def none {H : Type} : Left H := { results := [], args := [] }

/-- 'damsonlaw16.FeedKeeps': WHATEVER THE INPUT: true; the input reads as it did. -/
def feedKeepsSpec : ChangeSpec := { name := "feedKeeps", fn := fun _ => fun
  | [d1, d2] => { results := [.lit (.bool true)], args := [d1, d2] }
  | _ => none }
def feedKeepsRow : OpenClaim := { program := "ytfngdpmbhfejcaa", sum := "8147b0066893409ab041636b89f087d21d44ba57f107adb946b14f0ec34d61a4", func := "damson/damsonlaw16.FeedKeeps", spec := "feedKeeps", unfollowed := true, recurses := true, apart := false }
def FeedKeepsSaid : Prop := feedKeepsRow.holds Try.pinned (OpenSpec.ofChange feedKeepsSpec)

/-- ITS FALSE NEIGHBOUR: 'it returns false'. Refute it at one input. -/
def feedKeepsWrong : ChangeSpec := { name := "feedKeeps", fn := fun _ => fun
  | [d1, d2] => { results := [.lit (.bool false)], args := [d1, d2] }
  | _ => none }
def FeedKeepsWrongFalsely : Prop := feedKeepsRow.holds Try.pinned (OpenSpec.ofChange feedKeepsWrong)

/-- 'damsonlaw16.FeedOld': WHATEVER THE INPUT: true; the input reads as it did. -/
def feedOldSpec : ChangeSpec := { name := "feedOld", fn := fun _ => fun
  | [d1, d2, d3] => { results := [.lit (.bool true)], args := [d1, d2, d3] }
  | _ => none }
def feedOldRow : OpenClaim := { program := "ytfngdpmbhfejcaa", sum := "8147b0066893409ab041636b89f087d21d44ba57f107adb946b14f0ec34d61a4", func := "damson/damsonlaw16.FeedOld", spec := "feedOld", unfollowed := true, recurses := true, apart := false }
def FeedOldSaid : Prop := feedOldRow.holds Try.pinned (OpenSpec.ofChange feedOldSpec)

/-- ITS FALSE NEIGHBOUR: 'it returns false'. Refute it at one input. -/
def feedOldWrong : ChangeSpec := { name := "feedOld", fn := fun _ => fun
  | [d1, d2, d3] => { results := [.lit (.bool false)], args := [d1, d2, d3] }
  | _ => none }
def FeedOldWrongFalsely : Prop := feedOldRow.holds Try.pinned (OpenSpec.ofChange feedOldWrong)

/-- 'damsonlaw16.FeedOnce': WHATEVER THE INPUT: true; the input reads as it did. -/
def feedOnceSpec : ChangeSpec := { name := "feedOnce", fn := fun _ => fun
  | [d1, d2, d3, d4] => { results := [.lit (.bool true)], args := [d1, d2, d3, d4] }
  | _ => none }
def feedOnceRow : OpenClaim := { program := "ytfngdpmbhfejcaa", sum := "8147b0066893409ab041636b89f087d21d44ba57f107adb946b14f0ec34d61a4", func := "damson/damsonlaw16.FeedOnce", spec := "feedOnce", unfollowed := true, recurses := true, apart := false }
def FeedOnceSaid : Prop := feedOnceRow.holds Try.pinned (OpenSpec.ofChange feedOnceSpec)

/-- ITS FALSE NEIGHBOUR: 'it returns false'. Refute it at one input. -/
def feedOnceWrong : ChangeSpec := { name := "feedOnce", fn := fun _ => fun
  | [d1, d2, d3, d4] => { results := [.lit (.bool false)], args := [d1, d2, d3, d4] }
  | _ => none }
def FeedOnceWrongFalsely : Prop := feedOnceRow.holds Try.pinned (OpenSpec.ofChange feedOnceWrong)

/-- 'damsonlaw16.FeedSteps': WHATEVER THE INPUT: true; the input reads as it did. -/
def feedStepsSpec : ChangeSpec := { name := "feedSteps", fn := fun _ => fun
  | [d1, d2, d3, d4] => { results := [.lit (.bool true)], args := [d1, d2, d3, d4] }
  | _ => none }
def feedStepsRow : OpenClaim := { program := "ytfngdpmbhfejcaa", sum := "8147b0066893409ab041636b89f087d21d44ba57f107adb946b14f0ec34d61a4", func := "damson/damsonlaw16.FeedSteps", spec := "feedSteps", unfollowed := true, recurses := true, apart := false }
def FeedStepsSaid : Prop := feedStepsRow.holds Try.pinned (OpenSpec.ofChange feedStepsSpec)

/-- ITS FALSE NEIGHBOUR: 'it returns false'. Refute it at one input. -/
def feedStepsWrong : ChangeSpec := { name := "feedSteps", fn := fun _ => fun
  | [d1, d2, d3, d4] => { results := [.lit (.bool false)], args := [d1, d2, d3, d4] }
  | _ => none }
def FeedStepsWrongFalsely : Prop := feedStepsRow.holds Try.pinned (OpenSpec.ofChange feedStepsWrong)

/-- 'damsonlaw16.FeedMasks': WHATEVER THE INPUT: true; the input reads as it did. -/
def feedMasksSpec : ChangeSpec := { name := "feedMasks", fn := fun _ => fun
  | [d1, d2, d3] => { results := [.lit (.bool true)], args := [d1, d2, d3] }
  | _ => none }
def feedMasksRow : OpenClaim := { program := "ytfngdpmbhfejcaa", sum := "8147b0066893409ab041636b89f087d21d44ba57f107adb946b14f0ec34d61a4", func := "damson/damsonlaw16.FeedMasks", spec := "feedMasks", unfollowed := true, recurses := true, apart := false }
def FeedMasksSaid : Prop := feedMasksRow.holds Try.pinned (OpenSpec.ofChange feedMasksSpec)

/-- ITS FALSE NEIGHBOUR: 'it returns false'. Refute it at one input. -/
def feedMasksWrong : ChangeSpec := { name := "feedMasks", fn := fun _ => fun
  | [d1, d2, d3] => { results := [.lit (.bool false)], args := [d1, d2, d3] }
  | _ => none }
def FeedMasksWrongFalsely : Prop := feedMasksRow.holds Try.pinned (OpenSpec.ofChange feedMasksWrong)

/-- 'damsonlaw16.FeedDoes': WHATEVER THE INPUT: true; the input reads as it did. -/
def feedDoesSpec : ChangeSpec := { name := "feedDoes", fn := fun _ => fun
  | [d1, d2, d3, d4, d5, d6, d7] => { results := [.lit (.bool true)], args := [d1, d2, d3, d4, d5, d6, d7] }
  | _ => none }
def feedDoesRow : OpenClaim := { program := "ytfngdpmbhfejcaa", sum := "8147b0066893409ab041636b89f087d21d44ba57f107adb946b14f0ec34d61a4", func := "damson/damsonlaw16.FeedDoes", spec := "feedDoes", unfollowed := true, recurses := true, apart := false }
def FeedDoesSaid : Prop := feedDoesRow.holds Try.pinned (OpenSpec.ofChange feedDoesSpec)

/-- ITS FALSE NEIGHBOUR: 'it returns false'. Refute it at one input. -/
def feedDoesWrong : ChangeSpec := { name := "feedDoes", fn := fun _ => fun
  | [d1, d2, d3, d4, d5, d6, d7] => { results := [.lit (.bool false)], args := [d1, d2, d3, d4, d5, d6, d7] }
  | _ => none }
def FeedDoesWrongFalsely : Prop := feedDoesRow.holds Try.pinned (OpenSpec.ofChange feedDoesWrong)

/- THE SECOND FORM. 'bulk': how many values and letters a reading holds, each counted each time it is reached (what is shared counts as often as it is met; a slice's spare places count too). A statement '..UptoSaid' is the law's where the arguments, and the package variables that the reading takes, are together of bulk at most 1048576: NARROWER than '..Said'. Prove '..Said' where nothing that the law and all that it calls make is longer than what came in: it says more and counts as full. Else prove '..UptoSaid'. A law counts once. -/
mutual
def uptoBulk {H : Type} : DataW H → Nat
  | .lit (.string bytes) => bytes.length + 1
  | .lit _ => 1
  | .nil => 1
  | .ptr d => uptoBulk d + 1
  | .slice elems spare => uptoBulkAll elems + uptoBulkAll spare + 1
  | .agg parts => uptoBulkAll parts + 1
  | .iface _ d => uptoBulk d + 1
  | .map entries => uptoBulkEntries entries + 1
  | .held _ => 1
def uptoBulkAll {H : Type} : List (DataW H) → Nat
  | [] => 0
  | d :: r => uptoBulk d + uptoBulkAll r
def uptoBulkEntries {H : Type} : List (Lit × DataW H) → Nat
  | [] => 0
  | x :: r => uptoBulkEntry x + uptoBulkEntries r
def uptoBulkEntry {H : Type} : Lit × DataW H → Nat
  | (.string bytes, d) => bytes.length + uptoBulk d + 1
  | (_, d) => uptoBulk d + 1
 end
def uptoSmall : (H : Type) → List (DataW H) → Bool := fun _ ds => decide (uptoBulkAll ds ≤ 1048576)
def OpenSpec.upto (s : _root_.Go.ChangeSpec) : _root_.Go.OpenSpec := { _root_.Go.OpenSpec.ofChange s with cond := some uptoSmall }

/-- 'damsonlaw16.FeedKeeps', WHERE WHAT IT READS IS OF BULK AT MOST 1048576: true; the input reads as it did. -/
def feedKeepsUptoRow : OpenClaim := { program := "ytfngdpmbhfejcaa", sum := "8147b0066893409ab041636b89f087d21d44ba57f107adb946b14f0ec34d61a4", func := "damson/damsonlaw16.FeedKeeps", spec := "feedKeeps", unfollowed := true, recurses := true, apart := false, narrowed := true }
def FeedKeepsUptoSaid : Prop := feedKeepsUptoRow.holds Try.pinned (OpenSpec.upto feedKeepsSpec)

/-- 'damsonlaw16.FeedOld', WHERE WHAT IT READS IS OF BULK AT MOST 1048576: true; the input reads as it did. -/
def feedOldUptoRow : OpenClaim := { program := "ytfngdpmbhfejcaa", sum := "8147b0066893409ab041636b89f087d21d44ba57f107adb946b14f0ec34d61a4", func := "damson/damsonlaw16.FeedOld", spec := "feedOld", unfollowed := true, recurses := true, apart := false, narrowed := true }
def FeedOldUptoSaid : Prop := feedOldUptoRow.holds Try.pinned (OpenSpec.upto feedOldSpec)

/-- 'damsonlaw16.FeedOnce', WHERE WHAT IT READS IS OF BULK AT MOST 1048576: true; the input reads as it did. -/
def feedOnceUptoRow : OpenClaim := { program := "ytfngdpmbhfejcaa", sum := "8147b0066893409ab041636b89f087d21d44ba57f107adb946b14f0ec34d61a4", func := "damson/damsonlaw16.FeedOnce", spec := "feedOnce", unfollowed := true, recurses := true, apart := false, narrowed := true }
def FeedOnceUptoSaid : Prop := feedOnceUptoRow.holds Try.pinned (OpenSpec.upto feedOnceSpec)

/-- 'damsonlaw16.FeedSteps', WHERE WHAT IT READS IS OF BULK AT MOST 1048576: true; the input reads as it did. -/
def feedStepsUptoRow : OpenClaim := { program := "ytfngdpmbhfejcaa", sum := "8147b0066893409ab041636b89f087d21d44ba57f107adb946b14f0ec34d61a4", func := "damson/damsonlaw16.FeedSteps", spec := "feedSteps", unfollowed := true, recurses := true, apart := false, narrowed := true }
def FeedStepsUptoSaid : Prop := feedStepsUptoRow.holds Try.pinned (OpenSpec.upto feedStepsSpec)

/-- 'damsonlaw16.FeedMasks', WHERE WHAT IT READS IS OF BULK AT MOST 1048576: true; the input reads as it did. -/
def feedMasksUptoRow : OpenClaim := { program := "ytfngdpmbhfejcaa", sum := "8147b0066893409ab041636b89f087d21d44ba57f107adb946b14f0ec34d61a4", func := "damson/damsonlaw16.FeedMasks", spec := "feedMasks", unfollowed := true, recurses := true, apart := false, narrowed := true }
def FeedMasksUptoSaid : Prop := feedMasksUptoRow.holds Try.pinned (OpenSpec.upto feedMasksSpec)

/-- 'damsonlaw16.FeedDoes', WHERE WHAT IT READS IS OF BULK AT MOST 1048576: true; the input reads as it did. -/
def feedDoesUptoRow : OpenClaim := { program := "ytfngdpmbhfejcaa", sum := "8147b0066893409ab041636b89f087d21d44ba57f107adb946b14f0ec34d61a4", func := "damson/damsonlaw16.FeedDoes", spec := "feedDoes", unfollowed := true, recurses := true, apart := false, narrowed := true }
def FeedDoesUptoSaid : Prop := feedDoesUptoRow.holds Try.pinned (OpenSpec.upto feedDoesSpec)

end Rows
end Go.Proofs.Ytfngdpmbhfejcaa
