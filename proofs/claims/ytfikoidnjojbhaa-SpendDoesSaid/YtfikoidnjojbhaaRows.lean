/-
  No cell of these rows narrows 'for every input' (looked for: loops, veiled, ifaces, maps, wideKeys, modest, calm, conditions, laid).
  DERIVED. THE GIVEN ROWS OF THIS SEAT. 5 by the template 'for every input the law returns true; each argument reads behind the call as it read before'; 0 by the template 'total and deterministic' (their statements: YtfikoidnjojbhaaTotals.lean).
  GIVEN WITH THE SEED: the statements are not yours to turn. If you find one false, say at which input.
  Laid BY PROGRAM, IN A SANDBOX (cutbox-rows.mjs): the forced cells as the released guide's own fill.sh prints them over the translation 81a8d67a11465fc0… (all of the seat's roots in one cut). By AI agents, Wed Nov 11 2026. No macro, syntax, notation, axiom, sorry.
-/
import Derived.Test.YtfikoidnjojbhaaChecked
import GoSem.Claim
import GoSem.ClaimJoined
import GoSem.ClaimMapViews
import Derived.JoinedTies
import Derived.KernelRfl
namespace Go.Proofs.Ytfikoidnjojbhaa
/- THE CELL 'sum', in the pinned program and in every row, IS THE sha256 OF THE DUMP (.gsa) THAT YtfikoidnjojbhaaProg.lean LOADS. Nothing in Lean hashes anything: it is a label: what it is worth is what the hold of that sum in a sandbox is worth. -/
noncomputable def Try.pinned : Pinned := { name := "ytfikoidnjojbhaa", sum := "81a8d67a11465fc03c0aec3056f6c507e1117020dd73ea351e2b7f0a27f320cc", checked := Try.checked }
namespace Rows
def none {H : Type} : Left H := { results := [], args := [] }

/-- 'damsonlaw15.SpendCaps': WHATEVER THE INPUT: true; the input reads as it did. -/
def spendCapsSpec : ChangeSpec := { name := "spendCaps", fn := fun _ => fun
  | [d1, d2, d3, d4, d5, d6] => { results := [.lit (.bool true)], args := [d1, d2, d3, d4, d5, d6] }
  | _ => none }
def spendCapsRow : OpenClaim := { program := "ytfikoidnjojbhaa", sum := "81a8d67a11465fc03c0aec3056f6c507e1117020dd73ea351e2b7f0a27f320cc", func := "damson/damsonlaw15.SpendCaps", spec := "spendCaps", inPlace := ["slices.overlaps[damson/api.Count]"], unfollowed := true, recurses := true, apart := false }
def SpendCapsSaid : Prop := spendCapsRow.holds Try.pinned (OpenSpec.ofChange spendCapsSpec)

/-- ITS FALSE NEIGHBOUR: 'it returns false'. Refute it at one input. -/
def spendCapsWrong : ChangeSpec := { name := "spendCaps", fn := fun _ => fun
  | [d1, d2, d3, d4, d5, d6] => { results := [.lit (.bool false)], args := [d1, d2, d3, d4, d5, d6] }
  | _ => none }
def SpendCapsWrongFalsely : Prop := spendCapsRow.holds Try.pinned (OpenSpec.ofChange spendCapsWrong)

/-- 'damsonlaw15.SpendMay': WHATEVER THE INPUT: true; the input reads as it did. -/
def spendMaySpec : ChangeSpec := { name := "spendMay", fn := fun _ => fun
  | [d1, d2, d3, d4, d5, d6] => { results := [.lit (.bool true)], args := [d1, d2, d3, d4, d5, d6] }
  | _ => none }
def spendMayRow : OpenClaim := { program := "ytfikoidnjojbhaa", sum := "81a8d67a11465fc03c0aec3056f6c507e1117020dd73ea351e2b7f0a27f320cc", func := "damson/damsonlaw15.SpendMay", spec := "spendMay", inPlace := ["slices.overlaps[damson/api.Count]"], unfollowed := true, recurses := true, apart := false }
def SpendMaySaid : Prop := spendMayRow.holds Try.pinned (OpenSpec.ofChange spendMaySpec)

/-- ITS FALSE NEIGHBOUR: 'it returns false'. Refute it at one input. -/
def spendMayWrong : ChangeSpec := { name := "spendMay", fn := fun _ => fun
  | [d1, d2, d3, d4, d5, d6] => { results := [.lit (.bool false)], args := [d1, d2, d3, d4, d5, d6] }
  | _ => none }
def SpendMayWrongFalsely : Prop := spendMayRow.holds Try.pinned (OpenSpec.ofChange spendMayWrong)

/-- 'damsonlaw15.SpendNone': WHATEVER THE INPUT: true; the input reads as it did. -/
def spendNoneSpec : ChangeSpec := { name := "spendNone", fn := fun _ => fun
  | [d1, d2, d3, d4, d5] => { results := [.lit (.bool true)], args := [d1, d2, d3, d4, d5] }
  | _ => none }
def spendNoneRow : OpenClaim := { program := "ytfikoidnjojbhaa", sum := "81a8d67a11465fc03c0aec3056f6c507e1117020dd73ea351e2b7f0a27f320cc", func := "damson/damsonlaw15.SpendNone", spec := "spendNone", inPlace := ["slices.overlaps[damson/api.Count]"], unfollowed := true, recurses := true, apart := false }
def SpendNoneSaid : Prop := spendNoneRow.holds Try.pinned (OpenSpec.ofChange spendNoneSpec)

/-- ITS FALSE NEIGHBOUR: 'it returns false'. Refute it at one input. -/
def spendNoneWrong : ChangeSpec := { name := "spendNone", fn := fun _ => fun
  | [d1, d2, d3, d4, d5] => { results := [.lit (.bool false)], args := [d1, d2, d3, d4, d5] }
  | _ => none }
def SpendNoneWrongFalsely : Prop := spendNoneRow.holds Try.pinned (OpenSpec.ofChange spendNoneWrong)

/-- 'damsonlaw15.SpendRoots': WHATEVER THE INPUT: true; the input reads as it did. -/
def spendRootsSpec : ChangeSpec := { name := "spendRoots", fn := fun _ => fun
  | [d1, d2, d3, d4, d5, d6, d7] => { results := [.lit (.bool true)], args := [d1, d2, d3, d4, d5, d6, d7] }
  | _ => none }
def spendRootsRow : OpenClaim := { program := "ytfikoidnjojbhaa", sum := "81a8d67a11465fc03c0aec3056f6c507e1117020dd73ea351e2b7f0a27f320cc", func := "damson/damsonlaw15.SpendRoots", spec := "spendRoots", inPlace := ["slices.overlaps[damson/api.Count]"], unfollowed := true, recurses := true, apart := false }
def SpendRootsSaid : Prop := spendRootsRow.holds Try.pinned (OpenSpec.ofChange spendRootsSpec)

/-- ITS FALSE NEIGHBOUR: 'it returns false'. Refute it at one input. -/
def spendRootsWrong : ChangeSpec := { name := "spendRoots", fn := fun _ => fun
  | [d1, d2, d3, d4, d5, d6, d7] => { results := [.lit (.bool false)], args := [d1, d2, d3, d4, d5, d6, d7] }
  | _ => none }
def SpendRootsWrongFalsely : Prop := spendRootsRow.holds Try.pinned (OpenSpec.ofChange spendRootsWrong)

/-- 'damsonlaw15.SpendDoes': WHATEVER THE INPUT: true; the input reads as it did. -/
def spendDoesSpec : ChangeSpec := { name := "spendDoes", fn := fun _ => fun
  | [d1, d2, d3, d4, d5, d6] => { results := [.lit (.bool true)], args := [d1, d2, d3, d4, d5, d6] }
  | _ => none }
def spendDoesRow : OpenClaim := { program := "ytfikoidnjojbhaa", sum := "81a8d67a11465fc03c0aec3056f6c507e1117020dd73ea351e2b7f0a27f320cc", func := "damson/damsonlaw15.SpendDoes", spec := "spendDoes", inPlace := ["slices.overlaps[damson/api.Count]"], unfollowed := true, recurses := true, apart := false }
def SpendDoesSaid : Prop := spendDoesRow.holds Try.pinned (OpenSpec.ofChange spendDoesSpec)

/-- ITS FALSE NEIGHBOUR: 'it returns false'. Refute it at one input. -/
def spendDoesWrong : ChangeSpec := { name := "spendDoes", fn := fun _ => fun
  | [d1, d2, d3, d4, d5, d6] => { results := [.lit (.bool false)], args := [d1, d2, d3, d4, d5, d6] }
  | _ => none }
def SpendDoesWrongFalsely : Prop := spendDoesRow.holds Try.pinned (OpenSpec.ofChange spendDoesWrong)

/- THE SECOND FORM. 'bulk': how many values and letters a reading holds, each counted each time it is reached (what is shared counts as often as it is met; a slice's spare places count too). A statement '..UptoSaid' is the law's where the arguments, and the package variables that the reading takes, are together of bulk at most 1048576: NARROWER than '..Said'. Prove '..Said' where nothing that the law and all that it calls make is longer than what came in: it says more and counts as full. Else prove '..UptoSaid'. A law counts once. -/
mutual
def uptoBulk {H : Type} : DataW H → Nat
  | .lit (.string bytes) => bytes.length + 1
  | .lit _ => 1
  | .nil => 1
  | .ptr d => uptoBulk d + 1
  | .slice elems spare => uptoBulkAll elems + uptoBulkAll spare + 1
  | .agg parts => uptoBulkAll parts + 1
  | .iface _ d => uptoBulk d + 1
  | .map entries => uptoBulkEntries entries + 1
  | .held _ => 1
def uptoBulkAll {H : Type} : List (DataW H) → Nat
  | [] => 0
  | d :: r => uptoBulk d + uptoBulkAll r
def uptoBulkEntries {H : Type} : List (Lit × DataW H) → Nat
  | [] => 0
  | x :: r => uptoBulkEntry x + uptoBulkEntries r
def uptoBulkEntry {H : Type} : Lit × DataW H → Nat
  | (.string bytes, d) => bytes.length + uptoBulk d + 1
  | (_, d) => uptoBulk d + 1
 end
def uptoSmall : (H : Type) → List (DataW H) → Bool := fun _ ds => decide (uptoBulkAll ds ≤ 1048576)
def OpenSpec.upto (s : _root_.Go.ChangeSpec) : _root_.Go.OpenSpec := { _root_.Go.OpenSpec.ofChange s with cond := some uptoSmall }

/-- 'damsonlaw15.SpendCaps', WHERE WHAT IT READS IS OF BULK AT MOST 1048576: true; the input reads as it did. -/
def spendCapsUptoRow : OpenClaim := { program := "ytfikoidnjojbhaa", sum := "81a8d67a11465fc03c0aec3056f6c507e1117020dd73ea351e2b7f0a27f320cc", func := "damson/damsonlaw15.SpendCaps", spec := "spendCaps", inPlace := ["slices.overlaps[damson/api.Count]"], unfollowed := true, recurses := true, apart := false, narrowed := true }
def SpendCapsUptoSaid : Prop := spendCapsUptoRow.holds Try.pinned (OpenSpec.upto spendCapsSpec)

/-- 'damsonlaw15.SpendMay', WHERE WHAT IT READS IS OF BULK AT MOST 1048576: true; the input reads as it did. -/
def spendMayUptoRow : OpenClaim := { program := "ytfikoidnjojbhaa", sum := "81a8d67a11465fc03c0aec3056f6c507e1117020dd73ea351e2b7f0a27f320cc", func := "damson/damsonlaw15.SpendMay", spec := "spendMay", inPlace := ["slices.overlaps[damson/api.Count]"], unfollowed := true, recurses := true, apart := false, narrowed := true }
def SpendMayUptoSaid : Prop := spendMayUptoRow.holds Try.pinned (OpenSpec.upto spendMaySpec)

/-- 'damsonlaw15.SpendNone', WHERE WHAT IT READS IS OF BULK AT MOST 1048576: true; the input reads as it did. -/
def spendNoneUptoRow : OpenClaim := { program := "ytfikoidnjojbhaa", sum := "81a8d67a11465fc03c0aec3056f6c507e1117020dd73ea351e2b7f0a27f320cc", func := "damson/damsonlaw15.SpendNone", spec := "spendNone", inPlace := ["slices.overlaps[damson/api.Count]"], unfollowed := true, recurses := true, apart := false, narrowed := true }
def SpendNoneUptoSaid : Prop := spendNoneUptoRow.holds Try.pinned (OpenSpec.upto spendNoneSpec)

/-- 'damsonlaw15.SpendRoots', WHERE WHAT IT READS IS OF BULK AT MOST 1048576: true; the input reads as it did. -/
def spendRootsUptoRow : OpenClaim := { program := "ytfikoidnjojbhaa", sum := "81a8d67a11465fc03c0aec3056f6c507e1117020dd73ea351e2b7f0a27f320cc", func := "damson/damsonlaw15.SpendRoots", spec := "spendRoots", inPlace := ["slices.overlaps[damson/api.Count]"], unfollowed := true, recurses := true, apart := false, narrowed := true }
def SpendRootsUptoSaid : Prop := spendRootsUptoRow.holds Try.pinned (OpenSpec.upto spendRootsSpec)

/-- 'damsonlaw15.SpendDoes', WHERE WHAT IT READS IS OF BULK AT MOST 1048576: true; the input reads as it did. -/
def spendDoesUptoRow : OpenClaim := { program := "ytfikoidnjojbhaa", sum := "81a8d67a11465fc03c0aec3056f6c507e1117020dd73ea351e2b7f0a27f320cc", func := "damson/damsonlaw15.SpendDoes", spec := "spendDoes", inPlace := ["slices.overlaps[damson/api.Count]"], unfollowed := true, recurses := true, apart := false, narrowed := true }
def SpendDoesUptoSaid : Prop := spendDoesUptoRow.holds Try.pinned (OpenSpec.upto spendDoesSpec)

end Rows
end Go.Proofs.Ytfikoidnjojbhaa
