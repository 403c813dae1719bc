/-
  No cell of these rows narrows 'for every input' (looked for: loops, veiled, ifaces, maps, wideKeys, modest, calm, conditions, laid).
  DERIVED. THE GIVEN ROWS OF THIS SEAT. 5 by the template 'for every input the law returns true; each argument reads behind the call as it read before'; 0 by the template 'total and deterministic' (their statements: YtpaojpjhppgoeaaTotals.lean).
  GIVEN WITH THE SEED: the statements are not yours to turn. If you find one false, say at which input.
  Laid BY PROGRAM, IN A SANDBOX (cutbox-rows.mjs): the forced cells as the released guide's own fill.sh prints them over the translation 15307d15cb48ead2… (all of the seat's roots in one cut). By AI agents, Wed Nov 11 2026. No macro, syntax, notation, axiom, sorry.
-/
import Derived.Test.YtpaojpjhppgoeaaChecked
import GoSem.Claim
import GoSem.ClaimJoined
import GoSem.ClaimMapViews
import Derived.JoinedTies
import Derived.KernelRfl
namespace Go.Proofs.Ytpaojpjhppgoeaa
/- THE CELL 'sum', in the pinned program and in every row, IS THE sha256 OF THE DUMP (.gsa) THAT YtpaojpjhppgoeaaProg.lean LOADS. Nothing in Lean hashes anything: it is a label: what it is worth is what the hold of that sum in a sandbox is worth. -/
noncomputable def Try.pinned : Pinned := { name := "ytpaojpjhppgoeaa", sum := "15307d15cb48ead299319acd23c93fc8d5fd5d5309e90b62042fb0d95a9a0a85", checked := Try.checked }
namespace Rows
def none {H : Type} : Left H := { results := [], args := [] }

/-- 'damsonlaw08.RootsFull': WHATEVER THE INPUT: true; the input reads as it did. -/
def rootsFullSpec : ChangeSpec := { name := "rootsFull", fn := fun _ => fun
  | [d1, d2] => { results := [.lit (.bool true)], args := [d1, d2] }
  | _ => none }
def rootsFullRow : OpenClaim := { program := "ytpaojpjhppgoeaa", sum := "15307d15cb48ead299319acd23c93fc8d5fd5d5309e90b62042fb0d95a9a0a85", func := "damson/damsonlaw08.RootsFull", spec := "rootsFull", inPlace := ["slices.overlaps[damson/api.RootKey]"], unfollowed := true, recurses := true, apart := false }
def RootsFullSaid : Prop := rootsFullRow.holds Try.pinned (OpenSpec.ofChange rootsFullSpec)

/-- ITS FALSE NEIGHBOUR: 'it returns false'. Refute it at one input. -/
def rootsFullWrong : ChangeSpec := { name := "rootsFull", fn := fun _ => fun
  | [d1, d2] => { results := [.lit (.bool false)], args := [d1, d2] }
  | _ => none }
def RootsFullWrongFalsely : Prop := rootsFullRow.holds Try.pinned (OpenSpec.ofChange rootsFullWrong)

/-- 'damsonlaw08.RootsGone': WHATEVER THE INPUT: true; the input reads as it did. -/
def rootsGoneSpec : ChangeSpec := { name := "rootsGone", fn := fun _ => fun
  | [d1, d2, d3, d4, d5] => { results := [.lit (.bool true)], args := [d1, d2, d3, d4, d5] }
  | _ => none }
def rootsGoneRow : OpenClaim := { program := "ytpaojpjhppgoeaa", sum := "15307d15cb48ead299319acd23c93fc8d5fd5d5309e90b62042fb0d95a9a0a85", func := "damson/damsonlaw08.RootsGone", spec := "rootsGone", inPlace := ["slices.overlaps[damson/api.RootKey]"], unfollowed := true, recurses := true, apart := false }
def RootsGoneSaid : Prop := rootsGoneRow.holds Try.pinned (OpenSpec.ofChange rootsGoneSpec)

/-- ITS FALSE NEIGHBOUR: 'it returns false'. Refute it at one input. -/
def rootsGoneWrong : ChangeSpec := { name := "rootsGone", fn := fun _ => fun
  | [d1, d2, d3, d4, d5] => { results := [.lit (.bool false)], args := [d1, d2, d3, d4, d5] }
  | _ => none }
def RootsGoneWrongFalsely : Prop := rootsGoneRow.holds Try.pinned (OpenSpec.ofChange rootsGoneWrong)

/-- 'damsonlaw08.RootsOrder': WHATEVER THE INPUT: true; the input reads as it did. -/
def rootsOrderSpec : ChangeSpec := { name := "rootsOrder", fn := fun _ => fun
  | [d1, d2, d3, d4, d5] => { results := [.lit (.bool true)], args := [d1, d2, d3, d4, d5] }
  | _ => none }
def rootsOrderRow : OpenClaim := { program := "ytpaojpjhppgoeaa", sum := "15307d15cb48ead299319acd23c93fc8d5fd5d5309e90b62042fb0d95a9a0a85", func := "damson/damsonlaw08.RootsOrder", spec := "rootsOrder", inPlace := ["slices.overlaps[damson/api.RootKey]"], unfollowed := true, recurses := true, apart := false }
def RootsOrderSaid : Prop := rootsOrderRow.holds Try.pinned (OpenSpec.ofChange rootsOrderSpec)

/-- ITS FALSE NEIGHBOUR: 'it returns false'. Refute it at one input. -/
def rootsOrderWrong : ChangeSpec := { name := "rootsOrder", fn := fun _ => fun
  | [d1, d2, d3, d4, d5] => { results := [.lit (.bool false)], args := [d1, d2, d3, d4, d5] }
  | _ => none }
def RootsOrderWrongFalsely : Prop := rootsOrderRow.holds Try.pinned (OpenSpec.ofChange rootsOrderWrong)

/-- 'damsonlaw08.RootsDoes': WHATEVER THE INPUT: true; the input reads as it did. -/
def rootsDoesSpec : ChangeSpec := { name := "rootsDoes", fn := fun _ => fun
  | [d1, d2, d3, d4] => { results := [.lit (.bool true)], args := [d1, d2, d3, d4] }
  | _ => none }
def rootsDoesRow : OpenClaim := { program := "ytpaojpjhppgoeaa", sum := "15307d15cb48ead299319acd23c93fc8d5fd5d5309e90b62042fb0d95a9a0a85", func := "damson/damsonlaw08.RootsDoes", spec := "rootsDoes", inPlace := ["slices.overlaps[damson/api.RootKey]"], unfollowed := true, recurses := true, apart := false }
def RootsDoesSaid : Prop := rootsDoesRow.holds Try.pinned (OpenSpec.ofChange rootsDoesSpec)

/-- ITS FALSE NEIGHBOUR: 'it returns false'. Refute it at one input. -/
def rootsDoesWrong : ChangeSpec := { name := "rootsDoes", fn := fun _ => fun
  | [d1, d2, d3, d4] => { results := [.lit (.bool false)], args := [d1, d2, d3, d4] }
  | _ => none }
def RootsDoesWrongFalsely : Prop := rootsDoesRow.holds Try.pinned (OpenSpec.ofChange rootsDoesWrong)

/-- 'damsonlaw08.RootsApart': WHATEVER THE INPUT: true; the input reads as it did. -/
def rootsApartSpec : ChangeSpec := { name := "rootsApart", fn := fun _ => fun
  | [d1, d2, d3, d4] => { results := [.lit (.bool true)], args := [d1, d2, d3, d4] }
  | _ => none }
def rootsApartRow : OpenClaim := { program := "ytpaojpjhppgoeaa", sum := "15307d15cb48ead299319acd23c93fc8d5fd5d5309e90b62042fb0d95a9a0a85", func := "damson/damsonlaw08.RootsApart", spec := "rootsApart", inPlace := ["slices.overlaps[damson/api.RootKey]"], unfollowed := true, recurses := true, apart := false }
def RootsApartSaid : Prop := rootsApartRow.holds Try.pinned (OpenSpec.ofChange rootsApartSpec)

/-- ITS FALSE NEIGHBOUR: 'it returns false'. Refute it at one input. -/
def rootsApartWrong : ChangeSpec := { name := "rootsApart", fn := fun _ => fun
  | [d1, d2, d3, d4] => { results := [.lit (.bool false)], args := [d1, d2, d3, d4] }
  | _ => none }
def RootsApartWrongFalsely : Prop := rootsApartRow.holds Try.pinned (OpenSpec.ofChange rootsApartWrong)

/- THE SECOND FORM. 'bulk': how many values and letters a reading holds, each counted each time it is reached (what is shared counts as often as it is met; a slice's spare places count too). A statement '..UptoSaid' is the law's where the arguments, and the package variables that the reading takes, are together of bulk at most 1048576: NARROWER than '..Said'. Prove '..Said' where nothing that the law and all that it calls make is longer than what came in: it says more and counts as full. Else prove '..UptoSaid'. A law counts once. -/
mutual
def uptoBulk {H : Type} : DataW H → Nat
  | .lit (.string bytes) => bytes.length + 1
  | .lit _ => 1
  | .nil => 1
  | .ptr d => uptoBulk d + 1
  | .slice elems spare => uptoBulkAll elems + uptoBulkAll spare + 1
  | .agg parts => uptoBulkAll parts + 1
  | .iface _ d => uptoBulk d + 1
  | .map entries => uptoBulkEntries entries + 1
  | .held _ => 1
def uptoBulkAll {H : Type} : List (DataW H) → Nat
  | [] => 0
  | d :: r => uptoBulk d + uptoBulkAll r
def uptoBulkEntries {H : Type} : List (Lit × DataW H) → Nat
  | [] => 0
  | x :: r => uptoBulkEntry x + uptoBulkEntries r
def uptoBulkEntry {H : Type} : Lit × DataW H → Nat
  | (.string bytes, d) => bytes.length + uptoBulk d + 1
  | (_, d) => uptoBulk d + 1
 end
def uptoSmall : (H : Type) → List (DataW H) → Bool := fun _ ds => decide (uptoBulkAll ds ≤ 1048576)
def OpenSpec.upto (s : _root_.Go.ChangeSpec) : _root_.Go.OpenSpec := { _root_.Go.OpenSpec.ofChange s with cond := some uptoSmall }

/-- 'damsonlaw08.RootsFull', WHERE WHAT IT READS IS OF BULK AT MOST 1048576: true; the input reads as it did. -/
def rootsFullUptoRow : OpenClaim := { program := "ytpaojpjhppgoeaa", sum := "15307d15cb48ead299319acd23c93fc8d5fd5d5309e90b62042fb0d95a9a0a85", func := "damson/damsonlaw08.RootsFull", spec := "rootsFull", inPlace := ["slices.overlaps[damson/api.RootKey]"], unfollowed := true, recurses := true, apart := false, narrowed := true }
def RootsFullUptoSaid : Prop := rootsFullUptoRow.holds Try.pinned (OpenSpec.upto rootsFullSpec)

/-- 'damsonlaw08.RootsGone', WHERE WHAT IT READS IS OF BULK AT MOST 1048576: true; the input reads as it did. -/
def rootsGoneUptoRow : OpenClaim := { program := "ytpaojpjhppgoeaa", sum := "15307d15cb48ead299319acd23c93fc8d5fd5d5309e90b62042fb0d95a9a0a85", func := "damson/damsonlaw08.RootsGone", spec := "rootsGone", inPlace := ["slices.overlaps[damson/api.RootKey]"], unfollowed := true, recurses := true, apart := false, narrowed := true }
def RootsGoneUptoSaid : Prop := rootsGoneUptoRow.holds Try.pinned (OpenSpec.upto rootsGoneSpec)

/-- 'damsonlaw08.RootsOrder', WHERE WHAT IT READS IS OF BULK AT MOST 1048576: true; the input reads as it did. -/
def rootsOrderUptoRow : OpenClaim := { program := "ytpaojpjhppgoeaa", sum := "15307d15cb48ead299319acd23c93fc8d5fd5d5309e90b62042fb0d95a9a0a85", func := "damson/damsonlaw08.RootsOrder", spec := "rootsOrder", inPlace := ["slices.overlaps[damson/api.RootKey]"], unfollowed := true, recurses := true, apart := false, narrowed := true }
def RootsOrderUptoSaid : Prop := rootsOrderUptoRow.holds Try.pinned (OpenSpec.upto rootsOrderSpec)

/-- 'damsonlaw08.RootsDoes', WHERE WHAT IT READS IS OF BULK AT MOST 1048576: true; the input reads as it did. -/
def rootsDoesUptoRow : OpenClaim := { program := "ytpaojpjhppgoeaa", sum := "15307d15cb48ead299319acd23c93fc8d5fd5d5309e90b62042fb0d95a9a0a85", func := "damson/damsonlaw08.RootsDoes", spec := "rootsDoes", inPlace := ["slices.overlaps[damson/api.RootKey]"], unfollowed := true, recurses := true, apart := false, narrowed := true }
def RootsDoesUptoSaid : Prop := rootsDoesUptoRow.holds Try.pinned (OpenSpec.upto rootsDoesSpec)

/-- 'damsonlaw08.RootsApart', WHERE WHAT IT READS IS OF BULK AT MOST 1048576: true; the input reads as it did. -/
def rootsApartUptoRow : OpenClaim := { program := "ytpaojpjhppgoeaa", sum := "15307d15cb48ead299319acd23c93fc8d5fd5d5309e90b62042fb0d95a9a0a85", func := "damson/damsonlaw08.RootsApart", spec := "rootsApart", inPlace := ["slices.overlaps[damson/api.RootKey]"], unfollowed := true, recurses := true, apart := false, narrowed := true }
def RootsApartUptoSaid : Prop := rootsApartUptoRow.holds Try.pinned (OpenSpec.upto rootsApartSpec)

end Rows
end Go.Proofs.Ytpaojpjhppgoeaa
