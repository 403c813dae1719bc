/-
  No cell of these rows narrows 'for every input' (looked for: loops, veiled, ifaces, maps, wideKeys, modest, calm, conditions, laid).
  DERIVED. THE GIVEN ROWS OF THIS SEAT. 5 by the template 'for every input the law returns true; each argument reads behind the call as it read before'; 0 by the template 'total and deterministic' (their statements: YtjgndkmodnppfaaGreatTotals.lean).
  GIVEN WITH THE SEED: the statements are not yours to turn. If you find one false, say at which input.
  Laid BY PROGRAM, IN A SANDBOX (cutbox-rows.mjs): the forced cells as the released guide's own fill.sh prints them over the translation d1f81525b4732319… (all of the seat's roots in one cut). By AI agents, Wed Nov 11 2026. No macro, syntax, notation, axiom, sorry.
-/
import Derived.Test.YtjgndkmodnppfaaGreatChecked
import GoSem.Claim
import GoSem.ClaimJoined
import GoSem.ClaimMapViews
import Derived.JoinedTies
import Derived.KernelRfl
namespace Go.Proofs.YtjgndkmodnppfaaGreat
/- THE CELL 'sum', in the pinned program and in every row, IS THE sha256 OF THE DUMP (.gsa) THAT YtjgndkmodnppfaaGreatProg.lean LOADS. Nothing in Lean hashes anything: it is a label: what it is worth is what the hold of that sum in a sandbox is worth. -/
noncomputable def Tryz.pinned : Pinned := { name := "ytjgndkmodnppfaagreat", sum := "d1f81525b4732319eaa10cd113df0f83a3c79c6906f4c4574d29eb420d6d78af", checked := Tryz.checked }
namespace Rows
def none {H : Type} : Left H := { results := [], args := [] }

/-- 'damsonlaw18.BatchFails': WHATEVER THE INPUT: true; the input reads as it did. -/
def batchFailsSpec : ChangeSpec := { name := "batchFails", fn := fun _ => fun
  | [d1, d2] => { results := [.lit (.bool true)], args := [d1, d2] }
  | _ => none }
def batchFailsRow : OpenClaim := { program := "ytjgndkmodnppfaagreat", sum := "d1f81525b4732319eaa10cd113df0f83a3c79c6906f4c4574d29eb420d6d78af", func := "damson/damsonlaw18.BatchFails", spec := "batchFails", inPlace := ["slices.overlaps[damson/api.Channel]", "math/bits.Sub64", "math.Float64frombits", "slices.overlaps[damson/api.Payment]", "slices.overlaps[damson/api.Hold]"], unfollowed := true, recurses := true, plainKeys := false, apart := false }
def BatchFailsSaid : Prop := batchFailsRow.holds Tryz.pinned (OpenSpec.ofChange batchFailsSpec)

/-- ITS FALSE NEIGHBOUR: 'it returns false'. Refute it at one input. -/
def batchFailsWrong : ChangeSpec := { name := "batchFails", fn := fun _ => fun
  | [d1, d2] => { results := [.lit (.bool false)], args := [d1, d2] }
  | _ => none }
def BatchFailsWrongFalsely : Prop := batchFailsRow.holds Tryz.pinned (OpenSpec.ofChange batchFailsWrong)

/-- 'damsonlaw18.BatchAll': WHATEVER THE INPUT: true; the input reads as it did. -/
def batchAllSpec : ChangeSpec := { name := "batchAll", fn := fun _ => fun
  | [d1, d2] => { results := [.lit (.bool true)], args := [d1, d2] }
  | _ => none }
def batchAllRow : OpenClaim := { program := "ytjgndkmodnppfaagreat", sum := "d1f81525b4732319eaa10cd113df0f83a3c79c6906f4c4574d29eb420d6d78af", func := "damson/damsonlaw18.BatchAll", spec := "batchAll", inPlace := ["slices.overlaps[damson/api.Channel]", "math/bits.Sub64", "math.Float64frombits", "slices.overlaps[damson/api.Payment]", "slices.overlaps[damson/api.Hold]"], unfollowed := true, recurses := true, plainKeys := false, apart := false }
def BatchAllSaid : Prop := batchAllRow.holds Tryz.pinned (OpenSpec.ofChange batchAllSpec)

/-- ITS FALSE NEIGHBOUR: 'it returns false'. Refute it at one input. -/
def batchAllWrong : ChangeSpec := { name := "batchAll", fn := fun _ => fun
  | [d1, d2] => { results := [.lit (.bool false)], args := [d1, d2] }
  | _ => none }
def BatchAllWrongFalsely : Prop := batchAllRow.holds Tryz.pinned (OpenSpec.ofChange batchAllWrong)

/-- 'damsonlaw18.BatchOne': WHATEVER THE INPUT: true; the input reads as it did. -/
def batchOneSpec : ChangeSpec := { name := "batchOne", fn := fun _ => fun
  | [d1, d2, d3] => { results := [.lit (.bool true)], args := [d1, d2, d3] }
  | _ => none }
def batchOneRow : OpenClaim := { program := "ytjgndkmodnppfaagreat", sum := "d1f81525b4732319eaa10cd113df0f83a3c79c6906f4c4574d29eb420d6d78af", func := "damson/damsonlaw18.BatchOne", spec := "batchOne", inPlace := ["slices.overlaps[damson/api.Channel]", "math/bits.Sub64", "math.Float64frombits", "slices.overlaps[damson/api.Payment]", "slices.overlaps[damson/api.Hold]"], unfollowed := true, recurses := true, plainKeys := false, apart := false }
def BatchOneSaid : Prop := batchOneRow.holds Tryz.pinned (OpenSpec.ofChange batchOneSpec)

/-- ITS FALSE NEIGHBOUR: 'it returns false'. Refute it at one input. -/
def batchOneWrong : ChangeSpec := { name := "batchOne", fn := fun _ => fun
  | [d1, d2, d3] => { results := [.lit (.bool false)], args := [d1, d2, d3] }
  | _ => none }
def BatchOneWrongFalsely : Prop := batchOneRow.holds Tryz.pinned (OpenSpec.ofChange batchOneWrong)

/-- 'damsonlaw18.BatchDoes': WHATEVER THE INPUT: true; the input reads as it did. -/
def batchDoesSpec : ChangeSpec := { name := "batchDoes", fn := fun _ => fun
  | [d1, d2, d3, d4] => { results := [.lit (.bool true)], args := [d1, d2, d3, d4] }
  | _ => none }
def batchDoesRow : OpenClaim := { program := "ytjgndkmodnppfaagreat", sum := "d1f81525b4732319eaa10cd113df0f83a3c79c6906f4c4574d29eb420d6d78af", func := "damson/damsonlaw18.BatchDoes", spec := "batchDoes", inPlace := ["slices.overlaps[damson/api.Channel]", "math/bits.Sub64", "math.Float64frombits", "slices.overlaps[damson/api.Payment]", "slices.overlaps[damson/api.Hold]"], unfollowed := true, recurses := true, named := ["math/bits.divideError", "math/bits.overflowError"], plainKeys := false, apart := false }
def BatchDoesSaid : Prop := batchDoesRow.holds Tryz.pinned (OpenSpec.ofChange batchDoesSpec)

/-- ITS FALSE NEIGHBOUR: 'it returns false'. Refute it at one input. -/
def batchDoesWrong : ChangeSpec := { name := "batchDoes", fn := fun _ => fun
  | [d1, d2, d3, d4] => { results := [.lit (.bool false)], args := [d1, d2, d3, d4] }
  | _ => none }
def BatchDoesWrongFalsely : Prop := batchDoesRow.holds Tryz.pinned (OpenSpec.ofChange batchDoesWrong)

/-- 'damsonlaw18.BatchEven': WHATEVER THE INPUT: true; the input reads as it did. -/
def batchEvenSpec : ChangeSpec := { name := "batchEven", fn := fun _ => fun
  | [d1, d2] => { results := [.lit (.bool true)], args := [d1, d2] }
  | _ => none }
def batchEvenRow : OpenClaim := { program := "ytjgndkmodnppfaagreat", sum := "d1f81525b4732319eaa10cd113df0f83a3c79c6906f4c4574d29eb420d6d78af", func := "damson/damsonlaw18.BatchEven", spec := "batchEven", inPlace := ["slices.overlaps[damson/api.Channel]", "math/bits.Sub64", "math.Float64frombits", "slices.overlaps[damson/api.Payment]", "slices.overlaps[damson/api.Hold]"], unfollowed := true, recurses := true, named := ["math/bits.divideError", "math/bits.overflowError"], plainKeys := false, apart := false }
def BatchEvenSaid : Prop := batchEvenRow.holds Tryz.pinned (OpenSpec.ofChange batchEvenSpec)

/-- ITS FALSE NEIGHBOUR: 'it returns false'. Refute it at one input. -/
def batchEvenWrong : ChangeSpec := { name := "batchEven", fn := fun _ => fun
  | [d1, d2] => { results := [.lit (.bool false)], args := [d1, d2] }
  | _ => none }
def BatchEvenWrongFalsely : Prop := batchEvenRow.holds Tryz.pinned (OpenSpec.ofChange batchEvenWrong)

/- THE SECOND FORM. 'bulk': how many values and letters a reading holds, each counted each time it is reached (what is shared counts as often as it is met; a slice's spare places count too). A statement '..UptoSaid' is the law's where the arguments, and the package variables that the reading takes, are together of bulk at most 1048576: NARROWER than '..Said'. Prove '..Said' where nothing that the law and all that it calls make is longer than what came in: it says more and counts as full. Else prove '..UptoSaid'. A law counts once. -/
mutual
def uptoBulk {H : Type} : DataW H → Nat
  | .lit (.string bytes) => bytes.length + 1
  | .lit _ => 1
  | .nil => 1
  | .ptr d => uptoBulk d + 1
  | .slice elems spare => uptoBulkAll elems + uptoBulkAll spare + 1
  | .agg parts => uptoBulkAll parts + 1
  | .iface _ d => uptoBulk d + 1
  | .map entries => uptoBulkEntries entries + 1
  | .held _ => 1
def uptoBulkAll {H : Type} : List (DataW H) → Nat
  | [] => 0
  | d :: r => uptoBulk d + uptoBulkAll r
def uptoBulkEntries {H : Type} : List (Lit × DataW H) → Nat
  | [] => 0
  | x :: r => uptoBulkEntry x + uptoBulkEntries r
def uptoBulkEntry {H : Type} : Lit × DataW H → Nat
  | (.string bytes, d) => bytes.length + uptoBulk d + 1
  | (_, d) => uptoBulk d + 1
 end
def uptoSmall : (H : Type) → List (DataW H) → Bool := fun _ ds => decide (uptoBulkAll ds ≤ 1048576)
def OpenSpec.upto (s : _root_.Go.ChangeSpec) : _root_.Go.OpenSpec := { _root_.Go.OpenSpec.ofChange s with cond := some uptoSmall }

/-- 'damsonlaw18.BatchFails', WHERE WHAT IT READS IS OF BULK AT MOST 1048576: true; the input reads as it did. -/
def batchFailsUptoRow : OpenClaim := { program := "ytjgndkmodnppfaagreat", sum := "d1f81525b4732319eaa10cd113df0f83a3c79c6906f4c4574d29eb420d6d78af", func := "damson/damsonlaw18.BatchFails", spec := "batchFails", inPlace := ["slices.overlaps[damson/api.Channel]", "math/bits.Sub64", "math.Float64frombits", "slices.overlaps[damson/api.Payment]", "slices.overlaps[damson/api.Hold]"], unfollowed := true, recurses := true, plainKeys := false, apart := false, narrowed := true }
def BatchFailsUptoSaid : Prop := batchFailsUptoRow.holds Tryz.pinned (OpenSpec.upto batchFailsSpec)

/-- 'damsonlaw18.BatchAll', WHERE WHAT IT READS IS OF BULK AT MOST 1048576: true; the input reads as it did. -/
def batchAllUptoRow : OpenClaim := { program := "ytjgndkmodnppfaagreat", sum := "d1f81525b4732319eaa10cd113df0f83a3c79c6906f4c4574d29eb420d6d78af", func := "damson/damsonlaw18.BatchAll", spec := "batchAll", inPlace := ["slices.overlaps[damson/api.Channel]", "math/bits.Sub64", "math.Float64frombits", "slices.overlaps[damson/api.Payment]", "slices.overlaps[damson/api.Hold]"], unfollowed := true, recurses := true, plainKeys := false, apart := false, narrowed := true }
def BatchAllUptoSaid : Prop := batchAllUptoRow.holds Tryz.pinned (OpenSpec.upto batchAllSpec)

/-- 'damsonlaw18.BatchOne', WHERE WHAT IT READS IS OF BULK AT MOST 1048576: true; the input reads as it did. -/
def batchOneUptoRow : OpenClaim := { program := "ytjgndkmodnppfaagreat", sum := "d1f81525b4732319eaa10cd113df0f83a3c79c6906f4c4574d29eb420d6d78af", func := "damson/damsonlaw18.BatchOne", spec := "batchOne", inPlace := ["slices.overlaps[damson/api.Channel]", "math/bits.Sub64", "math.Float64frombits", "slices.overlaps[damson/api.Payment]", "slices.overlaps[damson/api.Hold]"], unfollowed := true, recurses := true, plainKeys := false, apart := false, narrowed := true }
def BatchOneUptoSaid : Prop := batchOneUptoRow.holds Tryz.pinned (OpenSpec.upto batchOneSpec)

/-- 'damsonlaw18.BatchDoes', WHERE WHAT IT READS IS OF BULK AT MOST 1048576: true; the input reads as it did. -/
def batchDoesUptoRow : OpenClaim := { program := "ytjgndkmodnppfaagreat", sum := "d1f81525b4732319eaa10cd113df0f83a3c79c6906f4c4574d29eb420d6d78af", func := "damson/damsonlaw18.BatchDoes", spec := "batchDoes", inPlace := ["slices.overlaps[damson/api.Channel]", "math/bits.Sub64", "math.Float64frombits", "slices.overlaps[damson/api.Payment]", "slices.overlaps[damson/api.Hold]"], unfollowed := true, recurses := true, named := ["math/bits.divideError", "math/bits.overflowError"], plainKeys := false, apart := false, narrowed := true }
def BatchDoesUptoSaid : Prop := batchDoesUptoRow.holds Tryz.pinned (OpenSpec.upto batchDoesSpec)

/-- 'damsonlaw18.BatchEven', WHERE WHAT IT READS IS OF BULK AT MOST 1048576: true; the input reads as it did. -/
def batchEvenUptoRow : OpenClaim := { program := "ytjgndkmodnppfaagreat", sum := "d1f81525b4732319eaa10cd113df0f83a3c79c6906f4c4574d29eb420d6d78af", func := "damson/damsonlaw18.BatchEven", spec := "batchEven", inPlace := ["slices.overlaps[damson/api.Channel]", "math/bits.Sub64", "math.Float64frombits", "slices.overlaps[damson/api.Payment]", "slices.overlaps[damson/api.Hold]"], unfollowed := true, recurses := true, named := ["math/bits.divideError", "math/bits.overflowError"], plainKeys := false, apart := false, narrowed := true }
def BatchEvenUptoSaid : Prop := batchEvenUptoRow.holds Tryz.pinned (OpenSpec.upto batchEvenSpec)

end Rows
end Go.Proofs.YtjgndkmodnppfaaGreat
