/-
  No cell of these rows narrows 'for every input' (looked for: loops, veiled, ifaces, maps, wideKeys, modest, calm, conditions, laid).
  DERIVED. THE GIVEN ROWS OF THIS SEAT. 6 by the template 'for every input the law returns true; each argument reads behind the call as it read before'; 0 by the template 'total and deterministic' (their statements: YtoimbhfclbbnfaaTotals.lean).
  GIVEN WITH THE SEED: the statements are not yours to turn. If you find one false, say at which input.
  Laid BY PROGRAM, IN A SANDBOX (cutbox-rows.mjs): the forced cells as the released guide's own fill.sh prints them over the translation 3b6de43cb16820e6… (all of the seat's roots in one cut). By AI agents, Wed Nov 11 2026. No macro, syntax, notation, axiom, sorry.
-/
import Derived.Test.YtoimbhfclbbnfaaChecked
import GoSem.Claim
import GoSem.ClaimJoined
import GoSem.ClaimMapViews
import Derived.JoinedTies
import Derived.KernelRfl
namespace Go.Proofs.Ytoimbhfclbbnfaa
/- THE CELL 'sum', in the pinned program and in every row, IS THE sha256 OF THE DUMP (.gsa) THAT YtoimbhfclbbnfaaProg.lean LOADS. Nothing in Lean hashes anything: it is a label: what it is worth is what the hold of that sum in a sandbox is worth. -/
noncomputable def Try.pinned : Pinned := { name := "ytoimbhfclbbnfaa", sum := "3b6de43cb16820e6933648c08a98997468c14e759ed3e70878f6d1318f9e147b", checked := Try.checked }
namespace Rows
def none {H : Type} : Left H := { results := [], args := [] }

/-- 'damsonlaw11.ScoreAlone': WHATEVER THE INPUT: true; the input reads as it did. -/
def scoreAloneSpec : ChangeSpec := { name := "scoreAlone", fn := fun _ => fun
  | [d1, d2, d3, d4] => { results := [.lit (.bool true)], args := [d1, d2, d3, d4] }
  | _ => none }
def scoreAloneRow : OpenClaim := { program := "ytoimbhfclbbnfaa", sum := "3b6de43cb16820e6933648c08a98997468c14e759ed3e70878f6d1318f9e147b", func := "damson/damsonlaw11.ScoreAlone", spec := "scoreAlone", inPlace := ["math/bits.Sub64", "math.Float64frombits"], unfollowed := true, recurses := true, apart := false }
def ScoreAloneSaid : Prop := scoreAloneRow.holds Try.pinned (OpenSpec.ofChange scoreAloneSpec)

/-- ITS FALSE NEIGHBOUR: 'it returns false'. Refute it at one input. -/
def scoreAloneWrong : ChangeSpec := { name := "scoreAlone", fn := fun _ => fun
  | [d1, d2, d3, d4] => { results := [.lit (.bool false)], args := [d1, d2, d3, d4] }
  | _ => none }
def ScoreAloneWrongFalsely : Prop := scoreAloneRow.holds Try.pinned (OpenSpec.ofChange scoreAloneWrong)

/-- 'damsonlaw11.ScoreDoes': WHATEVER THE INPUT: true; the input reads as it did. -/
def scoreDoesSpec : ChangeSpec := { name := "scoreDoes", fn := fun _ => fun
  | [d1, d2, d3, d4, d5, d6, d7] => { results := [.lit (.bool true)], args := [d1, d2, d3, d4, d5, d6, d7] }
  | _ => none }
def scoreDoesRow : OpenClaim := { program := "ytoimbhfclbbnfaa", sum := "3b6de43cb16820e6933648c08a98997468c14e759ed3e70878f6d1318f9e147b", func := "damson/damsonlaw11.ScoreDoes", spec := "scoreDoes", inPlace := ["math/bits.Sub64", "math.Float64frombits"], unfollowed := true, recurses := true, apart := false }
def ScoreDoesSaid : Prop := scoreDoesRow.holds Try.pinned (OpenSpec.ofChange scoreDoesSpec)

/-- ITS FALSE NEIGHBOUR: 'it returns false'. Refute it at one input. -/
def scoreDoesWrong : ChangeSpec := { name := "scoreDoes", fn := fun _ => fun
  | [d1, d2, d3, d4, d5, d6, d7] => { results := [.lit (.bool false)], args := [d1, d2, d3, d4, d5, d6, d7] }
  | _ => none }
def ScoreDoesWrongFalsely : Prop := scoreDoesRow.holds Try.pinned (OpenSpec.ofChange scoreDoesWrong)

/-- 'damsonlaw11.ScoreLess': WHATEVER THE INPUT: true; the input reads as it did. -/
def scoreLessSpec : ChangeSpec := { name := "scoreLess", fn := fun _ => fun
  | [d1, d2, d3] => { results := [.lit (.bool true)], args := [d1, d2, d3] }
  | _ => none }
def scoreLessRow : OpenClaim := { program := "ytoimbhfclbbnfaa", sum := "3b6de43cb16820e6933648c08a98997468c14e759ed3e70878f6d1318f9e147b", func := "damson/damsonlaw11.ScoreLess", spec := "scoreLess", inPlace := ["math/bits.Sub64", "math.Float64frombits"], unfollowed := true, recurses := true, apart := false }
def ScoreLessSaid : Prop := scoreLessRow.holds Try.pinned (OpenSpec.ofChange scoreLessSpec)

/-- ITS FALSE NEIGHBOUR: 'it returns false'. Refute it at one input. -/
def scoreLessWrong : ChangeSpec := { name := "scoreLess", fn := fun _ => fun
  | [d1, d2, d3] => { results := [.lit (.bool false)], args := [d1, d2, d3] }
  | _ => none }
def ScoreLessWrongFalsely : Prop := scoreLessRow.holds Try.pinned (OpenSpec.ofChange scoreLessWrong)

/-- 'damsonlaw11.ScoreScales': WHATEVER THE INPUT: true; the input reads as it did. -/
def scoreScalesSpec : ChangeSpec := { name := "scoreScales", fn := fun _ => fun
  | [d1, d2, d3] => { results := [.lit (.bool true)], args := [d1, d2, d3] }
  | _ => none }
def scoreScalesRow : OpenClaim := { program := "ytoimbhfclbbnfaa", sum := "3b6de43cb16820e6933648c08a98997468c14e759ed3e70878f6d1318f9e147b", func := "damson/damsonlaw11.ScoreScales", spec := "scoreScales", inPlace := ["math/bits.Sub64", "math.Float64frombits"], unfollowed := true, recurses := true, apart := false }
def ScoreScalesSaid : Prop := scoreScalesRow.holds Try.pinned (OpenSpec.ofChange scoreScalesSpec)

/-- ITS FALSE NEIGHBOUR: 'it returns false'. Refute it at one input. -/
def scoreScalesWrong : ChangeSpec := { name := "scoreScales", fn := fun _ => fun
  | [d1, d2, d3] => { results := [.lit (.bool false)], args := [d1, d2, d3] }
  | _ => none }
def ScoreScalesWrongFalsely : Prop := scoreScalesRow.holds Try.pinned (OpenSpec.ofChange scoreScalesWrong)

/-- 'damsonlaw11.ScoreOrder': WHATEVER THE INPUT: true; the input reads as it did. -/
def scoreOrderSpec : ChangeSpec := { name := "scoreOrder", fn := fun _ => fun
  | [d1, d2, d3] => { results := [.lit (.bool true)], args := [d1, d2, d3] }
  | _ => none }
def scoreOrderRow : OpenClaim := { program := "ytoimbhfclbbnfaa", sum := "3b6de43cb16820e6933648c08a98997468c14e759ed3e70878f6d1318f9e147b", func := "damson/damsonlaw11.ScoreOrder", spec := "scoreOrder", inPlace := ["math/bits.Sub64", "math.Float64frombits"], unfollowed := true, recurses := true, apart := false }
def ScoreOrderSaid : Prop := scoreOrderRow.holds Try.pinned (OpenSpec.ofChange scoreOrderSpec)

/-- ITS FALSE NEIGHBOUR: 'it returns false'. Refute it at one input. -/
def scoreOrderWrong : ChangeSpec := { name := "scoreOrder", fn := fun _ => fun
  | [d1, d2, d3] => { results := [.lit (.bool false)], args := [d1, d2, d3] }
  | _ => none }
def ScoreOrderWrongFalsely : Prop := scoreOrderRow.holds Try.pinned (OpenSpec.ofChange scoreOrderWrong)

/-- 'damsonlaw11.ScoreHolds': WHATEVER THE INPUT: true; the input reads as it did. -/
def scoreHoldsSpec : ChangeSpec := { name := "scoreHolds", fn := fun _ => fun
  | [d1, d2, d3, d4] => { results := [.lit (.bool true)], args := [d1, d2, d3, d4] }
  | _ => none }
def scoreHoldsRow : OpenClaim := { program := "ytoimbhfclbbnfaa", sum := "3b6de43cb16820e6933648c08a98997468c14e759ed3e70878f6d1318f9e147b", func := "damson/damsonlaw11.ScoreHolds", spec := "scoreHolds", inPlace := ["math/bits.Sub64", "math.Float64frombits", "slices.overlaps[damson/api.Hold]"], unfollowed := true, recurses := true, apart := false }
def ScoreHoldsSaid : Prop := scoreHoldsRow.holds Try.pinned (OpenSpec.ofChange scoreHoldsSpec)

/-- ITS FALSE NEIGHBOUR: 'it returns false'. Refute it at one input. -/
def scoreHoldsWrong : ChangeSpec := { name := "scoreHolds", fn := fun _ => fun
  | [d1, d2, d3, d4] => { results := [.lit (.bool false)], args := [d1, d2, d3, d4] }
  | _ => none }
def ScoreHoldsWrongFalsely : Prop := scoreHoldsRow.holds Try.pinned (OpenSpec.ofChange scoreHoldsWrong)

/- THE SECOND FORM. 'bulk': how many values and letters a reading holds, each counted each time it is reached (what is shared counts as often as it is met; a slice's spare places count too). A statement '..UptoSaid' is the law's where the arguments, and the package variables that the reading takes, are together of bulk at most 1048576: NARROWER than '..Said'. Prove '..Said' where nothing that the law and all that it calls make is longer than what came in: it says more and counts as full. Else prove '..UptoSaid'. A law counts once. -/
mutual
def uptoBulk {H : Type} : DataW H → Nat
  | .lit (.string bytes) => bytes.length + 1
  | .lit _ => 1
  | .nil => 1
  | .ptr d => uptoBulk d + 1
  | .slice elems spare => uptoBulkAll elems + uptoBulkAll spare + 1
  | .agg parts => uptoBulkAll parts + 1
  | .iface _ d => uptoBulk d + 1
  | .map entries => uptoBulkEntries entries + 1
  | .held _ => 1
def uptoBulkAll {H : Type} : List (DataW H) → Nat
  | [] => 0
  | d :: r => uptoBulk d + uptoBulkAll r
def uptoBulkEntries {H : Type} : List (Lit × DataW H) → Nat
  | [] => 0
  | x :: r => uptoBulkEntry x + uptoBulkEntries r
def uptoBulkEntry {H : Type} : Lit × DataW H → Nat
  | (.string bytes, d) => bytes.length + uptoBulk d + 1
  | (_, d) => uptoBulk d + 1
 end
def uptoSmall : (H : Type) → List (DataW H) → Bool := fun _ ds => decide (uptoBulkAll ds ≤ 1048576)
def OpenSpec.upto (s : _root_.Go.ChangeSpec) : _root_.Go.OpenSpec := { _root_.Go.OpenSpec.ofChange s with cond := some uptoSmall }

/-- 'damsonlaw11.ScoreAlone', WHERE WHAT IT READS IS OF BULK AT MOST 1048576: true; the input reads as it did. -/
def scoreAloneUptoRow : OpenClaim := { program := "ytoimbhfclbbnfaa", sum := "3b6de43cb16820e6933648c08a98997468c14e759ed3e70878f6d1318f9e147b", func := "damson/damsonlaw11.ScoreAlone", spec := "scoreAlone", inPlace := ["math/bits.Sub64", "math.Float64frombits"], unfollowed := true, recurses := true, apart := false, narrowed := true }
def ScoreAloneUptoSaid : Prop := scoreAloneUptoRow.holds Try.pinned (OpenSpec.upto scoreAloneSpec)

/-- 'damsonlaw11.ScoreDoes', WHERE WHAT IT READS IS OF BULK AT MOST 1048576: true; the input reads as it did. -/
def scoreDoesUptoRow : OpenClaim := { program := "ytoimbhfclbbnfaa", sum := "3b6de43cb16820e6933648c08a98997468c14e759ed3e70878f6d1318f9e147b", func := "damson/damsonlaw11.ScoreDoes", spec := "scoreDoes", inPlace := ["math/bits.Sub64", "math.Float64frombits"], unfollowed := true, recurses := true, apart := false, narrowed := true }
def ScoreDoesUptoSaid : Prop := scoreDoesUptoRow.holds Try.pinned (OpenSpec.upto scoreDoesSpec)

/-- 'damsonlaw11.ScoreLess', WHERE WHAT IT READS IS OF BULK AT MOST 1048576: true; the input reads as it did. -/
def scoreLessUptoRow : OpenClaim := { program := "ytoimbhfclbbnfaa", sum := "3b6de43cb16820e6933648c08a98997468c14e759ed3e70878f6d1318f9e147b", func := "damson/damsonlaw11.ScoreLess", spec := "scoreLess", inPlace := ["math/bits.Sub64", "math.Float64frombits"], unfollowed := true, recurses := true, apart := false, narrowed := true }
def ScoreLessUptoSaid : Prop := scoreLessUptoRow.holds Try.pinned (OpenSpec.upto scoreLessSpec)

/-- 'damsonlaw11.ScoreScales', WHERE WHAT IT READS IS OF BULK AT MOST 1048576: true; the input reads as it did. -/
def scoreScalesUptoRow : OpenClaim := { program := "ytoimbhfclbbnfaa", sum := "3b6de43cb16820e6933648c08a98997468c14e759ed3e70878f6d1318f9e147b", func := "damson/damsonlaw11.ScoreScales", spec := "scoreScales", inPlace := ["math/bits.Sub64", "math.Float64frombits"], unfollowed := true, recurses := true, apart := false, narrowed := true }
def ScoreScalesUptoSaid : Prop := scoreScalesUptoRow.holds Try.pinned (OpenSpec.upto scoreScalesSpec)

/-- 'damsonlaw11.ScoreOrder', WHERE WHAT IT READS IS OF BULK AT MOST 1048576: true; the input reads as it did. -/
def scoreOrderUptoRow : OpenClaim := { program := "ytoimbhfclbbnfaa", sum := "3b6de43cb16820e6933648c08a98997468c14e759ed3e70878f6d1318f9e147b", func := "damson/damsonlaw11.ScoreOrder", spec := "scoreOrder", inPlace := ["math/bits.Sub64", "math.Float64frombits"], unfollowed := true, recurses := true, apart := false, narrowed := true }
def ScoreOrderUptoSaid : Prop := scoreOrderUptoRow.holds Try.pinned (OpenSpec.upto scoreOrderSpec)

/-- 'damsonlaw11.ScoreHolds', WHERE WHAT IT READS IS OF BULK AT MOST 1048576: true; the input reads as it did. -/
def scoreHoldsUptoRow : OpenClaim := { program := "ytoimbhfclbbnfaa", sum := "3b6de43cb16820e6933648c08a98997468c14e759ed3e70878f6d1318f9e147b", func := "damson/damsonlaw11.ScoreHolds", spec := "scoreHolds", inPlace := ["math/bits.Sub64", "math.Float64frombits", "slices.overlaps[damson/api.Hold]"], unfollowed := true, recurses := true, apart := false, narrowed := true }
def ScoreHoldsUptoSaid : Prop := scoreHoldsUptoRow.holds Try.pinned (OpenSpec.upto scoreHoldsSpec)

end Rows
end Go.Proofs.Ytoimbhfclbbnfaa
