/-
  NARROWER THAN 'FOR EVERY INPUT', by the rows' own cells (each row's printed sentence says how): GuardNew: laid · GuardTighter: laid · GuardForged: laid · GuardGone: laid · GuardDoes: laid.
  DERIVED. THE GIVEN ROWS OF THIS SEAT. 5 by the template 'for every input the law returns true; each argument reads behind the call as it read before'; 0 by the template 'total and deterministic' (their statements: YthcioaapafehhaaGreatDoorTotals.lean).
  GIVEN WITH THE SEED: the statements are not yours to turn. If you find one false, say at which input.
  Laid BY PROGRAM, IN A SANDBOX (cutbox-rows.mjs): the forced cells as the released guide's own fill.sh prints them over the translation a3b41d785d8afc7e… (all of the seat's roots in one cut). By AI agents, Wed Nov 11 2026. No macro, syntax, notation, axiom, sorry.
-/
import Derived.Test.YthcioaapafehhaaGreatDoorChecked
import GoSem.Claim
import GoSem.ClaimJoined
import GoSem.ClaimMapViews
import Derived.JoinedTies
import Derived.KernelRfl
namespace Go.Proofs.YthcioaapafehhaaGreatDoor
/- THE CELL 'sum', in the pinned program and in every row, IS THE sha256 OF THE DUMP (.gsa) THAT YthcioaapafehhaaGreatDoorProg.lean LOADS. Nothing in Lean hashes anything: it is a label: what it is worth is what the hold of that sum in a sandbox is worth. -/
noncomputable def Tryz.pinned : Pinned := { name := "ythcioaapafehhaagreatdoor", sum := "a3b41d785d8afc7e233f8ed9fccd9322cd8ce9a14c94c494fa81fb749a1e20bf", checked := Tryz.checked }
namespace Rows
def none {H : Type} : Left H := { results := [], args := [] }

/- WHAT THE LISTED PACKAGE-LEVEL VARIABLES READ AS WHEN THE CALL BEGINS. Each datum BY PROGRAM (the guide's laid-datum.mjs) off the statement by which the dump's own 'gosem.cut.vars' lays the variable. In a bare row this is a premise. The card (YthcioaapafehhaaGreatDoorCards.lean) ties it to the program's text. -/
def laid_damson_request_methods {H : Type} : DataW H := .agg [.lit (.int .i64 0), .lit (.int .i64 71), .lit (.int .i64 17), .lit (.int .i64 79), .lit (.int .i64 3), .lit (.int .i64 2), .lit (.int .i64 2), .lit (.int .i64 0), .lit (.int .i64 6), .lit (.int .i64 4), .lit (.int .i64 32)]

/-- 'damsonlaw21.GuardNew': WHATEVER THE INPUT: true; the input reads as it did. -/
def guardNewSpec : ChangeSpec := { name := "guardNew", fn := fun _ => fun
  | [d1, d2, d3] => { results := [.lit (.bool true)], args := [d1, d2, d3] }
  | _ => none }
def guardNewRow : OpenClaim := { program := "ythcioaapafehhaagreatdoor", sum := "a3b41d785d8afc7e233f8ed9fccd9322cd8ce9a14c94c494fa81fb749a1e20bf", func := "damson/damsonlaw21.GuardNew", spec := "guardNew", inPlace := ["slices.overlaps[damson/api.RootKey]"], unfollowed := true, recurses := true, named := ["damson/request.methods"], plainKeys := false, apart := false, laid := [("damson/request.methods", laid_damson_request_methods)] }
def GuardNewSaid : Prop := guardNewRow.holds Tryz.pinned (OpenSpec.ofChange guardNewSpec)

/-- ITS FALSE NEIGHBOUR: 'it returns false'. Refute it at one input. -/
def guardNewWrong : ChangeSpec := { name := "guardNew", fn := fun _ => fun
  | [d1, d2, d3] => { results := [.lit (.bool false)], args := [d1, d2, d3] }
  | _ => none }
def GuardNewWrongFalsely : Prop := guardNewRow.holds Tryz.pinned (OpenSpec.ofChange guardNewWrong)

/-- 'damsonlaw21.GuardTighter': WHATEVER THE INPUT: true; the input reads as it did. -/
def guardTighterSpec : ChangeSpec := { name := "guardTighter", fn := fun _ => fun
  | [d1, d2, d3, d4] => { results := [.lit (.bool true)], args := [d1, d2, d3, d4] }
  | _ => none }
def guardTighterRow : OpenClaim := { program := "ythcioaapafehhaagreatdoor", sum := "a3b41d785d8afc7e233f8ed9fccd9322cd8ce9a14c94c494fa81fb749a1e20bf", func := "damson/damsonlaw21.GuardTighter", spec := "guardTighter", inPlace := ["slices.overlaps[damson/api.RootKey]"], unfollowed := true, recurses := true, named := ["damson/request.methods"], plainKeys := false, apart := false, laid := [("damson/request.methods", laid_damson_request_methods)] }
def GuardTighterSaid : Prop := guardTighterRow.holds Tryz.pinned (OpenSpec.ofChange guardTighterSpec)

/-- ITS FALSE NEIGHBOUR: 'it returns false'. Refute it at one input. -/
def guardTighterWrong : ChangeSpec := { name := "guardTighter", fn := fun _ => fun
  | [d1, d2, d3, d4] => { results := [.lit (.bool false)], args := [d1, d2, d3, d4] }
  | _ => none }
def GuardTighterWrongFalsely : Prop := guardTighterRow.holds Tryz.pinned (OpenSpec.ofChange guardTighterWrong)

/-- 'damsonlaw21.GuardForged': WHATEVER THE INPUT: true; the input reads as it did. -/
def guardForgedSpec : ChangeSpec := { name := "guardForged", fn := fun _ => fun
  | [d1, d2, d3, d4] => { results := [.lit (.bool true)], args := [d1, d2, d3, d4] }
  | _ => none }
def guardForgedRow : OpenClaim := { program := "ythcioaapafehhaagreatdoor", sum := "a3b41d785d8afc7e233f8ed9fccd9322cd8ce9a14c94c494fa81fb749a1e20bf", func := "damson/damsonlaw21.GuardForged", spec := "guardForged", inPlace := ["slices.overlaps[damson/api.RootKey]"], unfollowed := true, recurses := true, named := ["damson/request.methods"], plainKeys := false, apart := false, laid := [("damson/request.methods", laid_damson_request_methods)] }
def GuardForgedSaid : Prop := guardForgedRow.holds Tryz.pinned (OpenSpec.ofChange guardForgedSpec)

/-- ITS FALSE NEIGHBOUR: 'it returns false'. Refute it at one input. -/
def guardForgedWrong : ChangeSpec := { name := "guardForged", fn := fun _ => fun
  | [d1, d2, d3, d4] => { results := [.lit (.bool false)], args := [d1, d2, d3, d4] }
  | _ => none }
def GuardForgedWrongFalsely : Prop := guardForgedRow.holds Tryz.pinned (OpenSpec.ofChange guardForgedWrong)

/-- 'damsonlaw21.GuardGone': WHATEVER THE INPUT: true; the input reads as it did. -/
def guardGoneSpec : ChangeSpec := { name := "guardGone", fn := fun _ => fun
  | [d1, d2, d3, d4, d5] => { results := [.lit (.bool true)], args := [d1, d2, d3, d4, d5] }
  | _ => none }
def guardGoneRow : OpenClaim := { program := "ythcioaapafehhaagreatdoor", sum := "a3b41d785d8afc7e233f8ed9fccd9322cd8ce9a14c94c494fa81fb749a1e20bf", func := "damson/damsonlaw21.GuardGone", spec := "guardGone", inPlace := ["slices.overlaps[damson/api.RootKey]"], unfollowed := true, recurses := true, named := ["damson/request.methods"], plainKeys := false, apart := false, laid := [("damson/request.methods", laid_damson_request_methods)] }
def GuardGoneSaid : Prop := guardGoneRow.holds Tryz.pinned (OpenSpec.ofChange guardGoneSpec)

/-- ITS FALSE NEIGHBOUR: 'it returns false'. Refute it at one input. -/
def guardGoneWrong : ChangeSpec := { name := "guardGone", fn := fun _ => fun
  | [d1, d2, d3, d4, d5] => { results := [.lit (.bool false)], args := [d1, d2, d3, d4, d5] }
  | _ => none }
def GuardGoneWrongFalsely : Prop := guardGoneRow.holds Tryz.pinned (OpenSpec.ofChange guardGoneWrong)

/-- 'damsonlaw21.GuardDoes': WHATEVER THE INPUT: true; the input reads as it did. -/
def guardDoesSpec : ChangeSpec := { name := "guardDoes", fn := fun _ => fun
  | [d1, d2, d3, d4, d5, d6] => { results := [.lit (.bool true)], args := [d1, d2, d3, d4, d5, d6] }
  | _ => none }
def guardDoesRow : OpenClaim := { program := "ythcioaapafehhaagreatdoor", sum := "a3b41d785d8afc7e233f8ed9fccd9322cd8ce9a14c94c494fa81fb749a1e20bf", func := "damson/damsonlaw21.GuardDoes", spec := "guardDoes", inPlace := ["slices.overlaps[damson/api.RootKey]"], unfollowed := true, recurses := true, named := ["damson/request.methods"], plainKeys := false, apart := false, laid := [("damson/request.methods", laid_damson_request_methods)] }
def GuardDoesSaid : Prop := guardDoesRow.holds Tryz.pinned (OpenSpec.ofChange guardDoesSpec)

/-- ITS FALSE NEIGHBOUR: 'it returns false'. Refute it at one input. -/
def guardDoesWrong : ChangeSpec := { name := "guardDoes", fn := fun _ => fun
  | [d1, d2, d3, d4, d5, d6] => { results := [.lit (.bool false)], args := [d1, d2, d3, d4, d5, d6] }
  | _ => none }
def GuardDoesWrongFalsely : Prop := guardDoesRow.holds Tryz.pinned (OpenSpec.ofChange guardDoesWrong)

/- THE SECOND FORM. 'bulk': how many values and letters a reading holds, each counted each time it is reached (what is shared counts as often as it is met; a slice's spare places count too). A statement '..UptoSaid' is the law's where the arguments, and the package variables that the reading takes, are together of bulk at most 1048576: NARROWER than '..Said'. Prove '..Said' where nothing that the law and all that it calls make is longer than what came in: it says more and counts as full. Else prove '..UptoSaid'. A law counts once. -/
mutual
def uptoBulk {H : Type} : DataW H → Nat
  | .lit (.string bytes) => bytes.length + 1
  | .lit _ => 1
  | .nil => 1
  | .ptr d => uptoBulk d + 1
  | .slice elems spare => uptoBulkAll elems + uptoBulkAll spare + 1
  | .agg parts => uptoBulkAll parts + 1
  | .iface _ d => uptoBulk d + 1
  | .map entries => uptoBulkEntries entries + 1
  | .held _ => 1
def uptoBulkAll {H : Type} : List (DataW H) → Nat
  | [] => 0
  | d :: r => uptoBulk d + uptoBulkAll r
def uptoBulkEntries {H : Type} : List (Lit × DataW H) → Nat
  | [] => 0
  | x :: r => uptoBulkEntry x + uptoBulkEntries r
def uptoBulkEntry {H : Type} : Lit × DataW H → Nat
  | (.string bytes, d) => bytes.length + uptoBulk d + 1
  | (_, d) => uptoBulk d + 1
 end
def uptoSmall : (H : Type) → List (DataW H) → Bool := fun _ ds => decide (uptoBulkAll ds ≤ 1048576)
def OpenSpec.upto (s : _root_.Go.ChangeSpec) : _root_.Go.OpenSpec := { _root_.Go.OpenSpec.ofChange s with cond := some uptoSmall }

/-- 'damsonlaw21.GuardNew', WHERE WHAT IT READS IS OF BULK AT MOST 1048576: true; the input reads as it did. -/
def guardNewUptoRow : OpenClaim := { program := "ythcioaapafehhaagreatdoor", sum := "a3b41d785d8afc7e233f8ed9fccd9322cd8ce9a14c94c494fa81fb749a1e20bf", func := "damson/damsonlaw21.GuardNew", spec := "guardNew", inPlace := ["slices.overlaps[damson/api.RootKey]"], unfollowed := true, recurses := true, named := ["damson/request.methods"], plainKeys := false, apart := false, laid := [("damson/request.methods", laid_damson_request_methods)], narrowed := true }
def GuardNewUptoSaid : Prop := guardNewUptoRow.holds Tryz.pinned (OpenSpec.upto guardNewSpec)

/-- 'damsonlaw21.GuardTighter', WHERE WHAT IT READS IS OF BULK AT MOST 1048576: true; the input reads as it did. -/
def guardTighterUptoRow : OpenClaim := { program := "ythcioaapafehhaagreatdoor", sum := "a3b41d785d8afc7e233f8ed9fccd9322cd8ce9a14c94c494fa81fb749a1e20bf", func := "damson/damsonlaw21.GuardTighter", spec := "guardTighter", inPlace := ["slices.overlaps[damson/api.RootKey]"], unfollowed := true, recurses := true, named := ["damson/request.methods"], plainKeys := false, apart := false, laid := [("damson/request.methods", laid_damson_request_methods)], narrowed := true }
def GuardTighterUptoSaid : Prop := guardTighterUptoRow.holds Tryz.pinned (OpenSpec.upto guardTighterSpec)

/-- 'damsonlaw21.GuardForged', WHERE WHAT IT READS IS OF BULK AT MOST 1048576: true; the input reads as it did. -/
def guardForgedUptoRow : OpenClaim := { program := "ythcioaapafehhaagreatdoor", sum := "a3b41d785d8afc7e233f8ed9fccd9322cd8ce9a14c94c494fa81fb749a1e20bf", func := "damson/damsonlaw21.GuardForged", spec := "guardForged", inPlace := ["slices.overlaps[damson/api.RootKey]"], unfollowed := true, recurses := true, named := ["damson/request.methods"], plainKeys := false, apart := false, laid := [("damson/request.methods", laid_damson_request_methods)], narrowed := true }
def GuardForgedUptoSaid : Prop := guardForgedUptoRow.holds Tryz.pinned (OpenSpec.upto guardForgedSpec)

/-- 'damsonlaw21.GuardGone', WHERE WHAT IT READS IS OF BULK AT MOST 1048576: true; the input reads as it did. -/
def guardGoneUptoRow : OpenClaim := { program := "ythcioaapafehhaagreatdoor", sum := "a3b41d785d8afc7e233f8ed9fccd9322cd8ce9a14c94c494fa81fb749a1e20bf", func := "damson/damsonlaw21.GuardGone", spec := "guardGone", inPlace := ["slices.overlaps[damson/api.RootKey]"], unfollowed := true, recurses := true, named := ["damson/request.methods"], plainKeys := false, apart := false, laid := [("damson/request.methods", laid_damson_request_methods)], narrowed := true }
def GuardGoneUptoSaid : Prop := guardGoneUptoRow.holds Tryz.pinned (OpenSpec.upto guardGoneSpec)

/-- 'damsonlaw21.GuardDoes', WHERE WHAT IT READS IS OF BULK AT MOST 1048576: true; the input reads as it did. -/
def guardDoesUptoRow : OpenClaim := { program := "ythcioaapafehhaagreatdoor", sum := "a3b41d785d8afc7e233f8ed9fccd9322cd8ce9a14c94c494fa81fb749a1e20bf", func := "damson/damsonlaw21.GuardDoes", spec := "guardDoes", inPlace := ["slices.overlaps[damson/api.RootKey]"], unfollowed := true, recurses := true, named := ["damson/request.methods"], plainKeys := false, apart := false, laid := [("damson/request.methods", laid_damson_request_methods)], narrowed := true }
def GuardDoesUptoSaid : Prop := guardDoesUptoRow.holds Tryz.pinned (OpenSpec.upto guardDoesSpec)

end Rows
end Go.Proofs.YthcioaapafehhaaGreatDoor
