/-
  DERIVED. GIVEN WITH THE SEED: THE CARDS: each row of YthcioaapafehhaaGreatDoorRows.lean that lists a variable, with what it lists TIED to the program's text (the seventh form; the later family's looks); each row that meets fmt, with fmt's text TOLD by the authors' own Lean function (tested against real Go, not proved from fmt's source: count such statements apart). THE CARD IS WHAT COUNTS. Prove the row's statement (the work); the ties are given (YthcioaapafehhaaGreatDoorTie.lean); close each card by the builder's one call (the guide's Derived/Test/ToyasCard.lean, 'card_holds'). Laid BY PROGRAM, IN A SANDBOX (cutbox-door.mjs). By AI agents, Wed Nov 11 2026. No macro, syntax, notation, axiom, sorry.
-/
import Derived.Test.YthcioaapafehhaaGreatDoorRows
import GoSem.ClaimSeven
namespace Go.Proofs.YthcioaapafehhaaGreatDoor
namespace Rows

/-- THE TIED CARD OF 'damsonlaw21.GuardNew'. -/
def guardNewCard : Claim7 := { stood := { row := guardNewRow, standIns := [], harness := (true, "23020e2c71ca10fd40cf723a24c534f3bceb6f02341a7557c501b39b41daaf51"), looks := false }, kinds := [], alts := [], laidByText := true, laidKinds := [.data], laidTests := true, laidLooks := .later }
def GuardNewCardSaid : Prop := Claim7.holds Tryz.pinned (.plain (OpenSpec.ofChange guardNewSpec)) guardNewCard

/-- THE TIED CARD OF 'damsonlaw21.GuardTighter'. -/
def guardTighterCard : Claim7 := { stood := { row := guardTighterRow, standIns := [], harness := (true, "23020e2c71ca10fd40cf723a24c534f3bceb6f02341a7557c501b39b41daaf51"), looks := false }, kinds := [], alts := [], laidByText := true, laidKinds := [.data], laidTests := true, laidLooks := .later }
def GuardTighterCardSaid : Prop := Claim7.holds Tryz.pinned (.plain (OpenSpec.ofChange guardTighterSpec)) guardTighterCard

/-- THE TIED CARD OF 'damsonlaw21.GuardForged'. -/
def guardForgedCard : Claim7 := { stood := { row := guardForgedRow, standIns := [], harness := (true, "23020e2c71ca10fd40cf723a24c534f3bceb6f02341a7557c501b39b41daaf51"), looks := false }, kinds := [], alts := [], laidByText := true, laidKinds := [.data], laidTests := true, laidLooks := .later }
def GuardForgedCardSaid : Prop := Claim7.holds Tryz.pinned (.plain (OpenSpec.ofChange guardForgedSpec)) guardForgedCard

/-- THE TIED CARD OF 'damsonlaw21.GuardGone'. -/
def guardGoneCard : Claim7 := { stood := { row := guardGoneRow, standIns := [], harness := (true, "23020e2c71ca10fd40cf723a24c534f3bceb6f02341a7557c501b39b41daaf51"), looks := false }, kinds := [], alts := [], laidByText := true, laidKinds := [.data], laidTests := true, laidLooks := .later }
def GuardGoneCardSaid : Prop := Claim7.holds Tryz.pinned (.plain (OpenSpec.ofChange guardGoneSpec)) guardGoneCard

/-- THE TIED CARD OF 'damsonlaw21.GuardDoes'. -/
def guardDoesCard : Claim7 := { stood := { row := guardDoesRow, standIns := [], harness := (true, "23020e2c71ca10fd40cf723a24c534f3bceb6f02341a7557c501b39b41daaf51"), looks := false }, kinds := [], alts := [], laidByText := true, laidKinds := [.data], laidTests := true, laidLooks := .later }
def GuardDoesCardSaid : Prop := Claim7.holds Tryz.pinned (.plain (OpenSpec.ofChange guardDoesSpec)) guardDoesCard

/-- THE SECOND FORM's CARD OF 'damsonlaw21.GuardNew'. -/
def guardNewUptoCard : Claim7 := { stood := { row := guardNewUptoRow, standIns := [], harness := (true, "23020e2c71ca10fd40cf723a24c534f3bceb6f02341a7557c501b39b41daaf51"), looks := false }, kinds := [], alts := [], laidByText := true, laidKinds := [.data], laidTests := true, laidLooks := .later }
def GuardNewUptoCardSaid : Prop := Claim7.holds Tryz.pinned (.plain (OpenSpec.upto guardNewSpec)) guardNewUptoCard

/-- THE SECOND FORM's CARD OF 'damsonlaw21.GuardTighter'. -/
def guardTighterUptoCard : Claim7 := { stood := { row := guardTighterUptoRow, standIns := [], harness := (true, "23020e2c71ca10fd40cf723a24c534f3bceb6f02341a7557c501b39b41daaf51"), looks := false }, kinds := [], alts := [], laidByText := true, laidKinds := [.data], laidTests := true, laidLooks := .later }
def GuardTighterUptoCardSaid : Prop := Claim7.holds Tryz.pinned (.plain (OpenSpec.upto guardTighterSpec)) guardTighterUptoCard

/-- THE SECOND FORM's CARD OF 'damsonlaw21.GuardForged'. -/
def guardForgedUptoCard : Claim7 := { stood := { row := guardForgedUptoRow, standIns := [], harness := (true, "23020e2c71ca10fd40cf723a24c534f3bceb6f02341a7557c501b39b41daaf51"), looks := false }, kinds := [], alts := [], laidByText := true, laidKinds := [.data], laidTests := true, laidLooks := .later }
def GuardForgedUptoCardSaid : Prop := Claim7.holds Tryz.pinned (.plain (OpenSpec.upto guardForgedSpec)) guardForgedUptoCard

/-- THE SECOND FORM's CARD OF 'damsonlaw21.GuardGone'. -/
def guardGoneUptoCard : Claim7 := { stood := { row := guardGoneUptoRow, standIns := [], harness := (true, "23020e2c71ca10fd40cf723a24c534f3bceb6f02341a7557c501b39b41daaf51"), looks := false }, kinds := [], alts := [], laidByText := true, laidKinds := [.data], laidTests := true, laidLooks := .later }
def GuardGoneUptoCardSaid : Prop := Claim7.holds Tryz.pinned (.plain (OpenSpec.upto guardGoneSpec)) guardGoneUptoCard

/-- THE SECOND FORM's CARD OF 'damsonlaw21.GuardDoes'. -/
def guardDoesUptoCard : Claim7 := { stood := { row := guardDoesUptoRow, standIns := [], harness := (true, "23020e2c71ca10fd40cf723a24c534f3bceb6f02341a7557c501b39b41daaf51"), looks := false }, kinds := [], alts := [], laidByText := true, laidKinds := [.data], laidTests := true, laidLooks := .later }
def GuardDoesUptoCardSaid : Prop := Claim7.holds Tryz.pinned (.plain (OpenSpec.upto guardDoesSpec)) guardDoesUptoCard
end Rows
end Go.Proofs.YthcioaapafehhaaGreatDoor
