/-
  DERIVED. GIVEN WITH THE SEED: THE CARDS: each row of YtegbclolpppajaaDoorRows.lean that lists a variable, with what it lists TIED to the program's text (the seventh form; the later family's looks); each row that meets fmt, with fmt's text TOLD by the authors' own Lean function (tested against real Go, not proved from fmt's source: count such statements apart). THE CARD IS WHAT COUNTS. Prove the row's statement (the work); the ties are given (YtegbclolpppajaaDoorTie.lean); close each card by the builder's one call (the guide's Derived/Test/ToyasCard.lean, 'card_holds'). Laid BY PROGRAM, IN A SANDBOX (cutbox-door.mjs). By AI agents, Wed Nov 11 2026. No macro, syntax, notation, axiom, sorry.
-/
import Derived.Test.YtegbclolpppajaaDoorRows
import GoSem.ClaimSeven
namespace Go.Proofs.YtegbclolpppajaaDoor
namespace Rows

/-- THE TIED CARD OF 'tollbarlaw05.LexFronts'. -/
def lexFrontsCard : Claim7 := { stood := { row := lexFrontsRow, standIns := [], harness := (true, "25d7f0c738a700dd8ead2ebf2f038b208bfb97eb9d6b681e2fcfb184f3b4341c"), looks := true }, kinds := [], alts := [], laidByText := true, laidKinds := [.data, .pinned], laidTests := true, laidLooks := .later }
def LexFrontsCardSaid : Prop := Claim7.holds Tryd.pinned (.plain (OpenSpec.ofChange lexFrontsSpec)) lexFrontsCard

/-- THE TIED CARD OF 'tollbarlaw05.LexJoins'. -/
def lexJoinsCard : Claim7 := { stood := { row := lexJoinsRow, standIns := [], harness := (true, "25d7f0c738a700dd8ead2ebf2f038b208bfb97eb9d6b681e2fcfb184f3b4341c"), looks := true }, kinds := [], alts := [], laidByText := true, laidKinds := [.data, .pinned], laidTests := true, laidLooks := .later }
def LexJoinsCardSaid : Prop := Claim7.holds Tryd.pinned (.plain (OpenSpec.ofChange lexJoinsSpec)) lexJoinsCard

/-- THE SECOND FORM's CARD OF 'tollbarlaw05.LexFronts'. -/
def lexFrontsUptoCard : Claim7 := { stood := { row := lexFrontsUptoRow, standIns := [], harness := (true, "25d7f0c738a700dd8ead2ebf2f038b208bfb97eb9d6b681e2fcfb184f3b4341c"), looks := true }, kinds := [], alts := [], laidByText := true, laidKinds := [.data, .pinned], laidTests := true, laidLooks := .later }
def LexFrontsUptoCardSaid : Prop := Claim7.holds Tryd.pinned (.plain (OpenSpec.upto lexFrontsSpec)) lexFrontsUptoCard

/-- THE SECOND FORM's CARD OF 'tollbarlaw05.LexJoins'. -/
def lexJoinsUptoCard : Claim7 := { stood := { row := lexJoinsUptoRow, standIns := [], harness := (true, "25d7f0c738a700dd8ead2ebf2f038b208bfb97eb9d6b681e2fcfb184f3b4341c"), looks := true }, kinds := [], alts := [], laidByText := true, laidKinds := [.data, .pinned], laidTests := true, laidLooks := .later }
def LexJoinsUptoCardSaid : Prop := Claim7.holds Tryd.pinned (.plain (OpenSpec.upto lexJoinsSpec)) lexJoinsUptoCard
end Rows
end Go.Proofs.YtegbclolpppajaaDoor
