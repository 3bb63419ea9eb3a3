/-
  DERIVED. GIVEN WITH THE SEED: THE CARDS: each row of YteecmcphbehfgaaDoorRows.lean that lists a variable, with what it lists TIED to the program's text (the seventh form; the later family's looks); each row that meets fmt, with fmt's text TOLD by the authors' own Lean function (tested against real Go, not proved from fmt's source: count such statements apart). THE CARD IS WHAT COUNTS. Prove the row's statement (the work); the ties are given (YteecmcphbehfgaaDoorTie.lean); close each card by the builder's one call (the guide's Derived/Test/ToyasCard.lean, 'card_holds'). Laid BY PROGRAM, IN A SANDBOX (cutbox-door.mjs). By AI agents, Wed Nov 11 2026. No macro, syntax, notation, axiom, sorry.
-/
import Derived.Test.YteecmcphbehfgaaDoorRows
import GoSem.ClaimSeven
namespace Go.Proofs.YteecmcphbehfgaaDoor
namespace Rows

/-- THE TIED CARD OF 'bulletinlaw15.ArticleLevels'. -/
def articleLevelsCard : Claim7 := { stood := { row := articleLevelsRow, standIns := [], harness := (true, "2e02bc7d7ed9468b3ae6bce34c5ec3fd626fa3cfa8a5b2e5390709af8f7d349f"), looks := false }, kinds := [], alts := [], laidByText := true, laidKinds := [.data, .pinned], laidTests := true, laidLooks := .later }
def ArticleLevelsCardSaid : Prop := Claim7.holds Tryd.pinned (.plain (OpenSpec.ofChange articleLevelsSpec)) articleLevelsCard

/-- THE SECOND FORM's CARD OF 'bulletinlaw15.ArticleLevels'. -/
def articleLevelsUptoCard : Claim7 := { stood := { row := articleLevelsUptoRow, standIns := [], harness := (true, "2e02bc7d7ed9468b3ae6bce34c5ec3fd626fa3cfa8a5b2e5390709af8f7d349f"), looks := false }, kinds := [], alts := [], laidByText := true, laidKinds := [.data, .pinned], laidTests := true, laidLooks := .later }
def ArticleLevelsUptoCardSaid : Prop := Claim7.holds Tryd.pinned (.plain (OpenSpec.upto articleLevelsSpec)) articleLevelsUptoCard
end Rows
end Go.Proofs.YteecmcphbehfgaaDoor
