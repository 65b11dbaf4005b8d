/-
  DERIVED. GIVEN WITH THE SEED: THE CARDS: each row of YtdbepelcgmnbbaaDoorRows.lean that lists a variable, with what it lists TIED to the program's text (the seventh form; the later family's looks); each row that meets fmt, with fmt's text TOLD by the authors' own Lean function (tested against real Go, not proved from fmt's source: count such statements apart). THE CARD IS WHAT COUNTS. Prove the row's statement (the work); the ties are given (YtdbepelcgmnbbaaDoorTie.lean); close each card by the builder's one call (the guide's Derived/Test/ToyasCard.lean, 'card_holds'). Laid BY PROGRAM, IN A SANDBOX (cutbox-door.mjs). By AI agents, Wed Nov 11 2026. No macro, syntax, notation, axiom, sorry.
-/
import Derived.Test.YtdbepelcgmnbbaaDoorRows
import GoSem.ClaimSeven
namespace Go.Proofs.YtdbepelcgmnbbaaDoor
namespace Rows

/-- THE TIED CARD OF 'portholelaw21.GridShape'. -/
def gridShapeCard : Claim7 := { stood := { row := gridShapeRow, standIns := [], harness := (true, "69a6447a3eae3afb9b202f925d27ea4f6ed4d654bfab8bea1471b32b2b41f28d"), looks := false }, kinds := [], alts := [], laidByText := true, laidKinds := [.data, .data, .data, .pinned], laidTests := true, laidLooks := .later }
def GridShapeCardSaid : Prop := Claim7.holds Tryd.pinned (.plain (OpenSpec.ofChange gridShapeSpec)) gridShapeCard

/-- THE TIED CARD OF 'portholelaw21.GridSizes'. -/
def gridSizesCard : Claim7 := { stood := { row := gridSizesRow, standIns := [], harness := (true, "69a6447a3eae3afb9b202f925d27ea4f6ed4d654bfab8bea1471b32b2b41f28d"), looks := false }, kinds := [], alts := [], laidByText := true, laidKinds := [.data, .data, .data, .pinned], laidTests := true, laidLooks := .later }
def GridSizesCardSaid : Prop := Claim7.holds Tryd.pinned (.plain (OpenSpec.ofChange gridSizesSpec)) gridSizesCard

/-- THE SECOND FORM's CARD OF 'portholelaw21.GridShape'. -/
def gridShapeUptoCard : Claim7 := { stood := { row := gridShapeUptoRow, standIns := [], harness := (true, "69a6447a3eae3afb9b202f925d27ea4f6ed4d654bfab8bea1471b32b2b41f28d"), looks := false }, kinds := [], alts := [], laidByText := true, laidKinds := [.data, .data, .data, .pinned], laidTests := true, laidLooks := .later }
def GridShapeUptoCardSaid : Prop := Claim7.holds Tryd.pinned (.plain (OpenSpec.upto gridShapeSpec)) gridShapeUptoCard

/-- THE SECOND FORM's CARD OF 'portholelaw21.GridSizes'. -/
def gridSizesUptoCard : Claim7 := { stood := { row := gridSizesUptoRow, standIns := [], harness := (true, "69a6447a3eae3afb9b202f925d27ea4f6ed4d654bfab8bea1471b32b2b41f28d"), looks := false }, kinds := [], alts := [], laidByText := true, laidKinds := [.data, .data, .data, .pinned], laidTests := true, laidLooks := .later }
def GridSizesUptoCardSaid : Prop := Claim7.holds Tryd.pinned (.plain (OpenSpec.upto gridSizesSpec)) gridSizesUptoCard
end Rows
end Go.Proofs.YtdbepelcgmnbbaaDoor
