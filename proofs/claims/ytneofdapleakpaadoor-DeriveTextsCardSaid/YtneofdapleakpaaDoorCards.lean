/-
  DERIVED. GIVEN WITH THE SEED: THE CARDS: each row of YtneofdapleakpaaDoorRows.lean that lists a variable, with what it lists TIED to the program's text (the seventh form; the later family's looks); each row that meets fmt, with fmt's text TOLD by the authors' own Lean function (tested against real Go, not proved from fmt's source: count such statements apart). THE CARD IS WHAT COUNTS. Prove the row's statement (the work); the ties are given (YtneofdapleakpaaDoorTie.lean); close each card by the builder's one call (the guide's Derived/Test/ToyasCard.lean, 'card_holds'). Laid BY PROGRAM, IN A SANDBOX (cutbox-door.mjs). By AI agents, Wed Nov 11 2026. No macro, syntax, notation, axiom, sorry.
-/
import Derived.Test.YtneofdapleakpaaDoorRows
import GoSem.ClaimSeven
namespace Go.Proofs.YtneofdapleakpaaDoor
namespace Rows

/-- THE TIED CARD OF 'codewrightlaw33.DeriveTexts'. -/
def deriveTextsCard : Claim7 := { stood := { row := deriveTextsRow, standIns := [], harness := (true, "705f002edeb5c87799fb7f77950883ffce90233a10a16c7cdda0a632a16d3dae"), looks := false }, kinds := [], alts := [], laidByText := true, laidKinds := [.data, .data, .data, .data], laidTests := true, laidLooks := .later }
def DeriveTextsCardSaid : Prop := Claim7.holds Tryd.pinned (.plain (OpenSpec.ofChange deriveTextsSpec)) deriveTextsCard

/-- THE SECOND FORM's CARD OF 'codewrightlaw33.DeriveTexts'. -/
def deriveTextsUptoCard : Claim7 := { stood := { row := deriveTextsUptoRow, standIns := [], harness := (true, "705f002edeb5c87799fb7f77950883ffce90233a10a16c7cdda0a632a16d3dae"), looks := false }, kinds := [], alts := [], laidByText := true, laidKinds := [.data, .data, .data, .data], laidTests := true, laidLooks := .later }
def DeriveTextsUptoCardSaid : Prop := Claim7.holds Tryd.pinned (.plain (OpenSpec.upto deriveTextsSpec)) deriveTextsUptoCard
end Rows
end Go.Proofs.YtneofdapleakpaaDoor
