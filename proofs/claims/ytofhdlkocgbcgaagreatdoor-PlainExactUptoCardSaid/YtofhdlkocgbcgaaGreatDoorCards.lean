/-
  DERIVED. GIVEN WITH THE SEED: THE CARDS: each row of YtofhdlkocgbcgaaGreatDoorRows.lean that lists a variable, with what it lists TIED to the program's text (the seventh form; the later family's looks); each row that meets fmt, with fmt's text TOLD by the authors' own Lean function (tested against real Go, not proved from fmt's source: count such statements apart). THE CARD IS WHAT COUNTS. Prove the row's statement (the work); the ties are given (YtofhdlkocgbcgaaGreatDoorTie.lean); close each card by the builder's one call (the guide's Derived/Test/ToyasCard.lean, 'card_holds'). Laid BY PROGRAM, IN A SANDBOX (cutbox-door.mjs). By AI agents, Wed Nov 11 2026. No macro, syntax, notation, axiom, sorry.
-/
import Derived.Test.YtofhdlkocgbcgaaGreatDoorRows
import GoSem.ClaimSeven
namespace Go.Proofs.YtofhdlkocgbcgaaGreatDoor
namespace Rows

/-- THE TIED CARD OF 'vesperlaw15.PlainExact'. -/
def plainExactCard : Claim7 := { stood := { row := plainExactRow, standIns := [], harness := (true, "575c2cf8d047dc7503b0cd0077b827ba81a0f4875bb7e6b4fb2fb36fe84ff40c"), looks := false }, kinds := [], alts := [], laidByText := true, laidKinds := [.data, .data, .data, .data, .data, .data, .data, .data, .pinned], laidTests := true, laidLooks := .later }
def PlainExactCardSaid : Prop := Claim7.holds Tryz.pinned (.plain (OpenSpec.ofChange plainExactSpec)) plainExactCard

/-- THE SECOND FORM's CARD OF 'vesperlaw15.PlainExact'. -/
def plainExactUptoCard : Claim7 := { stood := { row := plainExactUptoRow, standIns := [], harness := (true, "575c2cf8d047dc7503b0cd0077b827ba81a0f4875bb7e6b4fb2fb36fe84ff40c"), looks := false }, kinds := [], alts := [], laidByText := true, laidKinds := [.data, .data, .data, .data, .data, .data, .data, .data, .pinned], laidTests := true, laidLooks := .later }
def PlainExactUptoCardSaid : Prop := Claim7.holds Tryz.pinned (.plain (OpenSpec.upto plainExactSpec)) plainExactUptoCard
end Rows
end Go.Proofs.YtofhdlkocgbcgaaGreatDoor
