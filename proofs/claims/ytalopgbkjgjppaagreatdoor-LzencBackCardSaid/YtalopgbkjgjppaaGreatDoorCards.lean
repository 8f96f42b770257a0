/-
  DERIVED. GIVEN WITH THE SEED: THE CARDS: each row of YtalopgbkjgjppaaGreatDoorRows.lean that lists a variable, with what it lists TIED to the program's text (the seventh form; the later family's looks); each row that meets fmt, with fmt's text TOLD by the authors' own Lean function (tested against real Go, not proved from fmt's source: count such statements apart). THE CARD IS WHAT COUNTS. Prove the row's statement (the work); the ties are given (YtalopgbkjgjppaaGreatDoorTie.lean); close each card by the builder's one call (the guide's Derived/Test/ToyasCard.lean, 'card_holds'). Laid BY PROGRAM, IN A SANDBOX (cutbox-door.mjs). By AI agents, Wed Nov 11 2026. No macro, syntax, notation, axiom, sorry.
-/
import Derived.Test.YtalopgbkjgjppaaGreatDoorRows
import GoSem.ClaimSeven
namespace Go.Proofs.YtalopgbkjgjppaaGreatDoor
namespace Rows

/-- THE TIED CARD OF 'cassonelaw12.LzencBack'. -/
def lzencBackCard : Claim7 := { stood := { row := lzencBackRow, standIns := [], harness := (true, "3b7a0b09a420c880d3eefa667472bc9d327ec72bb0e56053e2c0daac624620a4"), looks := false }, kinds := [], alts := [], laidByText := true, laidKinds := [.data], laidTests := true, laidLooks := .later }
def LzencBackCardSaid : Prop := Claim7.holds Tryz.pinned (.plain (OpenSpec.ofChange lzencBackSpec)) lzencBackCard

/-- THE TIED CARD OF 'cassonelaw16.OptimalBest'. -/
def optimalBestCard : Claim7 := { stood := { row := optimalBestRow, standIns := [], harness := (true, "3b7a0b09a420c880d3eefa667472bc9d327ec72bb0e56053e2c0daac624620a4"), looks := false }, kinds := [], alts := [], laidByText := true, laidKinds := [.data], laidTests := true, laidLooks := .later }
def OptimalBestCardSaid : Prop := Claim7.holds Tryz.pinned (.plain (OpenSpec.ofChange optimalBestSpec)) optimalBestCard

/-- THE SECOND FORM's CARD OF 'cassonelaw12.LzencBack'. -/
def lzencBackUptoCard : Claim7 := { stood := { row := lzencBackUptoRow, standIns := [], harness := (true, "3b7a0b09a420c880d3eefa667472bc9d327ec72bb0e56053e2c0daac624620a4"), looks := false }, kinds := [], alts := [], laidByText := true, laidKinds := [.data], laidTests := true, laidLooks := .later }
def LzencBackUptoCardSaid : Prop := Claim7.holds Tryz.pinned (.plain (OpenSpec.upto lzencBackSpec)) lzencBackUptoCard

/-- THE SECOND FORM's CARD OF 'cassonelaw16.OptimalBest'. -/
def optimalBestUptoCard : Claim7 := { stood := { row := optimalBestUptoRow, standIns := [], harness := (true, "3b7a0b09a420c880d3eefa667472bc9d327ec72bb0e56053e2c0daac624620a4"), looks := false }, kinds := [], alts := [], laidByText := true, laidKinds := [.data], laidTests := true, laidLooks := .later }
def OptimalBestUptoCardSaid : Prop := Claim7.holds Tryz.pinned (.plain (OpenSpec.upto optimalBestSpec)) optimalBestUptoCard
end Rows
end Go.Proofs.YtalopgbkjgjppaaGreatDoor
