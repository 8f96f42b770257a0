/-
  DERIVED. GIVEN WITH THE SEED: THE CARDS: each row of YtalopgbkjgjppaaDoorRows.lean that lists a variable, with what it lists TIED to the program's text (the seventh form; the later family's looks); each row that meets fmt, with fmt's text TOLD by the authors' own Lean function (tested against real Go, not proved from fmt's source: count such statements apart). THE CARD IS WHAT COUNTS. Prove the row's statement (the work); the ties are given (YtalopgbkjgjppaaDoorTie.lean); close each card by the builder's one call (the guide's Derived/Test/ToyasCard.lean, 'card_holds'). Laid BY PROGRAM, IN A SANDBOX (cutbox-door.mjs). By AI agents, Wed Nov 11 2026. No macro, syntax, notation, axiom, sorry.
-/
import Derived.Test.YtalopgbkjgjppaaDoorRows
import GoSem.ClaimSeven
namespace Go.Proofs.YtalopgbkjgjppaaDoor
namespace Rows

/-- THE TIED CARD OF 'cassonelaw13.GreedyBack'. -/
def greedyBackCard : Claim7 := { stood := { row := greedyBackRow, standIns := [], harness := (true, "bf6bd518eafe18d2f8553e0a9c6003586b33b14064757068d688faabc0bb0c11"), looks := false }, kinds := [], alts := [], laidByText := true, laidKinds := [.data], laidTests := true, laidLooks := .later }
def GreedyBackCardSaid : Prop := Claim7.holds Tryd.pinned (.plain (OpenSpec.ofChange greedyBackSpec)) greedyBackCard

/-- THE TIED CARD OF 'cassonelaw14.LazyBack'. -/
def lazyBackCard : Claim7 := { stood := { row := lazyBackRow, standIns := [], harness := (true, "bf6bd518eafe18d2f8553e0a9c6003586b33b14064757068d688faabc0bb0c11"), looks := false }, kinds := [], alts := [], laidByText := true, laidKinds := [.data], laidTests := true, laidLooks := .later }
def LazyBackCardSaid : Prop := Claim7.holds Tryd.pinned (.plain (OpenSpec.ofChange lazyBackSpec)) lazyBackCard

/-- THE SECOND FORM's CARD OF 'cassonelaw13.GreedyBack'. -/
def greedyBackUptoCard : Claim7 := { stood := { row := greedyBackUptoRow, standIns := [], harness := (true, "bf6bd518eafe18d2f8553e0a9c6003586b33b14064757068d688faabc0bb0c11"), looks := false }, kinds := [], alts := [], laidByText := true, laidKinds := [.data], laidTests := true, laidLooks := .later }
def GreedyBackUptoCardSaid : Prop := Claim7.holds Tryd.pinned (.plain (OpenSpec.upto greedyBackSpec)) greedyBackUptoCard

/-- THE SECOND FORM's CARD OF 'cassonelaw14.LazyBack'. -/
def lazyBackUptoCard : Claim7 := { stood := { row := lazyBackUptoRow, standIns := [], harness := (true, "bf6bd518eafe18d2f8553e0a9c6003586b33b14064757068d688faabc0bb0c11"), looks := false }, kinds := [], alts := [], laidByText := true, laidKinds := [.data], laidTests := true, laidLooks := .later }
def LazyBackUptoCardSaid : Prop := Claim7.holds Tryd.pinned (.plain (OpenSpec.upto lazyBackSpec)) lazyBackUptoCard
end Rows
end Go.Proofs.YtalopgbkjgjppaaDoor
