/-
  NARROWER THAN 'FOR EVERY INPUT', by the rows' own cells (each row's printed sentence says how): GreedyBack: laid · LazyBack: laid.
  DERIVED. THE GIVEN ROWS OF THIS SEAT. 2 by the template 'for every input the law returns true; each argument reads behind the call as it read before'; 0 by the template 'total and deterministic' (their statements: YtalopgbkjgjppaaDoorTotals.lean).
  GIVEN WITH THE SEED: the statements are not yours to turn. If you find one false, say at which input.
  Laid BY PROGRAM, IN A SANDBOX (cutbox-rows.mjs): the forced cells as the released guide's own fill.sh prints them over the translation 1ca3172bda7bb3f6… (all of the seat's roots in one cut). By AI agents, Wed Nov 11 2026. No macro, syntax, notation, axiom, sorry.
-/
import Derived.Test.YtalopgbkjgjppaaDoorChecked
import GoSem.Claim
import GoSem.ClaimJoined
import GoSem.ClaimMapViews
import Derived.JoinedTies
import Derived.KernelRfl
namespace Go.Proofs.YtalopgbkjgjppaaDoor
/- THE CELL 'sum', in the pinned program and in every row, IS THE sha256 OF THE DUMP (.gsa) THAT YtalopgbkjgjppaaDoorProg.lean LOADS. Nothing in Lean hashes anything: it is a label: what it is worth is what the hold of that sum in a sandbox is worth. -/
noncomputable def Tryd.pinned : Pinned := { name := "ytalopgbkjgjppaadoor", sum := "1ca3172bda7bb3f6288021d03a94ca3caba7d2c5002375da8e3bce47cb0be1bd", checked := Tryd.checked }
namespace Rows
def none {H : Type} : Left H := { results := [], args := [] }

/- WHAT THE LISTED PACKAGE-LEVEL VARIABLES READ AS WHEN THE CALL BEGINS. Each datum BY PROGRAM (the guide's laid-datum.mjs) off the statement by which the dump's own 'gosem.cut.vars' lays the variable. In a bare row this is a premise. The card (YtalopgbkjgjppaaDoorCards.lean) ties it to the program's text. -/
def laid_cassone_state_behind {H : Type} : DataW H := .agg [.agg [.lit (.int .i64 0), .lit (.int .i64 0)], .agg [.lit (.int .i64 0), .lit (.int .i64 0)], .agg [.lit (.int .i64 7), .lit (.int .i64 10)], .agg [.lit (.int .i64 8), .lit (.int .i64 11)], .agg [.lit (.int .i64 9), .lit (.int .i64 11)]]

/-- 'cassonelaw13.GreedyBack': WHATEVER THE INPUT: true; the input reads as it did. -/
def greedyBackSpec : ChangeSpec := { name := "greedyBack", fn := fun _ => fun
  | [d1, d2, d3] => { results := [.lit (.bool true)], args := [d1, d2, d3] }
  | _ => none }
def greedyBackRow : OpenClaim := { program := "ytalopgbkjgjppaadoor", sum := "1ca3172bda7bb3f6288021d03a94ca3caba7d2c5002375da8e3bce47cb0be1bd", func := "cassone/cassonelaw13.GreedyBack", spec := "greedyBack", unfollowed := true, recurses := true, named := ["cassone/state.behind"], plainKeys := false, apart := false, laid := [("cassone/state.behind", laid_cassone_state_behind)] }
def GreedyBackSaid : Prop := greedyBackRow.holds Tryd.pinned (OpenSpec.ofChange greedyBackSpec)

/-- ITS FALSE NEIGHBOUR: 'it returns false'. Refute it at one input. -/
def greedyBackWrong : ChangeSpec := { name := "greedyBack", fn := fun _ => fun
  | [d1, d2, d3] => { results := [.lit (.bool false)], args := [d1, d2, d3] }
  | _ => none }
def GreedyBackWrongFalsely : Prop := greedyBackRow.holds Tryd.pinned (OpenSpec.ofChange greedyBackWrong)

/-- 'cassonelaw14.LazyBack': WHATEVER THE INPUT: true; the input reads as it did. -/
def lazyBackSpec : ChangeSpec := { name := "lazyBack", fn := fun _ => fun
  | [d1, d2, d3] => { results := [.lit (.bool true)], args := [d1, d2, d3] }
  | _ => none }
def lazyBackRow : OpenClaim := { program := "ytalopgbkjgjppaadoor", sum := "1ca3172bda7bb3f6288021d03a94ca3caba7d2c5002375da8e3bce47cb0be1bd", func := "cassone/cassonelaw14.LazyBack", spec := "lazyBack", unfollowed := true, recurses := true, named := ["cassone/state.behind"], plainKeys := false, apart := false, laid := [("cassone/state.behind", laid_cassone_state_behind)] }
def LazyBackSaid : Prop := lazyBackRow.holds Tryd.pinned (OpenSpec.ofChange lazyBackSpec)

/-- ITS FALSE NEIGHBOUR: 'it returns false'. Refute it at one input. -/
def lazyBackWrong : ChangeSpec := { name := "lazyBack", fn := fun _ => fun
  | [d1, d2, d3] => { results := [.lit (.bool false)], args := [d1, d2, d3] }
  | _ => none }
def LazyBackWrongFalsely : Prop := lazyBackRow.holds Tryd.pinned (OpenSpec.ofChange lazyBackWrong)

/- THE SECOND FORM. 'bulk': how many values and letters a reading holds, each counted each time it is reached (what is shared counts as often as it is met; a slice's spare places count too). A statement '..UptoSaid' is the law's where the arguments, and the package variables that the reading takes, are together of bulk at most 1048576: NARROWER than '..Said'. Prove '..Said' where nothing that the law and all that it calls make is longer than what came in: it says more and counts as full. Else prove '..UptoSaid'. A law counts once. -/
mutual
def uptoBulk {H : Type} : DataW H → Nat
  | .lit (.string bytes) => bytes.length + 1
  | .lit _ => 1
  | .nil => 1
  | .ptr d => uptoBulk d + 1
  | .slice elems spare => uptoBulkAll elems + uptoBulkAll spare + 1
  | .agg parts => uptoBulkAll parts + 1
  | .iface _ d => uptoBulk d + 1
  | .map entries => uptoBulkEntries entries + 1
  | .held _ => 1
def uptoBulkAll {H : Type} : List (DataW H) → Nat
  | [] => 0
  | d :: r => uptoBulk d + uptoBulkAll r
def uptoBulkEntries {H : Type} : List (Lit × DataW H) → Nat
  | [] => 0
  | x :: r => uptoBulkEntry x + uptoBulkEntries r
def uptoBulkEntry {H : Type} : Lit × DataW H → Nat
  | (.string bytes, d) => bytes.length + uptoBulk d + 1
  | (_, d) => uptoBulk d + 1
 end
def uptoSmall : (H : Type) → List (DataW H) → Bool := fun _ ds => decide (uptoBulkAll ds ≤ 1048576)
def OpenSpec.upto (s : _root_.Go.ChangeSpec) : _root_.Go.OpenSpec := { _root_.Go.OpenSpec.ofChange s with cond := some uptoSmall }

/-- 'cassonelaw13.GreedyBack', WHERE WHAT IT READS IS OF BULK AT MOST 1048576: true; the input reads as it did. -/
def greedyBackUptoRow : OpenClaim := { program := "ytalopgbkjgjppaadoor", sum := "1ca3172bda7bb3f6288021d03a94ca3caba7d2c5002375da8e3bce47cb0be1bd", func := "cassone/cassonelaw13.GreedyBack", spec := "greedyBack", unfollowed := true, recurses := true, named := ["cassone/state.behind"], plainKeys := false, apart := false, laid := [("cassone/state.behind", laid_cassone_state_behind)], narrowed := true }
def GreedyBackUptoSaid : Prop := greedyBackUptoRow.holds Tryd.pinned (OpenSpec.upto greedyBackSpec)

/-- 'cassonelaw14.LazyBack', WHERE WHAT IT READS IS OF BULK AT MOST 1048576: true; the input reads as it did. -/
def lazyBackUptoRow : OpenClaim := { program := "ytalopgbkjgjppaadoor", sum := "1ca3172bda7bb3f6288021d03a94ca3caba7d2c5002375da8e3bce47cb0be1bd", func := "cassone/cassonelaw14.LazyBack", spec := "lazyBack", unfollowed := true, recurses := true, named := ["cassone/state.behind"], plainKeys := false, apart := false, laid := [("cassone/state.behind", laid_cassone_state_behind)], narrowed := true }
def LazyBackUptoSaid : Prop := lazyBackUptoRow.holds Tryd.pinned (OpenSpec.upto lazyBackSpec)

end Rows
end Go.Proofs.YtalopgbkjgjppaaDoor
