/-
  No cell of these rows narrows 'for every input' (looked for: loops, veiled, ifaces, maps, wideKeys, modest, calm, conditions, laid).
  DERIVED. THE GIVEN ROWS OF THIS SEAT. 6 by the template 'for every input the law returns true; each argument reads behind the call as it read before'; 0 by the template 'total and deterministic' (their statements: YtalopgbkjgjppaaTotals.lean).
  GIVEN WITH THE SEED: the statements are not yours to turn. If you find one false, say at which input.
  Laid BY PROGRAM, IN A SANDBOX (cutbox-rows.mjs): the forced cells as the released guide's own fill.sh prints them over the translation 83a7525d5a07df6d… (all of the seat's roots in one cut). By AI agents, Wed Nov 11 2026. No macro, syntax, notation, axiom, sorry.
-/
import Derived.Test.YtalopgbkjgjppaaChecked
import GoSem.Claim
import GoSem.ClaimJoined
import GoSem.ClaimMapViews
import Derived.JoinedTies
import Derived.KernelRfl
namespace Go.Proofs.Ytalopgbkjgjppaa
/- THE CELL 'sum', in the pinned program and in every row, IS THE sha256 OF THE DUMP (.gsa) THAT YtalopgbkjgjppaaProg.lean LOADS. Nothing in Lean hashes anything: it is a label: what it is worth is what the hold of that sum in a sandbox is worth. -/
noncomputable def Try.pinned : Pinned := { name := "ytalopgbkjgjppaa", sum := "83a7525d5a07df6d508c35c58f17efd333d18113acadccd6681c69ecbd546360", checked := Try.checked }
namespace Rows
def none {H : Type} : Left H := { results := [], args := [] }

/-- 'cassonelaw13.GreedyParses': WHATEVER THE INPUT: true; the input reads as it did. -/
def greedyParsesSpec : ChangeSpec := { name := "greedyParses", fn := fun _ => fun
  | [d1, d2, d3] => { results := [.lit (.bool true)], args := [d1, d2, d3] }
  | _ => none }
def greedyParsesRow : OpenClaim := { program := "ytalopgbkjgjppaa", sum := "83a7525d5a07df6d508c35c58f17efd333d18113acadccd6681c69ecbd546360", func := "cassone/cassonelaw13.GreedyParses", spec := "greedyParses", plainKeys := false, apart := false }
def GreedyParsesSaid : Prop := greedyParsesRow.holds Try.pinned (OpenSpec.ofChange greedyParsesSpec)

/-- ITS FALSE NEIGHBOUR: 'it returns false'. Refute it at one input. -/
def greedyParsesWrong : ChangeSpec := { name := "greedyParses", fn := fun _ => fun
  | [d1, d2, d3] => { results := [.lit (.bool false)], args := [d1, d2, d3] }
  | _ => none }
def GreedyParsesWrongFalsely : Prop := greedyParsesRow.holds Try.pinned (OpenSpec.ofChange greedyParsesWrong)

/-- 'cassonelaw06.PacketApplies': WHATEVER THE INPUT: true; the input reads as it did. -/
def packetAppliesSpec : ChangeSpec := { name := "packetApplies", fn := fun _ => fun
  | [d1, d2] => { results := [.lit (.bool true)], args := [d1, d2] }
  | _ => none }
def packetAppliesRow : OpenClaim := { program := "ytalopgbkjgjppaa", sum := "83a7525d5a07df6d508c35c58f17efd333d18113acadccd6681c69ecbd546360", func := "cassone/cassonelaw06.PacketApplies", spec := "packetApplies", plainKeys := false, apart := false }
def PacketAppliesSaid : Prop := packetAppliesRow.holds Try.pinned (OpenSpec.ofChange packetAppliesSpec)

/-- ITS FALSE NEIGHBOUR: 'it returns false'. Refute it at one input. -/
def packetAppliesWrong : ChangeSpec := { name := "packetApplies", fn := fun _ => fun
  | [d1, d2] => { results := [.lit (.bool false)], args := [d1, d2] }
  | _ => none }
def PacketAppliesWrongFalsely : Prop := packetAppliesRow.holds Try.pinned (OpenSpec.ofChange packetAppliesWrong)

/-- 'cassonelaw06.PacketReps': WHATEVER THE INPUT: true; the input reads as it did. -/
def packetRepsSpec : ChangeSpec := { name := "packetReps", fn := fun _ => fun
  | [d1, d2, d3] => { results := [.lit (.bool true)], args := [d1, d2, d3] }
  | _ => none }
def packetRepsRow : OpenClaim := { program := "ytalopgbkjgjppaa", sum := "83a7525d5a07df6d508c35c58f17efd333d18113acadccd6681c69ecbd546360", func := "cassone/cassonelaw06.PacketReps", spec := "packetReps", plainKeys := false, apart := false }
def PacketRepsSaid : Prop := packetRepsRow.holds Try.pinned (OpenSpec.ofChange packetRepsSpec)

/-- ITS FALSE NEIGHBOUR: 'it returns false'. Refute it at one input. -/
def packetRepsWrong : ChangeSpec := { name := "packetReps", fn := fun _ => fun
  | [d1, d2, d3] => { results := [.lit (.bool false)], args := [d1, d2, d3] }
  | _ => none }
def PacketRepsWrongFalsely : Prop := packetRepsRow.holds Try.pinned (OpenSpec.ofChange packetRepsWrong)

/-- 'cassonelaw06.PacketCopies': WHATEVER THE INPUT: true; the input reads as it did. -/
def packetCopiesSpec : ChangeSpec := { name := "packetCopies", fn := fun _ => fun
  | [d1, d2] => { results := [.lit (.bool true)], args := [d1, d2] }
  | _ => none }
def packetCopiesRow : OpenClaim := { program := "ytalopgbkjgjppaa", sum := "83a7525d5a07df6d508c35c58f17efd333d18113acadccd6681c69ecbd546360", func := "cassone/cassonelaw06.PacketCopies", spec := "packetCopies", plainKeys := false, apart := false }
def PacketCopiesSaid : Prop := packetCopiesRow.holds Try.pinned (OpenSpec.ofChange packetCopiesSpec)

/-- ITS FALSE NEIGHBOUR: 'it returns false'. Refute it at one input. -/
def packetCopiesWrong : ChangeSpec := { name := "packetCopies", fn := fun _ => fun
  | [d1, d2] => { results := [.lit (.bool false)], args := [d1, d2] }
  | _ => none }
def PacketCopiesWrongFalsely : Prop := packetCopiesRow.holds Try.pinned (OpenSpec.ofChange packetCopiesWrong)

/-- 'cassonelaw14.LazyParses': WHATEVER THE INPUT: true; the input reads as it did. -/
def lazyParsesSpec : ChangeSpec := { name := "lazyParses", fn := fun _ => fun
  | [d1, d2, d3] => { results := [.lit (.bool true)], args := [d1, d2, d3] }
  | _ => none }
def lazyParsesRow : OpenClaim := { program := "ytalopgbkjgjppaa", sum := "83a7525d5a07df6d508c35c58f17efd333d18113acadccd6681c69ecbd546360", func := "cassone/cassonelaw14.LazyParses", spec := "lazyParses", plainKeys := false, apart := false }
def LazyParsesSaid : Prop := lazyParsesRow.holds Try.pinned (OpenSpec.ofChange lazyParsesSpec)

/-- ITS FALSE NEIGHBOUR: 'it returns false'. Refute it at one input. -/
def lazyParsesWrong : ChangeSpec := { name := "lazyParses", fn := fun _ => fun
  | [d1, d2, d3] => { results := [.lit (.bool false)], args := [d1, d2, d3] }
  | _ => none }
def LazyParsesWrongFalsely : Prop := lazyParsesRow.holds Try.pinned (OpenSpec.ofChange lazyParsesWrong)

/-- 'cassonelaw16.OptimalLeast': WHATEVER THE INPUT: true; the input reads as it did. -/
def optimalLeastSpec : ChangeSpec := { name := "optimalLeast", fn := fun _ => fun
  | [d1, d2, d3] => { results := [.lit (.bool true)], args := [d1, d2, d3] }
  | _ => none }
def optimalLeastRow : OpenClaim := { program := "ytalopgbkjgjppaa", sum := "83a7525d5a07df6d508c35c58f17efd333d18113acadccd6681c69ecbd546360", func := "cassone/cassonelaw16.OptimalLeast", spec := "optimalLeast", unfollowed := true, recurses := true, plainKeys := false, apart := false }
def OptimalLeastSaid : Prop := optimalLeastRow.holds Try.pinned (OpenSpec.ofChange optimalLeastSpec)

/-- ITS FALSE NEIGHBOUR: 'it returns false'. Refute it at one input. -/
def optimalLeastWrong : ChangeSpec := { name := "optimalLeast", fn := fun _ => fun
  | [d1, d2, d3] => { results := [.lit (.bool false)], args := [d1, d2, d3] }
  | _ => none }
def OptimalLeastWrongFalsely : Prop := optimalLeastRow.holds Try.pinned (OpenSpec.ofChange optimalLeastWrong)

/- THE SECOND FORM. 'bulk': how many values and letters a reading holds, each counted each time it is reached (what is shared counts as often as it is met; a slice's spare places count too). A statement '..UptoSaid' is the law's where the arguments, and the package variables that the reading takes, are together of bulk at most 1048576: NARROWER than '..Said'. Prove '..Said' where nothing that the law and all that it calls make is longer than what came in: it says more and counts as full. Else prove '..UptoSaid'. A law counts once. -/
mutual
def uptoBulk {H : Type} : DataW H → Nat
  | .lit (.string bytes) => bytes.length + 1
  | .lit _ => 1
  | .nil => 1
  | .ptr d => uptoBulk d + 1
  | .slice elems spare => uptoBulkAll elems + uptoBulkAll spare + 1
  | .agg parts => uptoBulkAll parts + 1
  | .iface _ d => uptoBulk d + 1
  | .map entries => uptoBulkEntries entries + 1
  | .held _ => 1
def uptoBulkAll {H : Type} : List (DataW H) → Nat
  | [] => 0
  | d :: r => uptoBulk d + uptoBulkAll r
def uptoBulkEntries {H : Type} : List (Lit × DataW H) → Nat
  | [] => 0
  | x :: r => uptoBulkEntry x + uptoBulkEntries r
def uptoBulkEntry {H : Type} : Lit × DataW H → Nat
  | (.string bytes, d) => bytes.length + uptoBulk d + 1
  | (_, d) => uptoBulk d + 1
 end
def uptoSmall : (H : Type) → List (DataW H) → Bool := fun _ ds => decide (uptoBulkAll ds ≤ 1048576)
def OpenSpec.upto (s : _root_.Go.ChangeSpec) : _root_.Go.OpenSpec := { _root_.Go.OpenSpec.ofChange s with cond := some uptoSmall }

/-- 'cassonelaw13.GreedyParses', WHERE WHAT IT READS IS OF BULK AT MOST 1048576: true; the input reads as it did. -/
def greedyParsesUptoRow : OpenClaim := { program := "ytalopgbkjgjppaa", sum := "83a7525d5a07df6d508c35c58f17efd333d18113acadccd6681c69ecbd546360", func := "cassone/cassonelaw13.GreedyParses", spec := "greedyParses", plainKeys := false, apart := false, narrowed := true }
def GreedyParsesUptoSaid : Prop := greedyParsesUptoRow.holds Try.pinned (OpenSpec.upto greedyParsesSpec)

/-- 'cassonelaw06.PacketApplies', WHERE WHAT IT READS IS OF BULK AT MOST 1048576: true; the input reads as it did. -/
def packetAppliesUptoRow : OpenClaim := { program := "ytalopgbkjgjppaa", sum := "83a7525d5a07df6d508c35c58f17efd333d18113acadccd6681c69ecbd546360", func := "cassone/cassonelaw06.PacketApplies", spec := "packetApplies", plainKeys := false, apart := false, narrowed := true }
def PacketAppliesUptoSaid : Prop := packetAppliesUptoRow.holds Try.pinned (OpenSpec.upto packetAppliesSpec)

/-- 'cassonelaw06.PacketReps', WHERE WHAT IT READS IS OF BULK AT MOST 1048576: true; the input reads as it did. -/
def packetRepsUptoRow : OpenClaim := { program := "ytalopgbkjgjppaa", sum := "83a7525d5a07df6d508c35c58f17efd333d18113acadccd6681c69ecbd546360", func := "cassone/cassonelaw06.PacketReps", spec := "packetReps", plainKeys := false, apart := false, narrowed := true }
def PacketRepsUptoSaid : Prop := packetRepsUptoRow.holds Try.pinned (OpenSpec.upto packetRepsSpec)

/-- 'cassonelaw06.PacketCopies', WHERE WHAT IT READS IS OF BULK AT MOST 1048576: true; the input reads as it did. -/
def packetCopiesUptoRow : OpenClaim := { program := "ytalopgbkjgjppaa", sum := "83a7525d5a07df6d508c35c58f17efd333d18113acadccd6681c69ecbd546360", func := "cassone/cassonelaw06.PacketCopies", spec := "packetCopies", plainKeys := false, apart := false, narrowed := true }
def PacketCopiesUptoSaid : Prop := packetCopiesUptoRow.holds Try.pinned (OpenSpec.upto packetCopiesSpec)

/-- 'cassonelaw14.LazyParses', WHERE WHAT IT READS IS OF BULK AT MOST 1048576: true; the input reads as it did. -/
def lazyParsesUptoRow : OpenClaim := { program := "ytalopgbkjgjppaa", sum := "83a7525d5a07df6d508c35c58f17efd333d18113acadccd6681c69ecbd546360", func := "cassone/cassonelaw14.LazyParses", spec := "lazyParses", plainKeys := false, apart := false, narrowed := true }
def LazyParsesUptoSaid : Prop := lazyParsesUptoRow.holds Try.pinned (OpenSpec.upto lazyParsesSpec)

/-- 'cassonelaw16.OptimalLeast', WHERE WHAT IT READS IS OF BULK AT MOST 1048576: true; the input reads as it did. -/
def optimalLeastUptoRow : OpenClaim := { program := "ytalopgbkjgjppaa", sum := "83a7525d5a07df6d508c35c58f17efd333d18113acadccd6681c69ecbd546360", func := "cassone/cassonelaw16.OptimalLeast", spec := "optimalLeast", unfollowed := true, recurses := true, plainKeys := false, apart := false, narrowed := true }
def OptimalLeastUptoSaid : Prop := optimalLeastUptoRow.holds Try.pinned (OpenSpec.upto optimalLeastSpec)

end Rows
end Go.Proofs.Ytalopgbkjgjppaa
