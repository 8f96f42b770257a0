/- Part of a proof: Rf, Bk, Bk2, Bk3. -/
import Derived.Test.YtalopgbkjgjppaaDoorGPk
import Derived.Test.YtalopgbkjgjppaaDoorGPk7
/- The document's Push and Front. -/
namespace Go.Proofs.YtalopgbkjgjppaaDoor
open Go.RowKit Go.Cas
end Go.Proofs.YtalopgbkjgjppaaDoor

/- The walk of the document's Back. -/
namespace Go.Proofs.YtalopgbkjgjppaaDoor
open Go.RowKit Go.Cas
end Go.Proofs.YtalopgbkjgjppaaDoor

/- The walk of the document's Back. -/
namespace Go.Proofs.YtalopgbkjgjppaaDoor
open Go.RowKit Go.Cas
end Go.Proofs.YtalopgbkjgjppaaDoor

/- The walk of the document's Back. -/
namespace Go.Proofs.YtalopgbkjgjppaaDoor
open Go.RowKit Go.Cas
/-- From how far back a packet copies, how many bytes, the last distances behind it, does it fit? As the document has it. -/
def backL (k d l y have_ a b c e : Int) : Int × Int × (Int × Int × Int × Int) × Bool :=
  if y ≠ 0 then (0, 0, (a, b, c, e), false)
  else if k = 2 then (d, l, (d, a, b, c), decide (1 ≤ d ∧ d ≤ have_ ∧ d ≤ 1048576 ∧ 2 ≤ l ∧ l ≤ 273))
  else if k = 3 then
    if 0 ≤ d ∧ d < 4 then ((if d = 0 then a else if d = 1 then b else if d = 2 then c else e), l, frontL a b c e d, decide ((if d = 0 then a else if d = 1 then b else if d = 2 then c else e) ≤ have_ ∧ 2 ≤ l ∧ l ≤ 273))
    else (0, 0, (a, b, c, e), false)
  else if k = 4 then (a, 1, (a, b, c, e), decide (a ≤ have_ ∧ d = 0 ∧ l = 0))
  else (0, 0, (a, b, c, e), false)

end Go.Proofs.YtalopgbkjgjppaaDoor
