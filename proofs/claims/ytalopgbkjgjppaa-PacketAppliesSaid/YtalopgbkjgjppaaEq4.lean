/- '==' of two arrays of four ints that hold the same. -/
import Derived.Test.YtalopgbkjgjppaaPk
namespace Go.Proofs.Ytalopgbkjgjppaa
open Go.RowKit Go.Cas

theorem info3z : (Try.prog.info? 3).map (·.size) = some 1 := by kernel_rfl

theorem run_equalIn_same4 (n : Nat) (a b c d : Int) (w : World) : (Op.equalIn (n + 2) 43 (rp a b c d) (rp a b c d)).run Try.prog w = .ok true w := by
  have hi := info3z
  obtain ⟨i, h1, h2⟩ := Option.map_eq_some_iff.1 hi
  have hs : ∀ w, (sizeOf 3).run Try.prog w = .ok 1 w := fun w => by simp [sizeOf, typeInfo, h1, h2]
  rw [Op.equalIn]
  simp only [Sem.run_bind, run_underlying Try.underlying43, Result.andThen_ok, hs]
  simp [Std.Legacy.Range.forIn_eq_forIn_range', Std.Legacy.Range.size, List.range', part, hs, run_equalIn_int, Try.underlying3]
end Go.Proofs.Ytalopgbkjgjppaa
