/- The walks of packet's next functions. -/
import Derived.Test.YtalopgbkjgjppaaMem
import Derived.Test.YtalopgbkjgjppaaPk3
import Derived.WalkKit
import Derived.WalkSpells
import Derived.WalkLawsBesides
import Derived.RegionTactic
import Derived.BigRegion
import Derived.BigQuiet
import Derived.Deep.QuietTactic
import Derived.Deep.RegionHeld3
import Derived.Laws.CopyOwn
namespace Go.Proofs.Ytalopgbkjgjppaa
open Go.RowKit Go.Cas


set_option maxHeartbeats 1000000 in
theorem distance_none (k d l y a b c e : Int) (h2 : (k == 2) = false) (h3 : (k == 3) = false ∨ k = 3 ∧ d < 0 ∨ k = 3 ∧ 4 ≤ d) (w : World) :
    Calls Try.prog 44 #[pk k d l y, rp a b c e] w fun z w' =>
      z = .returned (.tuple #[i6 0, rp a b c e, .bool false]) ∧ Same w w' := by
  rcases h3 with h3 | ⟨rfl, h3⟩ | ⟨rfl, h3⟩
  all_goals
    go_enter Try.func44, Try.ntmps44
    go_wp2
    go_region
    go_wp2
    refine bodyPost_ret (v := .tuple #[i6 0, rp a b c e, .bool false]) (by simp [results, Try.results44, go_sem]) rfl ⟨rfl, ?_⟩
    repeat (first | exact Keeps.refl _ _ | refine Keeps.drew ?_ | refine Keeps.alloc ?_ _ | refine Keeps.setCell ?_ (by simp; try omega) _ | refine Keeps.trans ?_ (by assumption))

theorem distance_any (k d l y a b c e : Int) (w : World) :
    Calls Try.prog 44 #[pk k d l y, rp a b c e] w fun z w' =>
      z = .returned (.tuple #[i6 (distL k d a b c e).1, rp (distL k d a b c e).2.1.1 (distL k d a b c e).2.1.2.1 (distL k d a b c e).2.1.2.2.1 (distL k d a b c e).2.1.2.2.2, .bool (distL k d a b c e).2.2]) ∧ Same w w' := by
  by_cases h2 : k = 2
  · subst h2
    exact distance_match d l y a b c e w
  by_cases h3 : k = 3 ∧ 0 ≤ d ∧ d < 4
  · obtain ⟨rfl, hd⟩ := h3
    have := distance_rep d l y a b c e _ hd rfl w
    simpa [distL, hd] using this
  · have := distance_none k d l y a b c e (by simpa using h2) (by by_cases hk : k = 3 <;> simp [hk] <;> omega) w
    have hq : distL k d a b c e = (0, (a, b, c, e), false) := by unfold distL; rw [if_neg h2, if_neg h3]
    rw [hq]; exact this
end Go.Proofs.Ytalopgbkjgjppaa
