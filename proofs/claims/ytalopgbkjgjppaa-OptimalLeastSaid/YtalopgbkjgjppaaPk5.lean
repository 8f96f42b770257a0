/- The walks of packet's next functions. -/
import Derived.Test.YtalopgbkjgjppaaMem
import Derived.Test.YtalopgbkjgjppaaPk3
import Derived.WalkKit
import Derived.WalkSpells
import Derived.WalkLawsBesides
import Derived.RegionTactic
import Derived.BigRegion
import Derived.BigQuiet
import Derived.Deep.QuietTactic
import Derived.Deep.RegionHeld3
import Derived.Laws.CopyOwn
namespace Go.Proofs.Ytalopgbkjgjppaa
open Go.RowKit Go.Cas


def longB (n : Int) : Bool := decide (2 ≤ n) && decide (n ≤ 273)

set_option maxHeartbeats 2000000 in
theorem copies_match (d l have_ a b c e : Int) (ok : Bool) (hok : (decide (1 ≤ d) && (decide (d ≤ min have_ 1048576) && longB l)) = ok) (w : World) :
    Calls Try.prog 59 #[pk 2 d l 0, i6 have_, rp a b c e] w fun z w' =>
      z = .returned (.tuple #[i6 d, i6 l, rp d a b c, .bool ok]) ∧ Same w w' := by
  have HOK := hid hok
  clear hok
  go_enter Try.func59, Try.ntmps59
  go_wp2_with ((go_at_call 65; refine (long_any _ _).mono ?_; rintro z w1 ⟨rfl, rfl⟩))
  all_goals
    go_region_held3 (fun W => W.cell? ⟨w.heap.size, 1, none⟩ = some (i6 d) ∧ W.cell? ⟨w.heap.size, 2, none⟩ = some (i6 l) ∧ W.cell? ⟨w.heap.size + 1, 0, none⟩ = some (i6 a) ∧ W.cell? ⟨w.heap.size + 1, 1, none⟩ = some (i6 b) ∧ W.cell? ⟨w.heap.size + 1, 2, none⟩ = some (i6 c) ∧ W.cell? ⟨w.heap.size + 1, 3, none⟩ = some (i6 e)) (go_simp) ((go_at_call 20; refine (push_any _ _ _ _ _ _).mono ?_; rintro z w1 ⟨rfl, hs⟩; obtain ⟨hc, hf, hz⟩ := bcell hs))
    go_wp2
    refine bodyPost_ret (v := .tuple #[i6 d, i6 l, rp d a b c, .bool ok]) ?_ rfl ⟨rfl, ?_⟩
    · have e : ok = (decide (1 ≤ d) && (decide (d ≤ min have_ 1048576) && longB l)) := HOK.out.symm
      rw [e, show decide (1 ≤ d) = _ from rfl]
      simp [results, Try.results59, go_sem, hc, longB]
      first | done | omega | (rw [decide_eq_true (by omega : 1 ≤ d), decide_eq_true (by omega : d ≤ min have_ 1048576)]; rfl)
    repeat (first | exact Keeps.refl _ _ | refine Keeps.drew ?_ | refine Keeps.alloc ?_ _ | refine Keeps.setCell ?_ (by simp; try omega) _ | refine Keeps.trans ?_ (by assumption))

end Go.Proofs.Ytalopgbkjgjppaa
