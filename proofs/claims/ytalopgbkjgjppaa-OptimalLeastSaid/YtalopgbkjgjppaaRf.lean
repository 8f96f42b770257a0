/- The document's Push and Front. -/
import Derived.Test.YtalopgbkjgjppaaPk2
namespace Go.Proofs.Ytalopgbkjgjppaa
open Go.RowKit Go.Cas

set_option maxHeartbeats 400000 in
theorem rpush_any (a b c d x : Int) (w : World) :
    Calls Try.prog 21 #[rp a b c d, i6 x] w fun e w' => e = .returned (rp x a b c) ∧ Same w w' := by
  go_enter Try.func21, Try.ntmps21
  go_wp2
  exact bodyPost_ret (v := rp x a b c) (by simp [results, Try.results21, go_sem]) rfl ⟨rfl, ((Keeps.refl _ _).alloc _).alloc _⟩

set_option maxHeartbeats 1000000 in
theorem rfront_out (a b c d : Int) (i : Int) (hi : i < 0 ∨ 3 < i) (w : World) :
    Calls Try.prog 23 #[rp a b c d, i6 i] w fun e w' => e = .returned (rp a b c d) ∧ Same w w' := by
  rcases hi with hi | hi
  all_goals
    go_enter Try.func23, Try.ntmps23
    go_wp2
    refine bodyPost_ret (v := rp a b c d) (by simp [results, Try.results23, go_sem]) rfl ⟨rfl, ?_⟩
    repeat (first | exact Keeps.refl _ _ | refine Keeps.drew ?_ | refine Keeps.drewN ?_ _ | refine Keeps.alloc ?_ _ | refine Keeps.setCell ?_ (by simp; try omega) _ | exact Hid.out (by assumption) | refine Keeps.trans ?_ (by assumption))

set_option maxHeartbeats 4000000 in
theorem rfront_in (a b c d : Int) (i : Int) (hi : 0 ≤ i ∧ i < 4) (w : World) :
    Calls Try.prog 23 #[rp a b c d, i6 i] w fun e w' => e = .returned (rp (frontL a b c d i).1 (frontL a b c d i).2.1 (frontL a b c d i).2.2.1 (frontL a b c d i).2.2.2) ∧ Same w w' := by
  obtain rfl | rfl | rfl | rfl : i = 0 ∨ i = 1 ∨ i = 2 ∨ i = 3 := by omega
  all_goals
    clear hi
    go_enter Try.func23, Try.ntmps23
    go_wp2
    refine wp_loop_rounds 4 ?_
    repeat (rw [rounds_succ]; go_wp2)
    refine bodyPost_ret (v := rp (frontL a b c d _).1 (frontL a b c d _).2.1 (frontL a b c d _).2.2.1 (frontL a b c d _).2.2.2) (by simp [results, Try.results23, go_sem, frontL]) rfl ⟨rfl, ?_⟩
    repeat (first | exact Keeps.refl _ _ | refine Keeps.drew ?_ | refine Keeps.drewN ?_ _ | refine Keeps.alloc ?_ _ | refine Keeps.setCell ?_ (by simp; try omega) _ | exact Hid.out (by assumption) | refine Keeps.trans ?_ (by assumption))
theorem rfront_any (a b c d : Int) (i : Int) (w : World) :
    Calls Try.prog 23 #[rp a b c d, i6 i] w fun e w' => e = .returned (rp (frontL a b c d i).1 (frontL a b c d i).2.1 (frontL a b c d i).2.2.1 (frontL a b c d i).2.2.2) ∧ Same w w' := by
  by_cases hi : 0 ≤ i ∧ i < 4
  · exact rfront_in a b c d i hi w
  · have e : frontL a b c d i = (a, b, c, d) := by unfold frontL; rw [if_neg (by omega), if_neg (by omega), if_neg (by omega)]
    rw [e]
    exact rfront_out a b c d i (by omega) w
end Go.Proofs.Ytalopgbkjgjppaa
