/- The walks of packet's small functions. -/
import Derived.Test.YtalopgbkjgjppaaMem
import Derived.Test.YtalopgbkjgjppaaRows
import Derived.WalkKit
import Derived.WalkSpells
import Derived.WalkLawsBesides
import Derived.RegionTactic
import Derived.BigRegion
import Derived.BigQuiet
import Derived.Deep.QuietTactic
import Derived.Deep.RegionHeld3
import Derived.Laws.CopyOwn
namespace Go.Proofs.Ytalopgbkjgjppaa
open Go.RowKit Go.Cas

/-- An int as a value. -/
abbrev i6 (n : Int) : Value := .int .i64 n
abbrev rp (a b c d : Int) : Value := .agg #[i6 a, i6 b, i6 c, i6 d]
abbrev pk (k d l b : Int) : Value := .agg #[i6 k, i6 d, i6 l, .int .u8 b]

set_option maxHeartbeats 400000 in
theorem first_any (w : World) :
    Calls Try.prog 24 #[] w fun e w' => e = .returned (rp 1 1 1 1) ∧ Same w w' := by
  go_enter Try.func24, Try.ntmps24
  go_wp2
  exact bodyPost_ret (v := rp 1 1 1 1) (by simp [results, Try.results24, go_sem]) rfl ⟨rfl, (Keeps.refl _ _).alloc _⟩

set_option maxHeartbeats 400000 in
theorem push_any (a b c d x : Int) (w : World) :
    Calls Try.prog 20 #[rp a b c d, i6 x] w fun e w' => e = .returned (rp x a b c) ∧ Same w w' := by
  go_enter Try.func20, Try.ntmps20
  go_wp2
  exact bodyPost_ret (v := rp x a b c) (by simp [results, Try.results20, go_sem]) rfl ⟨rfl, ((Keeps.refl _ _).alloc _).alloc _⟩

def frontL (a b c d i : Int) : Int × Int × Int × Int :=
  if i = 1 then (b, a, c, d) else if i = 2 then (c, a, b, d) else if i = 3 then (d, a, b, c) else (a, b, c, d)

theorem size3 : (Try.prog.info? 3).map (·.size) = some 1 := by kernel_rfl

set_option maxHeartbeats 400000 in
theorem front_in (a b c d : Int) (i : Int) (hi : 0 ≤ i ∧ i < 4) (w : World) :
    Calls Try.prog 22 #[rp a b c d, i6 i] w fun e w' => e = .returned (rp (frontL a b c d i).1 (frontL a b c d i).2.1 (frontL a b c d i).2.2.1 (frontL a b c d i).2.2.2) ∧ Same w w' := by
  have hcp := fun (o : Obj) (v0 v1 v2 v3 : Int) => run_copy_up (P := Try.prog) (w := w) (o := o) (dT := 63) (sT := 63) (ty := 3) (t := 44) (v0 := i6 v0) (v1 := i6 v1) (v2 := i6 v2) (v3 := i6 v3) Try.underlying63 size3 rfl rfl rfl
  obtain rfl | rfl | rfl | rfl : i = 0 ∨ i = 1 ∨ i = 2 ∨ i = 3 := by omega
  all_goals
    clear hi
    go_enter Try.func22, Try.ntmps22
    go_wp2
    go_region
    go_wp2
    refine bodyPost_ret (v := rp (frontL a b c d _).1 (frontL a b c d _).2.1 (frontL a b c d _).2.2.1 (frontL a b c d _).2.2.2) (by simp [results, Try.results22, go_sem, frontL]) rfl ⟨rfl, ?_⟩
    repeat (first | exact Keeps.refl _ _ | refine Keeps.drew ?_ | refine Keeps.alloc ?_ _)

set_option maxHeartbeats 400000 in
theorem front_out (a b c d : Int) (i : Int) (hi : i < 0 ∨ 4 ≤ i) (w : World) :
    Calls Try.prog 22 #[rp a b c d, i6 i] w fun e w' => e = .returned (rp a b c d) ∧ Same w w' := by
  rcases hi with hi | hi
  all_goals
    go_enter Try.func22, Try.ntmps22
    go_wp2
    refine bodyPost_ret (v := rp a b c d) (by simp [results, Try.results22, go_sem]) rfl ⟨rfl, ?_⟩
    repeat (first | exact Keeps.refl _ _ | refine Keeps.drew ?_ | refine Keeps.alloc ?_ _)

theorem front_any (a b c d i : Int) (w : World) :
    Calls Try.prog 22 #[rp a b c d, i6 i] w fun e w' => e = .returned (rp (frontL a b c d i).1 (frontL a b c d i).2.1 (frontL a b c d i).2.2.1 (frontL a b c d i).2.2.2) ∧ Same w w' := by
  by_cases hi : 0 ≤ i ∧ i < 4
  · exact front_in a b c d i hi w
  · have e : frontL a b c d i = (a, b, c, d) := by unfold frontL; rw [if_neg (by omega), if_neg (by omega), if_neg (by omega)]
    rw [e]
    exact front_out a b c d i (by omega) w

set_option maxHeartbeats 400000 in
theorem long_any (n : Int) (w : World) :
    Calls Try.prog 65 #[i6 n] w fun e w' => e = .returned (.bool (decide (2 ≤ n) && decide (n ≤ 273))) ∧ w = w' := by
  by_cases h : 2 ≤ n
  · have e : (decide (2 ≤ n) && decide (n ≤ 273)) = decide (n ≤ 273) := by rw [decide_eq_true h]; rfl
    rw [e]; clear e
    go_enter Try.func65, Try.ntmps65
    go_wp2
    go_ret
    exact ⟨rfl, rfl⟩
  · have e : (decide (2 ≤ n) && decide (n ≤ 273)) = false := by rw [decide_eq_false h]; rfl
    rw [e]; clear e
    go_enter Try.func65, Try.ntmps65
    go_wp2
    go_ret
    exact ⟨rfl, rfl⟩

end Go.Proofs.Ytalopgbkjgjppaa
