/- The walks of packet's next functions. -/
import Derived.Test.YtalopgbkjgjppaaMem
import Derived.Test.YtalopgbkjgjppaaPk6
import Derived.WalkKit
import Derived.WalkSpells
import Derived.WalkLawsBesides
import Derived.RegionTactic
import Derived.BigRegion
import Derived.BigQuiet
import Derived.Deep.QuietTactic
import Derived.Deep.RegionHeld3
import Derived.Laws.CopyOwn
namespace Go.Proofs.Ytalopgbkjgjppaa
open Go.RowKit Go.Cas


set_option maxHeartbeats 2000000 in
theorem copies_short (have_ a b c e : Int) (w : World) :
    Calls Try.prog 59 #[pk 4 0 0 0, i6 have_, rp a b c e] w fun z w' =>
      z = .returned (.tuple #[i6 a, i6 1, rp a b c e, .bool (decide (a ≤ have_))]) ∧ Same w w' := by
  go_enter Try.func59, Try.ntmps59
  go_wp2
  go_region_held3 (fun W => W.cell? ⟨w.heap.size + 1, 0, none⟩ = some (i6 a) ∧ W.cell? ⟨w.heap.size + 1, 1, none⟩ = some (i6 b) ∧ W.cell? ⟨w.heap.size + 1, 2, none⟩ = some (i6 c) ∧ W.cell? ⟨w.heap.size + 1, 3, none⟩ = some (i6 e)) (go_simp) (fail)
  go_wp2
  refine bodyPost_ret (v := .tuple #[i6 a, i6 1, rp a b c e, .bool (decide (a ≤ have_))]) (by simp [results, Try.results59, go_sem]) rfl ⟨rfl, ?_⟩
  repeat (first | exact Keeps.refl _ _ | refine Keeps.drew ?_ | refine Keeps.alloc ?_ _ | refine Keeps.setCell ?_ (by simp; try omega) _ | refine Keeps.trans ?_ (by assumption))

set_option maxHeartbeats 2000000 in
theorem copies_none (k d l y have_ a b c e : Int) (h2 : (k == 2) = false) (h3 : (k == 3) = false) (h4 : Hid (¬ (k = 4 ∧ d = 0 ∧ l = 0 ∧ y = 0))) (w : World) :
    Calls Try.prog 59 #[pk k d l y, i6 have_, rp a b c e] w fun z w' =>
      z = .returned (.tuple #[i6 0, i6 0, rp a b c e, .bool false]) ∧ Same w w' := by
  go_enter Try.func59, Try.ntmps59
  go_wp2
  all_goals first
    | exact absurd ⟨by assumption, by assumption, by assumption, by assumption⟩ h4.out
    | (go_region
       go_wp2
       refine bodyPost_ret (v := .tuple #[i6 0, i6 0, rp a b c e, .bool false]) (by simp [results, Try.results59, go_sem]) rfl ⟨rfl, ?_⟩
       repeat (first | exact Keeps.refl _ _ | refine Keeps.drew ?_ | refine Keeps.alloc ?_ _ | refine Keeps.setCell ?_ (by simp; try omega) _ | refine Keeps.trans ?_ (by assumption)))

set_option maxHeartbeats 2000000 in
theorem copies_odd (k d l y have_ a b c e : Int) (h2 : k = 2 ∨ k = 3) (h3 : (y == 0) = false) (w : World) :
    Calls Try.prog 59 #[pk k d l y, i6 have_, rp a b c e] w fun z w' =>
      z = .returned (.tuple #[i6 0, i6 0, rp a b c e, .bool false]) ∧ Same w w' := by
  rcases h2 with rfl | rfl
  all_goals
    go_enter Try.func59, Try.ntmps59
    go_wp2
    go_region
    go_wp2
    refine bodyPost_ret (v := .tuple #[i6 0, i6 0, rp a b c e, .bool false]) (by simp [results, Try.results59, go_sem]) rfl ⟨rfl, ?_⟩
    repeat (first | exact Keeps.refl _ _ | refine Keeps.drew ?_ | refine Keeps.alloc ?_ _ | refine Keeps.setCell ?_ (by simp; try omega) _ | refine Keeps.trans ?_ (by assumption))

set_option maxHeartbeats 2000000 in
theorem copies_out (d l have_ a b c e : Int) (h2 : d < 0 ∨ 4 ≤ d) (w : World) :
    Calls Try.prog 59 #[pk 3 d l 0, i6 have_, rp a b c e] w fun z w' =>
      z = .returned (.tuple #[i6 0, i6 0, rp a b c e, .bool false]) ∧ Same w w' := by
  rcases h2 with h2 | h2
  all_goals
    go_enter Try.func59, Try.ntmps59
    go_wp2
    go_region
    go_wp2
    refine bodyPost_ret (v := .tuple #[i6 0, i6 0, rp a b c e, .bool false]) (by simp [results, Try.results59, go_sem]) rfl ⟨rfl, ?_⟩
    repeat (first | exact Keeps.refl _ _ | refine Keeps.drew ?_ | refine Keeps.alloc ?_ _ | refine Keeps.setCell ?_ (by simp; try omega) _ | refine Keeps.trans ?_ (by assumption))

/-- From how far back, how many bytes, the last distances behind it, does it fit? Of those that copy, as the program's inner function has it. -/
def copiesL (k d l y have_ a b c e : Int) : Int × Int × (Int × Int × Int × Int) × Bool :=
  if k = 2 ∧ y = 0 then (d, l, (d, a, b, c), decide (1 ≤ d) && (decide (d ≤ min have_ 1048576) && longB l))
  else if k = 3 ∧ y = 0 ∧ 0 ≤ d ∧ d < 4 then
    ((if d = 0 then a else if d = 1 then b else if d = 2 then c else e), l, frontL a b c e d, decide ((if d = 0 then a else if d = 1 then b else if d = 2 then c else e) ≤ have_) && longB l)
  else if k = 4 ∧ d = 0 ∧ l = 0 ∧ y = 0 then (a, 1, (a, b, c, e), decide (a ≤ have_))
  else (0, 0, (a, b, c, e), false)

abbrev rpt (q : Int × Int × Int × Int) : Value := rp q.1 q.2.1 q.2.2.1 q.2.2.2

theorem copies_any (k d l y have_ a b c e : Int) (w : World) :
    Calls Try.prog 59 #[pk k d l y, i6 have_, rp a b c e] w fun z w' =>
      z = .returned (.tuple #[i6 (copiesL k d l y have_ a b c e).1, i6 (copiesL k d l y have_ a b c e).2.1, rpt (copiesL k d l y have_ a b c e).2.2.1, .bool (copiesL k d l y have_ a b c e).2.2.2]) ∧ Same w w' := by
  by_cases h2 : k = 2 ∧ y = 0
  · obtain ⟨rfl, rfl⟩ := h2
    simpa [copiesL] using copies_match d l have_ a b c e _ rfl w
  by_cases h3 : k = 3 ∧ y = 0 ∧ 0 ≤ d ∧ d < 4
  · obtain ⟨rfl, rfl, h3⟩ := h3
    have := copies_rep d l have_ a b c e _ (frontL a b c e d).1 (frontL a b c e d).2.1 (frontL a b c e d).2.2.1 (frontL a b c e d).2.2.2 _ rfl h3 rfl (fun w => front_any a b c e d w) w
    simpa [copiesL, h3] using this
  by_cases h4 : k = 4 ∧ d = 0 ∧ l = 0 ∧ y = 0
  · obtain ⟨rfl, rfl, rfl, rfl⟩ := h4
    simpa [copiesL] using copies_short have_ a b c e w
  have e0 : copiesL k d l y have_ a b c e = (0, 0, (a, b, c, e), false) := by unfold copiesL; rw [if_neg h2, if_neg h3, if_neg h4]
  rw [e0]
  by_cases k2 : k = 2
  · exact copies_odd k d l y have_ a b c e (.inl k2) (by simpa using fun hy => h2 ⟨k2, hy⟩) w
  by_cases k3 : k = 3
  · by_cases hy : y = 0
    · subst k3 hy
      exact copies_out d l have_ a b c e (by omega) w
    · exact copies_odd k d l y have_ a b c e (.inr k3) (by simpa using hy) w
  · exact copies_none k d l y have_ a b c e (by simpa using k2) (by simpa using k3) (hid h4) w
end Go.Proofs.Ytalopgbkjgjppaa
