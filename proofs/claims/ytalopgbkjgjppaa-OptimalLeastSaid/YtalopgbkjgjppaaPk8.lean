/- The walks of packet's next functions. -/
import Derived.Test.YtalopgbkjgjppaaMem
import Derived.Test.YtalopgbkjgjppaaPk7
import Derived.WalkKit
import Derived.WalkSpells
import Derived.WalkLawsBesides
import Derived.RegionTactic
import Derived.BigRegion
import Derived.BigQuiet
import Derived.Deep.QuietTactic
import Derived.Deep.RegionHeld3
import Derived.Laws.CopyOwn
namespace Go.Proofs.Ytalopgbkjgjppaa
open Go.RowKit Go.Cas


set_option maxHeartbeats 1000000 in
theorem fits_lit (y have_ a b c e : Int) (w : World) :
    Calls Try.prog 39 #[pk 1 0 0 y, i6 have_, rp a b c e] w fun z w' =>
      z = .returned (.tuple #[i6 0, i6 1, rp a b c e, .bool true]) ∧ Same w w' := by
  go_enter Try.func39, Try.ntmps39
  go_wp2
  go_region
  go_wp2
  refine bodyPost_ret (v := .tuple #[i6 0, i6 1, rp a b c e, .bool true]) (by simp [results, Try.results39, go_sem]) rfl ⟨rfl, ?_⟩
  repeat (first | exact Keeps.refl _ _ | refine Keeps.drew ?_ | refine Keeps.alloc ?_ _ | refine Keeps.setCell ?_ (by simp; try omega) _ | exact Hid.out (by assumption) | refine Keeps.trans ?_ (by assumption))

set_option maxHeartbeats 4000000 in
theorem fits_no (k d l y have_ a b c e x0 x1 : Int) (q0 q1 q2 q3 : Int) (h1 : (k == 1) = false ∨ k = 1 ∧ (d == 0) = false ∨ k = 1 ∧ d = 0 ∧ (l == 0) = false)
    (H : Hid (∀ w : World, Calls Try.prog 59 #[pk k d l y, i6 have_, rp a b c e] w fun z w' => z = .returned (.tuple #[i6 x0, i6 x1, rp q0 q1 q2 q3, .bool false]) ∧ Same w w')) (w : World) :
    Calls Try.prog 39 #[pk k d l y, i6 have_, rp a b c e] w fun z w' =>
      z = .returned (.tuple #[i6 0, i6 0, rp a b c e, .bool false]) ∧ Same w w' := by
  rcases h1 with h1 | ⟨rfl, h1⟩ | ⟨rfl, rfl, h1⟩
  all_goals
    go_enter Try.func39, Try.ntmps39
    go_wp2_with ((go_at_call 59; refine (H.out _).mono ?_; rintro z w1 ⟨rfl, hs⟩; have hy := hs.size; simp at hy; have B0 := Blk.keeps (w := _) ((Blk.new_at (n := w.heap.size + 1) (cs := #[i6 a, i6 b, i6 c, i6 e]) (t := 44) (by simp)).alloc _) hs (fun h => h); have hc0 : w1.cell? ⟨w.heap.size + 1, 0, none⟩ = some (i6 a) ∧ w1.cell? ⟨w.heap.size + 1, 1, none⟩ = some (i6 b) ∧ w1.cell? ⟨w.heap.size + 1, 2, none⟩ = some (i6 c) ∧ w1.cell? ⟨w.heap.size + 1, 3, none⟩ = some (i6 e) := ⟨B0.cell 0, B0.cell 1, B0.cell 2, B0.cell 3⟩; have hf0 := B0.frozen; clear B0; have B1 := Blk.keeps (w := _) (Blk.new_at (n := w.heap.size + 1 + 1) (cs := #[i6 0, i6 0, i6 0, i6 0]) (t := 44) (by simp)) hs (fun h => h); have hc1 : w1.cell? ⟨w.heap.size + 1 + 1, 0, none⟩ = some (i6 0) ∧ w1.cell? ⟨w.heap.size + 1 + 1, 1, none⟩ = some (i6 0) ∧ w1.cell? ⟨w.heap.size + 1 + 1, 2, none⟩ = some (i6 0) ∧ w1.cell? ⟨w.heap.size + 1 + 1, 3, none⟩ = some (i6 0) := ⟨B1.cell 0, B1.cell 1, B1.cell 2, B1.cell 3⟩; have hf1 := B1.frozen; clear B1; have KS := hid (show Same w w1 from (by repeat (first | exact Keeps.refl _ _ | refine Keeps.drew ?_ | refine Keeps.alloc ?_ _ | refine Keeps.setCell ?_ (by simp; try omega) _ | exact Hid.out (by assumption) | refine Keeps.trans ?_ (by assumption)))); clear hs hy))
    go_region
    go_wp2
    rw [set4_twice]
    refine bodyPost_ret (v := .tuple #[i6 0, i6 0, rp a b c e, .bool false]) (by simp [results, Try.results39, go_sem, hc1]) rfl ⟨rfl, ?_⟩
    repeat (first | exact Keeps.refl _ _ | refine Keeps.drew ?_ | refine Keeps.alloc ?_ _ | refine Keeps.setCell ?_ (by simp; try omega) _ | exact Hid.out (by assumption) | refine Keeps.trans ?_ (by assumption))

set_option maxHeartbeats 4000000 in
theorem fits_yes (k d l y have_ a b c e x0 x1 : Int) (q0 q1 q2 q3 : Int) (h1 : (k == 1) = false ∨ k = 1 ∧ (d == 0) = false ∨ k = 1 ∧ d = 0 ∧ (l == 0) = false)
    (H : Hid (∀ w : World, Calls Try.prog 59 #[pk k d l y, i6 have_, rp a b c e] w fun z w' => z = .returned (.tuple #[i6 x0, i6 x1, rp q0 q1 q2 q3, .bool true]) ∧ Same w w')) (w : World) :
    Calls Try.prog 39 #[pk k d l y, i6 have_, rp a b c e] w fun z w' =>
      z = .returned (.tuple #[i6 x0, i6 x1, rp q0 q1 q2 q3, .bool true]) ∧ Same w w' := by
  rcases h1 with h1 | ⟨rfl, h1⟩ | ⟨rfl, rfl, h1⟩
  all_goals
    go_enter Try.func39, Try.ntmps39
    go_wp2_with ((go_at_call 59; refine (H.out _).mono ?_; rintro z w1 ⟨rfl, hs⟩; have hy := hs.size; simp at hy; have B0 := Blk.keeps (w := _) ((Blk.new_at (n := w.heap.size + 1) (cs := #[i6 a, i6 b, i6 c, i6 e]) (t := 44) (by simp)).alloc _) hs (fun h => h); have hc0 : w1.cell? ⟨w.heap.size + 1, 0, none⟩ = some (i6 a) ∧ w1.cell? ⟨w.heap.size + 1, 1, none⟩ = some (i6 b) ∧ w1.cell? ⟨w.heap.size + 1, 2, none⟩ = some (i6 c) ∧ w1.cell? ⟨w.heap.size + 1, 3, none⟩ = some (i6 e) := ⟨B0.cell 0, B0.cell 1, B0.cell 2, B0.cell 3⟩; have hf0 := B0.frozen; clear B0; have B1 := Blk.keeps (w := _) (Blk.new_at (n := w.heap.size + 1 + 1) (cs := #[i6 0, i6 0, i6 0, i6 0]) (t := 44) (by simp)) hs (fun h => h); have hc1 : w1.cell? ⟨w.heap.size + 1 + 1, 0, none⟩ = some (i6 0) ∧ w1.cell? ⟨w.heap.size + 1 + 1, 1, none⟩ = some (i6 0) ∧ w1.cell? ⟨w.heap.size + 1 + 1, 2, none⟩ = some (i6 0) ∧ w1.cell? ⟨w.heap.size + 1 + 1, 3, none⟩ = some (i6 0) := ⟨B1.cell 0, B1.cell 1, B1.cell 2, B1.cell 3⟩; have hf1 := B1.frozen; clear B1; have KS := hid (show Same w w1 from (by repeat (first | exact Keeps.refl _ _ | refine Keeps.drew ?_ | refine Keeps.alloc ?_ _ | refine Keeps.setCell ?_ (by simp; try omega) _ | exact Hid.out (by assumption) | refine Keeps.trans ?_ (by assumption)))); clear hs hy))
    go_region
    go_wp2
    rw [set4_twice]
    refine bodyPost_ret (v := .tuple #[i6 x0, i6 x1, rp q0 q1 q2 q3, .bool true]) (by simp [results, Try.results39, go_sem, hc1]) rfl ⟨rfl, ?_⟩
    repeat (first | exact Keeps.refl _ _ | refine Keeps.drew ?_ | refine Keeps.alloc ?_ _ | refine Keeps.setCell ?_ (by simp; try omega) _ | exact Hid.out (by assumption) | refine Keeps.trans ?_ (by assumption))

/-- From how far back, how many bytes, the last distances behind it, does it fit? -/
def fitsL (k d l y have_ a b c e : Int) : Int × Int × (Int × Int × Int × Int) × Bool :=
  if k = 1 ∧ d = 0 ∧ l = 0 then (0, 1, (a, b, c, e), true)
  else if (copiesL k d l y have_ a b c e).2.2.2 then copiesL k d l y have_ a b c e
  else (0, 0, (a, b, c, e), false)

theorem fits_any (k d l y have_ a b c e : Int) (w : World) :
    Calls Try.prog 39 #[pk k d l y, i6 have_, rp a b c e] w fun z w' =>
      z = .returned (.tuple #[i6 (fitsL k d l y have_ a b c e).1, i6 (fitsL k d l y have_ a b c e).2.1, rpt (fitsL k d l y have_ a b c e).2.2.1, .bool (fitsL k d l y have_ a b c e).2.2.2]) ∧ Same w w' := by
  by_cases h1 : k = 1 ∧ d = 0 ∧ l = 0
  · obtain ⟨rfl, rfl, rfl⟩ := h1
    simpa [fitsL] using fits_lit y have_ a b c e w
  have H := copies_any k d l y have_ a b c e
  have h1' : (k == 1) = false ∨ k = 1 ∧ (d == 0) = false ∨ k = 1 ∧ d = 0 ∧ (l == 0) = false := by simp; omega
  unfold fitsL
  rw [if_neg h1]
  generalize copiesL k d l y have_ a b c e = x at *
  obtain ⟨x0, x1, ⟨q0, q1, q2, q3⟩, ok⟩ := x
  cases ok with
  | false => exact fits_no k d l y have_ a b c e x0 x1 q0 q1 q2 q3 h1' (hid H) w
  | true => exact fits_yes k d l y have_ a b c e x0 x1 q0 q1 q2 q3 h1' (hid H) w
end Go.Proofs.Ytalopgbkjgjppaa
