/- Part of a proof: Pk7, Pk8. -/
import Derived.Test.YtalopgbkjgjppaaGreatDoorMem
import Derived.Test.YtalopgbkjgjppaaGreatDoorGPk5
import Derived.WalkKit
import Derived.WalkSpells
import Derived.WalkLawsBesides
import Derived.RegionTactic
import Derived.BigRegion
import Derived.BigQuiet
import Derived.Deep.QuietTactic
import Derived.Deep.RegionHeld3
import Derived.Laws.CopyOwn
/- The walks of packet's next functions. -/
namespace Go.Proofs.YtalopgbkjgjppaaGreatDoor
open Go.RowKit Go.Cas


set_option maxHeartbeats 2000000 in
theorem copies_short (have_ a b c e : Int) (w : World) :
    Calls Tryz.prog 84 #[pk 4 0 0 0, i6 have_, rp a b c e] w fun z w' =>
      z = .returned (.tuple #[i6 a, i6 1, rp a b c e, .bool (decide (a ≤ have_))]) ∧ Same w w' := by
  go_enter Tryz.func84, Tryz.ntmps84
  go_wp2
  go_region_held3 (fun W => W.cell? ⟨w.heap.size + 1, 0, none⟩ = some (i6 a) ∧ W.cell? ⟨w.heap.size + 1, 1, none⟩ = some (i6 b) ∧ W.cell? ⟨w.heap.size + 1, 2, none⟩ = some (i6 c) ∧ W.cell? ⟨w.heap.size + 1, 3, none⟩ = some (i6 e)) (go_simp) (fail)
  go_wp2
  refine bodyPost_ret (v := .tuple #[i6 a, i6 1, rp a b c e, .bool (decide (a ≤ have_))]) (by simp [results, Tryz.results84, go_sem]) rfl ⟨rfl, ?_⟩
  repeat (first | exact Keeps.refl _ _ | refine Keeps.drew ?_ | refine Keeps.alloc ?_ _ | refine Keeps.setCell ?_ (by simp; try omega) _ | refine Keeps.trans ?_ (by assumption))

set_option maxHeartbeats 2000000 in
theorem copies_none (k d l y have_ a b c e : Int) (h2 : (k == 2) = false) (h3 : (k == 3) = false) (h4 : Hid (¬ (k = 4 ∧ d = 0 ∧ l = 0 ∧ y = 0))) (w : World) :
    Calls Tryz.prog 84 #[pk k d l y, i6 have_, rp a b c e] w fun z w' =>
      z = .returned (.tuple #[i6 0, i6 0, rp a b c e, .bool false]) ∧ Same w w' := by
  go_enter Tryz.func84, Tryz.ntmps84
  go_wp2
  all_goals first
    | exact absurd ⟨by assumption, by assumption, by assumption, by assumption⟩ h4.out
    | (go_region
       go_wp2
       refine bodyPost_ret (v := .tuple #[i6 0, i6 0, rp a b c e, .bool false]) (by simp [results, Tryz.results84, go_sem]) rfl ⟨rfl, ?_⟩
       repeat (first | exact Keeps.refl _ _ | refine Keeps.drew ?_ | refine Keeps.alloc ?_ _ | refine Keeps.setCell ?_ (by simp; try omega) _ | refine Keeps.trans ?_ (by assumption)))

set_option maxHeartbeats 2000000 in
theorem copies_odd (k d l y have_ a b c e : Int) (h2 : k = 2 ∨ k = 3) (h3 : (y == 0) = false) (w : World) :
    Calls Tryz.prog 84 #[pk k d l y, i6 have_, rp a b c e] w fun z w' =>
      z = .returned (.tuple #[i6 0, i6 0, rp a b c e, .bool false]) ∧ Same w w' := by
  rcases h2 with rfl | rfl
  all_goals
    go_enter Tryz.func84, Tryz.ntmps84
    go_wp2
    go_region
    go_wp2
    refine bodyPost_ret (v := .tuple #[i6 0, i6 0, rp a b c e, .bool false]) (by simp [results, Tryz.results84, go_sem]) rfl ⟨rfl, ?_⟩
    repeat (first | exact Keeps.refl _ _ | refine Keeps.drew ?_ | refine Keeps.alloc ?_ _ | refine Keeps.setCell ?_ (by simp; try omega) _ | refine Keeps.trans ?_ (by assumption))

set_option maxHeartbeats 2000000 in
theorem copies_out (d l have_ a b c e : Int) (h2 : d < 0 ∨ 4 ≤ d) (w : World) :
    Calls Tryz.prog 84 #[pk 3 d l 0, i6 have_, rp a b c e] w fun z w' =>
      z = .returned (.tuple #[i6 0, i6 0, rp a b c e, .bool false]) ∧ Same w w' := by
  rcases h2 with h2 | h2
  all_goals
    go_enter Tryz.func84, Tryz.ntmps84
    go_wp2
    go_region
    go_wp2
    refine bodyPost_ret (v := .tuple #[i6 0, i6 0, rp a b c e, .bool false]) (by simp [results, Tryz.results84, go_sem]) rfl ⟨rfl, ?_⟩
    repeat (first | exact Keeps.refl _ _ | refine Keeps.drew ?_ | refine Keeps.alloc ?_ _ | refine Keeps.setCell ?_ (by simp; try omega) _ | refine Keeps.trans ?_ (by assumption))

/-- From how far back, how many bytes, the last distances behind it, does it fit? Of those that copy, as the program's inner function has it. -/
def copiesL (k d l y have_ a b c e : Int) : Int × Int × (Int × Int × Int × Int) × Bool :=
  if k = 2 ∧ y = 0 then (d, l, (d, a, b, c), decide (1 ≤ d) && (decide (d ≤ min have_ 1048576) && longB l))
  else if k = 3 ∧ y = 0 ∧ 0 ≤ d ∧ d < 4 then
    ((if d = 0 then a else if d = 1 then b else if d = 2 then c else e), l, frontL a b c e d, decide ((if d = 0 then a else if d = 1 then b else if d = 2 then c else e) ≤ have_) && longB l)
  else if k = 4 ∧ d = 0 ∧ l = 0 ∧ y = 0 then (a, 1, (a, b, c, e), decide (a ≤ have_))
  else (0, 0, (a, b, c, e), false)

abbrev rpt (q : Int × Int × Int × Int) : Value := rp q.1 q.2.1 q.2.2.1 q.2.2.2

theorem copies_any (k d l y have_ a b c e : Int) (w : World) :
    Calls Tryz.prog 84 #[pk k d l y, i6 have_, rp a b c e] w fun z w' =>
      z = .returned (.tuple #[i6 (copiesL k d l y have_ a b c e).1, i6 (copiesL k d l y have_ a b c e).2.1, rpt (copiesL k d l y have_ a b c e).2.2.1, .bool (copiesL k d l y have_ a b c e).2.2.2]) ∧ Same w w' := by
  by_cases h2 : k = 2 ∧ y = 0
  · obtain ⟨rfl, rfl⟩ := h2
    simpa [copiesL] using copies_match d l have_ a b c e _ rfl w
  by_cases h3 : k = 3 ∧ y = 0 ∧ 0 ≤ d ∧ d < 4
  · obtain ⟨rfl, rfl, h3⟩ := h3
    have := copies_rep d l have_ a b c e _ (frontL a b c e d).1 (frontL a b c e d).2.1 (frontL a b c e d).2.2.1 (frontL a b c e d).2.2.2 _ rfl h3 rfl (fun w => front_any a b c e d w) w
    simpa [copiesL, h3] using this
  by_cases h4 : k = 4 ∧ d = 0 ∧ l = 0 ∧ y = 0
  · obtain ⟨rfl, rfl, rfl, rfl⟩ := h4
    simpa [copiesL] using copies_short have_ a b c e w
  have e0 : copiesL k d l y have_ a b c e = (0, 0, (a, b, c, e), false) := by unfold copiesL; rw [if_neg h2, if_neg h3, if_neg h4]
  rw [e0]
  by_cases k2 : k = 2
  · exact copies_odd k d l y have_ a b c e (.inl k2) (by simpa using fun hy => h2 ⟨k2, hy⟩) w
  by_cases k3 : k = 3
  · by_cases hy : y = 0
    · subst k3 hy
      exact copies_out d l have_ a b c e (by omega) w
    · exact copies_odd k d l y have_ a b c e (.inr k3) (by simpa using hy) w
  · exact copies_none k d l y have_ a b c e (by simpa using k2) (by simpa using k3) (hid h4) w
end Go.Proofs.YtalopgbkjgjppaaGreatDoor

/- The walks of packet's next functions. -/
namespace Go.Proofs.YtalopgbkjgjppaaGreatDoor
open Go.RowKit Go.Cas


set_option maxHeartbeats 1000000 in
theorem fits_lit (y have_ a b c e : Int) (w : World) :
    Calls Tryz.prog 64 #[pk 1 0 0 y, i6 have_, rp a b c e] w fun z w' =>
      z = .returned (.tuple #[i6 0, i6 1, rp a b c e, .bool true]) ∧ Same w w' := by
  go_enter Tryz.func64, Tryz.ntmps64
  go_wp2
  go_region
  go_wp2
  refine bodyPost_ret (v := .tuple #[i6 0, i6 1, rp a b c e, .bool true]) (by simp [results, Tryz.results64, go_sem]) rfl ⟨rfl, ?_⟩
  repeat (first | exact Keeps.refl _ _ | refine Keeps.drew ?_ | refine Keeps.alloc ?_ _ | refine Keeps.setCell ?_ (by simp; try omega) _ | exact Hid.out (by assumption) | refine Keeps.trans ?_ (by assumption))

set_option maxHeartbeats 4000000 in
theorem fits_no (k d l y have_ a b c e x0 x1 : Int) (q0 q1 q2 q3 : Int) (h1 : (k == 1) = false ∨ k = 1 ∧ (d == 0) = false ∨ k = 1 ∧ d = 0 ∧ (l == 0) = false)
    (H : Hid (∀ w : World, Calls Tryz.prog 84 #[pk k d l y, i6 have_, rp a b c e] w fun z w' => z = .returned (.tuple #[i6 x0, i6 x1, rp q0 q1 q2 q3, .bool false]) ∧ Same w w')) (w : World) :
    Calls Tryz.prog 64 #[pk k d l y, i6 have_, rp a b c e] w fun z w' =>
      z = .returned (.tuple #[i6 0, i6 0, rp a b c e, .bool false]) ∧ Same w w' := by
  rcases h1 with h1 | ⟨rfl, h1⟩ | ⟨rfl, rfl, h1⟩
  all_goals
    go_enter Tryz.func64, Tryz.ntmps64
    go_wp2_with ((go_at_call 84; refine (H.out _).mono ?_; rintro z w1 ⟨rfl, hs⟩; have hy := hs.size; simp at hy; have B0 := Blk.keeps (w := _) ((Blk.new_at (n := w.heap.size + 1) (cs := #[i6 a, i6 b, i6 c, i6 e]) (t := 69) (by simp)).alloc _) hs (fun h => h); have hc0 : w1.cell? ⟨w.heap.size + 1, 0, none⟩ = some (i6 a) ∧ w1.cell? ⟨w.heap.size + 1, 1, none⟩ = some (i6 b) ∧ w1.cell? ⟨w.heap.size + 1, 2, none⟩ = some (i6 c) ∧ w1.cell? ⟨w.heap.size + 1, 3, none⟩ = some (i6 e) := ⟨B0.cell 0, B0.cell 1, B0.cell 2, B0.cell 3⟩; have hf0 := B0.frozen; clear B0; have B1 := Blk.keeps (w := _) (Blk.new_at (n := w.heap.size + 1 + 1) (cs := #[i6 0, i6 0, i6 0, i6 0]) (t := 69) (by simp)) hs (fun h => h); have hc1 : w1.cell? ⟨w.heap.size + 1 + 1, 0, none⟩ = some (i6 0) ∧ w1.cell? ⟨w.heap.size + 1 + 1, 1, none⟩ = some (i6 0) ∧ w1.cell? ⟨w.heap.size + 1 + 1, 2, none⟩ = some (i6 0) ∧ w1.cell? ⟨w.heap.size + 1 + 1, 3, none⟩ = some (i6 0) := ⟨B1.cell 0, B1.cell 1, B1.cell 2, B1.cell 3⟩; have hf1 := B1.frozen; clear B1; have KS := hid (show Same w w1 from (by repeat (first | exact Keeps.refl _ _ | refine Keeps.drew ?_ | refine Keeps.alloc ?_ _ | refine Keeps.setCell ?_ (by simp; try omega) _ | exact Hid.out (by assumption) | refine Keeps.trans ?_ (by assumption)))); clear hs hy))
    go_region
    go_wp2
    rw [set4_twice]
    refine bodyPost_ret (v := .tuple #[i6 0, i6 0, rp a b c e, .bool false]) (by simp [results, Tryz.results64, go_sem, hc1]) rfl ⟨rfl, ?_⟩
    repeat (first | exact Keeps.refl _ _ | refine Keeps.drew ?_ | refine Keeps.alloc ?_ _ | refine Keeps.setCell ?_ (by simp; try omega) _ | exact Hid.out (by assumption) | refine Keeps.trans ?_ (by assumption))

set_option maxHeartbeats 4000000 in
theorem fits_yes (k d l y have_ a b c e x0 x1 : Int) (q0 q1 q2 q3 : Int) (h1 : (k == 1) = false ∨ k = 1 ∧ (d == 0) = false ∨ k = 1 ∧ d = 0 ∧ (l == 0) = false)
    (H : Hid (∀ w : World, Calls Tryz.prog 84 #[pk k d l y, i6 have_, rp a b c e] w fun z w' => z = .returned (.tuple #[i6 x0, i6 x1, rp q0 q1 q2 q3, .bool true]) ∧ Same w w')) (w : World) :
    Calls Tryz.prog 64 #[pk k d l y, i6 have_, rp a b c e] w fun z w' =>
      z = .returned (.tuple #[i6 x0, i6 x1, rp q0 q1 q2 q3, .bool true]) ∧ Same w w' := by
  rcases h1 with h1 | ⟨rfl, h1⟩ | ⟨rfl, rfl, h1⟩
  all_goals
    go_enter Tryz.func64, Tryz.ntmps64
    go_wp2_with ((go_at_call 84; refine (H.out _).mono ?_; rintro z w1 ⟨rfl, hs⟩; have hy := hs.size; simp at hy; have B0 := Blk.keeps (w := _) ((Blk.new_at (n := w.heap.size + 1) (cs := #[i6 a, i6 b, i6 c, i6 e]) (t := 69) (by simp)).alloc _) hs (fun h => h); have hc0 : w1.cell? ⟨w.heap.size + 1, 0, none⟩ = some (i6 a) ∧ w1.cell? ⟨w.heap.size + 1, 1, none⟩ = some (i6 b) ∧ w1.cell? ⟨w.heap.size + 1, 2, none⟩ = some (i6 c) ∧ w1.cell? ⟨w.heap.size + 1, 3, none⟩ = some (i6 e) := ⟨B0.cell 0, B0.cell 1, B0.cell 2, B0.cell 3⟩; have hf0 := B0.frozen; clear B0; have B1 := Blk.keeps (w := _) (Blk.new_at (n := w.heap.size + 1 + 1) (cs := #[i6 0, i6 0, i6 0, i6 0]) (t := 69) (by simp)) hs (fun h => h); have hc1 : w1.cell? ⟨w.heap.size + 1 + 1, 0, none⟩ = some (i6 0) ∧ w1.cell? ⟨w.heap.size + 1 + 1, 1, none⟩ = some (i6 0) ∧ w1.cell? ⟨w.heap.size + 1 + 1, 2, none⟩ = some (i6 0) ∧ w1.cell? ⟨w.heap.size + 1 + 1, 3, none⟩ = some (i6 0) := ⟨B1.cell 0, B1.cell 1, B1.cell 2, B1.cell 3⟩; have hf1 := B1.frozen; clear B1; have KS := hid (show Same w w1 from (by repeat (first | exact Keeps.refl _ _ | refine Keeps.drew ?_ | refine Keeps.alloc ?_ _ | refine Keeps.setCell ?_ (by simp; try omega) _ | exact Hid.out (by assumption) | refine Keeps.trans ?_ (by assumption)))); clear hs hy))
    go_region
    go_wp2
    rw [set4_twice]
    refine bodyPost_ret (v := .tuple #[i6 x0, i6 x1, rp q0 q1 q2 q3, .bool true]) (by simp [results, Tryz.results64, go_sem, hc1]) rfl ⟨rfl, ?_⟩
    repeat (first | exact Keeps.refl _ _ | refine Keeps.drew ?_ | refine Keeps.alloc ?_ _ | refine Keeps.setCell ?_ (by simp; try omega) _ | exact Hid.out (by assumption) | refine Keeps.trans ?_ (by assumption))

/-- From how far back, how many bytes, the last distances behind it, does it fit? -/
def fitsL (k d l y have_ a b c e : Int) : Int × Int × (Int × Int × Int × Int) × Bool :=
  if k = 1 ∧ d = 0 ∧ l = 0 then (0, 1, (a, b, c, e), true)
  else if (copiesL k d l y have_ a b c e).2.2.2 then copiesL k d l y have_ a b c e
  else (0, 0, (a, b, c, e), false)

theorem fits_any (k d l y have_ a b c e : Int) (w : World) :
    Calls Tryz.prog 64 #[pk k d l y, i6 have_, rp a b c e] w fun z w' =>
      z = .returned (.tuple #[i6 (fitsL k d l y have_ a b c e).1, i6 (fitsL k d l y have_ a b c e).2.1, rpt (fitsL k d l y have_ a b c e).2.2.1, .bool (fitsL k d l y have_ a b c e).2.2.2]) ∧ Same w w' := by
  by_cases h1 : k = 1 ∧ d = 0 ∧ l = 0
  · obtain ⟨rfl, rfl, rfl⟩ := h1
    simpa [fitsL] using fits_lit y have_ a b c e w
  have H := copies_any k d l y have_ a b c e
  have h1' : (k == 1) = false ∨ k = 1 ∧ (d == 0) = false ∨ k = 1 ∧ d = 0 ∧ (l == 0) = false := by simp; omega
  unfold fitsL
  rw [if_neg h1]
  generalize copiesL k d l y have_ a b c e = x at *
  obtain ⟨x0, x1, ⟨q0, q1, q2, q3⟩, ok⟩ := x
  cases ok with
  | false => exact fits_no k d l y have_ a b c e x0 x1 q0 q1 q2 q3 h1' (hid H) w
  | true => exact fits_yes k d l y have_ a b c e x0 x1 q0 q1 q2 q3 h1' (hid H) w
end Go.Proofs.YtalopgbkjgjppaaGreatDoor
