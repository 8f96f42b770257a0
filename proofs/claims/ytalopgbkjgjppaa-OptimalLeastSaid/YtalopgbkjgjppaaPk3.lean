/- The walks of packet's next functions. -/
import Derived.Test.YtalopgbkjgjppaaMem
import Derived.Test.YtalopgbkjgjppaaPk2
import Derived.WalkKit
import Derived.WalkSpells
import Derived.WalkLawsBesides
import Derived.RegionTactic
import Derived.BigRegion
import Derived.BigQuiet
import Derived.Deep.QuietTactic
import Derived.Deep.RegionHeld3
import Derived.Laws.CopyOwn
namespace Go.Proofs.Ytalopgbkjgjppaa
open Go.RowKit Go.Cas


/-- From how far back a packet copies, the last distances behind it; does it tell one? -/
def distL (k d a b c e : Int) : Int × (Int × Int × Int × Int) × Bool :=
  if k = 2 then (d, (d, a, b, c), true)
  else if k = 3 ∧ 0 ≤ d ∧ d < 4 then ((if d = 0 then a else if d = 1 then b else if d = 2 then c else e), frontL a b c e d, true)
  else (0, (a, b, c, e), false)

theorem bcell {W w1 : World} (hb : Same W w1) : (∀ b o, b < W.heap.size → w1.cell? ⟨b, o, none⟩ = W.cell? ⟨b, o, none⟩) ∧ (∀ b o, b < W.heap.size → w1.frozen? ⟨b, o, none⟩ = W.frozen? ⟨b, o, none⟩) ∧ W.heap.size ≤ w1.heap.size :=
  ⟨hb.cellb, hb.frozenb, hb.size⟩

set_option maxHeartbeats 400000 in
theorem distance_match (d l y a b c e : Int) (w : World) :
    Calls Try.prog 44 #[pk 2 d l y, rp a b c e] w fun z w' => z = .returned (.tuple #[i6 d, rp d a b c, .bool true]) ∧ Same w w' := by
  go_enter Try.func44, Try.ntmps44
  go_wp2
  go_region_held3 (fun W => W.cell? ⟨w.heap.size, 1, none⟩ = some (i6 d) ∧ W.cell? ⟨w.heap.size + 1, 0, none⟩ = some (i6 a) ∧ W.cell? ⟨w.heap.size + 1, 1, none⟩ = some (i6 b) ∧ W.cell? ⟨w.heap.size + 1, 2, none⟩ = some (i6 c) ∧ W.cell? ⟨w.heap.size + 1, 3, none⟩ = some (i6 e)) (go_simp) ((go_at_call 20; refine (push_any _ _ _ _ _ _).mono ?_; rintro z w1 ⟨rfl, hs⟩; obtain ⟨hc, hf, hz⟩ := bcell hs))
  go_wp2
  refine bodyPost_ret (v := .tuple #[i6 d, rp d a b c, .bool true]) (by simp [results, Try.results44, go_sem, hc]) rfl ⟨rfl, ?_⟩
  repeat (first | exact Keeps.refl _ _ | refine Keeps.drew ?_ | refine Keeps.alloc ?_ _ | refine Keeps.setCell ?_ (by simp; try omega) _ | refine Keeps.trans ?_ (by assumption))

set_option maxHeartbeats 2000000 in
theorem distance_rep (d l y a b c e r : Int) (hd : 0 ≤ d ∧ d < 4) (hr : r = if d = 0 then a else if d = 1 then b else if d = 2 then c else e) (w : World) :
    Calls Try.prog 44 #[pk 3 d l y, rp a b c e] w fun z w' =>
      z = .returned (.tuple #[i6 r, rp (frontL a b c e d).1 (frontL a b c e d).2.1 (frontL a b c e d).2.2.1 (frontL a b c e d).2.2.2, .bool true]) ∧ Same w w' := by
  have H := hid (front_any a b c e d)
  generalize frontL a b c e d = q at *
  obtain ⟨q0, q1, q2, q3⟩ := q
  obtain rfl | rfl | rfl | rfl : d = 0 ∨ d = 1 ∨ d = 2 ∨ d = 3 := by omega
  all_goals
    clear hd
    simp at hr
    subst hr
    go_enter Try.func44, Try.ntmps44
    go_wp2_with ((go_at_call 22; refine (H.out _).mono ?_; rintro z w1 ⟨rfl, hs⟩; obtain ⟨hc, hf, hz⟩ := bcell hs; simp at hz; have hy : w.heap.size < w1.heap.size ∧ w.heap.size + 1 < w1.heap.size ∧ w.heap.size + 1 + 1 < w1.heap.size := (by omega)))
    go_region
    go_wp2
    refine bodyPost_ret (v := .tuple #[i6 _, rp q0 q1 q2 q3, .bool true]) (by simp [results, Try.results44, go_sem, hc, hy]; first | done | rfl) rfl ⟨rfl, ?_⟩
    repeat (first | exact Keeps.refl _ _ | refine Keeps.drew ?_ | refine Keeps.alloc ?_ _ | refine Keeps.setCell ?_ (by simp; try omega) _ | refine Keeps.trans ?_ (by assumption))

end Go.Proofs.Ytalopgbkjgjppaa
