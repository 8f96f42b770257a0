/- Part of a proof: Pk5, Pk6. -/
import Derived.Test.YtalopgbkjgjppaaGreatDoorMem
import Derived.Test.YtalopgbkjgjppaaGreatDoorGPk
import Derived.WalkKit
import Derived.WalkSpells
import Derived.WalkLawsBesides
import Derived.RegionTactic
import Derived.BigRegion
import Derived.BigQuiet
import Derived.Deep.QuietTactic
import Derived.Deep.RegionHeld3
import Derived.Laws.CopyOwn
/- The walks of packet's next functions. -/
namespace Go.Proofs.YtalopgbkjgjppaaGreatDoor
open Go.RowKit Go.Cas


def longB (n : Int) : Bool := decide (2 ≤ n) && decide (n ≤ 273)

set_option maxHeartbeats 2000000 in
theorem copies_match (d l have_ a b c e : Int) (ok : Bool) (hok : (decide (1 ≤ d) && (decide (d ≤ min have_ 1048576) && longB l)) = ok) (w : World) :
    Calls Tryz.prog 84 #[pk 2 d l 0, i6 have_, rp a b c e] w fun z w' =>
      z = .returned (.tuple #[i6 d, i6 l, rp d a b c, .bool ok]) ∧ Same w w' := by
  have HOK := hid hok
  clear hok
  go_enter Tryz.func84, Tryz.ntmps84
  go_wp2_with ((go_at_call 103; refine (long_any _ _).mono ?_; rintro z w1 ⟨rfl, rfl⟩))
  all_goals
    go_region_held3 (fun W => W.cell? ⟨w.heap.size, 1, none⟩ = some (i6 d) ∧ W.cell? ⟨w.heap.size, 2, none⟩ = some (i6 l) ∧ W.cell? ⟨w.heap.size + 1, 0, none⟩ = some (i6 a) ∧ W.cell? ⟨w.heap.size + 1, 1, none⟩ = some (i6 b) ∧ W.cell? ⟨w.heap.size + 1, 2, none⟩ = some (i6 c) ∧ W.cell? ⟨w.heap.size + 1, 3, none⟩ = some (i6 e)) (go_simp) ((go_at_call 56; refine (push_any _ _ _ _ _ _).mono ?_; rintro z w1 ⟨rfl, hs⟩; obtain ⟨hc, hf, hz⟩ := bcell hs))
    go_wp2
    refine bodyPost_ret (v := .tuple #[i6 d, i6 l, rp d a b c, .bool ok]) ?_ rfl ⟨rfl, ?_⟩
    · have e : ok = (decide (1 ≤ d) && (decide (d ≤ min have_ 1048576) && longB l)) := HOK.out.symm
      rw [e, show decide (1 ≤ d) = _ from rfl]
      simp [results, Tryz.results84, go_sem, hc, longB]
      first | done | omega | (rw [decide_eq_true (by omega : 1 ≤ d), decide_eq_true (by omega : d ≤ min have_ 1048576)]; rfl)
    repeat (first | exact Keeps.refl _ _ | refine Keeps.drew ?_ | refine Keeps.alloc ?_ _ | refine Keeps.setCell ?_ (by simp; try omega) _ | refine Keeps.trans ?_ (by assumption))

end Go.Proofs.YtalopgbkjgjppaaGreatDoor

/- The walks of packet's next functions. -/
namespace Go.Proofs.YtalopgbkjgjppaaGreatDoor
open Go.RowKit Go.Cas


set_option maxHeartbeats 2000000 in
theorem copies_rep (d l have_ a b c e r q0 q1 q2 q3 : Int) (ok : Bool) (hok : (decide (r ≤ have_) && longB l) = ok) (hd : 0 ≤ d ∧ d < 4) (hr : r = if d = 0 then a else if d = 1 then b else if d = 2 then c else e)
    (H : Hid (∀ w : World, Calls Tryz.prog 57 #[rp a b c e, i6 d] w fun z w' => z = .returned (rp q0 q1 q2 q3) ∧ Same w w')) (w : World) :
    Calls Tryz.prog 84 #[pk 3 d l 0, i6 have_, rp a b c e] w fun z w' =>
      z = .returned (.tuple #[i6 r, i6 l, rp q0 q1 q2 q3, .bool ok]) ∧ Same w w' := by
  have HOK := hid hok
  clear hok
  have hcell : ∀ k o : Nat, k = w.heap.size + 1 → o = d.toNat → (((w.alloc (.cells #[i6 3, i6 d, i6 l, .int .u8 0] 39)).alloc (.cells #[i6 a, i6 b, i6 c, i6 e] 69)).alloc (.cells #[i6 0, i6 0, i6 0, i6 0] 69)).cell? ⟨k, o, none⟩ = some (i6 r) := by
    rintro k o rfl rfl
    rw [World.cell?_alloc_past _ _ _ (by simp), World.cell?_alloc_at _ _ _ _ (by simp)]
    obtain rfl | rfl | rfl | rfl : d = 0 ∨ d = 1 ∨ d = 2 ∨ d = 3 := by omega
    all_goals (simp at hr; subst hr; rfl)
  have hcell := hcell (w.heap.size + 1) d.toNat rfl rfl
  clear hr
  by_cases hg : r ≤ have_
  · go_enter Tryz.func84, Tryz.ntmps84
    go_wp2
    clear hcell
    go_region_held3 (fun W => W.cell? ⟨w.heap.size, 1, none⟩ = some (i6 d) ∧ W.cell? ⟨w.heap.size, 2, none⟩ = some (i6 l) ∧ W.cell? ⟨w.heap.size + 1, 0, none⟩ = some (i6 a) ∧ W.cell? ⟨w.heap.size + 1, 1, none⟩ = some (i6 b) ∧ W.cell? ⟨w.heap.size + 1, 2, none⟩ = some (i6 c) ∧ W.cell? ⟨w.heap.size + 1, 3, none⟩ = some (i6 e)) (go_simp) ((first | (go_at_call 57; refine (H.out _).mono ?_; rintro z w1 ⟨rfl, hs⟩; obtain ⟨hc, hf, hz⟩ := bcell hs) | (go_at_call 103; refine (long_any _ _).mono ?_; rintro z w2 ⟨rfl, rfl⟩)))
    all_goals
      go_wp2
      refine bodyPost_ret (v := .tuple #[i6 r, i6 l, rp q0 q1 q2 q3, .bool ok]) ?_ rfl ⟨rfl, ?_⟩
      · rw [HOK.out.symm]
        simp [results, Tryz.results84, go_sem, hc, longB, hg]
      repeat (first | exact Keeps.refl _ _ | refine Keeps.drew ?_ | refine Keeps.alloc ?_ _ | refine Keeps.setCell ?_ (by simp; try omega) _ | refine Keeps.trans ?_ (by assumption))
  · have hq : decide (r ≤ have_) = false := decide_eq_false hg
    clear hg
    go_enter Tryz.func84, Tryz.ntmps84
    go_wp2
    clear hcell
    refine wp_region_held_drew (S := (fun W => W.cell? ⟨w.heap.size, 1, none⟩ = some (i6 d) ∧ W.cell? ⟨w.heap.size, 2, none⟩ = some (i6 l) ∧ W.cell? ⟨w.heap.size + 1, 0, none⟩ = some (i6 a) ∧ W.cell? ⟨w.heap.size + 1, 1, none⟩ = some (i6 b) ∧ W.cell? ⟨w.heap.size + 1, 2, none⟩ = some (i6 c) ∧ W.cell? ⟨w.heap.size + 1, 3, none⟩ = some (i6 e))) (by kernel_rfl) (by (try dsimp only); go_simp) (fun hHeld => ?_)
    refine wpAnyH_take (i := 0) (oi := ⟨some 74, _, _, _, _, _⟩) (v := ?v0) rfl (by kernel_rfl) (by kernel_rfl) (by kernel_rfl) (fun _ _ _ h => h) (Or.inl ⟨by rfl, ?h0⟩) (by assumption) ?r0
    case h0 => intro w hSw; (try dsimp only at hSw); go_simp; (try with_reducible rfl)
    try simp only [Act.put, List.setIfInBounds_toArray, List.set_cons_zero, List.set_cons_succ]
    refine wpAnyH_take (i := 1) (oi := ⟨some 75, _, _, _, _, _⟩) (v := ?v1) rfl (by kernel_rfl) (by kernel_rfl) (by kernel_rfl) (fun _ _ _ h => h) (Or.inl ⟨by rfl, ?h1⟩) (by assumption) ?r1
    case h1 => intro w hSw; (try dsimp only at hSw); go_simp; (try with_reducible rfl)
    try simp only [Act.put, List.setIfInBounds_toArray, List.set_cons_zero, List.set_cons_succ]
    refine wpAnyH_take (i := 2) (oi := ⟨some 76, _, _, _, _, _⟩) (v := ?v2) rfl (by kernel_rfl) (by kernel_rfl) (by kernel_rfl) (fun _ _ _ h => h) (Or.inl ⟨by rfl, ?h2⟩) (by assumption) ?r2
    case h2 => intro w hSw; (try dsimp only at hSw); go_simp; (try with_reducible rfl)
    try simp only [Act.put, List.setIfInBounds_toArray, List.set_cons_zero, List.set_cons_succ]
    refine wpAnyH_take (i := 3) (oi := ⟨some 77, _, _, _, _, _⟩) (v := ?v3) rfl (by kernel_rfl) (by kernel_rfl) (by kernel_rfl) (fun _ _ _ h => h) (Or.inl ⟨by rfl, ?h3⟩) (by assumption) ?r3
    case h3 => intro w hSw; (try dsimp only at hSw); go_simp; (try with_reducible rfl)
    try simp only [Act.put, List.setIfInBounds_toArray, List.set_cons_zero, List.set_cons_succ]
    refine wpAnyH_take (i := 4) (oi := ⟨some 78, _, _, _, _, _⟩) (v := ?v4) rfl (by kernel_rfl) (by kernel_rfl) (by kernel_rfl) (fun _ _ _ h => h) (Or.inl ⟨by rfl, ?h4⟩) (by assumption) ?r4
    case h4 => intro w hSw; (try dsimp only at hSw); go_simp; (try with_reducible rfl)
    try simp only [Act.put, List.setIfInBounds_toArray, List.set_cons_zero, List.set_cons_succ]
    refine wpAnyH_take (i := 5) (oi := ⟨some 79, _, _, _, _, _⟩) (v := ?v5) rfl (by kernel_rfl) (by kernel_rfl) (by kernel_rfl) (fun _ _ _ h => h) (Or.inl ⟨by rfl, ?h5⟩) (by assumption) ?r5
    case h5 => intro w hSw; (try dsimp only at hSw); go_simp; (try with_reducible rfl)
    try simp only [Act.put, List.setIfInBounds_toArray, List.set_cons_zero, List.set_cons_succ]
    refine wpAnyH_take (i := 7) (oi := ⟨some 81, _, _, _, _, _⟩) (v := ?v7) rfl (by kernel_rfl) (by kernel_rfl) (by kernel_rfl) (fun _ _ _ h => h) (Or.inl ⟨by rfl, ?h7⟩) (by assumption) ?r7
    case h7 => intro w hSw; (try dsimp only at hSw); go_simp; (try with_reducible rfl)
    try simp only [Act.put, List.setIfInBounds_toArray, List.set_cons_zero, List.set_cons_succ]
    refine wpAnyH_take (i := 8) (oi := ⟨some 82, _, _, _, _, _⟩) (v := ?v8) rfl (by kernel_rfl) (by kernel_rfl) (by kernel_rfl) (fun _ _ _ h => h) (Or.inl ⟨by rfl, ?h8⟩) (by assumption) ?r8
    case h8 => intro w hSw; (try dsimp only at hSw); go_simp; (try with_reducible rfl)
    try simp only [Act.put, List.setIfInBounds_toArray, List.set_cons_zero, List.set_cons_succ]
    refine wpAnyH_take (i := 9) (oi := ⟨some 83, _, _, _, _, _⟩) (v := ?v9) rfl (by kernel_rfl) (by kernel_rfl) (by kernel_rfl) (fun _ _ _ h => h) (Or.inl ⟨by rfl, ?h9⟩) (by assumption) ?r9
    case h9 => intro w hSw; (try dsimp only at hSw); go_simp; (try with_reducible rfl)
    try simp only [Act.put, List.setIfInBounds_toArray, List.set_cons_zero, List.set_cons_succ]
    refine wpAnyH_ready (rs := [6]) (by kernel_rfl) (by simp) ?_
    refine AllReadyH.cons (o := ⟨some 80, _, _, _, _, _⟩) rfl (fun K hK => ?_) AllReadyH.nil
    go_simp; (go_at_call 57; refine (H.out _).mono ?_; rintro z w1 ⟨rfl, hs⟩; obtain ⟨hc, hf, hz⟩ := bcell hs; dsimp only)
    refine hK.out _ _ (by (try dsimp only); go_simp) (fun hHeld => ?_)
    clear hK K
    try simp only [Act.put, List.setIfInBounds_toArray, List.set_cons_zero, List.set_cons_succ]
    refine wpAnyH_take (i := 10) (oi := ⟨some 84, _, _, _, _, _⟩) (v := ?v10) rfl (by kernel_rfl) (by kernel_rfl) (by kernel_rfl) (fun _ _ _ h => h) (Or.inl ⟨by rfl, ?h10⟩) (by assumption) ?r10
    case h10 => intro w hSw; (try dsimp only at hSw); go_simp; (try with_reducible rfl)
    try simp only [Act.put, List.setIfInBounds_toArray, List.set_cons_zero, List.set_cons_succ]
    refine wpAnyH_take (i := 11) (oi := ⟨some 85, _, _, _, _, _⟩) (v := undef) rfl (by kernel_rfl) (by kernel_rfl) (by kernel_rfl) (fun _ _ _ h => h) (Or.inr ⟨by rfl, rfl⟩) (by assumption) ?_
    try simp only [Act.put, List.setIfInBounds_toArray, List.set_cons_zero, List.set_cons_succ]
    refine wpAnyH_take (i := 12) (oi := ⟨some 86, _, _, _, _, _⟩) (v := undef) rfl (by kernel_rfl) (by kernel_rfl) (by kernel_rfl) (fun _ _ _ h => h) (Or.inr ⟨by rfl, rfl⟩) (by assumption) ?_
    try simp only [Act.put, List.setIfInBounds_toArray, List.set_cons_zero, List.set_cons_succ]
    refine wpAnyH_take (i := 13) (oi := ⟨some 87, _, _, _, _, _⟩) (v := undef) rfl (by kernel_rfl) (by kernel_rfl) (by kernel_rfl) (fun _ _ _ h => h) (Or.inr ⟨by rfl, rfl⟩) (by assumption) ?_
    try simp only [Act.put, List.setIfInBounds_toArray, List.set_cons_zero, List.set_cons_succ]
    refine wpAnyH_take (i := 14) (oi := ⟨some 88, _, _, _, _, _⟩) (v := ?v14) rfl (by kernel_rfl) (by kernel_rfl) (by kernel_rfl) (fun _ _ _ h => h) (Or.inl ⟨by rfl, ?h14⟩) (by assumption) ?r14
    case h14 => intro w hSw; (try dsimp only at hSw); go_simp; (try with_reducible rfl)
    try simp only [Act.put, List.setIfInBounds_toArray, List.set_cons_zero, List.set_cons_succ]
    refine wpAnyH_take (i := 15) (oi := ⟨some 6, _, _, _, _, _⟩) (v := ?v15) rfl (by kernel_rfl) (by kernel_rfl) (by kernel_rfl) (fun _ _ _ h => h) (Or.inl ⟨by rfl, ?h15⟩) (by assumption) ?r15
    case h15 => intro w hSw; (try dsimp only at hSw); go_simp; (try with_reducible rfl)
    try simp only [Act.put, List.setIfInBounds_toArray, List.set_cons_zero, List.set_cons_succ]
    refine wpAnyH_take (i := 16) (oi := ⟨some 7, _, _, _, _, _⟩) (v := ?v16) rfl (by kernel_rfl) (by kernel_rfl) (by kernel_rfl) (fun _ _ _ h => h) (Or.inl ⟨by rfl, ?h16⟩) (by assumption) ?r16
    case h16 => intro w hSw; (try dsimp only at hSw); go_simp; (try with_reducible rfl)
    try simp only [Act.put, List.setIfInBounds_toArray, List.set_cons_zero, List.set_cons_succ]
    refine wpAnyH_ready (rs := [17]) (by kernel_rfl) (by simp) ?_
    refine AllReadyH.cons (o := ⟨none, _, _, _, _, _⟩) rfl (fun K hK => ?_) AllReadyH.nil
    go_simp
    refine hK.out _ _ (by (try dsimp only); go_simp) (fun hHeld => ?_)
    clear hK K
    try simp only [Act.put, List.setIfInBounds_toArray, List.set_cons_zero, List.set_cons_succ]
    refine wpAnyH_take (i := 18) (oi := ⟨some 9, _, _, _, _, _⟩) (v := ?v18) rfl (by kernel_rfl) (by kernel_rfl) (by kernel_rfl) (fun _ _ _ h => h) (Or.inl ⟨by rfl, ?h18⟩) (by assumption) ?r18
    case h18 => intro w hSw; (try dsimp only at hSw); go_simp; (try with_reducible rfl)
    try simp only [Act.put, List.setIfInBounds_toArray, List.set_cons_zero, List.set_cons_succ]
    refine wpAnyH_done (by kernel_rfl) ?_ _
    go_wp2
    refine bodyPost_ret (v := .tuple #[i6 r, i6 l, rp q0 q1 q2 q3, .bool ok]) ?_ rfl ⟨rfl, ?_⟩
    · rw [HOK.out.symm]
      simp [results, Tryz.results84, go_sem, hc, hq]
    repeat (first | exact Keeps.refl _ _ | refine Keeps.drew ?_ | refine Keeps.alloc ?_ _ | refine Keeps.setCell ?_ (by simp; try omega) _ | refine Keeps.trans ?_ (by assumption))
end Go.Proofs.YtalopgbkjgjppaaGreatDoor
