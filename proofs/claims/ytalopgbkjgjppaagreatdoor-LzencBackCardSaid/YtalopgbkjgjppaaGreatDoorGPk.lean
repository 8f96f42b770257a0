/- Part of a proof: Pk, Pk2, Pk3, Pk4. -/
import Derived.Test.YtalopgbkjgjppaaGreatDoorMem
import Derived.Test.YtalopgbkjgjppaaGreatDoorRows
import Derived.WalkKit
import Derived.WalkSpells
import Derived.WalkLawsBesides
import Derived.RegionTactic
import Derived.BigRegion
import Derived.BigQuiet
import Derived.Deep.QuietTactic
import Derived.Deep.RegionHeld3
import Derived.Laws.CopyOwn
/- The walks of packet's small functions. -/
namespace Go.Proofs.YtalopgbkjgjppaaGreatDoor
open Go.RowKit Go.Cas

/-- An int as a value. -/
abbrev i6 (n : Int) : Value := .int .i64 n
abbrev rp (a b c d : Int) : Value := .agg #[i6 a, i6 b, i6 c, i6 d]
abbrev pk (k d l b : Int) : Value := .agg #[i6 k, i6 d, i6 l, .int .u8 b]

set_option maxHeartbeats 400000 in
theorem first_any (w : World) :
    Calls Tryz.prog 26 #[] w fun e w' => e = .returned (rp 1 1 1 1) ∧ Same w w' := by
  go_enter Tryz.func26, Tryz.ntmps26
  go_wp2
  exact bodyPost_ret (v := rp 1 1 1 1) (by simp [results, Tryz.results26, go_sem]) rfl ⟨rfl, (Keeps.refl _ _).alloc _⟩

set_option maxHeartbeats 400000 in
theorem push_any (a b c d x : Int) (w : World) :
    Calls Tryz.prog 56 #[rp a b c d, i6 x] w fun e w' => e = .returned (rp x a b c) ∧ Same w w' := by
  go_enter Tryz.func56, Tryz.ntmps56
  go_wp2
  exact bodyPost_ret (v := rp x a b c) (by simp [results, Tryz.results56, go_sem]) rfl ⟨rfl, ((Keeps.refl _ _).alloc _).alloc _⟩

def frontL (a b c d i : Int) : Int × Int × Int × Int :=
  if i = 1 then (b, a, c, d) else if i = 2 then (c, a, b, d) else if i = 3 then (d, a, b, c) else (a, b, c, d)

theorem size3 : (Tryz.prog.info? 3).map (·.size) = some 1 := by kernel_rfl

set_option maxHeartbeats 400000 in
theorem front_in (a b c d : Int) (i : Int) (hi : 0 ≤ i ∧ i < 4) (w : World) :
    Calls Tryz.prog 57 #[rp a b c d, i6 i] w fun e w' => e = .returned (rp (frontL a b c d i).1 (frontL a b c d i).2.1 (frontL a b c d i).2.2.1 (frontL a b c d i).2.2.2) ∧ Same w w' := by
  have hcp := fun (o : Obj) (v0 v1 v2 v3 : Int) => run_copy_up (P := Tryz.prog) (w := w) (o := o) (dT := 114) (sT := 114) (ty := 3) (t := 69) (v0 := i6 v0) (v1 := i6 v1) (v2 := i6 v2) (v3 := i6 v3) Tryz.underlying114 size3 rfl rfl rfl
  obtain rfl | rfl | rfl | rfl : i = 0 ∨ i = 1 ∨ i = 2 ∨ i = 3 := by omega
  all_goals
    clear hi
    go_enter Tryz.func57, Tryz.ntmps57
    go_wp2
    go_region
    go_wp2
    refine bodyPost_ret (v := rp (frontL a b c d _).1 (frontL a b c d _).2.1 (frontL a b c d _).2.2.1 (frontL a b c d _).2.2.2) (by simp [results, Tryz.results57, go_sem, frontL]) rfl ⟨rfl, ?_⟩
    repeat (first | exact Keeps.refl _ _ | refine Keeps.drew ?_ | refine Keeps.alloc ?_ _)

set_option maxHeartbeats 400000 in
theorem front_out (a b c d : Int) (i : Int) (hi : i < 0 ∨ 4 ≤ i) (w : World) :
    Calls Tryz.prog 57 #[rp a b c d, i6 i] w fun e w' => e = .returned (rp a b c d) ∧ Same w w' := by
  rcases hi with hi | hi
  all_goals
    go_enter Tryz.func57, Tryz.ntmps57
    go_wp2
    refine bodyPost_ret (v := rp a b c d) (by simp [results, Tryz.results57, go_sem]) rfl ⟨rfl, ?_⟩
    repeat (first | exact Keeps.refl _ _ | refine Keeps.drew ?_ | refine Keeps.alloc ?_ _)

theorem front_any (a b c d i : Int) (w : World) :
    Calls Tryz.prog 57 #[rp a b c d, i6 i] w fun e w' => e = .returned (rp (frontL a b c d i).1 (frontL a b c d i).2.1 (frontL a b c d i).2.2.1 (frontL a b c d i).2.2.2) ∧ Same w w' := by
  by_cases hi : 0 ≤ i ∧ i < 4
  · exact front_in a b c d i hi w
  · have e : frontL a b c d i = (a, b, c, d) := by unfold frontL; rw [if_neg (by omega), if_neg (by omega), if_neg (by omega)]
    rw [e]
    exact front_out a b c d i (by omega) w

set_option maxHeartbeats 400000 in
theorem long_any (n : Int) (w : World) :
    Calls Tryz.prog 103 #[i6 n] w fun e w' => e = .returned (.bool (decide (2 ≤ n) && decide (n ≤ 273))) ∧ w = w' := by
  by_cases h : 2 ≤ n
  · have e : (decide (2 ≤ n) && decide (n ≤ 273)) = decide (n ≤ 273) := by rw [decide_eq_true h]; rfl
    rw [e]; clear e
    go_enter Tryz.func103, Tryz.ntmps103
    go_wp2
    go_ret
    exact ⟨rfl, rfl⟩
  · have e : (decide (2 ≤ n) && decide (n ≤ 273)) = false := by rw [decide_eq_false h]; rfl
    rw [e]; clear e
    go_enter Tryz.func103, Tryz.ntmps103
    go_wp2
    go_ret
    exact ⟨rfl, rfl⟩

end Go.Proofs.YtalopgbkjgjppaaGreatDoor

/- The walks of packet's next functions. -/
namespace Go.Proofs.YtalopgbkjgjppaaGreatDoor
open Go.RowKit Go.Cas

/-- The first place of x in a list, from a place on; -1: none. -/
def idxL (zs : List Int) (x : Int) : Int := match zs.findIdx? (· == x) with | some k => k | none => -1

theorem idx_hit (zs : List Int) (x : Int) (k : Nat) (hk : k < zs.length) (hno : ∀ j, j < k → zs[j]?.getD 0 ≠ x) (h : zs[k]?.getD 0 = x) : idxL zs x = k := by
  have : zs.findIdx? (· == x) = some k := by
    rw [List.findIdx?_eq_some_iff_getElem]
    refine ⟨hk, by simpa [List.getElem?_eq_getElem hk] using h, fun j hj => ?_⟩
    have := hno j hj
    simpa [List.getElem?_eq_getElem (show j < zs.length by omega)] using this
  simp [idxL, this]

theorem idx_miss (zs : List Int) (x : Int) (hno : ∀ j, j < zs.length → zs[j]?.getD 0 ≠ x) : idxL zs x = -1 := by
  have : zs.findIdx? (· == x) = none := by
    rw [List.findIdx?_eq_none_iff]
    intro y hy
    obtain ⟨j, hj, rfl⟩ := List.getElem_of_mem hy
    have := hno j hj
    simpa [List.getElem?_eq_getElem hj] using this
  simp [idxL, this]

set_option maxHeartbeats 400000 in
theorem index_any (b : Nat) (zs : List Int) (x : Int) (w : World) (hn : zs.length ≤ 1000000) (hc : ∀ k, k < zs.length → w.cell? ⟨b, k, none⟩ = some (i6 (zs[k]?.getD 0))) :
    Calls Tryz.prog 58 #[.slice (some ⟨b, 0, none⟩) zs.length zs.length, i6 x] w fun e w' => e = .returned (i6 (idxL zs x)) ∧ w = w' := by
  go_enter Tryz.func58, Tryz.ntmps58
  go_wp2
  go_loop [8] (fun i => ∃ k : Nat, k ≤ zs.length ∧ i = i6 k ∧ ∀ j, j < k → zs[j]?.getD 0 ≠ x) (fun i => zs.length - (intOf i).toNat)
  case atStart => exact ⟨0, Nat.zero_le _, rfl, fun j hj => absurd hj (Nat.not_lt_zero _)⟩
  case round =>
    obtain ⟨k, hk, rfl, hno⟩ := hrel
    have HNO := hid hno
    clear hno
    by_cases hlt : k < zs.length
    · have hck := hc k hlt
      have HC := hid hc
      clear hc
      have hg : zs[k]?.getD 0 = zs[k] := by simp [hlt]
      rw [hg] at hck
      by_cases hx : zs[k]?.getD 0 = x
      · have HR := hid (idx_hit zs x k hlt HNO.out hx)
        have hb : (x == zs[k]) = true := by rw [hg] at hx; simp [hx]
        clear hx hg
        go_wp2
        go_ret
        exact ⟨by rw [HR.out]; rfl, rfl⟩
      · have hno' : ∀ j, j < k + 1 → zs[j]?.getD 0 ≠ x := fun j hj => if e : j < k then HNO.out j e else by
          obtain rfl : j = k := by omega
          exact hx
        have HN := hid hno'
        have hb : (x == zs[k]) = false := by rw [hg] at hx; simp; exact fun e => hx e.symm
        clear hno' hx hg
        go_wp2
        go_round
        case rel => exact ⟨k + 1, by omega, by go_num, HN.out⟩
        case measure => simp [intOf]; omega
    · have HR := hid (idx_miss zs x (fun j hj => HNO.out j (by omega)))
      go_wp2
      go_ret
      exact ⟨by rw [HR.out]; rfl, rfl⟩

/-- The least place of x among four. -/
def findL (a b c d x : Int) : Int × Bool :=
  if a = x then (0, true) else if b = x then (1, true) else if c = x then (2, true) else if d = x then (3, true) else (0, false)

theorem find_idx (a b c d x : Int) : idxL [a, b, c, d] x = if (findL a b c d x).2 then (findL a b c d x).1 else -1 := by
  unfold idxL findL
  by_cases h1 : a = x
  · simp [h1, List.findIdx?_cons]
  by_cases h2 : b = x
  · simp [h1, h2, List.findIdx?_cons]
  by_cases h3 : c = x
  · simp [h1, h2, h3, List.findIdx?_cons]
  by_cases h4 : d = x
  · simp [h1, h2, h3, h4, List.findIdx?_cons]
  · simp [h1, h2, h3, h4, List.findIdx?_cons]

theorem find_bd (a b c d x : Int) : 0 ≤ (findL a b c d x).1 ∧ (findL a b c d x).1 ≤ 3 ∧ ((findL a b c d x).2 = false → (findL a b c d x).1 = 0) := by
  unfold findL; repeat (first | split | simp)

set_option maxHeartbeats 400000 in
theorem find_any (a b c d x : Int) (w : World) :
    Calls Tryz.prog 28 #[rp a b c d, i6 x] w fun e w' => e = .returned (.tuple #[i6 (findL a b c d x).1, .bool (findL a b c d x).2]) ∧ Same w w' := by
  have hcell : ∀ k, k < [a, b, c, d].length → (w.alloc (.cells #[i6 a, i6 b, i6 c, i6 d] 69)).cell? ⟨w.heap.size, k, none⟩ = some (i6 ([a, b, c, d][k]?.getD 0)) := by
    intro k hk
    rw [World.cell?_alloc_new]
    rcases k with _ | _ | _ | _ | k <;> simp at hk ⊢
    omega
  have H := hid (index_any w.heap.size [a, b, c, d] x _ (by simp) hcell)
  clear hcell
  have hbd := find_bd a b c d x
  have hfi := find_idx a b c d x
  by_cases hf : (findL a b c d x).2 = true
  · rw [hf, if_pos rfl] at hfi
    obtain ⟨h0, h3, _⟩ := hbd
    rw [hf]
    generalize (findL a b c d x).1 = r at *
    rw [hfi] at H
    clear hf hfi
    go_enter Tryz.func28, Tryz.ntmps28
    go_wp2_with fail
    refine (H.out).mono ?_
    rintro e w' ⟨rfl, rfl⟩
    go_wp2
    go_ret2
    exact ⟨rfl, (Keeps.refl _ _).alloc _⟩
  · rw [if_neg hf] at hfi
    have h0 := hbd.2.2 (by simpa using hf)
    rw [h0, show (findL a b c d x).2 = false by simpa using hf]
    rw [hfi] at H
    clear hf hfi h0 hbd
    go_enter Tryz.func28, Tryz.ntmps28
    go_wp2_with fail
    refine (H.out).mono ?_
    rintro e w' ⟨rfl, rfl⟩
    go_wp2
    go_ret2
    exact ⟨rfl, (Keeps.refl _ _).alloc _⟩
end Go.Proofs.YtalopgbkjgjppaaGreatDoor

/- The walks of packet's next functions. -/
namespace Go.Proofs.YtalopgbkjgjppaaGreatDoor
open Go.RowKit Go.Cas


/-- From how far back a packet copies, the last distances behind it; does it tell one? -/
def distL (k d a b c e : Int) : Int × (Int × Int × Int × Int) × Bool :=
  if k = 2 then (d, (d, a, b, c), true)
  else if k = 3 ∧ 0 ≤ d ∧ d < 4 then ((if d = 0 then a else if d = 1 then b else if d = 2 then c else e), frontL a b c e d, true)
  else (0, (a, b, c, e), false)

theorem bcell {W w1 : World} (hb : Same W w1) : (∀ b o, b < W.heap.size → w1.cell? ⟨b, o, none⟩ = W.cell? ⟨b, o, none⟩) ∧ (∀ b o, b < W.heap.size → w1.frozen? ⟨b, o, none⟩ = W.frozen? ⟨b, o, none⟩) ∧ W.heap.size ≤ w1.heap.size :=
  ⟨hb.cellb, hb.frozenb, hb.size⟩

set_option maxHeartbeats 400000 in
theorem distance_match (d l y a b c e : Int) (w : World) :
    Calls Tryz.prog 27 #[pk 2 d l y, rp a b c e] w fun z w' => z = .returned (.tuple #[i6 d, rp d a b c, .bool true]) ∧ Same w w' := by
  go_enter Tryz.func27, Tryz.ntmps27
  go_wp2
  go_region_held3 (fun W => W.cell? ⟨w.heap.size, 1, none⟩ = some (i6 d) ∧ W.cell? ⟨w.heap.size + 1, 0, none⟩ = some (i6 a) ∧ W.cell? ⟨w.heap.size + 1, 1, none⟩ = some (i6 b) ∧ W.cell? ⟨w.heap.size + 1, 2, none⟩ = some (i6 c) ∧ W.cell? ⟨w.heap.size + 1, 3, none⟩ = some (i6 e)) (go_simp) ((go_at_call 56; refine (push_any _ _ _ _ _ _).mono ?_; rintro z w1 ⟨rfl, hs⟩; obtain ⟨hc, hf, hz⟩ := bcell hs))
  go_wp2
  refine bodyPost_ret (v := .tuple #[i6 d, rp d a b c, .bool true]) (by simp [results, Tryz.results27, go_sem, hc]) rfl ⟨rfl, ?_⟩
  repeat (first | exact Keeps.refl _ _ | refine Keeps.drew ?_ | refine Keeps.alloc ?_ _ | refine Keeps.setCell ?_ (by simp; try omega) _ | refine Keeps.trans ?_ (by assumption))

set_option maxHeartbeats 2000000 in
theorem distance_rep (d l y a b c e r : Int) (hd : 0 ≤ d ∧ d < 4) (hr : r = if d = 0 then a else if d = 1 then b else if d = 2 then c else e) (w : World) :
    Calls Tryz.prog 27 #[pk 3 d l y, rp a b c e] w fun z w' =>
      z = .returned (.tuple #[i6 r, rp (frontL a b c e d).1 (frontL a b c e d).2.1 (frontL a b c e d).2.2.1 (frontL a b c e d).2.2.2, .bool true]) ∧ Same w w' := by
  have H := hid (front_any a b c e d)
  generalize frontL a b c e d = q at *
  obtain ⟨q0, q1, q2, q3⟩ := q
  obtain rfl | rfl | rfl | rfl : d = 0 ∨ d = 1 ∨ d = 2 ∨ d = 3 := by omega
  all_goals
    clear hd
    simp at hr
    subst hr
    go_enter Tryz.func27, Tryz.ntmps27
    go_wp2_with ((go_at_call 57; refine (H.out _).mono ?_; rintro z w1 ⟨rfl, hs⟩; obtain ⟨hc, hf, hz⟩ := bcell hs; simp at hz; have hy : w.heap.size < w1.heap.size ∧ w.heap.size + 1 < w1.heap.size ∧ w.heap.size + 1 + 1 < w1.heap.size := (by omega)))
    go_region
    go_wp2
    refine bodyPost_ret (v := .tuple #[i6 _, rp q0 q1 q2 q3, .bool true]) (by simp [results, Tryz.results27, go_sem, hc, hy]; first | done | rfl) rfl ⟨rfl, ?_⟩
    repeat (first | exact Keeps.refl _ _ | refine Keeps.drew ?_ | refine Keeps.alloc ?_ _ | refine Keeps.setCell ?_ (by simp; try omega) _ | refine Keeps.trans ?_ (by assumption))

end Go.Proofs.YtalopgbkjgjppaaGreatDoor

/- The walks of packet's next functions. -/
namespace Go.Proofs.YtalopgbkjgjppaaGreatDoor
open Go.RowKit Go.Cas


set_option maxHeartbeats 1000000 in
theorem distance_none (k d l y a b c e : Int) (h2 : (k == 2) = false) (h3 : (k == 3) = false ∨ k = 3 ∧ d < 0 ∨ k = 3 ∧ 4 ≤ d) (w : World) :
    Calls Tryz.prog 27 #[pk k d l y, rp a b c e] w fun z w' =>
      z = .returned (.tuple #[i6 0, rp a b c e, .bool false]) ∧ Same w w' := by
  rcases h3 with h3 | ⟨rfl, h3⟩ | ⟨rfl, h3⟩
  all_goals
    go_enter Tryz.func27, Tryz.ntmps27
    go_wp2
    go_region
    go_wp2
    refine bodyPost_ret (v := .tuple #[i6 0, rp a b c e, .bool false]) (by simp [results, Tryz.results27, go_sem]) rfl ⟨rfl, ?_⟩
    repeat (first | exact Keeps.refl _ _ | refine Keeps.drew ?_ | refine Keeps.alloc ?_ _ | refine Keeps.setCell ?_ (by simp; try omega) _ | refine Keeps.trans ?_ (by assumption))

theorem distance_any (k d l y a b c e : Int) (w : World) :
    Calls Tryz.prog 27 #[pk k d l y, rp a b c e] w fun z w' =>
      z = .returned (.tuple #[i6 (distL k d a b c e).1, rp (distL k d a b c e).2.1.1 (distL k d a b c e).2.1.2.1 (distL k d a b c e).2.1.2.2.1 (distL k d a b c e).2.1.2.2.2, .bool (distL k d a b c e).2.2]) ∧ Same w w' := by
  by_cases h2 : k = 2
  · subst h2
    exact distance_match d l y a b c e w
  by_cases h3 : k = 3 ∧ 0 ≤ d ∧ d < 4
  · obtain ⟨rfl, hd⟩ := h3
    have := distance_rep d l y a b c e _ hd rfl w
    simpa [distL, hd] using this
  · have := distance_none k d l y a b c e (by simpa using h2) (by by_cases hk : k = 3 <;> simp [hk] <;> omega) w
    have hq : distL k d a b c e = (0, (a, b, c, e), false) := by unfold distL; rw [if_neg h2, if_neg h3]
    rw [hq]; exact this
end Go.Proofs.YtalopgbkjgjppaaGreatDoor
