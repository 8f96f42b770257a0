/- The walks of packet's next functions. -/
import Derived.Test.YtalopgbkjgjppaaMem
import Derived.Test.YtalopgbkjgjppaaPk
import Derived.WalkKit
import Derived.WalkSpells
import Derived.WalkLawsBesides
import Derived.RegionTactic
import Derived.BigRegion
import Derived.BigQuiet
import Derived.Deep.QuietTactic
import Derived.Deep.RegionHeld3
import Derived.Laws.CopyOwn
namespace Go.Proofs.Ytalopgbkjgjppaa
open Go.RowKit Go.Cas

/-- The first place of x in a list, from a place on; -1: none. -/
def idxL (zs : List Int) (x : Int) : Int := match zs.findIdx? (· == x) with | some k => k | none => -1

theorem idx_hit (zs : List Int) (x : Int) (k : Nat) (hk : k < zs.length) (hno : ∀ j, j < k → zs[j]?.getD 0 ≠ x) (h : zs[k]?.getD 0 = x) : idxL zs x = k := by
  have : zs.findIdx? (· == x) = some k := by
    rw [List.findIdx?_eq_some_iff_getElem]
    refine ⟨hk, by simpa [List.getElem?_eq_getElem hk] using h, fun j hj => ?_⟩
    have := hno j hj
    simpa [List.getElem?_eq_getElem (show j < zs.length by omega)] using this
  simp [idxL, this]

theorem idx_miss (zs : List Int) (x : Int) (hno : ∀ j, j < zs.length → zs[j]?.getD 0 ≠ x) : idxL zs x = -1 := by
  have : zs.findIdx? (· == x) = none := by
    rw [List.findIdx?_eq_none_iff]
    intro y hy
    obtain ⟨j, hj, rfl⟩ := List.getElem_of_mem hy
    have := hno j hj
    simpa [List.getElem?_eq_getElem hj] using this
  simp [idxL, this]

set_option maxHeartbeats 400000 in
theorem index_any (b : Nat) (zs : List Int) (x : Int) (w : World) (hn : zs.length ≤ 1000000) (hc : ∀ k, k < zs.length → w.cell? ⟨b, k, none⟩ = some (i6 (zs[k]?.getD 0))) :
    Calls Try.prog 45 #[.slice (some ⟨b, 0, none⟩) zs.length zs.length, i6 x] w fun e w' => e = .returned (i6 (idxL zs x)) ∧ w = w' := by
  go_enter Try.func45, Try.ntmps45
  go_wp2
  go_loop [8] (fun i => ∃ k : Nat, k ≤ zs.length ∧ i = i6 k ∧ ∀ j, j < k → zs[j]?.getD 0 ≠ x) (fun i => zs.length - (intOf i).toNat)
  case atStart => exact ⟨0, Nat.zero_le _, rfl, fun j hj => absurd hj (Nat.not_lt_zero _)⟩
  case round =>
    obtain ⟨k, hk, rfl, hno⟩ := hrel
    have HNO := hid hno
    clear hno
    by_cases hlt : k < zs.length
    · have hck := hc k hlt
      have HC := hid hc
      clear hc
      have hg : zs[k]?.getD 0 = zs[k] := by simp [hlt]
      rw [hg] at hck
      by_cases hx : zs[k]?.getD 0 = x
      · have HR := hid (idx_hit zs x k hlt HNO.out hx)
        have hb : (x == zs[k]) = true := by rw [hg] at hx; simp [hx]
        clear hx hg
        go_wp2
        go_ret
        exact ⟨by rw [HR.out]; rfl, rfl⟩
      · have hno' : ∀ j, j < k + 1 → zs[j]?.getD 0 ≠ x := fun j hj => if e : j < k then HNO.out j e else by
          obtain rfl : j = k := by omega
          exact hx
        have HN := hid hno'
        have hb : (x == zs[k]) = false := by rw [hg] at hx; simp; exact fun e => hx e.symm
        clear hno' hx hg
        go_wp2
        go_round
        case rel => exact ⟨k + 1, by omega, by go_num, HN.out⟩
        case measure => simp [intOf]; omega
    · have HR := hid (idx_miss zs x (fun j hj => HNO.out j (by omega)))
      go_wp2
      go_ret
      exact ⟨by rw [HR.out]; rfl, rfl⟩

/-- The least place of x among four. -/
def findL (a b c d x : Int) : Int × Bool :=
  if a = x then (0, true) else if b = x then (1, true) else if c = x then (2, true) else if d = x then (3, true) else (0, false)

theorem find_idx (a b c d x : Int) : idxL [a, b, c, d] x = if (findL a b c d x).2 then (findL a b c d x).1 else -1 := by
  unfold idxL findL
  by_cases h1 : a = x
  · simp [h1, List.findIdx?_cons]
  by_cases h2 : b = x
  · simp [h1, h2, List.findIdx?_cons]
  by_cases h3 : c = x
  · simp [h1, h2, h3, List.findIdx?_cons]
  by_cases h4 : d = x
  · simp [h1, h2, h3, h4, List.findIdx?_cons]
  · simp [h1, h2, h3, h4, List.findIdx?_cons]

theorem find_bd (a b c d x : Int) : 0 ≤ (findL a b c d x).1 ∧ (findL a b c d x).1 ≤ 3 ∧ ((findL a b c d x).2 = false → (findL a b c d x).1 = 0) := by
  unfold findL; repeat (first | split | simp)

set_option maxHeartbeats 400000 in
theorem find_any (a b c d x : Int) (w : World) :
    Calls Try.prog 19 #[rp a b c d, i6 x] w fun e w' => e = .returned (.tuple #[i6 (findL a b c d x).1, .bool (findL a b c d x).2]) ∧ Same w w' := by
  have hcell : ∀ k, k < [a, b, c, d].length → (w.alloc (.cells #[i6 a, i6 b, i6 c, i6 d] 44)).cell? ⟨w.heap.size, k, none⟩ = some (i6 ([a, b, c, d][k]?.getD 0)) := by
    intro k hk
    rw [World.cell?_alloc_new]
    rcases k with _ | _ | _ | _ | k <;> simp at hk ⊢
    omega
  have H := hid (index_any w.heap.size [a, b, c, d] x _ (by simp) hcell)
  clear hcell
  have hbd := find_bd a b c d x
  have hfi := find_idx a b c d x
  by_cases hf : (findL a b c d x).2 = true
  · rw [hf, if_pos rfl] at hfi
    obtain ⟨h0, h3, _⟩ := hbd
    rw [hf]
    generalize (findL a b c d x).1 = r at *
    rw [hfi] at H
    clear hf hfi
    go_enter Try.func19, Try.ntmps19
    go_wp2_with fail
    refine (H.out).mono ?_
    rintro e w' ⟨rfl, rfl⟩
    go_wp2
    go_ret2
    exact ⟨rfl, (Keeps.refl _ _).alloc _⟩
  · rw [if_neg hf] at hfi
    have h0 := hbd.2.2 (by simpa using hf)
    rw [h0, show (findL a b c d x).2 = false by simpa using hf]
    rw [hfi] at H
    clear hf hfi h0 hbd
    go_enter Try.func19, Try.ntmps19
    go_wp2_with fail
    refine (H.out).mono ?_
    rintro e w' ⟨rfl, rfl⟩
    go_wp2
    go_ret2
    exact ⟨rfl, (Keeps.refl _ _).alloc _⟩
end Go.Proofs.Ytalopgbkjgjppaa
