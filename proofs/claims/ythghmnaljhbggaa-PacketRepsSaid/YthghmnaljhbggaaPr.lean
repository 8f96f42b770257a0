/- The walk of the statement PacketReps. -/
import Derived.Test.YthghmnaljhbggaaSp06
import Derived.Test.YthghmnaljhbggaaRf
import Derived.Test.YthghmnaljhbggaaEq4
namespace Go.Proofs.Ythghmnaljhbggaa
open Go.RowKit Go.Cas

def wantL (a b c d x k : Int) : Int × Bool :=
  if k < 0 ∧ a = x then (0, true) else if k < 1 ∧ b = x then (1, true) else if k < 2 ∧ c = x then (2, true) else if k < 3 ∧ d = x then (3, true) else (0, false)

theorem want_find (a b c d x : Int) : wantL a b c d x (-1) = findL a b c d x := by simp [wantL, findL]

theorem want0_t (a b c d x : Int) (h : (a == x) = true) : wantL a b c d x (-1) = (0, true) := by simp at h; simp [wantL, h]
theorem want0_f (a b c d x : Int) (h : (a == x) = false) : wantL a b c d x (-1) = wantL a b c d x 0 := by simp at h; simp [wantL, h]
theorem want1_t (a b c d x : Int) (h : (b == x) = true) : wantL a b c d x (0) = (1, true) := by simp at h; simp [wantL, h]
theorem want1_f (a b c d x : Int) (h : (b == x) = false) : wantL a b c d x (0) = wantL a b c d x 1 := by simp at h; simp [wantL, h]
theorem want2_t (a b c d x : Int) (h : (c == x) = true) : wantL a b c d x (1) = (2, true) := by simp at h; simp [wantL, h]
theorem want2_f (a b c d x : Int) (h : (c == x) = false) : wantL a b c d x (1) = wantL a b c d x 2 := by simp at h; simp [wantL, h]
theorem want3_t (a b c d x : Int) (h : (d == x) = true) : wantL a b c d x (2) = (3, true) := by simp at h; simp [wantL, h]
theorem want3_f (a b c d x : Int) (h : (d == x) = false) : wantL a b c d x (2) = wantL a b c d x 3 := by simp at h; simp [wantL, h]

set_option maxHeartbeats 4000000 in
set_option maxRecDepth 100000 in
theorem preps_any (a b c d x i : Int) (w : World) :
    Calls Try.prog 5 #[rp a b c d, i6 x, i6 i] w fun e w' => e = .returned (.bool true) ∧ Same w w' := by
  have HF := hid (find_any a b c d x)
  rw [← want_find] at HF
  go_enter Try.func5, Try.ntmps5
  go_wp2_with fail
  refine (speaks06_any _).mono ?_
  rintro z w1 ⟨rfl, hs1⟩
  have hX := (Blk.new w #[i6 a, i6 b, i6 c, i6 d] 43).keeps hs1 (fun h => h)
  have hsm : Same w w1 := ((Keeps.refl _ _).alloc _).trans hs1
  have hz : w.heap.size < w1.heap.size := hX.lt
  have fX := hX.four
  generalize w.heap.size = X at hX fX hz
  clear hs1
  go_wp2_with fail
  refine (HF.out _).mono ?_
  rintro z w2 ⟨rfl, hs2⟩
  have hX2 := (hX.alloc (.cells #[i6 a, i6 b, i6 c, i6 d] 44)).keeps hs2 (fun h => h)
  have hY2 := (Blk.new w1 #[i6 a, i6 b, i6 c, i6 d] 44).keeps hs2 (fun h => h)
  have hsm2 : Same w w2 := (hsm.alloc _).trans hs2
  have hne : X ≠ w1.heap.size := by omega
  generalize w1.heap.size = Y at hY2 hne
  have fX2 := hX2.four
  have fY2 := hY2.four
  have HW := hid (rfl : wantL a b c d x = wantL a b c d x)
  generalize hwt : wantL a b c d x = wt at *
  clear hs2 fX hX hsm HF HW
  have HT := hid hwt
  clear hwt
  go_wp2
  go_loop [10, 11, 12] (fun s10 s11 s12 => ∃ k : Int, -1 ≤ k ∧ k ≤ 3 ∧ s12 = i6 k ∧ s10 = i6 (wt k).1 ∧ s11 = .bool (wt k).2) (fun _ _ s => (intOf s + 1).toNat)
  case atStart => exact ⟨3, by omega, by omega, rfl, by rw [← HT.out]; simp [wantL], by rw [← HT.out]; simp [wantL]⟩
  case round =>
    obtain ⟨k, h0, h3, rfl, rfl, rfl⟩ := hrel
    by_cases hk : k = -1
    · subst hk
      go_wp2
      have heq : ∀ (a b c d : Int) (W : World), (Op.equalIn 10000 43 (rp a b c d) (rp a b c d)).run Try.prog W = .ok true W := fun a b c d W => run_equalIn_same4 9998 a b c d W
      generalize wt (-1) = v at *
      obtain ⟨v0, v1⟩ := v
      go_region_held3 (fun W => W.cell? ⟨X, 0, none⟩ = some (i6 a) ∧ W.cell? ⟨X, 1, none⟩ = some (i6 b) ∧ W.cell? ⟨X, 2, none⟩ = some (i6 c) ∧ W.cell? ⟨X, 3, none⟩ = some (i6 d) ∧ W.cell? ⟨Y, 0, none⟩ = some (i6 a) ∧ W.cell? ⟨Y, 1, none⟩ = some (i6 b) ∧ W.cell? ⟨Y, 2, none⟩ = some (i6 c) ∧ W.cell? ⟨Y, 3, none⟩ = some (i6 d)) (go_simp)
        ((first
          | (go_at_call 20; refine (push_any _ _ _ _ _ _).mono ?_; rintro z w3 ⟨rfl, hs3⟩; have hX3 := (Blk.drew hX2).keeps hs3 (fun h => h); have hY3 := (Blk.drew hY2).keeps hs3 (fun h => h); have fX3 := hX3.four; have fY3 := hY3.four)
          | (go_at_call 21; refine (rpush_any _ _ _ _ _ _).mono ?_; rintro z w4 ⟨rfl, hs4⟩; have hX4 := hX3.keeps hs4 (fun h => h); have hY4 := hY3.keeps hs4 (fun h => h); have fX4 := hX4.four; have fY4 := hY4.four)
          | (go_at_call 22; refine (front_any _ _ _ _ _ _).mono ?_; rintro z w5 ⟨rfl, hs5⟩; have hX5 := hX4.keeps hs5 (fun h => h); have hY5 := hY4.keeps hs5 (fun h => h); have fX5 := hX5.four; have fY5 := hY5.four)
          | (go_at_call 23; refine (rfront_any _ _ _ _ _ _).mono ?_; rintro z w6 ⟨rfl, hs6⟩; have hX6 := hX5.keeps hs6 (fun h => h); have hY6 := hY5.keeps hs6 (fun h => h); have fX6 := hX6.four; have fY6 := hY6.four)
          | (go_at_call 24; refine (first_any _).mono ?_; rintro z w7 ⟨rfl, hs7⟩; have hX7 := hX6.keeps hs7 (fun h => h); have hY7 := hY6.keeps hs7 (fun h => h); have fX7 := hX7.four; have fY7 := hY7.four)))
      go_wp2
      go_ret
      exact ⟨rfl, ((((hsm2.drew.trans hs3).trans hs4).trans hs5).trans hs6).trans hs7⟩
    · obtain rfl | rfl | rfl | rfl : k = 0 ∨ k = 1 ∨ k = 2 ∨ k = 3 := by omega
      all_goals
        clear hk h0 h3
        go_wp2
        all_goals first
          | exact ⟨⟨-1, by omega, by omega, rfl, by rw [← HT.out, want0_t _ _ _ _ _ ‹(a == x) = true›], by rw [← HT.out, want0_t _ _ _ _ _ ‹(a == x) = true›]⟩, by decide⟩
          | exact ⟨⟨-1, by omega, by omega, rfl, by rw [← HT.out, want0_f _ _ _ _ _ ‹(a == x) = false›], by rw [← HT.out, want0_f _ _ _ _ _ ‹(a == x) = false›]⟩, by decide⟩
          | exact ⟨⟨0, by omega, by omega, rfl, by rw [← HT.out, want1_t _ _ _ _ _ ‹(b == x) = true›], by rw [← HT.out, want1_t _ _ _ _ _ ‹(b == x) = true›]⟩, by decide⟩
          | exact ⟨⟨0, by omega, by omega, rfl, by rw [← HT.out, want1_f _ _ _ _ _ ‹(b == x) = false›], by rw [← HT.out, want1_f _ _ _ _ _ ‹(b == x) = false›]⟩, by decide⟩
          | exact ⟨⟨1, by omega, by omega, rfl, by rw [← HT.out, want2_t _ _ _ _ _ ‹(c == x) = true›], by rw [← HT.out, want2_t _ _ _ _ _ ‹(c == x) = true›]⟩, by decide⟩
          | exact ⟨⟨1, by omega, by omega, rfl, by rw [← HT.out, want2_f _ _ _ _ _ ‹(c == x) = false›], by rw [← HT.out, want2_f _ _ _ _ _ ‹(c == x) = false›]⟩, by decide⟩
          | exact ⟨⟨2, by omega, by omega, rfl, by rw [← HT.out, want3_t _ _ _ _ _ ‹(d == x) = true›], by rw [← HT.out, want3_t _ _ _ _ _ ‹(d == x) = true›]⟩, by decide⟩
          | exact ⟨⟨2, by omega, by omega, rfl, by rw [← HT.out, want3_f _ _ _ _ _ ‹(d == x) = false›], by rw [← HT.out, want3_f _ _ _ _ _ ‹(d == x) = false›]⟩, by decide⟩
end Go.Proofs.Ythghmnaljhbggaa
