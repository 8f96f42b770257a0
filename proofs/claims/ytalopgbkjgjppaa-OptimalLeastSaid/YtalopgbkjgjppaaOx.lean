/- price.Common and Good; optimal.Parse; what cassonelaw16.speaks asks. -/
import Derived.Test.YtalopgbkjgjppaaOl
import Derived.Test.YtalopgbkjgjppaaLawR
namespace Go.Proofs.Ytalopgbkjgjppaa
open Go.RowKit Go.Cas

def commonT : Tab := ⟨34, 20, 16, 36, 5⟩
theorem commonT_good : commonT.good := by unfold Tab.good okP commonT; dsimp only; omega

set_option maxHeartbeats 1000000 in
theorem common_any (w : World) : Calls Try.prog 47 #[] w fun z w' => z = .returned commonT.val ∧ Same w w' := by
  go_enter Try.func47, Try.ntmps47
  go_wp2_with fail
  refine bodyPost_ret (v := .agg #[i6 34, i6 20, i6 16, i6 36, i6 5]) (by simp [results, Try.results47, go_sem]) rfl ⟨rfl, ?_⟩
  repeat (first | exact Keeps.refl _ _ | refine Keeps.drew ?_ | refine Keeps.drewN ?_ _ | refine Keeps.alloc ?_ _ | refine Keeps.setCell ?_ (by simp; try omega) _)

def Tab.nth (t : Tab) (k : Nat) : Int := ([t.lit, t.mat, t.near, t.far, t.bit][k]?).getD 0
theorem five_cases {k : Nat} (h : k < 5) : k = 0 ∨ k = 1 ∨ k = 2 ∨ k = 3 ∨ k = 4 := by omega
theorem Tab.good_iff (t : Tab) : t.good ↔ ∀ k, k < 5 → okP (t.nth k) := by
  constructor
  · rintro ⟨h0, h1, h2, h3, h4⟩ k hk
    rcases five_cases hk with rfl | rfl | rfl | rfl | rfl
    · exact h0
    · exact h1
    · exact h2
    · exact h3
    · exact h4
  · intro h
    exact ⟨h 0 (by decide), h 1 (by decide), h 2 (by decide), h 3 (by decide), h 4 (by decide)⟩

theorem run_nth (t : Tab) (k : Nat) (hk : k < 5) (w : World) : (Instr.index 92 (.agg #[i6 t.lit, i6 t.mat, i6 t.near, i6 t.far, i6 t.bit]) (i6 (k : Int))).run Try.prog w = .ok (i6 (t.nth k)) w := by
  rcases five_cases hk with rfl | rfl | rfl | rfl | rfl <;> kernel_rfl

set_option maxHeartbeats 4000000 in
set_option maxRecDepth 100000 in
theorem pgood_any (t : Tab) (g : Bool) (hg : g = true ↔ t.good) (w : World) : Calls Try.prog 29 #[t.val] w fun z w' => z = .returned (.bool g) ∧ Same w w' := by
  have HG := hid hg
  have HI := hid (run_nth t)
  unfold Tab.val
  clear hg
  go_enter Try.func29, Try.ntmps29
  go_wp2_with fail
  go_loopw [16] (fun s16 wx => ∃ k : Nat, s16 = i6 k ∧ k ≤ 5 ∧ (∀ j, j < k → okP (t.nth j)) ∧ Same w wx) (fun s16 _ => 5 - (intOf s16).toNat)
  case atStart => exact ⟨0, rfl, by omega, fun j hj => by omega, (Keeps.refl _ _).alloc _⟩
  case round =>
    obtain ⟨k, rfl, hk, hall, hsm⟩ := hrel
    by_cases hk5 : k < 5
    · have d0 : decide ((k : Int) < 5) = true := by simp; omega
      have hix := fun w0 => HI.out k hk5 w0
      obtain ⟨x, hx⟩ : ∃ x, t.nth k = x := ⟨_, rfl⟩
      rw [hx] at hix
      have HX := hid hx
      have HA := hid hall
      clear hx hall
      by_cases h1 : x < 1
      · obtain rfl : g = false := by
          rcases Bool.eq_false_or_eq_true g with e | e
          · have := (t.good_iff.1 (HG.out.1 e)) k hk5
            rw [HX.out] at this
            unfold okP at this
            omega
          · exact e
        have d1 : decide (x < 1) = true := by simpa using h1
        go_wp2_with fail
        go_ret
        exact ⟨rfl, hsm⟩
      · have d1 : decide (x < 1) = false := by simpa using h1
        by_cases h2 : 10000 < x
        · obtain rfl : g = false := by
            rcases Bool.eq_false_or_eq_true g with e | e
            · have := (t.good_iff.1 (HG.out.1 e)) k hk5
              rw [HX.out] at this
              unfold okP at this
              omega
            · exact e
          have d2 : decide (10000 < x) = true := by simpa using h2
          have d3 : decide (x > 10000) = true := by simpa using h2
          go_wp2_with fail
          go_ret
          exact ⟨rfl, hsm⟩
        · have d2 : decide (10000 < x) = false := by simpa using h2
          have d3 : decide (x > 10000) = false := by simpa using h2
          go_wp2_with fail
          refine ⟨⟨k + 1, by go_num, by omega, fun j hj => ?_, hsm⟩, by simp [intOf]; omega⟩
          by_cases hjk : j = k
          · subst hjk; rw [HX.out]; unfold okP; omega
          · exact HA.out j (by omega)
    · obtain rfl : k = 5 := by omega
      obtain rfl : g = true := HG.out.2 (t.good_iff.2 hall)
      have d0 : decide (((5 : Nat) : Int) < 5) = false := by decide
      clear hall hk5
      go_wp2_with fail
      go_ret
      exact ⟨rfl, hsm⟩

/-- Plain tells fewer pieces than bytes. -/
def PlainLeft (w w' : World) (z : Ending) (t : Tab) (s : List UInt8) (W : Int) : Prop := ∃ O, PlainTo t s (min W 1048576) s.length O ∧ BackLeft w w' z (obackL O)
def RepLeft (w w' : World) (z : Ending) (t : Tab) (s : List UInt8) (W : Int) : Prop := ∃ O, PlainTo t s (min W 1048576) s.length O ∧ BackLeft w w' z (repeatL (obackL O))

theorem repeatL_len (l : List Pk) : (repeatL l).length = l.length := repeatGo_length l _ _

set_option maxHeartbeats 4000000 in
set_option maxRecDepth 100000 in
theorem oparse_any (s : List UInt8) (W : Int) (t : Tab) (w : World) (ht : t.good) (hs : s.length ≤ 1000000) :
    Calls Try.prog 48 #[.string ⟨s.toArray⟩, i6 W, t.val] w fun z w' => RepLeft w w' z t s W := by
  have HP := hid (fun w0 => plain_any s W t w0 ht hs)
  have HT := hid ht
  unfold Tab.val at HP ⊢
  clear ht
  go_enter Try.func48, Try.ntmps48
  go_wp2_with (first
    | (go_at_call 30; refine (HP.out _).mono ?_; rintro z w1 ⟨O, hO, q, c, rfl, hp, hs1, hb⟩; have hln := (plain_says HT.out hs hO).2.2.2.2; have HR := hid (repeat_any q c (obackL O) w1 hp (by omega)); have HO := hid hO; have HB := hid hb; clear hO hb hln)
    | (go_at_call 16; refine HR.out.mono ?_; rintro z w2 ⟨q2, c2, rfl, hs2, hp2, hg2⟩))
  go_ret
  have hsm : Same w w1 := ((Keeps.refl (fun _ => False) w).alloc _).trans hs1
  exact ⟨O, HO.out, q2, c2, by rw [repeatL_len]; rfl, hp2, hsm.trans hs2, fun b hb => by have := hg2 b hb; have := hsm.size; omega⟩
end Go.Proofs.Ytalopgbkjgjppaa
