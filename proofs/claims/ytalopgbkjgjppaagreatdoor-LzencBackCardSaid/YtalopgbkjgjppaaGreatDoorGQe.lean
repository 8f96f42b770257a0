/- Part of a proof: Qe, Qf. -/
import Derived.Test.YtalopgbkjgjppaaGreatDoorGQa
import Derived.Test.YtalopgbkjgjppaaGreatDoorSt
import Derived.Lib.LaidTab
/- The document's states and slots, powers of two. -/
namespace Go.Proofs.YtalopgbkjgjppaaGreatDoor
open Go.RowKit Go.Cas Go.Cas.Enc

theorem meas_step {h i : Nat} (hlt : i < h) : h - (intOf (i6 ((i : Int) + 1))).toNat < h - (intOf (i6 i)).toNat := by
  simp [intOf]; omega

set_option maxHeartbeats 2000000 in
set_option maxRecDepth 100000 in
theorem r9next_any (s k : Nat) (w : World) (hs : s < 12) (h1 : 1 ≤ k) (h4 : k ≤ 4) : Calls Tryz.prog 53 #[i6 s, i6 k] w fun z w' => z = .returned (i6 (nextS s k)) ∧ w' = w := by
  have hk : k = 1 ∨ k = 2 ∨ k = 3 ∨ k = 4 := by omega
  rcases hk with rfl | rfl | rfl | rfl
  · by_cases a4 : s < 4
    · have e : nextS s 1 = 0 := by unfold nextS; rw [if_pos rfl, if_pos a4]
      rw [e]
      have d0 : decide ((s : Int) < 4) = true := by simp; omega
      clear e
      go_enter Tryz.func53, Tryz.ntmps53
      go_wp2_with fail
      go_ret
      exact ⟨rfl, rfl⟩
    · have d0 : decide ((s : Int) < 4) = false := by simp; omega
      by_cases a10 : s < 10
      · have e : nextS s 1 = s - 3 := by unfold nextS; rw [if_pos rfl, if_neg a4, if_pos a10]
        obtain ⟨t, ht⟩ : ∃ t, s - 3 = t := ⟨_, rfl⟩
        rw [e, ht]
        have d1 : decide ((s : Int) < 10) = true := by simp; omega
        have f1 : IntKind.i64.wrap ((s : Int) - 3) = (t : Int) := by rw [IntWalk.i64_in _ (by omega)]; omega
        have f2 : (s : Int) - 3 = (t : Int) := by omega
        have f3 : wrap64 (t : Int) = (t : Int) := IntWalk.wrap64_in _ (by omega)
        clear e ht a4 a10
        go_enter Tryz.func53, Tryz.ntmps53
        go_wp2_with fail
        go_ret
        exact ⟨rfl, rfl⟩
      · have e : nextS s 1 = s - 6 := by unfold nextS; rw [if_pos rfl, if_neg a4, if_neg a10]
        obtain ⟨t, ht⟩ : ∃ t, s - 6 = t := ⟨_, rfl⟩
        rw [e, ht]
        have d1 : decide ((s : Int) < 10) = false := by simp; omega
        have f1 : IntKind.i64.wrap ((s : Int) - 6) = (t : Int) := by rw [IntWalk.i64_in _ (by omega)]; omega
        have f2 : (s : Int) - 6 = (t : Int) := by omega
        have f3 : wrap64 (t : Int) = (t : Int) := IntWalk.wrap64_in _ (by omega)
        clear e ht a4 a10
        go_enter Tryz.func53, Tryz.ntmps53
        go_wp2_with fail
        go_ret
        exact ⟨rfl, rfl⟩
  all_goals
    by_cases a7 : s < 7
    · have d0 : decide ((s : Int) < 7) = true := by simp; omega
      unfold nextS
      simp only [show ¬ (2 : Nat) = 1 by decide, show ¬ (3 : Nat) = 1 by decide, show ¬ (4 : Nat) = 1 by decide, if_false, if_pos a7]
      clear a7
      go_enter Tryz.func53, Tryz.ntmps53
      go_wp2_with fail
      go_ret
      exact ⟨rfl, rfl⟩
    · have d0 : decide ((s : Int) < 7) = false := by simp; omega
      unfold nextS
      simp only [show ¬ (2 : Nat) = 1 by decide, show ¬ (3 : Nat) = 1 by decide, show ¬ (4 : Nat) = 1 by decide, show ¬ (3 : Nat) = 2 by decide, show ¬ (4 : Nat) = 2 by decide, if_false, if_neg a7, if_true]
      clear a7
      go_enter Tryz.func53, Tryz.ntmps53
      go_wp2_with fail
      go_ret
      exact ⟨rfl, rfl⟩

set_option maxHeartbeats 2000000 in
set_option maxRecDepth 100000 in
theorem r10power_any (n : Nat) (w : World) (hn : n ≤ 40) : Calls Tryz.prog 79 #[i6 n] w fun z w' => z = .returned (i6 (2 ^ n : Nat)) ∧ w' = w := by
  obtain ⟨K, hK⟩ : ∃ K, (2 : Nat) ^ n = K := ⟨_, rfl⟩
  rw [hK]
  have HK := hid hK
  clear hK
  go_enter Tryz.func79, Tryz.ntmps79
  go_wp2_with fail
  go_loopw [3, 4] (fun s3 s4 wr => ∃ (i p : Nat), s3 = i6 p ∧ s4 = i6 i ∧ i ≤ n ∧ p = 2 ^ i ∧ wr = w) (fun _ s4 _ => n - (intOf s4).toNat)
  case atStart => exact ⟨0, 1, rfl, rfl, Nat.zero_le _, rfl, rfl⟩
  case round =>
    obtain ⟨i, p, rfl, rfl, hi, hp, rfl⟩ := hrel
    have hp2 : p ≤ 1099511627776 := by rw [hp]; exact Nat.pow_le_pow_right (by decide) (Nat.le_trans hi hn)
    by_cases he : i = n
    · subst he
      have d0 : decide ((i : Int) < (i : Int)) = false := by simp
      have HE := hid (hp.trans HK.out)
      clear hp
      go_wp2_with fail
      go_ret
      rw [HE.out]
      exact ⟨rfl, rfl⟩
    · have hlt : i < n := by omega
      have d0 : decide ((i : Int) < (n : Int)) = true := by simpa using hlt
      obtain ⟨p2, hpp⟩ : ∃ p2, p * 2 = p2 := ⟨_, rfl⟩
      have f1 : (p : Int) * 2 = (p2 : Int) := by rw [← hpp]; push_cast; rfl
      have f2 : IntKind.i64.wrap (p2 : Int) = (p2 : Int) := IntWalk.i64_in _ (by omega)
      have f3 : wrap64 (p2 : Int) = (p2 : Int) := IntWalk.wrap64_in _ (by omega)
      have fi : IntKind.i64.wrap ((i : Int) + 1) = (i : Int) + 1 := IntWalk.i64_in _ (by omega)
      have HP := hid (show p2 = 2 ^ (i + 1) by rw [← hpp, hp, Nat.pow_succ])
      clear hp hpp he
      go_wp2_with fail
      exact ⟨⟨i + 1, p2, rfl, by go_num, by omega, HP.out, trivial⟩, by simp [intOf]; omega⟩

set_option maxHeartbeats 2000000 in
set_option maxRecDepth 100000 in
theorem r9slot_any (d : Nat) (w : World) (hd : d < 4294967296) : Calls Tryz.prog 81 #[v64 d] w fun z w' => (∃ r : Nat, z = .returned (i6 r) ∧ r < 64) ∧ w' = w := by
  by_cases h4 : d < 4
  · have d0 : decide ((d : Int) < 4) = true := by simp; omega
    have f1 : IntKind.i64.wrap (d : Int) = (d : Int) := IntWalk.i64_in _ (by omega)
    go_enter Tryz.func81, Tryz.ntmps81
    go_wp2_with fail
    go_ret
    exact ⟨⟨d, rfl, by omega⟩, rfl⟩
  · have d0 : decide ((d : Int) < 4) = false := by simp; omega
    go_enter Tryz.func81, Tryz.ntmps81
    go_wp2_with fail
    go_loopw [3, 4] (fun s3 s4 wr => ∃ (i p : Nat), s3 = i6 i ∧ s4 = v64 p ∧ p = 2 ^ i ∧ p ≤ d ∧ wr = w) (fun _ s4 _ => d + 1 - (intOf s4).toNat)
    case atStart => exact ⟨0, 1, rfl, rfl, rfl, by omega, rfl⟩
    case round =>
      obtain ⟨i, p, rfl, rfl, hp, hpd, rfl⟩ := hrel
      have hi : i < 32 := by
        rcases Nat.lt_or_ge i 32 with h | h
        · exact h
        · have : 2 ^ 32 ≤ 2 ^ i := Nat.pow_le_pow_right (by decide) h
          omega
      have hp0 : 0 < p := by rw [hp]; exact Nat.pow_pos (by decide)
      obtain ⟨p2, hpp⟩ : ∃ p2, p * 2 = p2 := ⟨_, rfl⟩
      have f1 : (p : Int) * 2 = (p2 : Int) := by rw [← hpp]; push_cast; rfl
      have f1' : 2 * (p : Int) = (p2 : Int) := by omega
      have f2 : IntKind.u64.wrap (p2 : Int) = (p2 : Int) := wr_u64' _ (by omega) (by omega)
      by_cases hle : p2 ≤ d
      · have d1 : decide ((p2 : Int) ≤ (d : Int)) = true := by simpa using hle
        have fi : IntKind.i64.wrap ((i : Int) + 1) = (i : Int) + 1 := IntWalk.i64_in _ (by omega)
        have HP := hid (show p2 = 2 ^ (i + 1) by rw [← hpp, hp, Nat.pow_succ])
        have HQ := hid (show p < p2 by omega)
        clear hp hpp
        go_wp2_with fail
        exact ⟨⟨i + 1, p2, by go_num, rfl, HP.out, hle, trivial⟩, by have := HQ.out; simp [intOf]; omega⟩
      · have d1 : decide ((p2 : Int) ≤ (d : Int)) = false := by simp; omega
        obtain ⟨ph, hph⟩ : ∃ ph, p / 2 = ph := ⟨_, rfl⟩
        obtain ⟨q, hq⟩ : ∃ q, p + ph = q := ⟨_, rfl⟩
        have g1 : (p : Int) / 2 = (ph : Int) := by rw [← hph]; rfl
        have g2 : IntKind.u64.wrap (ph : Int) = (ph : Int) := wr_u64' _ (by omega) (by omega)
        have g3 : (p : Int) + (ph : Int) = (q : Int) := by omega
        have g4 : IntKind.u64.wrap (q : Int) = (q : Int) := wr_u64' _ (by omega) (by omega)
        have i1 : IntKind.i64.wrap (2 * (i : Int)) = 2 * (i : Int) := IntWalk.i64_in _ (by omega)
        have i2 : IntKind.i64.wrap (2 * (i : Int) + 1) = 2 * (i : Int) + 1 := IntWalk.i64_in _ (by omega)
        clear hp hpp hph hq
        by_cases hge : q ≤ d
        · have d2 : decide ((d : Int) ≥ (q : Int)) = true := by simpa using hge
          have d2' : decide ((q : Int) ≤ (d : Int)) = true := by simpa using hge
          go_wp2_with fail
          go_ret
          exact ⟨⟨2 * i + 1, by congr 1, by omega⟩, rfl⟩
        · have d2 : decide ((d : Int) ≥ (q : Int)) = false := by simp; omega
          have d2' : decide ((q : Int) ≤ (d : Int)) = false := by simp; omega
          go_wp2_with fail
          go_ret
          exact ⟨⟨2 * i, by congr 1, by omega⟩, rfl⟩
end Go.Proofs.YtalopgbkjgjppaaGreatDoor

/- The document's bases of slots; its model in memory; a bit by a name. -/
namespace Go.Proofs.YtalopgbkjgjppaaGreatDoor
open Go.RowKit Go.Cas Go.Cas.Enc

theorem i64_succ31 {i : Nat} (h : i < 31) : IntKind.i64.wrap ((i : Int) + 1) = (i : Int) + 1 := IntWalk.i64_in _ (by omega)

set_option maxHeartbeats 2000000 in
set_option maxRecDepth 100000 in
theorem r9base_any (s : Nat) (w : World) (hs : s < 64) : Calls Tryz.prog 82 #[i6 s] w fun z w' => (∃ b n : Nat, z = .returned (.tuple #[v64 b, i6 n]) ∧ b < 18446744073709551616 ∧ n ≤ 31 ∧ (s < 14 → n ≤ 6)) ∧ w' = w := by
  by_cases h4 : s < 4
  · have d0 : decide ((s : Int) < 4) = true := by simp; omega
    have f1 : IntKind.u64.wrap (s : Int) = (s : Int) := wr_u64' _ (by omega) (by omega)
    go_enter Tryz.func82, Tryz.ntmps82
    go_wp2_with fail
    go_ret2
    exact ⟨⟨s, 0, rfl, by omega, by omega, fun _ => by omega⟩, rfl⟩
  · have d0 : decide ((s : Int) < 4) = false := by simp; omega
    obtain ⟨h, hh⟩ : ∃ h, s / 2 = h := ⟨_, rfl⟩
    have hh2 : 2 ≤ h ∧ h ≤ 31 := by clear d0; omega
    have hm2 : s % 2 ≤ 1 := by clear d0; omega
    obtain ⟨t, ht, ht2⟩ : ∃ t : Nat, (h : Int) - 1 = t ∧ (t ≤ 31 ∧ (s < 14 → t ≤ 6)) := ⟨h - 1, by clear d0; omega, by clear d0; omega⟩
    have HT2 := hid ht2
    clear ht2
    have f1 : (s : Int) / 2 = (h : Int) := by omega
    have f1' : Int.tdiv (s : Int) 2 = (h : Int) := by rw [Int.tdiv_eq_ediv_of_nonneg (by omega)]; exact f1
    have f2 : IntKind.i64.wrap (h : Int) = (h : Int) := IntWalk.i64_in _ (by omega)
    have f3 : wrap64 (h : Int) = (h : Int) := IntWalk.wrap64_in _ (by omega)
    have f4 : IntKind.i64.wrap (t : Int) = (t : Int) := IntWalk.i64_in _ (by have := HT2.out; omega)
    obtain ⟨m, hm⟩ : ∃ m, s % 2 = m := ⟨_, rfl⟩
    rw [hm] at hm2
    have g1 : (s : Int) % 2 = (m : Int) := by omega
    have g1' : Int.tmod (s : Int) 2 = (m : Int) := by rw [Int.tmod_eq_emod_of_nonneg (by omega)]; exact g1
    have g2 : IntKind.i64.wrap (m : Int) = (m : Int) := IntWalk.i64_in _ (by omega)
    have g3 : wrap64 (m : Int) = (m : Int) := IntWalk.wrap64_in _ (by omega)
    clear hh hm
    go_enter Tryz.func82, Tryz.ntmps82
    go_wp2_with fail
    go_loopw [4, 5] (fun s4 s5 wr => ∃ (i p : Nat), s4 = v64 p ∧ s5 = i6 i ∧ i ≤ h ∧ p = 2 ^ i ∧ wr = w) (fun _ s5 _ => h - (intOf s5).toNat)
    case atStart => exact ⟨0, 1, rfl, rfl, Nat.zero_le _, rfl, rfl⟩
    case round =>
      obtain ⟨i, p, rfl, rfl, hi, hp, rfl⟩ := hrel
      have hp2 : p ≤ 2147483648 := by
        have h31 : i ≤ 31 := Nat.le_trans hi hh2.2
        have := Nat.pow_le_pow_right (n := 2) (by decide) h31
        rw [← hp] at this
        exact Nat.le_trans this (by decide)
      have HPP := hid hp
      clear hp
      by_cases he : i = h
      · subst he
        have d1 : decide ((i : Int) < (i : Int)) = false := by simp
        obtain ⟨ph, hph⟩ : ∃ ph, p / 2 = ph := ⟨_, rfl⟩
        obtain ⟨q, hq⟩ : ∃ q, p + ph = q := ⟨_, rfl⟩
        have k1 : (p : Int) / 2 = (ph : Int) := by rw [← hph]; rfl
        have k2 : IntKind.u64.wrap (ph : Int) = (ph : Int) := wr_u64' _ (by omega) (by omega)
        have k3 : (p : Int) + (ph : Int) = (q : Int) := by omega
        have k4 : IntKind.u64.wrap (q : Int) = (q : Int) := wr_u64' _ (by omega) (by omega)
        have hq2 : q < 18446744073709551616 := by omega
        clear hph hq
        by_cases hm1 : m = 1
        · subst hm1
          go_wp2_with fail
          go_ret2
          exact ⟨⟨q, t, rfl, hq2, HT2.out⟩, rfl⟩
        · have t0 : ((m : Int) == 1) = false := by simp; omega
          go_wp2_with fail
          go_ret2
          exact ⟨⟨p, t, rfl, by omega, HT2.out⟩, rfl⟩
      · have hlt : i < h := by omega
        have d1 : decide ((i : Int) < (h : Int)) = true := by simpa using hlt
        obtain ⟨p2, hpp⟩ : ∃ p2, p * 2 = p2 := ⟨_, rfl⟩
        have k1 : (p : Int) * 2 = (p2 : Int) := by rw [← hpp]; push_cast; rfl
        have k2 : IntKind.u64.wrap (p2 : Int) = (p2 : Int) := wr_u64' _ (by omega) (by omega)
        have fi := i64_succ31 (Nat.lt_of_lt_of_le hlt hh2.2)
        have HP := hid (show p2 = 2 ^ (i + 1) by rw [← hpp, HPP.out, Nat.pow_succ])
        clear hpp he
        go_wp2_with fail
        exact ⟨⟨i + 1, p2, rfl, by go_num, Nat.succ_le_of_lt hlt, HP.out, trivial⟩, meas_step hlt⟩
end Go.Proofs.YtalopgbkjgjppaaGreatDoor
