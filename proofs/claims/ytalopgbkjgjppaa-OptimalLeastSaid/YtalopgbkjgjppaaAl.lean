/- The walks of Alike and of the document's Matches. -/
import Derived.Test.YtalopgbkjgjppaaCk
namespace Go.Proofs.Ytalopgbkjgjppaa
open Go.RowKit Go.Cas

/-- How many bytes are alike from n on; at most so many more. -/
def runL (s : List UInt8) (a b : Nat) : Nat → Nat → Nat
  | 0, n => n
  | f + 1, n => if s[a + n]? = s[b + n]? then runL s a b f (n + 1) else n

def aliN (s : List UInt8) (a b : Nat) : Nat := runL s a b (min (s.length - b) 273) 0

theorem runL_le (s : List UInt8) (a b : Nat) : ∀ f n, n ≤ runL s a b f n ∧ runL s a b f n ≤ n + f
  | 0, n => ⟨Nat.le_refl _, Nat.le_refl _⟩
  | f + 1, n => by
    unfold runL
    split
    · have := runL_le s a b f (n + 1); omega
    · omega

theorem aliN_le (s : List UInt8) (a b : Nat) : aliN s a b ≤ 273 ∧ aliN s a b ≤ s.length - b := by
  have := runL_le s a b (min (s.length - b) 273) 0
  unfold aliN
  omega

set_option maxHeartbeats 4000000 in
set_option maxRecDepth 100000 in
theorem alike_any (s : List UInt8) (a b : Nat) (w : World) (hab : a < b) (hb : b ≤ s.length) (hs : s.length ≤ 1000000) :
    Calls Try.prog 58 #[.string ⟨s.toArray⟩, i6 a, i6 b] w fun z w' => z = .returned (i6 (aliN s a b)) ∧ Same w w' := by
  have hM : ((min (s.length - b) 273 : Nat) : Int) = min ((s.length : Int) - b) 273 := by omega
  have HT := hid (show runL s a b (min (s.length - b) 273) 0 = aliN s a b from rfl)
  have hM1 : min (s.length - b) 273 ≤ s.length - b := by omega
  have hM2 : min (s.length - b) 273 ≤ 273 := by omega
  generalize min (s.length - b) 273 = M at *
  go_enter Try.func58, Try.ntmps58
  go_upto_region 2 with fail
  have hM' : (if 273 < (s.length : Int) - b then 273 else (s.length : Int) - b) = M := by split <;> omega
  rw [hM']
  clear hM hM'
  go_wp2_with fail
  go_loopw [8] (fun n wx => ∃ k : Nat, k ≤ M ∧ n = i6 k ∧ runL s a b (M - k) k = aliN s a b ∧ Same w wx) (fun n _ => M - (intOf n).toNat)
  case atStart => exact ⟨0, Nat.zero_le _, rfl, HT.out, Keeps.refl _ _⟩
  case round =>
    obtain ⟨k, hk, rfl, hr, hsm⟩ := hrel
    clear HT
    by_cases hlt : k < M
    · have h1 : a + k < s.length := by omega
      have h2 : b + k < s.length := by omega
      have e1 : s[a + k]? = some s[a + k] := by simp [h1]
      have e2 : s[b + k]? = some s[b + k] := by simp [h2]
      have i1 : (0 : Int) ≤ (a : Int) + (k : Int) ∧ (a : Int) + (k : Int) < (s.length : Int) ∧ ((a : Int) + (k : Int)).toNat = a + k ∧ IntKind.i64.wrap ((a : Int) + (k : Int)) = (a : Int) + (k : Int) := ⟨by omega, by omega, by omega, IntWalk.i64_in _ (by omega)⟩
      have i2 : (0 : Int) ≤ (b : Int) + (k : Int) ∧ (b : Int) + (k : Int) < (s.length : Int) ∧ ((b : Int) + (k : Int)).toNat = b + k ∧ IntKind.i64.wrap ((b : Int) + (k : Int)) = (b : Int) + (k : Int) := ⟨by omega, by omega, by omega, IntWalk.i64_in _ (by omega)⟩
      rw [show M - k = (M - (k + 1)) + 1 from by omega] at hr
      unfold runL at hr
      rw [e1, e2] at hr
      have hr' := hid hr
      clear hr
      go_upto_region 3 with fail
      go_quiet (fail)
      go_wp2_with fail
      · have hq := ‹((_ : Int) == _) = true›
        have heq : s[a + k] = s[b + k] := UInt8.toNat_inj.1 (Int.ofNat.inj (eq_of_beq hq))
        have hr := hr'.out
        rw [if_pos (by rw [heq])] at hr
        exact ⟨⟨k + 1, by omega, by go_num, hr, hsm.drewN _⟩, by simp [intOf]; omega⟩
      · have hq := ‹((_ : Int) == _) = false›
        have heq : ¬ s[a + k] = s[b + k] := fun h => by
          have := ne_of_beq_false hq
          exact this (congrArg (fun x : UInt8 => (x.toNat : Int)) h)
        have hr := hr'.out
        rw [if_neg (by simpa using heq)] at hr
        go_ret
        exact ⟨congrArg (fun n : Nat => Ending.returned (i6 n)) hr, hsm.drewN _⟩
    · obtain rfl : k = M := by omega
      have hr' := hid hr
      clear hr
      go_upto_region 3 with fail
      go_quiet (fail)
      go_wp2_with fail
      go_ret
      have hr := hr'.out
      rw [Nat.sub_self] at hr
      exact ⟨congrArg (fun n : Nat => Ending.returned (i6 n)) hr, hsm.drewN _⟩

set_option maxHeartbeats 4000000 in
set_option maxRecDepth 100000 in
theorem matches_any (s : List UInt8) (b d : Nat) (w : World) (hd : 1 ≤ d) (hdb : d ≤ b) (hb : b ≤ s.length) (hs : s.length ≤ 1000000) :
    Calls Try.prog 55 #[.string ⟨s.toArray⟩, i6 b, i6 d] w fun z w' => z = .returned (i6 (aliN s (b - d) b)) ∧ Same w w' := by
  obtain ⟨a, ha⟩ : ∃ a : Nat, a = b - d := ⟨_, rfl⟩
  have had : (a : Int) = (b : Int) - d := by omega
  rw [← ha]
  have HT := hid (show runL s a b (min (s.length - b) 273) 0 = aliN s a b from rfl)
  have hM : min (s.length - b) 273 = s.length - b ∨ min (s.length - b) 273 = 273 := by omega
  have hM1 : min (s.length - b) 273 ≤ s.length - b := by omega
  have hM2 : min (s.length - b) 273 ≤ 273 := by omega
  generalize min (s.length - b) 273 = M at *
  go_enter Try.func55, Try.ntmps55
  go_wp2_with fail
  go_loopw [7] (fun n wx => ∃ k : Nat, k ≤ M ∧ n = i6 k ∧ runL s a b (M - k) k = aliN s a b ∧ Same w wx) (fun n _ => M - (intOf n).toNat)
  case atStart => exact ⟨0, Nat.zero_le _, rfl, HT.out, Keeps.refl _ _⟩
  case round =>
    obtain ⟨k, hk, rfl, hr, hsm⟩ := hrel
    clear HT
    by_cases hlt : k < M
    · have h1 : a + k < s.length := by omega
      have h2 : b + k < s.length := by omega
      have e1 : s[a + k]? = some s[a + k] := by simp [h1]
      have e2 : s[b + k]? = some s[b + k] := by simp [h2]
      have i2 : (0 : Int) ≤ (b : Int) + (k : Int) ∧ (b : Int) + (k : Int) < (s.length : Int) ∧ ((b : Int) + (k : Int)).toNat = b + k ∧ IntKind.i64.wrap ((b : Int) + (k : Int)) = (b : Int) + (k : Int) := ⟨by omega, by omega, by omega, IntWalk.i64_in _ (by omega)⟩
      have i3 : decide ((k : Int) < 273) = true := by simp; omega
      obtain ⟨m, hm⟩ : ∃ m : Nat, m = a + k := ⟨_, rfl⟩
      have i5 : m < s.length := by omega
      have i7 : (b : Int) + (k : Int) - (d : Int) = (m : Int) := by omega
      have e3 : s[m]? = some s[m] := by simp [i5]
      have e4 := hid hm
      clear ha had hm
      rw [show M - k = (M - (k + 1)) + 1 from by omega] at hr
      unfold runL at hr
      rw [e1, e2] at hr
      have hr' := hid hr
      clear hr
      go_upto_region 2 with fail
      go_quiet (fail)
      go_wp2_with fail
      · have hq := ‹((_ : Int) == _) = true›
        have heq' : s[b + k] = s[m] := UInt8.toNat_inj.1 (Int.ofNat.inj (eq_of_beq hq))
        have heq : s[a + k] = s[b + k] := by rw [heq']; congr 1; exact e4.out.symm
        have hr := hr'.out
        rw [if_pos (by rw [heq])] at hr
        exact ⟨⟨k + 1, by omega, by go_num, hr, hsm.drewN _⟩, by simp [intOf]; omega⟩
      · have hq := ‹((_ : Int) == _) = false›
        have heq : ¬ s[a + k] = s[b + k] := fun h => by
          have := ne_of_beq_false hq
          have h5 : s[m] = s[a + k] := by have := e4.out; subst this; rfl
          exact this (congrArg (fun x : UInt8 => (x.toNat : Int)) (h.symm.trans h5.symm))
        have hr := hr'.out
        rw [if_neg (by simpa using heq)] at hr
        go_ret
        exact ⟨congrArg (fun n : Nat => Ending.returned (i6 n)) hr, hsm.drewN _⟩
    · obtain rfl : k = M := by omega
      have hr' := hid hr
      clear hr ha had
      by_cases hbk : (b : Int) + (k : Int) < (s.length : Int)
      · have i3 : decide ((k : Int) < 273) = false := by simp; omega
        have i4 : decide ((b : Int) + (k : Int) < (s.length : Int)) = true := by simpa using hbk
        go_upto_region 2 with fail
        go_quiet (fail)
        go_wp2_with fail
        go_ret
        have hr := hr'.out
        rw [Nat.sub_self] at hr
        exact ⟨congrArg (fun n : Nat => Ending.returned (i6 n)) hr, hsm.drewN _⟩
      · have i4 : decide ((b : Int) + (k : Int) < (s.length : Int)) = false := by simpa using hbk
        go_upto_region 2 with fail
        go_quiet (fail)
        go_wp2_with fail
        go_ret
        have hr := hr'.out
        rw [Nat.sub_self] at hr
        exact ⟨congrArg (fun n : Nat => Ending.returned (i6 n)) hr, hsm.drewN _⟩
end Go.Proofs.Ytalopgbkjgjppaa
