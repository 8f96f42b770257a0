/- The walks of package state, of window.At, of model.Params.Good and of model.one. -/
import Derived.Test.YtalopgbkjgjppaaGreatDoorMi
import Derived.Test.YtalopgbkjgjppaaGreatDoorLm
namespace Go.Proofs.YtalopgbkjgjppaaGreatDoor
open Go.RowKit Go.Cas Go.Cas.Enc

/-- A number's highest bit. -/
theorem bitAux_bounds : ∀ f x, 0 < x → x < 2 ^ f → 1 ≤ Lib.bitLenAux f x ∧ 2 ^ (Lib.bitLenAux f x - 1) ≤ x ∧ x < 2 ^ Lib.bitLenAux f x
  | 0, x, h0, h => by simp at h; omega
  | f + 1, x, h0, h => by
    have e : Lib.bitLenAux (f + 1) x = if x = 0 then 0 else 1 + Lib.bitLenAux f (x / 2) := rfl
    rw [e, if_neg (by omega)]
    by_cases h2 : x / 2 = 0
    · have hx : x = 1 := by omega
      subst hx
      have : Lib.bitLenAux f (1 / 2) = 0 := by show Lib.bitLenAux f 0 = 0; cases f <;> simp [Lib.bitLenAux]
      rw [this]; decide
    · obtain ⟨h3, h4, h5⟩ := bitAux_bounds f (x / 2) (by omega) (by rw [Nat.pow_succ] at h; omega)
      refine ⟨by omega, ?_, ?_⟩
      · rw [show 1 + Lib.bitLenAux f (x / 2) - 1 = (Lib.bitLenAux f (x / 2) - 1) + 1 from by omega, Nat.pow_succ]; omega
      · rw [Nat.add_comm, Nat.pow_succ]; omega

/-- The slot of a distance less one. -/
def slotN (d : Nat) : Nat := if d < 4 then d else 2 * (Lib.bitLen d - 1) + d / 2 ^ (Lib.bitLen d - 1 - 1) % 2
/-- A slot's least number, how many bits more. -/
def baseN (s : Nat) : Nat × Nat := if 64 ≤ s then (0, 0) else if s < 4 then (s, 0) else ((2 + s % 2) * 2 ^ (s / 2 - 1), s / 2 - 1)

theorem slot_base {d : Nat} (h : d < 4294967296) : slotN d < 64 ∧ (baseN (slotN d)).1 ≤ d ∧ d < (baseN (slotN d)).1 + 2 ^ (baseN (slotN d)).2 ∧ (baseN (slotN d)).2 ≤ 30 ∧ (14 ≤ slotN d → 6 ≤ (baseN (slotN d)).2) := by
  by_cases h4 : d < 4
  · have e : slotN d = d := by unfold slotN; rw [if_pos h4]
    rw [e]
    have e2 : baseN d = (d, 0) := by unfold baseN; rw [if_neg (by omega), if_pos h4]
    rw [e2]
    dsimp only
    omega
  · obtain ⟨h1, h2, h3⟩ := bitAux_bounds 64 d (by omega) (by omega)
    have hb : Lib.bitLen d = Lib.bitLenAux 64 d := rfl
    rw [← hb] at h1 h2 h3
    have hle : Lib.bitLen d ≤ 32 := by
      refine Decidable.byContradiction fun hc => ?_
      have : 2 ^ 32 ≤ 2 ^ (Lib.bitLen d - 1) := Nat.pow_le_pow_right (by decide) (by omega)
      omega
    have hge : 3 ≤ Lib.bitLen d := by
      refine Decidable.byContradiction fun hc => ?_
      have : 2 ^ Lib.bitLen d ≤ 2 ^ 2 := Nat.pow_le_pow_right (by decide) (by omega)
      omega
    obtain ⟨k, hk⟩ : ∃ k, Lib.bitLen d = k + 2 := ⟨Lib.bitLen d - 2, by omega⟩
    have e : slotN d = 2 * (k + 1) + d / 2 ^ k % 2 := by
      unfold slotN; rw [if_neg h4, hk]; rfl
    rw [hk] at h2 h3 hle hge
    have p1 : 2 ^ (k + 2 - 1) = 2 * 2 ^ k := by rw [show k + 2 - 1 = k + 1 from by omega, Nat.pow_succ]; omega
    have p2 : 2 ^ (k + 2) = 4 * 2 ^ k := by rw [Nat.pow_succ, Nat.pow_succ]; omega
    rw [p1] at h2
    rw [p2] at h3
    have hp : 0 < 2 ^ k := Nat.pow_pos (by decide)
    have hq1 : 2 ≤ d / 2 ^ k := (Nat.le_div_iff_mul_le hp).2 h2
    have hq2 : d / 2 ^ k < 4 := (Nat.div_lt_iff_lt_mul hp).2 h3
    have hdm := Nat.div_add_mod d (2 ^ k)
    have hml := Nat.mod_lt d hp
    obtain ⟨b, hb2⟩ : ∃ b, d / 2 ^ k % 2 = b := ⟨_, rfl⟩
    have hq : d / 2 ^ k = 2 + b := by omega
    rw [hb2] at e
    have hb1 : b ≤ 1 := by omega
    rw [e]
    have e2 : baseN (2 * (k + 1) + b) = ((2 + b) * 2 ^ k, k) := by
      unfold baseN
      rw [if_neg (by omega), if_neg (by omega), show (2 * (k + 1) + b) % 2 = b from by omega, show (2 * (k + 1) + b) / 2 - 1 = k from by omega]
    rw [e2]
    dsimp only
    rw [hq, Nat.mul_comm] at hdm
    omega

set_option maxHeartbeats 2000000 in
theorem slot_any (d : Nat) (w : World) (h : d < 4294967296) :
    Calls Tryz.prog 111 #[v32 d] w fun e w' => e = .returned (i6 (slotN d)) ∧ w' = w := by
  by_cases h4 : d < 4
  · have e : slotN d = d := by unfold slotN; rw [if_pos h4]
    rw [e]
    have d0 : decide ((d : Int) < 4) = true := by simp; omega
    clear e
    go_enter Tryz.func111, Tryz.ntmps111
    go_wp2_with fail
    go_ret
    exact ⟨rfl, rfl⟩
  · have hsb := slot_base h
    have HL := hid (fun w0 => len32_any (d : Int) w0 (by omega) (by omega))
    rw [Int.toNat_natCast] at HL
    have hs : slotN d = 2 * (Lib.bitLen d - 1) + d / 2 ^ (Lib.bitLen d - 1 - 1) % 2 := by unfold slotN; rw [if_neg h4]
    obtain ⟨h1, h2, h3⟩ := bitAux_bounds 64 d (by omega) (by omega)
    have hb : Lib.bitLen d = Lib.bitLenAux 64 d := rfl
    rw [← hb] at h1 h2 h3
    have hge : 3 ≤ Lib.bitLen d := by
      refine Decidable.byContradiction fun hc => ?_
      have : 2 ^ Lib.bitLen d ≤ 2 ^ 2 := Nat.pow_le_pow_right (by decide) (by omega)
      omega
    have hle := Lib.bitLen_le d 32 (by decide) h
    obtain ⟨k, hk⟩ : ∃ k, Lib.bitLen d = k + 2 := ⟨Lib.bitLen d - 2, by omega⟩
    rw [hk] at HL hs hge hle
    obtain ⟨q, hq⟩ : ∃ q, d / 2 ^ k = q := ⟨_, rfl⟩
    have hs2 : slotN d = 2 * (k + 1) + q % 2 := by rw [hs, show k + 2 - 1 = k + 1 from rfl, show k + 1 - 1 = k from rfl, hq]
    rw [hs2]
    obtain ⟨b, hb2⟩ : ∃ b, q % 2 = b := ⟨_, rfl⟩
    have hql : q < 2 ^ 32 := by rw [← hq]; exact Nat.lt_of_le_of_lt (Nat.div_le_self _ _) h
    have e2 := and1_u32 q hql
    rw [hb2] at e2 ⊢
    have hb1 : b ≤ 1 := by omega
    have d0 : decide ((d : Int) < 4) = false := by simp; omega
    obtain ⟨k1, hk1⟩ : ∃ k1, k + 1 = k1 := ⟨_, rfl⟩
    obtain ⟨k2, hk2⟩ : ∃ k2, k + 2 = k2 := ⟨_, rfl⟩
    rw [hk2] at HL
    rw [hk1]
    have c1 : (k2 : Int) - 1 = (k1 : Int) := by omega
    have c2 : (k1 : Int) - 1 = (k : Int) := by omega
    have c3 : (d : Int) / 2 ^ k = (q : Int) := by rw [← hq]; push_cast; rfl
    have k3 : k2 ≤ 32 := by omega
    have k4 : k1 ≤ 32 := by omega
    have k5 : k ≤ 32 := by omega
    have c5 : (k2 : Int) ≤ 32 := by omega
    clear hs hs2 hsb hb h1 h2 h3 hq hb2 hk hk1 hk2 hql hge hle h4
    go_enter Tryz.func111, Tryz.ntmps111
    go_wp2_with (go_at_call 98; refine (HL.out _).mono ?_; rintro z w2 ⟨rfl, rfl⟩)
    go_ret
    exact ⟨by congr 1, rfl⟩

set_option maxHeartbeats 2000000 in
theorem base_any (s : Nat) (w : World) (h : s < 64) :
    Calls Tryz.prog 62 #[i6 s] w fun e w' => e = .returned (.tuple #[v32 (baseN s).1, i6 (baseN s).2]) ∧ w' = w := by
  have d0 : decide ((s : Int) < 0) = false := by simp
  have d1 : decide ((s : Int) ≥ 64) = false := by simp; omega
  by_cases h4 : s < 4
  · have e : baseN s = (s, 0) := by unfold baseN; rw [if_neg (by omega), if_pos h4]
    rw [e]
    have d2 : decide ((s : Int) < 4) = true := by simp; omega
    clear e
    go_enter Tryz.func62, Tryz.ntmps62
    go_wp2_with fail
    go_ret2
    exact ⟨rfl, rfl⟩
  · have e : baseN s = ((2 + s % 2) * 2 ^ (s / 2 - 1), s / 2 - 1) := by unfold baseN; rw [if_neg (by omega), if_neg h4]
    rw [e]
    obtain ⟨hf, hhf⟩ : ∃ hf, s / 2 = hf := ⟨_, rfl⟩
    obtain ⟨k, hk⟩ : ∃ k, hf - 1 = k := ⟨_, rfl⟩
    obtain ⟨r, hr⟩ : ∃ r, s % 2 = r := ⟨_, rfl⟩
    obtain ⟨t, ht⟩ : ∃ t, 2 + r = t := ⟨_, rfl⟩
    have hp : (2 : Nat) ^ k ≤ 2 ^ 30 := Nat.pow_le_pow_right (by decide) (by omega)
    obtain ⟨K, hK⟩ : ∃ K, (2 : Nat) ^ k = K := ⟨_, rfl⟩
    obtain ⟨v, hv⟩ : ∃ v, t * K = v := ⟨_, rfl⟩
    rw [hhf, hr, hk, ht, hK, hv]
    rw [hK] at hp
    have hvl : v < 4294967296 := by
      rw [← hv]
      have : t * K ≤ 3 * 1073741824 := Nat.mul_le_mul (by omega) (by omega)
      omega
    have d2 : decide ((s : Int) < 4) = false := by simp; omega
    have c1 : (s : Int) / 2 = (hf : Int) := by omega
    have c2 : (hf : Int) - 1 = (k : Int) := by omega
    have c3 : (s : Int) % 2 = (r : Int) := by omega
    have c4 : (2 : Int) + (r : Int) = (t : Int) := by omega
    have c5 : (t : Int) * 2 ^ k = (v : Int) := by rw [← hv, ← hK]; push_cast; rfl
    have c6 : k ≤ 30 ∧ t ≤ 3 ∧ hf ≤ 32 ∧ r ≤ 1 := by omega
    have c7 : (v : Int) < 4294967296 := by omega
    have c8 : (v : Int) % 4294967296 = (v : Int) := by omega
    clear e hhf hk hr ht hK hv hp h4 hvl
    go_enter Tryz.func62, Tryz.ntmps62
    go_wp2_with fail
    go_ret2
    refine ⟨?_, rfl⟩
    first | rfl | (congr 3; rw [c8])

def classN (n : Nat) : Nat := if n < 2 then 0 else if 6 ≤ n then 3 else n - 2

set_option maxHeartbeats 1000000 in
theorem class_any (n : Nat) (w : World) (h : n ≤ 1000000) :
    Calls Tryz.prog 110 #[i6 n] w fun e w' => e = .returned (i6 (classN n)) ∧ w' = w := by
  unfold classN
  by_cases h2 : n < 2
  · rw [if_pos h2]
    have d0 : decide ((n : Int) < 2) = true := by simp; omega
    go_enter Tryz.func110, Tryz.ntmps110
    go_wp2_with fail
    go_ret
    exact ⟨rfl, rfl⟩
  · rw [if_neg h2]
    have d0 : decide ((n : Int) < 2) = false := by simp; omega
    by_cases h6 : 6 ≤ n
    · rw [if_pos h6]
      have d1 : decide ((n : Int) ≥ 6) = true := by simp; omega
      go_enter Tryz.func110, Tryz.ntmps110
      go_wp2_with fail
      go_ret
      exact ⟨rfl, rfl⟩
    · rw [if_neg h6]
      have d1 : decide ((n : Int) ≥ 6) = false := by simp; omega
      obtain ⟨k, hk⟩ : ∃ k, n - 2 = k := ⟨_, rfl⟩
      rw [hk]
      have c : (n : Int) - 2 = (k : Int) := by omega
      clear hk
      go_enter Tryz.func110, Tryz.ntmps110
      go_wp2_with fail
      go_ret
      exact ⟨rfl, rfl⟩

set_option maxHeartbeats 1000000 in
theorem literal_any (s : Nat) (w : World) :
    Calls Tryz.prog 105 #[i6 s] w fun e w' => e = .returned (.bool (decide (s < 7))) ∧ w' = w := by
  by_cases h : s < 7
  · have d0 : decide ((s : Int) < 7) = true := by simp; omega
    have d1 : decide (s < 7) = true := by simpa using h
    rw [d1]
    clear d1 h
    go_enter Tryz.func105, Tryz.ntmps105
    go_wp2_with fail
    go_ret
    exact ⟨rfl, rfl⟩
  · have d0 : decide ((s : Int) < 7) = false := by simp; omega
    have d1 : decide (s < 7) = false := by simpa using h
    rw [d1]
    clear d1 h
    go_enter Tryz.func105, Tryz.ntmps105
    go_wp2_with fail
    go_ret
    exact ⟨rfl, rfl⟩

/-- What the variable state.behind holds. -/
def behindL : List Int := [0, 0, 0, 0, 7, 10, 8, 11, 9, 11]
def Behind (w : World) : Prop := 0 < w.heap.size ∧ ∀ j, j < 10 → w.cell? ⟨0, j, none⟩ = some (i6 (behindL[j]?.getD 0))
theorem Behind.keeps {S : Nat → Prop} {w w' : World} (h : Behind w) (k : Keeps S w w') (hn : ¬ S 0) : Behind w' :=
  ⟨Nat.lt_of_lt_of_le h.1 k.size, fun j hj => (k.cell (p := ⟨0, j, none⟩) h.1 hn).trans (h.2 j hj)⟩

def nextS (s k : Nat) : Nat :=
  if k = 1 then (if s < 4 then 0 else if s < 10 then s - 3 else s - 6)
  else if s < 7 then k + 5 else if k = 2 then 10 else 11
theorem nextS_lt {s k : Nat} (h : s < 12) (h1 : 1 ≤ k) (h4 : k ≤ 4) : nextS s k < 12 := by
  unfold nextS
  split
  · split
    · omega
    · split <;> omega
  · split
    · omega
    · split <;> omega

set_option maxHeartbeats 4000000 in
theorem snext_any (s k : Nat) (w : World) (hs : s < 12) (h1 : 1 ≤ k) (h4 : k ≤ 4) (hb : Behind w) :
    Calls Tryz.prog 92 #[i6 s, i6 k] w fun e w' => e = .returned (i6 (nextS s k)) ∧ w' = w := by
  have HLit := hid (literal_any s)
  by_cases hk : k = 1
  · subst hk
    have e : nextS s 1 = if s < 4 then 0 else if s < 10 then s - 3 else s - 6 := by unfold nextS; rw [if_pos rfl]
    rw [e]
    by_cases a : s < 4
    · rw [if_pos a]
      have d0 : decide ((s : Int) < 4) = true := by simp; omega
      clear e
      go_enter Tryz.func92, Tryz.ntmps92
      go_wp2_with fail
      go_ret
      exact ⟨rfl, rfl⟩
    · rw [if_neg a]
      have d0 : decide ((s : Int) < 4) = false := by simp; omega
      by_cases b : s < 10
      · rw [if_pos b]
        have d1 : decide ((s : Int) < 10) = true := by simp; omega
        obtain ⟨r, hr⟩ : ∃ r, s - 3 = r := ⟨_, rfl⟩
        rw [hr]
        have c : (s : Int) - 3 = (r : Int) := by omega
        clear hr e
        go_enter Tryz.func92, Tryz.ntmps92
        go_wp2_with fail
        go_ret
        exact ⟨rfl, rfl⟩
      · rw [if_neg b]
        have d1 : decide ((s : Int) < 10) = false := by simp; omega
        obtain ⟨r, hr⟩ : ∃ r, s - 6 = r := ⟨_, rfl⟩
        rw [hr]
        have c : (s : Int) - 6 = (r : Int) := by omega
        clear hr e
        go_enter Tryz.func92, Tryz.ntmps92
        go_wp2_with fail
        go_ret
        exact ⟨rfl, rfl⟩
  · have e : nextS s k = if s < 7 then k + 5 else if k = 2 then 10 else 11 := by unfold nextS; rw [if_neg hk]
    rw [e]
    have hk2 : k = 2 ∨ k = 3 ∨ k = 4 := by omega
    have c4 := hb.2 4 (by decide)
    have c5 := hb.2 5 (by decide)
    have c6 := hb.2 6 (by decide)
    have c7 := hb.2 7 (by decide)
    have c8 := hb.2 8 (by decide)
    have c9 := hb.2 9 (by decide)
    simp only [behindL, List.getElem?_cons_succ, List.getElem?_cons_zero, Option.getD_some] at c4 c5 c6 c7 c8 c9
    by_cases a : s < 7
    · rw [if_pos a]
      have d1 : decide (s < 7) = true := by simpa using a
      rw [d1] at HLit
      clear e hb d1 a
      rcases hk2 with rfl | rfl | rfl
      all_goals
        go_enter Tryz.func92, Tryz.ntmps92
        go_wp2_with (go_at_call 105; refine (HLit.out _).mono ?_; rintro z w2 ⟨rfl, rfl⟩)
        go_ret
        exact ⟨rfl, rfl⟩
    · rw [if_neg a]
      have d1 : decide (s < 7) = false := by simpa using a
      rw [d1] at HLit
      clear e hb d1 a
      rcases hk2 with rfl | rfl | rfl
      all_goals
        go_enter Tryz.func92, Tryz.ntmps92
        go_wp2_with (go_at_call 105; refine (HLit.out _).mono ?_; rintro z w2 ⟨rfl, rfl⟩)
        go_ret
        exact ⟨rfl, rfl⟩
end Go.Proofs.YtalopgbkjgjppaaGreatDoor
