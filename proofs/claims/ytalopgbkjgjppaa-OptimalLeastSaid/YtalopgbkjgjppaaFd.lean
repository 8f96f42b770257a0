/- What is found at a place, as the document has it; the chain's next place skips only what is no candidate. -/
import Derived.Test.YtalopgbkjgjppaaAl
namespace Go.Proofs.Ytalopgbkjgjppaa
open Go.RowKit Go.Cas

/-- From the distance d on, at most so many more; the best till now; how many candidates were seen. -/
def foundGo (s : List UInt8) (i : Nat) (W C : Int) : Nat → Nat → Nat → Nat → List (Nat × Nat)
  | 0, _, _, _ => []
  | f + 1, d, best, seen =>
    if (d : Int) ≤ W ∧ (seen : Int) < C then
      if i + 3 ≤ s.length ∧ k3 s (i - d) = k3 s i then
        if best < aliN s (i - d) i then (aliN s (i - d) i, d) :: foundGo s i W C f (d + 1) (aliN s (i - d) i) (seen + 1) else foundGo s i W C f (d + 1) best (seen + 1)
      else foundGo s i W C f (d + 1) best seen
    else []

def foundL (s : List UInt8) (i : Nat) (W C : Int) : List (Nat × Nat) := foundGo s i W C i 1 0 0

theorem foundGo_stop (s : List UInt8) (i : Nat) (W C : Int) (f d best seen : Nat) (h : ¬ ((d : Int) ≤ W ∧ (seen : Int) < C)) : foundGo s i W C f d best seen = [] := by
  cases f with
  | zero => rfl
  | succ f => unfold foundGo; rw [if_neg h]

theorem foundGo_skip (s : List UInt8) (i : Nat) (W C : Int) (f best seen : Nat) : ∀ m d, (∀ j, j < m → ¬ (i + 3 ≤ s.length ∧ k3 s (i - (d + j)) = k3 s i)) → foundGo s i W C (m + f) d best seen = foundGo s i W C f (d + m) best seen
  | 0, d, _ => by rw [Nat.zero_add]; rfl
  | m + 1, d, h => by
    by_cases hc : (d : Int) ≤ W ∧ (seen : Int) < C
    · rw [show m + 1 + f = (m + f) + 1 from by omega, foundGo, if_pos hc, if_neg (by have := h 0 (by omega); simpa using this)]
      rw [foundGo_skip s i W C f best seen m (d + 1) (fun j hj => by have := h (j + 1) (by omega); rw [show d + 1 + j = d + (j + 1) from by omega]; exact this)]
      rw [show d + 1 + m = d + (m + 1) from by omega]
    · rw [foundGo_stop _ _ _ _ _ _ _ _ hc, foundGo_stop _ _ _ _ _ _ _ _ (by omega)]

/-- What is left to be found where the chain stands at the place k (or at its end). -/
def restC (s : List UInt8) (i : Nat) (W C : Int) (k : Int) (best seen : Nat) : List (Nat × Nat) :=
  if k < 0 then [] else foundGo s i W C (k.toNat + 1) (i - k.toNat) best seen

/-- From the place p (or from the looked-at place itself) to the one ahead of it in the chain. -/
theorem rest_next (s : List UInt8) (i : Nat) (W C : Int) (p best seen : Nat) (hp : p ≤ i) (hK : p + 3 ≤ s.length → i + 3 ≤ s.length ∧ k3 s p = k3 s i) (hS : ¬ p + 3 ≤ s.length → ¬ i + 3 ≤ s.length) :
    foundGo s i W C p (i - p + 1) best seen = restC s i W C (prevO s p) best seen := by
  unfold prevO restC
  by_cases hl : p + 3 ≤ s.length
  · obtain ⟨hil, hk⟩ := hK hl
    rw [if_pos hl]
    cases ho : lastK s (k3 s p) p with
    | none =>
      dsimp only
      rw [if_pos (by decide)]
      have := foundGo_skip s i W C 0 best seen p (i - p + 1) (fun j hj => by
        have := lastK_none s (k3 s p) p (p - 1 - j) (fun q hq => by rw [ho] at hq; cases hq) (by omega)
        rw [← hk, show i - (i - p + 1 + j) = p - 1 - j from by omega]
        intro h
        exact this ⟨by omega, h.2⟩)
      rw [Nat.add_zero] at this
      rw [this]; rfl
    | some r =>
      obtain ⟨h1, h2, h3⟩ := lastK_lt s _ _ _ ho
      dsimp only
      rw [if_neg (by omega), Int.toNat_natCast]
      have := foundGo_skip s i W C (r + 1) best seen (p - 1 - r) (i - p + 1) (fun j hj => by
        have := lastK_none s (k3 s p) p (p - 1 - j) (fun q hq => by rw [ho] at hq; cases hq; omega) (by omega)
        rw [← hk, show i - (i - p + 1 + j) = p - 1 - j from by omega]
        intro h
        exact this ⟨by omega, h.2⟩)
      rw [show p - 1 - r + (r + 1) = p from by omega] at this
      rw [this, show i - p + 1 + (p - 1 - r) = i - r from by omega]
  · rw [if_neg hl, if_pos (by decide)]
    have := foundGo_skip s i W C 0 best seen p (i - p + 1) (fun j hj => fun h => hS hl h.1)
    rw [Nat.add_zero] at this
    rw [this]; rfl

theorem found_start (s : List UInt8) (i : Nat) (W C : Int) : foundL s i W C = restC s i W C (prevO s i) 0 0 := by
  have := rest_next s i W C i 0 0 (Nat.le_refl _) (fun h => ⟨h, rfl⟩) (fun h => h)
  rw [Nat.sub_self] at this
  exact this

/-- At a candidate. -/
theorem rest_step (s : List UInt8) (i : Nat) (W C : Int) (p best seen : Nat) (hp : p < i) (hl : p + 3 ≤ s.length) (hil : i + 3 ≤ s.length) (hk : k3 s p = k3 s i) :
    restC s i W C p best seen = if ((i : Int) - p ≤ W ∧ (seen : Int) < C) then
      (if best < aliN s p i then (aliN s p i, i - p) :: restC s i W C (prevO s p) (aliN s p i) (seen + 1) else restC s i W C (prevO s p) best (seen + 1)) else [] := by
  have e1 : i - (i - p) = p := by omega
  have hn := fun b c => rest_next s i W C p b c (by omega) (fun _ => ⟨hil, hk⟩) (fun h => absurd hl h)
  rw [← hn, ← hn]
  unfold restC
  rw [if_neg (by omega), Int.toNat_natCast, foundGo, e1]
  by_cases hc : (i : Int) - p ≤ W ∧ (seen : Int) < C
  · rw [if_pos (show ((i - p : Nat) : Int) ≤ W ∧ (seen : Int) < C by omega), if_pos hc, if_pos ⟨hil, hk⟩]
  · rw [if_neg (show ¬ (((i - p : Nat) : Int) ≤ W ∧ (seen : Int) < C) by omega), if_neg hc]

def cellsF (l : List (Nat × Nat)) : List Value := l.flatMap fun p => [i6 p.1, i6 p.2]

theorem cellsF_snoc (l : List (Nat × Nat)) (p : Nat × Nat) : cellsF (l ++ [p]) = cellsF l ++ [i6 p.1, i6 p.2] := by simp [cellsF]

theorem cellsF_get : ∀ (l : List (Nat × Nat)) (k : Nat) (p : Nat × Nat), l[k]? = some p → (cellsF l)[k * 2]? = some (i6 p.1) ∧ (cellsF l)[k * 2 + 1]? = some (i6 p.2)
  | [], k, p, h => by simp at h
  | q :: l, 0, p, h => by simp at h; subst h; exact ⟨rfl, rfl⟩
  | q :: l, k + 1, p, h => by
    have ih := cellsF_get l k p (by simpa using h)
    show ([i6 q.1, i6 q.2] ++ cellsF l)[(k + 1) * 2]? = _ ∧ ([i6 q.1, i6 q.2] ++ cellsF l)[(k + 1) * 2 + 1]? = _
    rw [List.getElem?_append_right (by simp; omega), List.getElem?_append_right (by simp; omega)]
    simp only [List.length_cons, List.length_nil]
    rw [show (k + 1) * 2 - (0 + 1 + 1) = k * 2 from by omega, show (k + 1) * 2 + 1 - (0 + 1 + 1) = k * 2 + 1 from by omega]
    exact ih

theorem foundGo_bound (s : List UInt8) (i : Nat) (W C : Int) : ∀ f d best seen, d + f ≤ i + 1 → ∀ p ∈ foundGo s i W C f d best seen, p.2 ≤ i ∧ d ≤ p.2 ∧ best < p.1 ∧ p.1 = aliN s (i - p.2) i
  | 0, _, _, _, _, p, h => by simp [foundGo] at h
  | f + 1, d, best, seen, hd, p, h => by
    unfold foundGo at h
    split at h
    · split at h
      · split at h
        · rename_i hb
          rcases List.mem_cons.1 h with rfl | h
          · exact ⟨by omega, Nat.le_refl _, hb, rfl⟩
          · have := foundGo_bound s i W C f (d + 1) _ _ (by omega) p h
            exact ⟨this.1, by omega, by omega, this.2.2.2⟩
        · have := foundGo_bound s i W C f (d + 1) _ _ (by omega) p h
          exact ⟨this.1, by omega, this.2.2.1, this.2.2.2⟩
      · have := foundGo_bound s i W C f (d + 1) _ _ (by omega) p h
        exact ⟨this.1, by omega, this.2.2.1, this.2.2.2⟩
    · simp at h

theorem foundL_bound (s : List UInt8) (i : Nat) (W C : Int) : ∀ p ∈ foundL s i W C, p.2 ≤ i ∧ 1 ≤ p.2 ∧ 1 ≤ p.1 ∧ p.1 = aliN s (i - p.2) i := fun p h => by
  have := foundGo_bound s i W C i 1 0 0 (by omega) p h
  exact ⟨this.1, this.2.1, by omega, this.2.2.2⟩
end Go.Proofs.Ytalopgbkjgjppaa
