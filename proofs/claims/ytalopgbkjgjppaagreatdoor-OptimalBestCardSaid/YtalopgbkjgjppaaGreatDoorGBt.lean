/- Part of a proof: Bt, Br. -/
import Derived.Test.YtalopgbkjgjppaaGreatDoorGAl
/- The plain law of the tree of places: what hang does to it. -/
namespace Go.Proofs.YtalopgbkjgjppaaGreatDoor

/-- How many bytes are compared at a place. -/
def lim (s : List UInt8) (i : Nat) : Nat := min (s.length - i) 273

theorem runL_same (s : List UInt8) (a b : Nat) : ∀ f n j, n ≤ j → j < runL s a b f n → s[a + j]? = s[b + j]?
  | 0, n, j, h1, h2 => by unfold runL at h2; omega
  | f + 1, n, j, h1, h2 => by
    unfold runL at h2
    by_cases he : s[a + n]? = s[b + n]?
    · rw [if_pos he] at h2
      by_cases hj : j = n
      · subst hj; exact he
      · exact runL_same s a b f (n + 1) j (by omega) h2
    · rw [if_neg he] at h2; omega

theorem runL_differ (s : List UInt8) (a b : Nat) : ∀ f n, runL s a b f n < n + f → s[a + runL s a b f n]? ≠ s[b + runL s a b f n]?
  | 0, n, h => by unfold runL at h; omega
  | f + 1, n, h => by
    unfold runL at h ⊢
    by_cases he : s[a + n]? = s[b + n]?
    · rw [if_pos he] at h ⊢
      exact runL_differ s a b f (n + 1) (by omega)
    · rw [if_neg he]; exact he

theorem runL_ge (s : List UInt8) (a b : Nat) : ∀ f n m, n ≤ m → m ≤ n + f → (∀ j, n ≤ j → j < m → s[a + j]? = s[b + j]?) → m ≤ runL s a b f n
  | 0, n, m, h1, h2, _ => by unfold runL; omega
  | f + 1, n, m, h1, h2, h => by
    unfold runL
    by_cases hnm : n = m
    · subst hnm
      split
      · have := (runL_le s a b f (n + 1)).1; omega
      · omega
    · rw [if_pos (h n (by omega) (by omega))]
      exact runL_ge s a b f (n + 1) m (by omega) (by omega) (fun j hj1 hj2 => h j (by omega) hj2)

theorem ali_same {s : List UInt8} {a b j : Nat} (h : j < aliN s a b) : s[a + j]? = s[b + j]? := runL_same s a b _ 0 j (Nat.zero_le _) h
theorem ali_differ {s : List UInt8} {a b : Nat} (h : aliN s a b < lim s b) : s[a + aliN s a b]? ≠ s[b + aliN s a b]? := runL_differ s a b _ 0 (by unfold lim aliN at h; omega)
theorem ali_ge {s : List UInt8} {a b m : Nat} (hm : m ≤ lim s b) (h : ∀ j, j < m → s[a + j]? = s[b + j]?) : m ≤ aliN s a b := runL_ge s a b _ 0 m (Nat.zero_le _) (by unfold lim at hm; omega) (fun j _ hj => h j hj)
theorem ali_le_lim (s : List UInt8) (a b : Nat) : aliN s a b ≤ lim s b := by have := aliN_le s a b; unfold lim; omega

/-- The exact number: alike below m, different at m. -/
theorem ali_eq {s : List UInt8} {a b m : Nat} (hm : m < lim s b) (h : ∀ j, j < m → s[a + j]? = s[b + j]?) (hd : s[a + m]? ≠ s[b + m]?) : aliN s a b = m := by
  have h1 := ali_ge (Nat.le_of_lt hm) h
  rcases Nat.lt_or_ge m (aliN s a b) with h2 | h2
  · exact absurd (ali_same h2) hd
  · omega

def byte (s : List UInt8) (i : Nat) : UInt8 := s[i]?.getD 0

/-- j stands ahead of k (j < k as places): they differ within what is compared at k, and j's byte there is less. -/
def Less (s : List UInt8) (j k : Nat) : Prop := aliN s j k < lim s k ∧ byte s (j + aliN s j k) < byte s (k + aliN s j k)
def More (s : List UInt8) (j k : Nat) : Prop := aliN s j k < lim s k ∧ byte s (k + aliN s j k) < byte s (j + aliN s j k)

def LessE (s : List UInt8) (j k : Nat) : Prop := Less s j k ∨ lim s k ≤ aliN s j k
def MoreE (s : List UInt8) (j k : Nat) : Prop := More s j k ∨ lim s k ≤ aliN s j k

theorem byte_get {s : List UInt8} {i : Nat} (h : i < s.length) : s[i]? = some (byte s i) := by unfold byte; simp [h]

theorem less_or_more {s : List UInt8} {j k : Nat} (hj : j < k) (h : aliN s j k < lim s k) : Less s j k ∨ More s j k := by
  have hd := ali_differ h
  have h1 : k + aliN s j k < s.length := by unfold lim at h; omega
  rw [byte_get h1, byte_get (show j + aliN s j k < s.length by omega)] at hd
  have hne : byte s (j + aliN s j k) ≠ byte s (k + aliN s j k) := fun e => hd (by rw [e])
  rcases UInt8.lt_or_lt_of_ne hne with h2 | h2
  · exact .inl ⟨h, h2⟩
  · exact .inr ⟨h, h2⟩

/-- j against k, k against i: j against i, and no more bytes alike than k has. -/
theorem less_trans {s : List UInt8} {j k i : Nat} (hjk : j < k) (hki : k < i) (h1 : Less s j k) (h2 : Less s k i) : Less s j i ∧ aliN s j i ≤ aliN s k i := by
  obtain ⟨a1, a2⟩ := h1
  obtain ⟨b1, b2⟩ := h2
  have hi : i + aliN s k i < s.length := by unfold lim at b1; omega
  have hkl : k + aliN s j k < s.length := by unfold lim at a1; omega
  by_cases hmn : aliN s j k < aliN s k i
  · have e : aliN s j i = aliN s j k := by
      refine ali_eq (by omega) (fun x hx => (ali_same hx).trans (ali_same (by omega))) ?_
      rw [← ali_same hmn]
      exact ali_differ a1
    refine ⟨⟨by omega, ?_⟩, by omega⟩
    rw [e]
    have : byte s (i + aliN s j k) = byte s (k + aliN s j k) := by unfold byte; rw [ali_same hmn]
    rw [this]; exact a2
  · have e : aliN s j i = aliN s k i := by
      refine ali_eq b1 (fun x hx => (ali_same (by omega)).trans (ali_same hx)) ?_
      rw [byte_get hi, byte_get (show j + aliN s k i < s.length by omega)]
      intro he
      have he := Option.some.inj he
      by_cases hq : aliN s k i < aliN s j k
      · have : byte s (j + aliN s k i) = byte s (k + aliN s k i) := by unfold byte; rw [ali_same hq]
        rw [← he, this] at b2
        exact absurd b2 (UInt8.lt_irrefl _)
      · have hq : aliN s k i = aliN s j k := by omega
        rw [hq] at he b2
        rw [he] at a2
        exact absurd (UInt8.lt_trans a2 b2) (UInt8.lt_irrefl _)
    refine ⟨⟨by omega, ?_⟩, by omega⟩
    rw [e]
    by_cases hq : aliN s k i < aliN s j k
    · have : byte s (j + aliN s k i) = byte s (k + aliN s k i) := by unfold byte; rw [ali_same hq]
      rw [this]; exact b2
    · have hq : aliN s k i = aliN s j k := by omega
      rw [hq] at b2 ⊢
      exact UInt8.lt_trans a2 b2

theorem more_trans {s : List UInt8} {j k i : Nat} (hjk : j < k) (hki : k < i) (h1 : More s j k) (h2 : More s k i) : More s j i ∧ aliN s j i ≤ aliN s k i := by
  obtain ⟨a1, a2⟩ := h1
  obtain ⟨b1, b2⟩ := h2
  have hi : i + aliN s k i < s.length := by unfold lim at b1; omega
  have hkl : k + aliN s j k < s.length := by unfold lim at a1; omega
  by_cases hmn : aliN s j k < aliN s k i
  · have e : aliN s j i = aliN s j k := by
      refine ali_eq (by omega) (fun x hx => (ali_same hx).trans (ali_same (by omega))) ?_
      rw [← ali_same hmn]
      exact ali_differ a1
    refine ⟨⟨by omega, ?_⟩, by omega⟩
    rw [e]
    have : byte s (i + aliN s j k) = byte s (k + aliN s j k) := by unfold byte; rw [ali_same hmn]
    rw [this]; exact a2
  · have e : aliN s j i = aliN s k i := by
      refine ali_eq b1 (fun x hx => (ali_same (by omega)).trans (ali_same hx)) ?_
      rw [byte_get hi, byte_get (show j + aliN s k i < s.length by omega)]
      intro he
      have he := Option.some.inj he
      by_cases hq : aliN s k i < aliN s j k
      · have : byte s (j + aliN s k i) = byte s (k + aliN s k i) := by unfold byte; rw [ali_same hq]
        rw [← he, this] at b2
        exact absurd b2 (UInt8.lt_irrefl _)
      · have hq : aliN s k i = aliN s j k := by omega
        rw [hq] at he b2
        rw [he] at a2
        exact absurd (UInt8.lt_trans a2 b2) (UInt8.lt_irrefl _)
    refine ⟨⟨by omega, ?_⟩, by omega⟩
    rw [e]
    by_cases hq : aliN s k i < aliN s j k
    · have : byte s (j + aliN s k i) = byte s (k + aliN s k i) := by unfold byte; rw [ali_same hq]
      rw [this]; exact b2
    · have hq : aliN s k i = aliN s j k := by omega
      rw [hq] at b2 ⊢
      exact UInt8.lt_trans b2 a2

theorem lim_le (s : List UInt8) {k i : Nat} (h : k < i) : lim s i ≤ lim s k := by unfold lim; omega

/-- Alike through all that is compared at k, and k different from i: as k is. -/
theorem eq_trans {s : List UInt8} {j k i : Nat} (hki : k < i) (h1 : lim s k ≤ aliN s j k) (h2 : aliN s k i < lim s i) : aliN s j i = aliN s k i ∧ byte s (j + aliN s k i) = byte s (k + aliN s k i) := by
  have hl := lim_le s hki
  have e : byte s (j + aliN s k i) = byte s (k + aliN s k i) := by unfold byte; rw [ali_same (show aliN s k i < aliN s j k by omega)]
  refine ⟨ali_eq h2 (fun x hx => (ali_same (by omega)).trans (ali_same hx)) ?_, e⟩
  rw [ali_same (show aliN s k i < aliN s j k by omega)]
  exact ali_differ h2

theorem lessE_trans {s : List UInt8} {j k i : Nat} (hjk : j < k) (hki : k < i) (h1 : LessE s j k) (h2 : Less s k i) : Less s j i ∧ aliN s j i ≤ aliN s k i := by
  rcases h1 with h1 | h1
  · exact less_trans hjk hki h1 h2
  · obtain ⟨e1, e2⟩ := eq_trans hki h1 h2.1
    exact ⟨⟨by rw [e1]; exact h2.1, by rw [e1, e2]; exact h2.2⟩, by omega⟩

theorem moreE_trans {s : List UInt8} {j k i : Nat} (hjk : j < k) (hki : k < i) (h1 : MoreE s j k) (h2 : More s k i) : More s j i ∧ aliN s j i ≤ aliN s k i := by
  rcases h1 with h1 | h1
  · exact more_trans hjk hki h1 h2
  · obtain ⟨e1, e2⟩ := eq_trans hki h1 h2.1
    exact ⟨⟨by rw [e1]; exact h2.1, by rw [e1, e2]; exact h2.2⟩, by omega⟩

/-- k is alike i through all that is compared: j stands against i as against k, or is alike too. -/
theorem same_ali {s : List UInt8} {j k i : Nat} (h2 : lim s i ≤ aliN s k i) (hd : aliN s j k < lim s k) (hm : aliN s j k < lim s i) : aliN s j i = aliN s j k ∧ byte s (i + aliN s j k) = byte s (k + aliN s j k) := by
  have e : s[k + aliN s j k]? = s[i + aliN s j k]? := ali_same (by omega)
  refine ⟨ali_eq hm (fun x hx => (ali_same hx).trans (ali_same (by omega))) ?_, by unfold byte; rw [e]⟩
  rw [← e]
  exact ali_differ hd

theorem all_ali {s : List UInt8} {j k i : Nat} (h2 : lim s i ≤ aliN s k i) (hm : lim s i ≤ aliN s j k) : lim s i ≤ aliN s j i :=
  ali_ge (Nat.le_refl _) fun x hx => (ali_same (show x < aliN s j k by omega)).trans (ali_same (show x < aliN s k i by omega))

theorem lessE_same {s : List UInt8} {j k i : Nat} (hki : k < i) (h1 : LessE s j k) (h2 : lim s i ≤ aliN s k i) : LessE s j i := by
  have hl := lim_le s hki
  by_cases hm : aliN s j k < lim s i
  · rcases h1 with h1 | h1
    · obtain ⟨e1, e2⟩ := same_ali h2 h1.1 hm
      exact .inl ⟨by rw [e1]; exact hm, by rw [e1, e2]; exact h1.2⟩
    · omega
  · exact .inr (all_ali h2 (by omega))

theorem moreE_same {s : List UInt8} {j k i : Nat} (hki : k < i) (h1 : MoreE s j k) (h2 : lim s i ≤ aliN s k i) : MoreE s j i := by
  have hl := lim_le s hki
  by_cases hm : aliN s j k < lim s i
  · rcases h1 with h1 | h1
    · obtain ⟨e1, e2⟩ := same_ali h2 h1.1 hm
      exact .inl ⟨by rw [e1]; exact hm, by rw [e1, e2]; exact h1.2⟩
    · omega
  · exact .inr (all_ali h2 (by omega))

/-- The tree: a place; those that stand ahead of it; those behind it. -/
inductive Tr where
  | nil
  | node (k : Nat) (a b : Tr)

def Tr.mem : Tr → Nat → Prop
  | .nil, _ => False
  | .node k a b, j => j = k ∨ a.mem j ∨ b.mem j

/-- Each place is nearer than those below it, and parts them. -/
def Tr.ok (s : List UInt8) : Tr → Prop
  | .nil => True
  | .node k a b => (∀ j, a.mem j → j < k ∧ LessE s j k) ∧ (∀ j, b.mem j → j < k ∧ MoreE s j k) ∧ a.ok s ∧ b.ok s

/-- The tree parted by a new place; what hang leaves. -/
def Tr.part (s : List UInt8) (i : Nat) (W : Int) : Tr → Tr × Tr
  | .nil => (.nil, .nil)
  | .node k a b =>
    if (i : Int) - k ≤ W then
      if lim s i ≤ aliN s k i then (a, b)
      else if byte s (k + aliN s k i) < byte s (i + aliN s k i) then (.node k a (b.part s i W).1, (b.part s i W).2)
      else ((a.part s i W).1, .node k (a.part s i W).2 b)
    else (.nil, .nil)

/-- The places that are met, with how many bytes are alike. -/
def Tr.met (s : List UInt8) (i : Nat) (W : Int) : Tr → List (Nat × Nat)
  | .nil => []
  | .node k a b =>
    if (i : Int) - k ≤ W then
      (k, aliN s k i) :: (if lim s i ≤ aliN s k i then []
        else if byte s (k + aliN s k i) < byte s (i + aliN s k i) then b.met s i W else a.met s i W)
    else []

theorem part_mem (s : List UInt8) (i : Nat) (W : Int) : ∀ (t : Tr) (j : Nat), (t.part s i W).1.mem j ∨ (t.part s i W).2.mem j → t.mem j
  | .nil, j, h => by simp [Tr.part, Tr.mem] at h
  | .node k a b, j, h => by
    unfold Tr.part at h
    split at h
    · split at h
      · exact .inr h
      · split at h
        · rcases h with (h | h | h) | h
          · exact .inl h
          · exact .inr (.inl h)
          · exact .inr (.inr (part_mem s i W b j (.inl h)))
          · exact .inr (.inr (part_mem s i W b j (.inr h)))
        · rcases h with h | (h | h | h)
          · exact .inr (.inl (part_mem s i W a j (.inl h)))
          · exact .inl h
          · exact .inr (.inl (part_mem s i W a j (.inr h)))
          · exact .inr (.inr h)
    · simp [Tr.mem] at h

/-- The parts stand ahead of the new place, and behind it; and are trees. -/
theorem part_ok (s : List UInt8) (i : Nat) (W : Int) : ∀ (t : Tr), t.ok s → (∀ j, t.mem j → j < i) → (∀ j, (t.part s i W).1.mem j → LessE s j i) ∧ (∀ j, (t.part s i W).2.mem j → MoreE s j i) ∧ (t.part s i W).1.ok s ∧ (t.part s i W).2.ok s
  | .nil, _, _ => by simp [Tr.part, Tr.mem, Tr.ok]
  | .node k a b, h, hi => by
    obtain ⟨ha, hb, hao, hbo⟩ := h
    have hki : k < i := hi k (.inl rfl)
    unfold Tr.part
    by_cases hw : (i : Int) - k ≤ W
    · rw [if_pos hw]
      by_cases hl : lim s i ≤ aliN s k i
      · rw [if_pos hl]
        exact ⟨fun j hj => lessE_same hki (ha j hj).2 hl, fun j hj => moreE_same hki (hb j hj).2 hl, hao, hbo⟩
      · rw [if_neg hl]
        by_cases hb1 : byte s (k + aliN s k i) < byte s (i + aliN s k i)
        · rw [if_pos hb1]
          have hLk : Less s k i := ⟨by omega, hb1⟩
          obtain ⟨p1, p2, p3, p4⟩ := part_ok s i W b hbo (fun j hj => hi j (.inr (.inr hj)))
          refine ⟨?_, p2, ⟨ha, fun j hj => hb j (part_mem s i W b j (.inl hj)), hao, p3⟩, p4⟩
          rintro j (rfl | hj | hj)
          · exact .inl hLk
          · exact .inl (lessE_trans (ha j hj).1 hki (ha j hj).2 hLk).1
          · exact p1 j hj
        · rw [if_neg hb1]
          have hMk : More s k i := (less_or_more hki (by omega)).resolve_left (fun h => hb1 h.2)
          obtain ⟨p1, p2, p3, p4⟩ := part_ok s i W a hao (fun j hj => hi j (.inr (.inl hj)))
          refine ⟨p1, ?_, p3, ⟨fun j hj => ha j (part_mem s i W a j (.inr hj)), hb, p4, hbo⟩⟩
          rintro j (rfl | hj | hj)
          · exact .inl hMk
          · exact p2 j hj
          · exact .inl (moreE_trans (hb j hj).1 hki (hb j hj).2 hMk).1
    · rw [if_neg hw]
      simp [Tr.mem, Tr.ok]

/-- The new tree. -/
theorem hang_ok (s : List UInt8) (i : Nat) (W : Int) (t : Tr) (h : t.ok s) (hi : ∀ j, t.mem j → j < i) : (Tr.node i (t.part s i W).1 (t.part s i W).2).ok s := by
  obtain ⟨p1, p2, p3, p4⟩ := part_ok s i W t h hi
  exact ⟨fun j hj => ⟨hi j (part_mem s i W t j (.inl hj)), p1 j hj⟩, fun j hj => ⟨hi j (part_mem s i W t j (.inr hj)), p2 j hj⟩, p3, p4⟩

/-- For each place of the tree within the window one is met that is no farther, and no less alike. -/
theorem met_covers (s : List UInt8) (i : Nat) (W : Int) : ∀ (t : Tr), t.ok s → (∀ j, t.mem j → j < i) → ∀ j, t.mem j → (i : Int) - j ≤ W → ∃ p ∈ t.met s i W, j ≤ p.1 ∧ aliN s j i ≤ p.2
  | .nil, _, _, j, h, _ => h.elim
  | .node k a b, h, hi, j, hj, hw => by
    obtain ⟨ha, hb, hao, hbo⟩ := h
    have hki : k < i := hi k (.inl rfl)
    have hjk : j ≤ k := by
      rcases hj with rfl | hj | hj
      · exact Nat.le_refl _
      · exact Nat.le_of_lt (ha j hj).1
      · exact Nat.le_of_lt (hb j hj).1
    unfold Tr.met
    rw [if_pos (show (i : Int) - k ≤ W by omega)]
    by_cases hle : aliN s j i ≤ aliN s k i
    · exact ⟨_, List.mem_cons_self .., hjk, hle⟩
    · have hl : ¬ lim s i ≤ aliN s k i := fun h => by have := ali_le_lim s j i; omega
      rw [if_neg hl]
      have hjne : j ≠ k := fun e => by subst e; omega
      by_cases hb1 : byte s (k + aliN s k i) < byte s (i + aliN s k i)
      · have hLk : Less s k i := ⟨by omega, hb1⟩
        rw [if_pos hb1]
        rcases hj with rfl | hj | hj
        · exact absurd rfl hjne
        · exact absurd (lessE_trans (ha j hj).1 hki (ha j hj).2 hLk).2 hle
        · obtain ⟨p, hp, h1, h2⟩ := met_covers s i W b hbo (fun x hx => hi x (.inr (.inr hx))) j hj hw
          exact ⟨p, List.mem_cons_of_mem _ hp, h1, h2⟩
      · have hMk : More s k i := (less_or_more hki (by omega)).resolve_left (fun h => hb1 h.2)
        rw [if_neg hb1]
        rcases hj with rfl | hj | hj
        · exact absurd rfl hjne
        · obtain ⟨p, hp, h1, h2⟩ := met_covers s i W a hao (fun x hx => hi x (.inr (.inl hx))) j hj hw
          exact ⟨p, List.mem_cons_of_mem _ hp, h1, h2⟩
        · exact absurd (moreE_trans (hb j hj).1 hki (hb j hj).2 hMk).2 hle

/-- What is lost by parting: the place that is wholly alike, and what is beyond the window. -/
theorem part_lost (s : List UInt8) (i : Nat) (W : Int) : ∀ (t : Tr), t.ok s → (∀ j, t.mem j → j < i) → ∀ j, t.mem j → (t.part s i W).1.mem j ∨ (t.part s i W).2.mem j ∨ lim s i ≤ aliN s j i ∨ W < (i : Int) - j
  | .nil, _, _, j, h => h.elim
  | .node k a b, h, hi, j, hj => by
    obtain ⟨ha, hb, hao, hbo⟩ := h
    have hki : k < i := hi k (.inl rfl)
    have hjk : j ≤ k := by
      rcases hj with rfl | hj | hj
      · exact Nat.le_refl _
      · exact Nat.le_of_lt (ha j hj).1
      · exact Nat.le_of_lt (hb j hj).1
    unfold Tr.part
    by_cases hw : (i : Int) - k ≤ W
    · rw [if_pos hw]
      by_cases hl : lim s i ≤ aliN s k i
      · rw [if_pos hl]
        rcases hj with rfl | hj | hj
        · exact .inr (.inr (.inl hl))
        · exact .inl hj
        · exact .inr (.inl hj)
      · rw [if_neg hl]
        by_cases hb1 : byte s (k + aliN s k i) < byte s (i + aliN s k i)
        · rw [if_pos hb1]
          rcases hj with rfl | hj | hj
          · exact .inl (.inl rfl)
          · exact .inl (.inr (.inl hj))
          · rcases part_lost s i W b hbo (fun x hx => hi x (.inr (.inr hx))) j hj with h | h | h | h
            · exact .inl (.inr (.inr h))
            · exact .inr (.inl h)
            · exact .inr (.inr (.inl h))
            · exact .inr (.inr (.inr h))
        · rw [if_neg hb1]
          rcases hj with rfl | hj | hj
          · exact .inr (.inl (.inl rfl))
          · rcases part_lost s i W a hao (fun x hx => hi x (.inr (.inl hx))) j hj with h | h | h | h
            · exact .inl h
            · exact .inr (.inl (.inr (.inl h)))
            · exact .inr (.inr (.inl h))
            · exact .inr (.inr (.inr h))
          · exact .inr (.inl (.inr (.inr hj)))
    · exact .inr (.inr (.inr (by omega)))

/-- The tree behind so many places holds each place, or a nearer one that is wholly alike, or it is out of reach. -/
def Holds (s : List UInt8) (W : Int) (i : Nat) (t : Tr) : Prop :=
  t.ok s ∧ (∀ j, t.mem j → j < i) ∧ ∀ j, j < i → (∃ k, t.mem k ∧ j ≤ k ∧ (k = j ∨ lim s k ≤ aliN s j k)) ∨ W < (i : Int) - 1 - j

theorem holds_nil (s : List UInt8) (W : Int) : Holds s W 0 .nil := ⟨trivial, fun _ h => h.elim, fun j h => by omega⟩

theorem holds_hang (s : List UInt8) (W : Int) (i : Nat) (t : Tr) (h : Holds s W i t) : Holds s W (i + 1) (.node i (t.part s i W).1 (t.part s i W).2) := by
  obtain ⟨h1, h2, h3⟩ := h
  refine ⟨hang_ok s i W t h1 h2, ?_, ?_⟩
  · rintro j (rfl | hj | hj)
    · omega
    · have := h2 j (part_mem s i W t j (.inl hj)); omega
    · have := h2 j (part_mem s i W t j (.inr hj)); omega
  · intro j hj
    by_cases hji : j = i
    · subst hji; exact .inl ⟨j, .inl rfl, Nat.le_refl _, .inl rfl⟩
    · rcases h3 j (by omega) with ⟨k, hk, hjk, hal⟩ | hw
      · rcases part_lost s i W t h1 h2 k hk with hp | hp | hp | hp
        · exact .inl ⟨k, .inr (.inl hp), hjk, hal⟩
        · exact .inl ⟨k, .inr (.inr hp), hjk, hal⟩
        · refine .inl ⟨i, .inl rfl, by have := h2 k hk; omega, .inr ?_⟩
          rcases hal with rfl | hal
          · exact hp
          · exact all_ali hp (Nat.le_trans (lim_le s (h2 k hk)) hal)
        · exact .inr (by omega)
      · exact .inr (by omega)

/-- For each place within the window one is met that is no farther, and no less alike. -/
theorem holds_covers (s : List UInt8) (W : Int) (i : Nat) (t : Tr) (h : Holds s W i t) (j : Nat) (hj : j < i) (hw : (i : Int) - j ≤ W) : ∃ p ∈ t.met s i W, j ≤ p.1 ∧ aliN s j i ≤ p.2 := by
  obtain ⟨h1, h2, h3⟩ := h
  rcases h3 j hj with ⟨k, hk, hjk, hal⟩ | hx
  · obtain ⟨p, hp, h4, h5⟩ := met_covers s i W t h1 h2 k hk (by omega)
    refine ⟨p, hp, by omega, ?_⟩
    rcases hal with rfl | hal
    · exact h5
    · have hki := h2 k hk
      have : aliN s j i ≤ aliN s k i := by
        refine ali_ge (ali_le_lim s j i) fun x hx => ?_
        have hx2 : x < aliN s j k := by have := ali_le_lim s j i; have := lim_le s hki; omega
        rw [← ali_same hx2]
        exact ali_same hx
      omega
  · omega

/-- Whatever is met: nearer and nearer ahead of farther ones; how many bytes are alike. -/
theorem met_is (s : List UInt8) (i : Nat) (W : Int) : ∀ (t : Tr) (B : Nat), t.ok s → (∀ j, t.mem j → j < i) → (∀ j, t.mem j → j < B) → (∀ p ∈ t.met s i W, p.1 < B ∧ p.1 < i ∧ (i : Int) - p.1 ≤ W ∧ p.2 = aliN s p.1 i) ∧ (t.met s i W).Pairwise (fun p q => q.1 < p.1)
  | .nil, _, _, _, _ => by simp [Tr.met]
  | .node k a b, B, h, hi, hB => by
    obtain ⟨ha, hb, hao, hbo⟩ := h
    unfold Tr.met
    by_cases hw : (i : Int) - k ≤ W
    · rw [if_pos hw]
      have hkB := hB k (.inl rfl)
      have hki := hi k (.inl rfl)
      split
      · exact ⟨by intro p hp; simp at hp; subst hp; exact ⟨hkB, hki, hw, rfl⟩, by simp⟩
      · split
        · obtain ⟨m1, m2⟩ := met_is s i W b k hbo (fun x hx => hi x (.inr (.inr hx))) (fun x hx => (hb x hx).1)
          refine ⟨?_, List.pairwise_cons.2 ⟨fun p hp => (m1 p hp).1, m2⟩⟩
          intro p hp
          rcases List.mem_cons.1 hp with rfl | hp
          · exact ⟨hkB, hki, hw, rfl⟩
          · have := m1 p hp; exact ⟨by omega, this.2⟩
        · obtain ⟨m1, m2⟩ := met_is s i W a k hao (fun x hx => hi x (.inr (.inl hx))) (fun x hx => (ha x hx).1)
          refine ⟨?_, List.pairwise_cons.2 ⟨fun p hp => (m1 p hp).1, m2⟩⟩
          intro p hp
          rcases List.mem_cons.1 hp with rfl | hp
          · exact ⟨hkB, hki, hw, rfl⟩
          · have := m1 p hp; exact ⟨by omega, this.2⟩
    · rw [if_neg hw]; simp
end Go.Proofs.YtalopgbkjgjppaaGreatDoor

/- The tree of places in two rows of numbers: what hang's loop leaves there. -/
namespace Go.Proofs.YtalopgbkjgjppaaGreatDoor

/-- No place stands twice. -/
def Tr.dis : Tr → Prop
  | .nil => True
  | .node k a b => ¬ a.mem k ∧ ¬ b.mem k ∧ (∀ j, a.mem j → ¬ b.mem j) ∧ a.dis ∧ b.dis

theorem part_dis (s : List UInt8) (i : Nat) (W : Int) : ∀ (t : Tr), t.dis → (t.part s i W).1.dis ∧ (t.part s i W).2.dis ∧ ∀ j, (t.part s i W).1.mem j → ¬ (t.part s i W).2.mem j
  | .nil, _ => by simp [Tr.part, Tr.dis, Tr.mem]
  | .node k a b, h => by
    obtain ⟨h1, h2, h3, h4, h5⟩ := h
    unfold Tr.part
    split
    · split
      · exact ⟨h4, h5, h3⟩
      · split
        · obtain ⟨p1, p2, p3⟩ := part_dis s i W b h5
          refine ⟨⟨h1, fun h => h2 (part_mem s i W b k (.inl h)), fun j hj h => h3 j hj (part_mem s i W b j (.inl h)), h4, p1⟩, p2, ?_⟩
          rintro j (rfl | hj | hj) hy
          · exact h2 (part_mem s i W b _ (.inr hy))
          · exact h3 j hj (part_mem s i W b j (.inr hy))
          · exact p3 j hj hy
        · obtain ⟨p1, p2, p3⟩ := part_dis s i W a h4
          refine ⟨p1, ⟨fun h => h1 (part_mem s i W a k (.inr h)), h2, fun j hj h => h3 j (part_mem s i W a j (.inr hj)) h, p2, h5⟩, ?_⟩
          rintro j hj (rfl | hy | hy)
          · exact h1 (part_mem s i W a _ (.inl hj))
          · exact p3 j hj hy
          · exact h3 j (part_mem s i W a j (.inl hj)) hy
    · simp [Tr.dis, Tr.mem]

/-- The rows: at each place the one below with less (false), with more (true). -/
abbrev Rows2 := Bool × Nat → Int

def Rows2.put (A : Rows2) (c : Bool × Nat) (v : Int) : Rows2 := fun x => if x = c then v else A x

theorem put_same (A : Rows2) (c : Bool × Nat) (v : Int) : A.put c v c = v := if_pos rfl
theorem put_other (A : Rows2) {c x : Bool × Nat} (v : Int) (h : x ≠ c) : A.put c v x = A x := if_neg h

def rep (A : Rows2) : Int → Tr → Prop
  | k, .nil => k = -1
  | k, .node j a b => k = j ∧ rep A (A (false, j)) a ∧ rep A (A (true, j)) b

theorem rep_congr {A A' : Rows2} : ∀ (t : Tr) (k : Int), (∀ j b, t.mem j → A' (b, j) = A (b, j)) → rep A k t → rep A' k t
  | .nil, _, _, h => h
  | .node j a b, k, hc, h => by
    obtain ⟨h1, h2, h3⟩ := h
    refine ⟨h1, ?_, ?_⟩
    · rw [hc j false (.inl rfl)]; exact rep_congr a _ (fun x y hx => hc x y (.inr (.inl hx))) h2
    · rw [hc j true (.inl rfl)]; exact rep_congr b _ (fun x y hx => hc x y (.inr (.inr hx))) h3

/-- hang's loop on the rows. -/
def hangRun (s : List UInt8) (i : Nat) (W : Int) : Nat → Rows2 → Bool × Nat → Bool × Nat → Int → List (Nat × Nat) → Rows2 × List (Nat × Nat)
  | 0, A, lp, mp, _, v => ((A.put lp (-1)).put mp (-1), v)
  | f + 1, A, lp, mp, k, v =>
    if k ≠ -1 ∧ (i : Int) - k ≤ W then
      if lim s i ≤ aliN s k.toNat i then ((A.put lp (A (false, k.toNat))).put mp (A (true, k.toNat)), v ++ [(k.toNat, aliN s k.toNat i)])
      else if byte s (k.toNat + aliN s k.toNat i) < byte s (i + aliN s k.toNat i) then
        hangRun s i W f (A.put lp k) (true, k.toNat) mp ((A.put lp k) (true, k.toNat)) (v ++ [(k.toNat, aliN s k.toNat i)])
      else hangRun s i W f (A.put mp k) lp (false, k.toNat) ((A.put mp k) (false, k.toNat)) (v ++ [(k.toNat, aliN s k.toNat i)])
    else ((A.put lp (-1)).put mp (-1), v)

theorem run_part (s : List UInt8) (i : Nat) (W : Int) : ∀ (f : Nat) (t : Tr) (A : Rows2) (lp mp : Bool × Nat) (k : Int) (v : List (Nat × Nat)), rep A k t → t.ok s → t.dis → lp ≠ mp → (∀ j, t.mem j → lp.2 ≠ j ∧ mp.2 ≠ j) → k < f →
    (hangRun s i W f A lp mp k v).2 = v ++ t.met s i W ∧ rep (hangRun s i W f A lp mp k v).1 ((hangRun s i W f A lp mp k v).1 lp) (t.part s i W).1 ∧
    rep (hangRun s i W f A lp mp k v).1 ((hangRun s i W f A lp mp k v).1 mp) (t.part s i W).2 ∧
    ∀ c, c ≠ lp → c ≠ mp → ¬ t.mem c.2 → (hangRun s i W f A lp mp k v).1 c = A c
  | 0, .nil, A, lp, mp, k, v, hr, _, _, hne, _, _ => by
    unfold hangRun
    refine ⟨by simp [Tr.met], ?_, ?_, fun c h1 h2 _ => by show ((A.put lp (-1)).put mp (-1)) c = A c; rw [put_other _ _ h2, put_other _ _ h1]⟩
    · show ((A.put lp (-1)).put mp (-1)) lp = -1; rw [put_other _ _ hne, put_same]
    · show ((A.put lp (-1)).put mp (-1)) mp = -1; rw [put_same]
  | 0, .node j a b, A, lp, mp, k, v, hr, _, _, _, _, hf => by
    have := hr.1
    omega
  | f + 1, .nil, A, lp, mp, k, v, hr, _, _, hne, _, _ => by
    have hk : k = -1 := hr
    unfold hangRun
    rw [if_neg (fun h => h.1 hk)]
    refine ⟨by simp [Tr.met], ?_, ?_, fun c h1 h2 _ => by show ((A.put lp (-1)).put mp (-1)) c = A c; rw [put_other _ _ h2, put_other _ _ h1]⟩
    · show ((A.put lp (-1)).put mp (-1)) lp = -1; rw [put_other _ _ hne, put_same]
    · show ((A.put lp (-1)).put mp (-1)) mp = -1; rw [put_same]
  | f + 1, .node j a b, A, lp, mp, k, v, hr, hok, hdis, hne, hout, hf => by
    obtain ⟨rfl, hra, hrb⟩ := hr
    obtain ⟨ha, hb, hao, hbo⟩ := hok
    obtain ⟨d1, d2, d3, d4, d5⟩ := hdis
    have hj := hout j (.inl rfl)
    have cl : ∀ b' : Bool, (b', j) ≠ lp := fun b' e => hj.1 (by rw [← e])
    have cm : ∀ b' : Bool, (b', j) ≠ mp := fun b' e => hj.2 (by rw [← e])
    unfold hangRun Tr.met Tr.part
    simp only [Int.toNat_natCast]
    by_cases hw : (i : Int) - j ≤ W
    · rw [if_pos ⟨by omega, hw⟩, if_pos hw, if_pos hw]
      by_cases hl : lim s i ≤ aliN s j i
      · rw [if_pos hl, if_pos hl, if_pos hl]
        have fr : ∀ c, c ≠ lp → c ≠ mp → ((A.put lp (A (false, j))).put mp (A (true, j))) c = A c := fun c h1 h2 => by rw [put_other _ _ h2, put_other _ _ h1]
        refine ⟨rfl, ?_, ?_, fun c h1 h2 _ => fr c h1 h2⟩
        · dsimp only
          rw [put_other _ _ hne, put_same]
          exact rep_congr a _ (fun x y hx => fr _ (fun e => (hout x (.inr (.inl hx))).1 (by rw [← e])) (fun e => (hout x (.inr (.inl hx))).2 (by rw [← e]))) hra
        · dsimp only
          rw [put_same]
          exact rep_congr b _ (fun x y hx => fr _ (fun e => (hout x (.inr (.inr hx))).1 (by rw [← e])) (fun e => (hout x (.inr (.inr hx))).2 (by rw [← e]))) hrb
      · rw [if_neg hl, if_neg hl, if_neg hl]
        by_cases hb1 : byte s (j + aliN s j i) < byte s (i + aliN s j i)
        · rw [if_pos hb1, if_pos hb1, if_pos hb1]
          have e1 : (A.put lp (j : Int)) (true, j) = A (true, j) := put_other _ _ (cl true)
          have hb' : rep (A.put lp (j : Int)) ((A.put lp (j : Int)) (true, j)) b := by
            rw [e1]
            exact rep_congr b _ (fun x y hx => put_other _ _ (fun e => (hout x (.inr (.inr hx))).1 (by rw [← e]))) hrb
          have hkf : (A.put lp (j : Int)) (true, j) < f := by
            cases b with
            | nil => have : _ = (-1 : Int) := hb'; omega
            | node j2 a2 b2 => have h1 := hb'.1; have := (hb j2 (.inl rfl)).1; omega
          obtain ⟨q1, q2, q3, q4⟩ := run_part s i W f b (A.put lp (j : Int)) (true, j) mp _ (v ++ [(j, aliN s j i)]) hb' hbo d5 (cm true) (fun x hx => ⟨fun e => d2 (by have : j = x := e; subst this; exact hx), (hout x (.inr (.inr hx))).2⟩) hkf
          generalize hangRun s i W f (A.put lp (j : Int)) (true, j) mp ((A.put lp (j : Int)) (true, j)) (v ++ [(j, aliN s j i)]) = R at *
          have hlp : R.1 lp = j := by
            rw [q4 lp (fun e => cl true e.symm) hne (fun h => (hout _ (.inr (.inr h))).1 rfl), put_same]
          refine ⟨by rw [q1, List.append_assoc]; rfl, ⟨hlp, ?_, q2⟩, q3, ?_⟩
          · have ef : R.1 (false, j) = A (false, j) := by
              rw [q4 (false, j) (by simp) (cm false) d2, put_other _ _ (cl false)]
            rw [ef]
            refine rep_congr a _ (fun x y hx => ?_) hra
            have hx1 := hout x (.inr (.inl hx))
            rw [q4 (y, x) (fun e => d1 (by have : x = j := (Prod.mk.inj e).2; subst this; exact hx)) (fun e => hx1.2 (by rw [← e])) (d3 x hx), put_other _ _ (fun e => hx1.1 (by rw [← e]))]
          · intro c h1 h2 h3
            rw [q4 c (fun e => h3 (.inl (by rw [e]))) h2 (fun h => h3 (.inr (.inr h))), put_other _ _ h1]
        · rw [if_neg hb1, if_neg hb1, if_neg hb1]
          have e1 : (A.put mp (j : Int)) (false, j) = A (false, j) := put_other _ _ (cm false)
          have ha' : rep (A.put mp (j : Int)) ((A.put mp (j : Int)) (false, j)) a := by
            rw [e1]
            exact rep_congr a _ (fun x y hx => put_other _ _ (fun e => (hout x (.inr (.inl hx))).2 (by rw [← e]))) hra
          have hkf : (A.put mp (j : Int)) (false, j) < f := by
            cases a with
            | nil => have : _ = (-1 : Int) := ha'; omega
            | node j2 a2 b2 => have h1 := ha'.1; have := (ha j2 (.inl rfl)).1; omega
          obtain ⟨q1, q2, q3, q4⟩ := run_part s i W f a (A.put mp (j : Int)) lp (false, j) _ (v ++ [(j, aliN s j i)]) ha' hao d4 (fun e => cl false e.symm) (fun x hx => ⟨(hout x (.inr (.inl hx))).1, fun e => d1 (by have : j = x := e; subst this; exact hx)⟩) hkf
          generalize hangRun s i W f (A.put mp (j : Int)) lp (false, j) ((A.put mp (j : Int)) (false, j)) (v ++ [(j, aliN s j i)]) = R at *
          have hmp : R.1 mp = j := by
            rw [q4 mp (fun e => hne e.symm) (fun e => cm false e.symm) (fun h => (hout _ (.inr (.inl h))).2 rfl), put_same]
          refine ⟨by rw [q1, List.append_assoc]; rfl, q2, ⟨hmp, q3, ?_⟩, ?_⟩
          · have ef : R.1 (true, j) = A (true, j) := by
              rw [q4 (true, j) (cl true) (by simp) d1, put_other _ _ (cm true)]
            rw [ef]
            refine rep_congr b _ (fun x y hx => ?_) hrb
            have hx1 := hout x (.inr (.inr hx))
            rw [q4 (y, x) (fun e => hx1.1 (by rw [← e])) (fun e => d2 (by have : x = j := (Prod.mk.inj e).2; subst this; exact hx)) (fun h => d3 x h hx), put_other _ _ (fun e => hx1.2 (by rw [← e]))]
          · intro c h1 h2 h3
            rw [q4 c h1 (fun e => h3 (.inl (by rw [e]))) (fun h => h3 (.inr (.inl h))), put_other _ _ h2]
    · rw [if_neg (fun h => hw h.2), if_neg hw, if_neg hw]
      refine ⟨by simp, ?_, ?_, fun c h1 h2 _ => by show ((A.put lp (-1)).put mp (-1)) c = A c; rw [put_other _ _ h2, put_other _ _ h1]⟩
      · show ((A.put lp (-1)).put mp (-1)) lp = -1; rw [put_other _ _ hne, put_same]
      · show ((A.put lp (-1)).put mp (-1)) mp = -1; rw [put_same]

/-- The tree behind so many places. -/
def canon (s : List UInt8) (W : Int) : Nat → Tr
  | 0 => .nil
  | i + 1 => .node i ((canon s W i).part s i W).1 ((canon s W i).part s i W).2

/-- The rows behind so many places. -/
def TreeAt (s : List UInt8) (W : Int) (i : Nat) (A : Rows2) (top : Int) (t : Tr) : Prop := Holds s W i t ∧ t.dis ∧ rep A top t ∧ t = canon s W i

theorem treeAt_hang (s : List UInt8) (W : Int) (i : Nat) (A : Rows2) (top : Int) (t : Tr) (h : TreeAt s W i A top t) (f : Nat) (hf : top < f) :
    (hangRun s i W f A (false, i) (true, i) top []).2 = t.met s i W ∧ TreeAt s W (i + 1) (hangRun s i W f A (false, i) (true, i) top []).1 i (.node i (t.part s i W).1 (t.part s i W).2) := by
  obtain ⟨h1, h2, h3, h4⟩ := h
  have hout : ∀ j, t.mem j → ((false, i) : Bool × Nat).2 ≠ j ∧ ((true, i) : Bool × Nat).2 ≠ j := fun j hj => by have := h1.2.1 j hj; exact ⟨fun e => by have : i = j := e; omega, fun e => by have : i = j := e; omega⟩
  obtain ⟨q1, q2, q3, q4⟩ := run_part s i W f t A (false, i) (true, i) top [] h3 h1.1 h2 (by simp) hout hf
  obtain ⟨p1, p2, p3⟩ := part_dis s i W t h2
  have hni : ¬ t.mem i := fun h => by have := h1.2.1 i h; omega
  exact ⟨by rw [q1]; rfl, holds_hang s W i t h1, ⟨fun h => hni (part_mem s i W t i (.inl h)), fun h => hni (part_mem s i W t i (.inr h)), p3, p1, p2⟩, ⟨rfl, q2, q3⟩, by rw [h4]; rfl⟩

/-- What Next tells of the places that are met: each that is longer than all before. -/
def pick (i : Nat) : Nat → List (Nat × Nat) → List (Nat × Nat)
  | _, [] => []
  | best, (k, n) :: l => if best < n then (n, i - k) :: pick i n l else pick i best l
end Go.Proofs.YtalopgbkjgjppaaGreatDoor
