/- The plain law: no way of bytes and matches is cheaper than the cheapest one. -/
import Derived.Test.YtalopgbkjgjppaaGreatDoorGTold
import Derived.Test.YtalopgbkjgjppaaGreatDoorGGy
namespace Go.Proofs.YtalopgbkjgjppaaGreatDoor
open Go.RowKit Go.Cas

theorem fits_kinds' {d l y h a b c e : Int} (hf : (fitsL 2 d l y h a b c e).2.2.2 = true) : y = 0 ∧ 1 ≤ d ∧ d ≤ h ∧ d ≤ 1048576 ∧ 2 ≤ l ∧ l ≤ 273 := by
  unfold fitsL at hf
  rw [if_neg (by omega)] at hf
  split at hf
  · rename_i h2
    unfold copiesL at h2
    split at h2
    · rename_i h3
      simp [longB] at h2
      exact ⟨h3.2, by omega, by omega, by omega, by omega, by omega⟩
    · rw [if_neg (by omega), if_neg (by omega)] at h2
      cases h2
  · cases hf
theorem fits_kinds'' {k d l y h a b c e : Int} (hf : (fitsL k d l y h a b c e).2.2.2 = true) (hk : k = 1) : k = 1 ∧ d = 0 ∧ l = 0 := by
  subst hk
  unfold fitsL at hf
  split at hf
  · rename_i h1; exact h1
  · split at hf
    · rename_i h2
      unfold copiesL at h2
      rw [if_neg (by omega), if_neg (by omega), if_neg (by omega)] at h2
      cases h2
    · cases hf
theorem copyL_prefix (bs : List UInt8) (d : Nat) : ∀ n, bs <+: copyL bs d n
  | 0 => List.prefix_rfl
  | n + 1 => (copyL_prefix bs d n).trans (List.prefix_append _ _)

theorem fits_mat2 {d l y h a b c e : Int} (hf : (fitsL 2 d l y h a b c e).2.2.2 = true) : fitsL 2 d l y h a b c e = (d, l, (d, a, b, c), true) ∧ 1 ≤ d ∧ d ≤ h ∧ d ≤ 1048576 ∧ 2 ≤ l ∧ l ≤ 273 := by
  have hk := fits_kinds' hf
  obtain ⟨hy, h1, h2, h3, h4, h5⟩ := hk
  refine ⟨?_, h1, h2, h3, h4, h5⟩
  subst hy
  have e1 : decide (1 ≤ d) = true := by simpa using h1
  have e2 : decide (d ≤ min h 1048576) = true := by simp; omega
  have e3 : longB l = true := by unfold longB; simp; omega
  unfold fitsL
  rw [if_neg (by omega)]
  have hc : copiesL 2 d l 0 h a b c e = (d, l, (d, a, b, c), true) := by
    unfold copiesL
    rw [if_pos ⟨rfl, rfl⟩, e1, e2, e3]; rfl
  rw [hc]; rfl

theorem applyGo_extends (M : Nat) : ∀ (l : List Pk) (bs : List UInt8) (r : Int × Int × Int × Int), (applyGo M l bs r).2 = 0 → bs <+: (applyGo M l bs r).1
  | [], bs, r, _ => List.prefix_rfl
  | p :: l, bs, r, h => by
    rw [applyGo] at h ⊢
    by_cases h1 : p.k = 1 ∧ p.d = 0 ∧ p.l = 0
    · rw [if_pos h1] at h ⊢
      by_cases h2 : bs.length < M
      · rw [if_pos h2] at h ⊢
        exact (List.prefix_append bs [p.y]).trans (applyGo_extends M l _ _ h)
      · rw [if_neg h2] at h; cases h
    · rw [if_neg h1] at h ⊢
      generalize fitsL p.k p.d p.l p.y.toNat bs.length r.1 r.2.1 r.2.2.1 r.2.2.2 = f at *
      by_cases h2 : f.2.2.2 = true
      · rw [if_pos h2] at h ⊢
        by_cases h3 : 1 ≤ f.1 ∧ f.1 ≤ bs.length ∧ 0 ≤ f.2.1 ∧ f.2.1 ≤ (M : Int) - bs.length
        · rw [if_pos h3] at h ⊢
          exact (copyL_prefix bs f.1.toNat f.2.1.toNat).trans (applyGo_extends M l _ _ h)
        · rw [if_neg h3] at h; cases h
      · rw [if_neg h2] at h; cases h

theorem copyL_same (bs : List UInt8) {d : Nat} (hd : 1 ≤ d) (hb : d ≤ bs.length) : ∀ n j, j < n → (copyL bs d n)[bs.length + j]? = (copyL bs d n)[bs.length - d + j]?
  | 0, j, h => by omega
  | n + 1, j, h => by
    have hl := copyL_length bs d n
    show (copyL bs d n ++ [_])[_]? = (copyL bs d n ++ [_])[_]?
    by_cases hj : j = n
    · subst hj
      rw [List.getElem?_append_right (by omega), hl, Nat.sub_self, List.getElem?_append_left (by omega)]
      have e : bs.length + j - d = bs.length - d + j := by omega
      rw [e, List.getElem?_eq_getElem (l := copyL bs d j) (i := bs.length - d + j) (by omega)]
      rfl
    · rw [List.getElem?_append_left (by omega), List.getElem?_append_left (by omega)]
      exact copyL_same bs hd hb n j (by omega)

theorem best_of {t : Tab} {s : List UInt8} {O : List Opt} (hs : s.length ≤ 1000000) (hO : Ways t s 1048576 s.length O) : ∀ (l : List Pk) (i : Nat) (r : Int × Int × Int × Int), Plains l → i ≤ s.length → applyGo s.length l (s.take i) r = (s, 0) → (oat O s.length).1 ≤ (oat O i).1 + sumP t l
  | [], i, r, _, hi, h => by
    have h1 : s.take i = s := congrArg Prod.fst h
    have h2 : (s.take i).length = s.length := by rw [h1]
    rw [List.length_take] at h2
    have : i = s.length := by omega
    subst this
    unfold sumP; omega
  | p :: l, i, r, hp, hi, h => by
    have hpl := hp p (List.mem_cons_self ..)
    have hl : Plains l := fun q hq => hp q (List.mem_cons_of_mem _ hq)
    have hli : (s.take i).length = i := by rw [List.length_take]; omega
    rw [applyGo] at h
    by_cases h1 : p.k = 1 ∧ p.d = 0 ∧ p.l = 0
    · rw [if_pos h1, hli] at h
      by_cases h2 : i < s.length
      · rw [if_pos h2] at h
        have hx := applyGo_extends s.length l (s.take i ++ [p.y]) r (by rw [h])
        rw [h] at hx
        have he : s.take i ++ [p.y] = s.take (i + 1) := by
          have := List.prefix_iff_eq_take.1 hx
          rw [List.length_append, hli] at this
          exact this
        rw [he] at h
        have ih := best_of hs hO l (i + 1) r hl (by omega) h
        have hw := hO.lit i h2
        have hpr : priceP t p = t.lit := by unfold priceP; rw [if_pos h1.1]
        rw [sumP, hpr]; omega
      · rw [if_neg h2] at h; cases h
    · rw [if_neg h1] at h
      have hk2 : p.k = 2 := by
        rcases hpl with hk | hk
        · have hno := @fits_kinds'' p.k p.d p.l p.y.toNat (s.take i).length r.1 r.2.1 r.2.2.1 r.2.2.2
          by_cases h2 : (fitsL p.k p.d p.l p.y.toNat (s.take i).length r.1 r.2.1 r.2.2.1 r.2.2.2).2.2.2 = true
          · exact absurd (hno h2 hk) h1
          · rw [if_neg h2] at h; cases h
        · exact hk.1
      have hm := @fits_mat2 p.d p.l p.y.toNat (s.take i).length r.1 r.2.1 r.2.2.1 r.2.2.2
      rw [hk2] at h
      by_cases h2 : (fitsL 2 p.d p.l p.y.toNat (s.take i).length r.1 r.2.1 r.2.2.1 r.2.2.2).2.2.2 = true
      · obtain ⟨hf, b1, b2, b3, b4, b5⟩ := hm h2
        rw [hf] at h
        dsimp only at h
        rw [if_pos rfl, hli] at h
        rw [hli] at b2
        by_cases h3 : 1 ≤ p.d ∧ p.d ≤ (i : Int) ∧ 0 ≤ p.l ∧ p.l ≤ (s.length : Int) - (i : Int)
        · rw [if_pos h3] at h
          obtain ⟨d, hd⟩ : ∃ d : Nat, p.d = d := ⟨p.d.toNat, by omega⟩
          obtain ⟨n, hn⟩ : ∃ n : Nat, p.l = n := ⟨p.l.toNat, by omega⟩
          rw [hd, hn, Int.toNat_natCast, Int.toNat_natCast] at h
          have hx := applyGo_extends s.length l (copyL (s.take i) d n) ((d : Int), r.1, r.2.1, r.2.2.1) (by rw [h])
          rw [h] at hx
          have hcl := copyL_length (s.take i) d n
          rw [hli] at hcl
          have he : copyL (s.take i) d n = s.take (i + n) := by
            have := List.prefix_iff_eq_take.1 hx
            rw [hcl] at this
            exact this
          have hv : Val s 1048576 i d n := by
            refine ⟨by omega, by omega, by omega, by omega, ali_ge (by unfold lim; omega) fun j hj => ?_⟩
            have h4 := copyL_same (s.take i) (d := d) (by omega) (by omega) n j hj
            rw [hli, he, List.getElem?_take_of_lt (by omega), List.getElem?_take_of_lt (by omega)] at h4
            exact h4.symm
          rw [he] at h
          have ih := best_of hs hO l (i + n) _ hl (by omega) h
          have hw := (hO.edge i d n (by omega) hv).2
          have hpr : priceP t p = t.edge n d := by unfold priceP; rw [if_neg (by omega), hd, hn, Int.toNat_natCast, Int.toNat_natCast]
          rw [sumP, hpr]; omega
        · rw [if_neg h3] at h; cases h
      · rw [if_neg h2] at h; cases h

/-- What is found is one thing. -/
theorem finds_same {s : List UInt8} {W : Int} {i : Nat} {L L' : List (Nat × Nat)} (h : Finds s W i L) (h' : Finds s W i L') : L = L' := by
  obtain ⟨t, _, e1, e2⟩ := h
  obtain ⟨t', _, e1', e2'⟩ := h'
  rw [e1, e1', e2, e2']
theorem plain_same {t : Tab} {s : List UInt8} {W : Int} {i : Nat} {O : List Opt} (h : PlainTo t s W i O) : ∀ {O' : List Opt}, PlainTo t s W i O' → O = O' := by
  induction h with
  | zero => intro O' h'; cases h'; rfl
  | step h1 h2 h3 ih =>
    intro O' h'
    cases h' with
    | step g1 g2 g3 => rw [ih g1, finds_same h3 g3]

/-- The packets that tell a text are bounded. -/
theorem tells_bounds (M : Nat) (hM : M ≤ 1000000) : ∀ (l : List Pk) (bs : List UInt8) (r : Int × Int × Int × Int), bs.length ≤ M → (applyGo M l bs r).2 = 0 → ∀ p ∈ l, p.k = 2 → 1 ≤ p.d ∧ p.d ≤ 1000000 ∧ 0 ≤ p.l ∧ p.l ≤ 1000000
  | [], bs, r, _, _ => fun p hp => by cases hp
  | q :: l, bs, r, hb, h => by
    intro p hp hk
    rw [applyGo] at h
    by_cases h1 : q.k = 1 ∧ q.d = 0 ∧ q.l = 0
    · rw [if_pos h1] at h
      by_cases h2 : bs.length < M
      · rw [if_pos h2] at h
        rcases List.mem_cons.1 hp with rfl | hp
        · omega
        · exact tells_bounds M hM l _ _ (by rw [List.length_append]; show bs.length + 1 ≤ M; omega) h p hp hk
      · rw [if_neg h2] at h; cases h
    · rw [if_neg h1] at h
      have hm := @fits_mat2 q.d q.l q.y.toNat bs.length r.1 r.2.1 r.2.2.1 r.2.2.2
      by_cases h2 : (fitsL q.k q.d q.l q.y.toNat bs.length r.1 r.2.1 r.2.2.1 r.2.2.2).2.2.2 = true
      · rw [if_pos h2] at h
        rcases List.mem_cons.1 hp with rfl | hp
        · rw [hk] at h2
          obtain ⟨_, b1, b2, b3, b4, b5⟩ := hm h2
          omega
        · by_cases h3 : 1 ≤ (fitsL q.k q.d q.l q.y.toNat bs.length r.1 r.2.1 r.2.2.1 r.2.2.2).1 ∧ (fitsL q.k q.d q.l q.y.toNat bs.length r.1 r.2.1 r.2.2.1 r.2.2.2).1 ≤ bs.length ∧ 0 ≤ (fitsL q.k q.d q.l q.y.toNat bs.length r.1 r.2.1 r.2.2.1 r.2.2.2).2.1 ∧ (fitsL q.k q.d q.l q.y.toNat bs.length r.1 r.2.1 r.2.2.1 r.2.2.2).2.1 ≤ (M : Int) - bs.length
          · rw [if_pos h3] at h
            exact tells_bounds M hM l _ _ (by rw [copyL_length]; omega) h p hp hk
          · rw [if_neg h3] at h; cases h
      · rw [if_neg h2] at h; cases h
end Go.Proofs.YtalopgbkjgjppaaGreatDoor
