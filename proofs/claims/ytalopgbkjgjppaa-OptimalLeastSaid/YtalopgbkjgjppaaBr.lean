/- The tree of places in two rows of numbers: what hang's loop leaves there. -/
import Derived.Test.YtalopgbkjgjppaaBt
namespace Go.Proofs.Ytalopgbkjgjppaa

/-- No place stands twice. -/
def Tr.dis : Tr → Prop
  | .nil => True
  | .node k a b => ¬ a.mem k ∧ ¬ b.mem k ∧ (∀ j, a.mem j → ¬ b.mem j) ∧ a.dis ∧ b.dis

theorem part_dis (s : List UInt8) (i : Nat) (W : Int) : ∀ (t : Tr), t.dis → (t.part s i W).1.dis ∧ (t.part s i W).2.dis ∧ ∀ j, (t.part s i W).1.mem j → ¬ (t.part s i W).2.mem j
  | .nil, _ => by simp [Tr.part, Tr.dis, Tr.mem]
  | .node k a b, h => by
    obtain ⟨h1, h2, h3, h4, h5⟩ := h
    unfold Tr.part
    split
    · split
      · exact ⟨h4, h5, h3⟩
      · split
        · obtain ⟨p1, p2, p3⟩ := part_dis s i W b h5
          refine ⟨⟨h1, fun h => h2 (part_mem s i W b k (.inl h)), fun j hj h => h3 j hj (part_mem s i W b j (.inl h)), h4, p1⟩, p2, ?_⟩
          rintro j (rfl | hj | hj) hy
          · exact h2 (part_mem s i W b _ (.inr hy))
          · exact h3 j hj (part_mem s i W b j (.inr hy))
          · exact p3 j hj hy
        · obtain ⟨p1, p2, p3⟩ := part_dis s i W a h4
          refine ⟨p1, ⟨fun h => h1 (part_mem s i W a k (.inr h)), h2, fun j hj h => h3 j (part_mem s i W a j (.inr hj)) h, p2, h5⟩, ?_⟩
          rintro j hj (rfl | hy | hy)
          · exact h1 (part_mem s i W a _ (.inl hj))
          · exact p3 j hj hy
          · exact h3 j (part_mem s i W a j (.inl hj)) hy
    · simp [Tr.dis, Tr.mem]

/-- The rows: at each place the one below with less (false), with more (true). -/
abbrev Rows2 := Bool × Nat → Int

def Rows2.put (A : Rows2) (c : Bool × Nat) (v : Int) : Rows2 := fun x => if x = c then v else A x

theorem put_same (A : Rows2) (c : Bool × Nat) (v : Int) : A.put c v c = v := if_pos rfl
theorem put_other (A : Rows2) {c x : Bool × Nat} (v : Int) (h : x ≠ c) : A.put c v x = A x := if_neg h

def rep (A : Rows2) : Int → Tr → Prop
  | k, .nil => k = -1
  | k, .node j a b => k = j ∧ rep A (A (false, j)) a ∧ rep A (A (true, j)) b

theorem rep_congr {A A' : Rows2} : ∀ (t : Tr) (k : Int), (∀ j b, t.mem j → A' (b, j) = A (b, j)) → rep A k t → rep A' k t
  | .nil, _, _, h => h
  | .node j a b, k, hc, h => by
    obtain ⟨h1, h2, h3⟩ := h
    refine ⟨h1, ?_, ?_⟩
    · rw [hc j false (.inl rfl)]; exact rep_congr a _ (fun x y hx => hc x y (.inr (.inl hx))) h2
    · rw [hc j true (.inl rfl)]; exact rep_congr b _ (fun x y hx => hc x y (.inr (.inr hx))) h3

/-- hang's loop on the rows. -/
def hangRun (s : List UInt8) (i : Nat) (W : Int) : Nat → Rows2 → Bool × Nat → Bool × Nat → Int → List (Nat × Nat) → Rows2 × List (Nat × Nat)
  | 0, A, lp, mp, _, v => ((A.put lp (-1)).put mp (-1), v)
  | f + 1, A, lp, mp, k, v =>
    if k ≠ -1 ∧ (i : Int) - k ≤ W then
      if lim s i ≤ aliN s k.toNat i then ((A.put lp (A (false, k.toNat))).put mp (A (true, k.toNat)), v ++ [(k.toNat, aliN s k.toNat i)])
      else if byte s (k.toNat + aliN s k.toNat i) < byte s (i + aliN s k.toNat i) then
        hangRun s i W f (A.put lp k) (true, k.toNat) mp ((A.put lp k) (true, k.toNat)) (v ++ [(k.toNat, aliN s k.toNat i)])
      else hangRun s i W f (A.put mp k) lp (false, k.toNat) ((A.put mp k) (false, k.toNat)) (v ++ [(k.toNat, aliN s k.toNat i)])
    else ((A.put lp (-1)).put mp (-1), v)

theorem run_part (s : List UInt8) (i : Nat) (W : Int) : ∀ (f : Nat) (t : Tr) (A : Rows2) (lp mp : Bool × Nat) (k : Int) (v : List (Nat × Nat)), rep A k t → t.ok s → t.dis → lp ≠ mp → (∀ j, t.mem j → lp.2 ≠ j ∧ mp.2 ≠ j) → k < f →
    (hangRun s i W f A lp mp k v).2 = v ++ t.met s i W ∧ rep (hangRun s i W f A lp mp k v).1 ((hangRun s i W f A lp mp k v).1 lp) (t.part s i W).1 ∧
    rep (hangRun s i W f A lp mp k v).1 ((hangRun s i W f A lp mp k v).1 mp) (t.part s i W).2 ∧
    ∀ c, c ≠ lp → c ≠ mp → ¬ t.mem c.2 → (hangRun s i W f A lp mp k v).1 c = A c
  | 0, .nil, A, lp, mp, k, v, hr, _, _, hne, _, _ => by
    unfold hangRun
    refine ⟨by simp [Tr.met], ?_, ?_, fun c h1 h2 _ => by show ((A.put lp (-1)).put mp (-1)) c = A c; rw [put_other _ _ h2, put_other _ _ h1]⟩
    · show ((A.put lp (-1)).put mp (-1)) lp = -1; rw [put_other _ _ hne, put_same]
    · show ((A.put lp (-1)).put mp (-1)) mp = -1; rw [put_same]
  | 0, .node j a b, A, lp, mp, k, v, hr, _, _, _, _, hf => by
    have := hr.1
    omega
  | f + 1, .nil, A, lp, mp, k, v, hr, _, _, hne, _, _ => by
    have hk : k = -1 := hr
    unfold hangRun
    rw [if_neg (fun h => h.1 hk)]
    refine ⟨by simp [Tr.met], ?_, ?_, fun c h1 h2 _ => by show ((A.put lp (-1)).put mp (-1)) c = A c; rw [put_other _ _ h2, put_other _ _ h1]⟩
    · show ((A.put lp (-1)).put mp (-1)) lp = -1; rw [put_other _ _ hne, put_same]
    · show ((A.put lp (-1)).put mp (-1)) mp = -1; rw [put_same]
  | f + 1, .node j a b, A, lp, mp, k, v, hr, hok, hdis, hne, hout, hf => by
    obtain ⟨rfl, hra, hrb⟩ := hr
    obtain ⟨ha, hb, hao, hbo⟩ := hok
    obtain ⟨d1, d2, d3, d4, d5⟩ := hdis
    have hj := hout j (.inl rfl)
    have cl : ∀ b' : Bool, (b', j) ≠ lp := fun b' e => hj.1 (by rw [← e])
    have cm : ∀ b' : Bool, (b', j) ≠ mp := fun b' e => hj.2 (by rw [← e])
    unfold hangRun Tr.met Tr.part
    simp only [Int.toNat_natCast]
    by_cases hw : (i : Int) - j ≤ W
    · rw [if_pos ⟨by omega, hw⟩, if_pos hw, if_pos hw]
      by_cases hl : lim s i ≤ aliN s j i
      · rw [if_pos hl, if_pos hl, if_pos hl]
        have fr : ∀ c, c ≠ lp → c ≠ mp → ((A.put lp (A (false, j))).put mp (A (true, j))) c = A c := fun c h1 h2 => by rw [put_other _ _ h2, put_other _ _ h1]
        refine ⟨rfl, ?_, ?_, fun c h1 h2 _ => fr c h1 h2⟩
        · dsimp only
          rw [put_other _ _ hne, put_same]
          exact rep_congr a _ (fun x y hx => fr _ (fun e => (hout x (.inr (.inl hx))).1 (by rw [← e])) (fun e => (hout x (.inr (.inl hx))).2 (by rw [← e]))) hra
        · dsimp only
          rw [put_same]
          exact rep_congr b _ (fun x y hx => fr _ (fun e => (hout x (.inr (.inr hx))).1 (by rw [← e])) (fun e => (hout x (.inr (.inr hx))).2 (by rw [← e]))) hrb
      · rw [if_neg hl, if_neg hl, if_neg hl]
        by_cases hb1 : byte s (j + aliN s j i) < byte s (i + aliN s j i)
        · rw [if_pos hb1, if_pos hb1, if_pos hb1]
          have e1 : (A.put lp (j : Int)) (true, j) = A (true, j) := put_other _ _ (cl true)
          have hb' : rep (A.put lp (j : Int)) ((A.put lp (j : Int)) (true, j)) b := by
            rw [e1]
            exact rep_congr b _ (fun x y hx => put_other _ _ (fun e => (hout x (.inr (.inr hx))).1 (by rw [← e]))) hrb
          have hkf : (A.put lp (j : Int)) (true, j) < f := by
            cases b with
            | nil => have : _ = (-1 : Int) := hb'; omega
            | node j2 a2 b2 => have h1 := hb'.1; have := (hb j2 (.inl rfl)).1; omega
          obtain ⟨q1, q2, q3, q4⟩ := run_part s i W f b (A.put lp (j : Int)) (true, j) mp _ (v ++ [(j, aliN s j i)]) hb' hbo d5 (cm true) (fun x hx => ⟨fun e => d2 (by have : j = x := e; subst this; exact hx), (hout x (.inr (.inr hx))).2⟩) hkf
          generalize hangRun s i W f (A.put lp (j : Int)) (true, j) mp ((A.put lp (j : Int)) (true, j)) (v ++ [(j, aliN s j i)]) = R at *
          have hlp : R.1 lp = j := by
            rw [q4 lp (fun e => cl true e.symm) hne (fun h => (hout _ (.inr (.inr h))).1 rfl), put_same]
          refine ⟨by rw [q1, List.append_assoc]; rfl, ⟨hlp, ?_, q2⟩, q3, ?_⟩
          · have ef : R.1 (false, j) = A (false, j) := by
              rw [q4 (false, j) (by simp) (cm false) d2, put_other _ _ (cl false)]
            rw [ef]
            refine rep_congr a _ (fun x y hx => ?_) hra
            have hx1 := hout x (.inr (.inl hx))
            rw [q4 (y, x) (fun e => d1 (by have : x = j := (Prod.mk.inj e).2; subst this; exact hx)) (fun e => hx1.2 (by rw [← e])) (d3 x hx), put_other _ _ (fun e => hx1.1 (by rw [← e]))]
          · intro c h1 h2 h3
            rw [q4 c (fun e => h3 (.inl (by rw [e]))) h2 (fun h => h3 (.inr (.inr h))), put_other _ _ h1]
        · rw [if_neg hb1, if_neg hb1, if_neg hb1]
          have e1 : (A.put mp (j : Int)) (false, j) = A (false, j) := put_other _ _ (cm false)
          have ha' : rep (A.put mp (j : Int)) ((A.put mp (j : Int)) (false, j)) a := by
            rw [e1]
            exact rep_congr a _ (fun x y hx => put_other _ _ (fun e => (hout x (.inr (.inl hx))).2 (by rw [← e]))) hra
          have hkf : (A.put mp (j : Int)) (false, j) < f := by
            cases a with
            | nil => have : _ = (-1 : Int) := ha'; omega
            | node j2 a2 b2 => have h1 := ha'.1; have := (ha j2 (.inl rfl)).1; omega
          obtain ⟨q1, q2, q3, q4⟩ := run_part s i W f a (A.put mp (j : Int)) lp (false, j) _ (v ++ [(j, aliN s j i)]) ha' hao d4 (fun e => cl false e.symm) (fun x hx => ⟨(hout x (.inr (.inl hx))).1, fun e => d1 (by have : j = x := e; subst this; exact hx)⟩) hkf
          generalize hangRun s i W f (A.put mp (j : Int)) lp (false, j) ((A.put mp (j : Int)) (false, j)) (v ++ [(j, aliN s j i)]) = R at *
          have hmp : R.1 mp = j := by
            rw [q4 mp (fun e => hne e.symm) (fun e => cm false e.symm) (fun h => (hout _ (.inr (.inl h))).2 rfl), put_same]
          refine ⟨by rw [q1, List.append_assoc]; rfl, q2, ⟨hmp, q3, ?_⟩, ?_⟩
          · have ef : R.1 (true, j) = A (true, j) := by
              rw [q4 (true, j) (cl true) (by simp) d1, put_other _ _ (cm true)]
            rw [ef]
            refine rep_congr b _ (fun x y hx => ?_) hrb
            have hx1 := hout x (.inr (.inr hx))
            rw [q4 (y, x) (fun e => hx1.1 (by rw [← e])) (fun e => d2 (by have : x = j := (Prod.mk.inj e).2; subst this; exact hx)) (fun h => d3 x h hx), put_other _ _ (fun e => hx1.2 (by rw [← e]))]
          · intro c h1 h2 h3
            rw [q4 c h1 (fun e => h3 (.inl (by rw [e]))) (fun h => h3 (.inr (.inl h))), put_other _ _ h2]
    · rw [if_neg (fun h => hw h.2), if_neg hw, if_neg hw]
      refine ⟨by simp, ?_, ?_, fun c h1 h2 _ => by show ((A.put lp (-1)).put mp (-1)) c = A c; rw [put_other _ _ h2, put_other _ _ h1]⟩
      · show ((A.put lp (-1)).put mp (-1)) lp = -1; rw [put_other _ _ hne, put_same]
      · show ((A.put lp (-1)).put mp (-1)) mp = -1; rw [put_same]

/-- The rows behind so many places. -/
def TreeAt (s : List UInt8) (W : Int) (i : Nat) (A : Rows2) (top : Int) (t : Tr) : Prop := Holds s W i t ∧ t.dis ∧ rep A top t

theorem treeAt_hang (s : List UInt8) (W : Int) (i : Nat) (A : Rows2) (top : Int) (t : Tr) (h : TreeAt s W i A top t) (f : Nat) (hf : top < f) :
    (hangRun s i W f A (false, i) (true, i) top []).2 = t.met s i W ∧ TreeAt s W (i + 1) (hangRun s i W f A (false, i) (true, i) top []).1 i (.node i (t.part s i W).1 (t.part s i W).2) := by
  obtain ⟨h1, h2, h3⟩ := h
  have hout : ∀ j, t.mem j → ((false, i) : Bool × Nat).2 ≠ j ∧ ((true, i) : Bool × Nat).2 ≠ j := fun j hj => by have := h1.2.1 j hj; exact ⟨fun e => by have : i = j := e; omega, fun e => by have : i = j := e; omega⟩
  obtain ⟨q1, q2, q3, q4⟩ := run_part s i W f t A (false, i) (true, i) top [] h3 h1.1 h2 (by simp) hout hf
  obtain ⟨p1, p2, p3⟩ := part_dis s i W t h2
  have hni : ¬ t.mem i := fun h => by have := h1.2.1 i h; omega
  exact ⟨by rw [q1]; rfl, holds_hang s W i t h1, ⟨fun h => hni (part_mem s i W t i (.inl h)), fun h => hni (part_mem s i W t i (.inr h)), p3, p1, p2⟩, ⟨rfl, q2, q3⟩⟩

/-- What Next tells of the places that are met: each that is longer than all before. -/
def pick (i : Nat) : Nat → List (Nat × Nat) → List (Nat × Nat)
  | _, [] => []
  | best, (k, n) :: l => if best < n then (n, i - k) :: pick i n l else pick i best l
end Go.Proofs.Ytalopgbkjgjppaa
