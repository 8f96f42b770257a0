/- optimal's rows: the cheapest ways; better. -/
import Derived.Test.YtalopgbkjgjppaaNm
namespace Go.Proofs.Ytalopgbkjgjppaa
open Go.RowKit Go.Cas

/-- The cheapest way to a place: its cost, its last piece. -/
abbrev Opt := Int × Pk
def Opt.cells (o : Opt) : List Value := [i6 o.1, i6 o.2.k, i6 o.2.d, i6 o.2.l, b8 o.2.y]
def cellsO (O : List Opt) : List Value := O.flatMap Opt.cells

theorem cellsO_length (l : List Opt) : (cellsO l).length = l.length * 5 := by
  induction l with
  | nil => rfl
  | cons p l ih => simp [cellsO, Opt.cells] at *; omega

theorem cellsO_get : ∀ (l : List Opt) (k j : Nat) (p : Opt), l[k]? = some p → j < 5 → (cellsO l)[k * 5 + j]? = p.cells[j]?
  | [], k, j, p, h, _ => by simp at h
  | q :: l, 0, j, p, h, hj => by
    simp at h; subst h
    show (q.cells ++ cellsO l)[0 * 5 + j]? = _
    rw [List.getElem?_append_left (by simp [Opt.cells]; omega)]
    simp
  | q :: l, k + 1, j, p, h, hj => by
    have ih := cellsO_get l k j p (by simpa using h) hj
    show (q.cells ++ cellsO l)[(k + 1) * 5 + j]? = _
    rw [List.getElem?_append_right (by simp [Opt.cells]; omega), ← ih]
    congr 1
    simp [Opt.cells]; omega

theorem cellsO_set (O : List Opt) (k : Nat) (o : Opt) (hk : k < O.length) :
    (((((cellsO O).toArray.setIfInBounds (k * 5) (i6 o.1)).setIfInBounds (k * 5 + 1) (i6 o.2.k)).setIfInBounds (k * 5 + 2) (i6 o.2.d)).setIfInBounds (k * 5 + 3) (i6 o.2.l)).setIfInBounds (k * 5 + 4) (b8 o.2.y) = (cellsO (O.set k o)).toArray := by
  apply Array.ext_getElem?
  intro x
  simp only [Array.getElem?_setIfInBounds, List.getElem?_toArray, Array.size_setIfInBounds, List.size_toArray, cellsO_length]
  by_cases hx : x < O.length * 5
  · obtain ⟨a, b, hb, rfl⟩ : ∃ a b, b < 5 ∧ x = a * 5 + b := ⟨x / 5, x % 5, Nat.mod_lt _ (by decide), by omega⟩
    have ha : a < O.length := by omega
    have hr : (cellsO (O.set k o))[a * 5 + b]? = if k = a then o.cells[b]? else (O[a]).cells[b]? := by
      rw [cellsO_get (O.set k o) a b (if k = a then o else O[a]) (by rw [List.getElem?_set]; by_cases h : k = a <;> simp [h, ha]) hb]
      split <;> rfl
    rw [hr, cellsO_get O a b O[a] (by simp [ha]) hb]
    by_cases h : k = a
    · subst h
      rw [if_pos rfl]
      have : b = 0 ∨ b = 1 ∨ b = 2 ∨ b = 3 ∨ b = 4 := by omega
      rcases this with rfl | rfl | rfl | rfl | rfl <;> simp [Opt.cells] <;> omega
    · rw [if_neg h, if_neg (by omega), if_neg (by omega), if_neg (by omega), if_neg (by omega), if_neg (by omega)]
  · have e1 : (cellsO O)[x]? = none := List.getElem?_eq_none (by rw [cellsO_length]; omega)
    have e2 : (cellsO (O.set k o))[x]? = none := List.getElem?_eq_none (by rw [cellsO_length, List.length_set]; omega)
    rw [e1, e2, if_neg (by omega), if_neg (by omega), if_neg (by omega), if_neg (by omega), if_neg (by omega)]

def Pk.val (p : Pk) : Value := .agg #[i6 p.k, i6 p.d, i6 p.l, b8 p.y]

/-- A better way, if it is one. -/
def betterO (o : Opt) (c : Int) (p : Pk) : Opt := if o.2.k = 0 ∨ c < o.1 then (c, p) else o

abbrev ORow (w : World) (g : Nat) (O : List Opt) : Prop := Blk w g (cellsO O).toArray 97

theorem ORow.at {w : World} {g : Nat} {O : List Opt} (h : ORow w g O) (k : Nat) (o : Opt) (hk : O[k]? = some o) :
    w.cell? ⟨g, k * 5, none⟩ = some (i6 o.1) ∧ w.cell? ⟨g, k * 5 + 1, none⟩ = some (i6 o.2.k) ∧ w.cell? ⟨g, k * 5 + 2, none⟩ = some (i6 o.2.d) ∧ w.cell? ⟨g, k * 5 + 3, none⟩ = some (i6 o.2.l) ∧ w.cell? ⟨g, k * 5 + 4, none⟩ = some (b8 o.2.y) := by
  have e := fun j hj => (h.cell (k * 5 + j)).trans ((List.getElem?_toArray ..).trans (cellsO_get O k j o hk hj))
  exact ⟨e 0 (by omega), e 1 (by omega), e 2 (by omega), e 3 (by omega), e 4 (by omega)⟩

theorem ORow.put {w : World} {g : Nat} {O : List Opt} (h : ORow w g O) (k : Nat) (hk : k < O.length) (c : Int) (p : Pk) (X : Obj) :
    ORow ((((((w.setCell ⟨g, k * 5, none⟩ (i6 c)).setCell ⟨g, k * 5 + 1, none⟩ (i6 p.k)).setCell ⟨g, k * 5 + 2, none⟩ (i6 p.d)).setCell ⟨g, k * 5 + 3, none⟩ (i6 p.l)).setCell ⟨g, k * 5 + 4, none⟩ (b8 p.y)).alloc X) g (O.set k (c, p)) ∧
    Keeps (fun b => b = g) w ((((((w.setCell ⟨g, k * 5, none⟩ (i6 c)).setCell ⟨g, k * 5 + 1, none⟩ (i6 p.k)).setCell ⟨g, k * 5 + 2, none⟩ (i6 p.d)).setCell ⟨g, k * 5 + 3, none⟩ (i6 p.l)).setCell ⟨g, k * 5 + 4, none⟩ (b8 p.y)).alloc X) := by
  constructor
  · refine Blk.alloc ?_ X
    have := ((((h.set (k * 5) (i6 c)).set (k * 5 + 1) (i6 p.k)).set (k * 5 + 2) (i6 p.d)).set (k * 5 + 3) (i6 p.l)).set (k * 5 + 4) (b8 p.y)
    rw [cellsO_set O k (c, p) hk] at this
    exact this
  · refine Keeps.alloc ?_ X
    exact Keeps.setCell (S := fun b => b = g) (p := ⟨g, k * 5 + 4, none⟩) (Keeps.setCell (S := fun b => b = g) (p := ⟨g, k * 5 + 3, none⟩) (Keeps.setCell (S := fun b => b = g) (p := ⟨g, k * 5 + 2, none⟩) (Keeps.setCell (S := fun b => b = g) (p := ⟨g, k * 5 + 1, none⟩) (Keeps.setCell (S := fun b => b = g) (p := ⟨g, k * 5, none⟩) (Keeps.refl (fun b => b = g) w) (fun _ => rfl) _) (fun _ => rfl) _) (fun _ => rfl) _) (fun _ => rfl) _) (fun _ => rfl) _

set_option maxHeartbeats 4000000 in
set_option maxRecDepth 100000 in
theorem better_any (g k : Nat) (O : List Opt) (o : Opt) (c : Int) (p : Pk) (w : World) (hO : ORow w g O) (hk : O[k]? = some o) :
    Calls Try.prog 50 #[.pointer (some ⟨g, k * 5, none⟩), i6 c, p.val] w fun z w' => z = .returned (.tuple #[]) ∧ ORow w' g (O.set k (betterO o c p)) ∧ Keeps (fun b => b = g) w w' := by
  have hkl : k < O.length := (List.getElem?_eq_some_iff.1 hk).1
  obtain ⟨c0, c1, c2, c3, c4⟩ := hO.at k o hk
  have fr := hO.frozen
  have hgl := hO.lt
  unfold Pk.val
  by_cases hb : o.2.k = 0 ∨ c < o.1
  · have hbo : betterO o c p = (c, p) := if_pos hb
    rw [hbo]
    clear hbo
    go_enter Try.func50, Try.ntmps50
    by_cases h0 : o.2.k = 0
    · have t1 : (o.2.k == 0) = true := by simpa using h0
      clear hb h0
      go_wp2_with fail
      go_end0
      exact ⟨rfl, hO.put k hkl c p _⟩
    · have t1 : (o.2.k == 0) = false := by simpa using h0
      have t2 : decide (c < o.1) = true := by simp; exact hb.resolve_left h0
      clear hb h0
      go_wp2_with fail
      go_end0
      exact ⟨rfl, hO.put k hkl c p _⟩
  · have hbo : betterO o c p = o := if_neg hb
    have hse : O.set k o = O := by
      apply List.ext_getElem?
      intro x
      rw [List.getElem?_set]
      by_cases h : k = x
      · subst h; rw [if_pos rfl, if_pos hkl, hk]
      · simp [h]
    rw [hbo, hse]
    have t1 : (o.2.k == 0) = false := by simp; exact fun h => hb (.inl h)
    have t2 : decide (c < o.1) = false := by simp; exact Int.not_lt.1 (fun h => hb (.inr h))
    clear hb hbo hse
    go_enter Try.func50, Try.ntmps50
    go_wp2_with fail
    go_end0
    exact ⟨rfl, hO.alloc _, (Keeps.refl _ _).alloc _⟩
end Go.Proofs.Ytalopgbkjgjppaa
