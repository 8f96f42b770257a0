/- Part of a proof: Nm, Bb, Pp. -/
import Derived.Test.YtalopgbkjgjppaaGreatDoorGBh
import Derived.Test.YtalopgbkjgjppaaGreatDoorLn
/- Numbers: bits.Len, the prices; the document's too. -/
namespace Go.Proofs.YtalopgbkjgjppaaGreatDoor
open Go.RowKit Go.Cas

theorem bitAux_mono : ∀ f x y, x ≤ y → Lib.bitLenAux f x ≤ Lib.bitLenAux f y
  | 0, _, _, _ => Nat.le_refl _
  | f + 1, x, y, h => by
    unfold Lib.bitLenAux
    have := bitAux_mono f (x / 2) (y / 2) (by omega)
    split
    · omega
    · split <;> omega

theorem bitAux_le : ∀ f x, Lib.bitLenAux f x ≤ f
  | 0, _ => Nat.le_refl _
  | f + 1, x => by
    unfold Lib.bitLenAux
    have := bitAux_le f (x / 2)
    split <;> omega

theorem bitAux_step : ∀ f x, x < 2 ^ f → Lib.bitLenAux (f + 1) x = Lib.bitLenAux f x
  | 0, x, h => by
    have : x = 0 := by simpa using h
    subst this; rfl
  | f + 1, x, h => by
    have hx : x / 2 < 2 ^ f := by rw [Nat.pow_succ] at h; omega
    have ih := bitAux_step f (x / 2) hx
    conv => lhs; rw [Lib.bitLenAux]
    conv => rhs; rw [Lib.bitLenAux]
    rw [ih]

/-- One halving. -/
theorem bitLen_half {x : Nat} (h0 : x ≠ 0) (h : x < 18446744073709551616) : Lib.bitLen x = 1 + Lib.bitLen (x / 2) := by
  unfold Lib.bitLen
  rw [bitAux_step 63 (x / 2) (by omega)]
  conv => lhs; rw [Lib.bitLenAux, if_neg h0]

theorem bitLen_mono {x y : Nat} (h : x ≤ y) : Lib.bitLen x ≤ Lib.bitLen y := bitAux_mono _ _ _ h

/-- A table of prices. -/
structure Tab where
  lit : Int
  mat : Int
  near : Int
  far : Int
  bit : Int

def Tab.val (t : Tab) : Value := .agg #[i6 t.lit, i6 t.mat, i6 t.near, i6 t.far, i6 t.bit]

def okP (x : Int) : Prop := 1 ≤ x ∧ x ≤ 10000
def Tab.good (t : Tab) : Prop := okP t.lit ∧ okP t.mat ∧ okP t.near ∧ okP t.far ∧ okP t.bit

/-- What a length costs; what a distance does. -/
def Tab.len (t : Tab) (n : Nat) : Int := if n < 10 then t.near else t.far
def Tab.dist (t : Tab) (d : Nat) : Int := t.bit * (Lib.bitLen (d - 1) : Nat)
def Tab.edge (t : Tab) (n d : Nat) : Int := t.mat + t.len n + t.dist d

theorem mul_le {a : Int} (h : okP a) (b : Nat) (hb : b ≤ 64) : 0 ≤ a * (b : Int) ∧ a * (b : Int) ≤ 640000 := by
  refine ⟨Int.mul_nonneg (by have := h.1; omega) (by omega), ?_⟩
  have h1 : a * (b : Int) ≤ 10000 * (b : Int) := Int.mul_le_mul_of_nonneg_right h.2 (by omega)
  omega

theorem Tab.dist_ok (t : Tab) (h : t.good) (d : Nat) : 0 ≤ t.dist d ∧ t.dist d ≤ 640000 := mul_le h.2.2.2.2 _ (bitAux_le _ _)
theorem Tab.len_ok (t : Tab) (h : t.good) (n : Nat) : 1 ≤ t.len n ∧ t.len n ≤ 10000 := by
  unfold Tab.len
  split
  · exact h.2.2.1
  · exact h.2.2.2.1
theorem Tab.edge_ok (t : Tab) (h : t.good) (n d : Nat) : 2 ≤ t.edge n d ∧ t.edge n d ≤ 660000 := by
  have h1 := t.dist_ok h d
  have h2 := t.len_ok h n
  have h3 := h.2.1
  unfold okP at h3
  unfold Tab.edge
  omega

theorem Tab.dist_mono (t : Tab) (h : t.good) {d e : Nat} (hd : d ≤ e) : t.dist d ≤ t.dist e := by
  unfold Tab.dist
  have h1 := bitLen_mono (show d - 1 ≤ e - 1 by omega)
  have h2 := h.2.2.2.2.1
  exact Int.mul_le_mul_of_nonneg_left (by omega) (by omega)

set_option maxHeartbeats 4000000 in
set_option maxRecDepth 100000 in
theorem plength_any (t : Tab) (n : Nat) (w : World) :
    Calls Tryz.prog 41 #[t.val, i6 n] w fun z w' => z = .returned (i6 (t.len n)) ∧ Same w w' := by
  unfold Tab.val Tab.len
  by_cases h : n < 10
  · rw [if_pos h]
    have d1 : decide ((n : Int) < 10) = true := by simp; omega
    go_enter Tryz.func41, Tryz.ntmps41
    go_wp2_with fail
    go_ret
    exact ⟨rfl, by first | exact (Keeps.refl _ _).alloc _ | (refine Keeps.drewN ?_ _; exact (Keeps.refl _ _).alloc _)⟩
  · rw [if_neg h]
    have d1 : decide ((n : Int) < 10) = false := by simp; omega
    go_enter Tryz.func41, Tryz.ntmps41
    go_wp2_with fail
    go_ret
    exact ⟨rfl, by first | exact (Keeps.refl _ _).alloc _ | (refine Keeps.drewN ?_ _; exact (Keeps.refl _ _).alloc _)⟩

set_option maxHeartbeats 4000000 in
set_option maxRecDepth 100000 in
theorem pdist_any (t : Tab) (ht : t.good) (d : Nat) (w : World) (h1 : 1 ≤ d) (h2 : d ≤ 1000000) :
    Calls Tryz.prog 42 #[t.val, i6 d] w fun z w' => z = .returned (i6 (t.dist d)) ∧ Same w w' := by
  have d1 : decide ((d : Int) < 1) = false := by simp; omega
  have h3 := t.dist_ok ht d
  have e1 : ((d : Int) - 1).toNat = d - 1 := by omega
  have hl := hid (fun w0 => len_any ((d : Int) - 1) w0 (by omega) (by omega))
  rw [e1] at hl
  unfold Tab.val
  unfold Tab.dist at h3 ⊢
  generalize Lib.bitLen (d - 1) = b at *
  have e2 : IntKind.i64.wrap ((d : Int) - 1) = (d : Int) - 1 := IntWalk.i64_in _ (by omega)
  have e3 : IntKind.u64.wrap ((d : Int) - 1) = (d : Int) - 1 := by unfold IntKind.wrap; simp [IntKind.bits, IntKind.signed]; omega
  have e4 : IntKind.i64.wrap (t.bit * (b : Int)) = t.bit * (b : Int) := IntWalk.i64_in _ (by omega)
  go_enter Tryz.func42, Tryz.ntmps42
  have B0 : Blk (w.alloc (.cells #[i6 t.lit, i6 t.mat, i6 t.near, i6 t.far, i6 t.bit] 43)) w.heap.size #[i6 t.lit, i6 t.mat, i6 t.near, i6 t.far, i6 t.bit] 43 := Blk.new _ _ _
  have c4 := B0.cell 4
  have hb4 := B0.lt
  simp only [List.getElem?_toArray, List.getElem?_cons_succ, List.getElem?_cons_zero] at c4
  go_upto_region 3 with fail
  refine wp_region_held_drew (S := (fun V => Same (w.alloc (.cells #[i6 t.lit, i6 t.mat, i6 t.near, i6 t.far, i6 t.bit] 43)) V)) (by kernel_rfl) (by (try dsimp only); exact (Keeps.refl _ _).drew) (fun hHeld => ?_)
  refine wpAnyH_take (i := 0) (oi := ⟨some 7, _, _, _, _, _⟩) (v := ?v0d) rfl (by kernel_rfl) (by kernel_rfl) (by kernel_rfl) (fun _ _ _ h => h) (Or.inl ⟨by rfl, ?h0d⟩) (by assumption) ?r0d
  case h0d => intro w hSw; (try dsimp only at hSw); go_simp; (try with_reducible rfl)
  try simp only [Act.put, List.setIfInBounds_toArray, List.set_cons_zero, List.set_cons_succ]
  refine wpAnyH_take (i := 1) (oi := ⟨some 8, _, _, _, _, _⟩) (v := ?v1d) rfl (by kernel_rfl) (by kernel_rfl) (by kernel_rfl) (fun _ _ _ h => h) (Or.inl ⟨by rfl, ?h1d⟩) (by assumption) ?r1d
  case h1d => intro w hSw; (try dsimp only at hSw); have q4 := (Keeps.cell hSw hb4 (fun h => h)).trans c4; go_simp; (try with_reducible rfl)
  try simp only [Act.put, List.setIfInBounds_toArray, List.set_cons_zero, List.set_cons_succ]
  refine wpAnyH_take (i := 2) (oi := ⟨some 9, _, _, _, _, _⟩) (v := ?v2d) rfl (by kernel_rfl) (by kernel_rfl) (by kernel_rfl) (fun _ _ _ h => h) (Or.inl ⟨by rfl, ?h2d⟩) (by assumption) ?r2d
  case h2d => intro w hSw; (try dsimp only at hSw); go_simp; (try with_reducible rfl)
  try simp only [Act.put, List.setIfInBounds_toArray, List.set_cons_zero, List.set_cons_succ]
  refine wpAnyH_take (i := 3) (oi := ⟨some 10, _, _, _, _, _⟩) (v := ?v3d) rfl (by kernel_rfl) (by kernel_rfl) (by kernel_rfl) (fun _ _ _ h => h) (Or.inl ⟨by rfl, ?h3d⟩) (by assumption) ?r3d
  case h3d => intro w hSw; (try dsimp only at hSw); go_simp; (try with_reducible rfl)
  try simp only [Act.put, List.setIfInBounds_toArray, List.set_cons_zero, List.set_cons_succ]
  refine wpAnyH_take (i := 4) (oi := ⟨some 11, _, _, _, _, _⟩) (v := ?v4d) rfl (by kernel_rfl) (by kernel_rfl) (by kernel_rfl) (fun _ _ _ h => h) (Or.inl ⟨by rfl, ?h4d⟩) (by assumption) ?r4d
  case h4d => intro w hSw; (try dsimp only at hSw); go_simp; (try with_reducible rfl)
  try simp only [Act.put, List.setIfInBounds_toArray, List.set_cons_zero, List.set_cons_succ]
  refine wpAnyH_ready (rs := [5]) (by kernel_rfl) (by simp) ?_
  refine AllReadyH.cons (o := ⟨some 12, _, _, _, _, _⟩) rfl (fun K hK => ?_) AllReadyH.nil
  go_simp; (go_at_call 74; refine (hl.out _).mono ?_; rintro z w4 ⟨rfl, rfl⟩)
  refine hK.out _ _ (by (try dsimp only); repeat (first | exact Keeps.refl _ _ | refine Keeps.drew ?_ | refine Keeps.drewN ?_ _ | refine Keeps.alloc ?_ _ | refine Keeps.setCell ?_ (by simp; try omega) _ | exact Hid.out (by assumption) | refine Keeps.trans ?_ (by assumption))) (fun hHeld => ?_)
  clear hK K
  try simp only [Act.put, List.setIfInBounds_toArray, List.set_cons_zero, List.set_cons_succ]
  refine wpAnyH_take (i := 6) (oi := ⟨some 13, _, _, _, _, _⟩) (v := ?v6d) rfl (by kernel_rfl) (by kernel_rfl) (by kernel_rfl) (fun _ _ _ h => h) (Or.inl ⟨by rfl, ?h6d⟩) (by assumption) ?r6d
  case h6d => intro w hSw; (try dsimp only at hSw); go_simp; (try with_reducible rfl)
  try simp only [Act.put, List.setIfInBounds_toArray, List.set_cons_zero, List.set_cons_succ]
  refine wpAnyH_take (i := 7) (oi := ⟨some 4, _, _, _, _, _⟩) (v := ?v7d) rfl (by kernel_rfl) (by kernel_rfl) (by kernel_rfl) (fun _ _ _ h => h) (Or.inl ⟨by rfl, ?h7d⟩) (by assumption) ?r7d
  case h7d => intro w hSw; (try dsimp only at hSw); go_simp; (try with_reducible rfl)
  try simp only [Act.put, List.setIfInBounds_toArray, List.set_cons_zero, List.set_cons_succ]
  refine wpAnyH_done (by kernel_rfl) ?_ _
  go_wp2_with fail
  go_ret
  exact ⟨rfl, ((Keeps.refl _ _).alloc _).drew⟩

end Go.Proofs.YtalopgbkjgjppaaGreatDoor

/- optimal's rows: the cheapest ways; better. -/
namespace Go.Proofs.YtalopgbkjgjppaaGreatDoor
open Go.RowKit Go.Cas

/-- The cheapest way to a place: its cost, its last piece. -/
abbrev Opt := Int × Pk
def Opt.cells (o : Opt) : List Value := [i6 o.1, i6 o.2.k, i6 o.2.d, i6 o.2.l, b8 o.2.y]
def cellsO (O : List Opt) : List Value := O.flatMap Opt.cells

theorem cellsO_length (l : List Opt) : (cellsO l).length = l.length * 5 := by
  induction l with
  | nil => rfl
  | cons p l ih => simp [cellsO, Opt.cells] at *; omega

theorem cellsO_get : ∀ (l : List Opt) (k j : Nat) (p : Opt), l[k]? = some p → j < 5 → (cellsO l)[k * 5 + j]? = p.cells[j]?
  | [], k, j, p, h, _ => by simp at h
  | q :: l, 0, j, p, h, hj => by
    simp at h; subst h
    show (q.cells ++ cellsO l)[0 * 5 + j]? = _
    rw [List.getElem?_append_left (by simp [Opt.cells]; omega)]
    simp
  | q :: l, k + 1, j, p, h, hj => by
    have ih := cellsO_get l k j p (by simpa using h) hj
    show (q.cells ++ cellsO l)[(k + 1) * 5 + j]? = _
    rw [List.getElem?_append_right (by simp [Opt.cells]; omega), ← ih]
    congr 1
    simp [Opt.cells]; omega

theorem cellsO_set (O : List Opt) (k : Nat) (o : Opt) (hk : k < O.length) :
    (((((cellsO O).toArray.setIfInBounds (k * 5) (i6 o.1)).setIfInBounds (k * 5 + 1) (i6 o.2.k)).setIfInBounds (k * 5 + 2) (i6 o.2.d)).setIfInBounds (k * 5 + 3) (i6 o.2.l)).setIfInBounds (k * 5 + 4) (b8 o.2.y) = (cellsO (O.set k o)).toArray := by
  apply Array.ext_getElem?
  intro x
  simp only [Array.getElem?_setIfInBounds, List.getElem?_toArray, Array.size_setIfInBounds, List.size_toArray, cellsO_length]
  by_cases hx : x < O.length * 5
  · obtain ⟨a, b, hb, rfl⟩ : ∃ a b, b < 5 ∧ x = a * 5 + b := ⟨x / 5, x % 5, Nat.mod_lt _ (by decide), by omega⟩
    have ha : a < O.length := by omega
    have hr : (cellsO (O.set k o))[a * 5 + b]? = if k = a then o.cells[b]? else (O[a]).cells[b]? := by
      rw [cellsO_get (O.set k o) a b (if k = a then o else O[a]) (by rw [List.getElem?_set]; by_cases h : k = a <;> simp [h, ha]) hb]
      split <;> rfl
    rw [hr, cellsO_get O a b O[a] (by simp [ha]) hb]
    by_cases h : k = a
    · subst h
      rw [if_pos rfl]
      have : b = 0 ∨ b = 1 ∨ b = 2 ∨ b = 3 ∨ b = 4 := by omega
      rcases this with rfl | rfl | rfl | rfl | rfl <;> simp [Opt.cells] <;> omega
    · rw [if_neg h, if_neg (by omega), if_neg (by omega), if_neg (by omega), if_neg (by omega), if_neg (by omega)]
  · have e1 : (cellsO O)[x]? = none := List.getElem?_eq_none (by rw [cellsO_length]; omega)
    have e2 : (cellsO (O.set k o))[x]? = none := List.getElem?_eq_none (by rw [cellsO_length, List.length_set]; omega)
    rw [e1, e2, if_neg (by omega), if_neg (by omega), if_neg (by omega), if_neg (by omega), if_neg (by omega)]

def Pk.val (p : Pk) : Value := .agg #[i6 p.k, i6 p.d, i6 p.l, b8 p.y]

/-- A better way, if it is one. -/
def betterO (o : Opt) (c : Int) (p : Pk) : Opt := if o.2.k = 0 ∨ c < o.1 then (c, p) else o

abbrev ORow (w : World) (g : Nat) (O : List Opt) : Prop := Blk w g (cellsO O).toArray 93

theorem ORow.at {w : World} {g : Nat} {O : List Opt} (h : ORow w g O) (k : Nat) (o : Opt) (hk : O[k]? = some o) :
    w.cell? ⟨g, k * 5, none⟩ = some (i6 o.1) ∧ w.cell? ⟨g, k * 5 + 1, none⟩ = some (i6 o.2.k) ∧ w.cell? ⟨g, k * 5 + 2, none⟩ = some (i6 o.2.d) ∧ w.cell? ⟨g, k * 5 + 3, none⟩ = some (i6 o.2.l) ∧ w.cell? ⟨g, k * 5 + 4, none⟩ = some (b8 o.2.y) := by
  have e := fun j hj => (h.cell (k * 5 + j)).trans ((List.getElem?_toArray ..).trans (cellsO_get O k j o hk hj))
  exact ⟨e 0 (by omega), e 1 (by omega), e 2 (by omega), e 3 (by omega), e 4 (by omega)⟩

theorem ORow.put {w : World} {g : Nat} {O : List Opt} (h : ORow w g O) (k : Nat) (hk : k < O.length) (c : Int) (p : Pk) (X : Obj) :
    ORow ((((((w.setCell ⟨g, k * 5, none⟩ (i6 c)).setCell ⟨g, k * 5 + 1, none⟩ (i6 p.k)).setCell ⟨g, k * 5 + 2, none⟩ (i6 p.d)).setCell ⟨g, k * 5 + 3, none⟩ (i6 p.l)).setCell ⟨g, k * 5 + 4, none⟩ (b8 p.y)).alloc X) g (O.set k (c, p)) ∧
    Keeps (fun b => b = g) w ((((((w.setCell ⟨g, k * 5, none⟩ (i6 c)).setCell ⟨g, k * 5 + 1, none⟩ (i6 p.k)).setCell ⟨g, k * 5 + 2, none⟩ (i6 p.d)).setCell ⟨g, k * 5 + 3, none⟩ (i6 p.l)).setCell ⟨g, k * 5 + 4, none⟩ (b8 p.y)).alloc X) := by
  constructor
  · refine Blk.alloc ?_ X
    have := ((((h.set (k * 5) (i6 c)).set (k * 5 + 1) (i6 p.k)).set (k * 5 + 2) (i6 p.d)).set (k * 5 + 3) (i6 p.l)).set (k * 5 + 4) (b8 p.y)
    rw [cellsO_set O k (c, p) hk] at this
    exact this
  · refine Keeps.alloc ?_ X
    exact Keeps.setCell (S := fun b => b = g) (p := ⟨g, k * 5 + 4, none⟩) (Keeps.setCell (S := fun b => b = g) (p := ⟨g, k * 5 + 3, none⟩) (Keeps.setCell (S := fun b => b = g) (p := ⟨g, k * 5 + 2, none⟩) (Keeps.setCell (S := fun b => b = g) (p := ⟨g, k * 5 + 1, none⟩) (Keeps.setCell (S := fun b => b = g) (p := ⟨g, k * 5, none⟩) (Keeps.refl (fun b => b = g) w) (fun _ => rfl) _) (fun _ => rfl) _) (fun _ => rfl) _) (fun _ => rfl) _) (fun _ => rfl) _

set_option maxHeartbeats 4000000 in
set_option maxRecDepth 100000 in
theorem better_any (g k : Nat) (O : List Opt) (o : Opt) (c : Int) (p : Pk) (w : World) (hO : ORow w g O) (hk : O[k]? = some o) :
    Calls Tryz.prog 39 #[.pointer (some ⟨g, k * 5, none⟩), i6 c, p.val] w fun z w' => z = .returned (.tuple #[]) ∧ ORow w' g (O.set k (betterO o c p)) ∧ Keeps (fun b => b = g) w w' := by
  have hkl : k < O.length := (List.getElem?_eq_some_iff.1 hk).1
  obtain ⟨c0, c1, c2, c3, c4⟩ := hO.at k o hk
  have fr := hO.frozen
  have hgl := hO.lt
  unfold Pk.val
  by_cases hb : o.2.k = 0 ∨ c < o.1
  · have hbo : betterO o c p = (c, p) := if_pos hb
    rw [hbo]
    clear hbo
    go_enter Tryz.func39, Tryz.ntmps39
    by_cases h0 : o.2.k = 0
    · have t1 : (o.2.k == 0) = true := by simpa using h0
      clear hb h0
      go_wp2_with fail
      go_end0
      exact ⟨rfl, hO.put k hkl c p _⟩
    · have t1 : (o.2.k == 0) = false := by simpa using h0
      have t2 : decide (c < o.1) = true := by simp; exact hb.resolve_left h0
      clear hb h0
      go_wp2_with fail
      go_end0
      exact ⟨rfl, hO.put k hkl c p _⟩
  · have hbo : betterO o c p = o := if_neg hb
    have hse : O.set k o = O := by
      apply List.ext_getElem?
      intro x
      rw [List.getElem?_set]
      by_cases h : k = x
      · subst h; rw [if_pos rfl, if_pos hkl, hk]
      · simp [h]
    rw [hbo, hse]
    have t1 : (o.2.k == 0) = false := by simp; exact fun h => hb (.inl h)
    have t2 : decide (c < o.1) = false := by simp; exact Int.not_lt.1 (fun h => hb (.inr h))
    clear hb hbo hse
    go_enter Tryz.func39, Tryz.ntmps39
    go_wp2_with fail
    go_end0
    exact ⟨rfl, hO.alloc _, (Keeps.refl _ _).alloc _⟩
end Go.Proofs.YtalopgbkjgjppaaGreatDoor

/- optimal.Plain's rows as lists: the cheapest ways, place by place. -/
namespace Go.Proofs.YtalopgbkjgjppaaGreatDoor
open Go.RowKit Go.Cas

def zeroO : Opt := (0, ⟨0, 0, 0, 0⟩)
def oat (O : List Opt) (j : Nat) : Opt := (O[j]?).getD zeroO
def upd (O : List Opt) (j : Nat) (c : Int) (p : Pk) : List Opt := O.set j (betterO (oat O j) c p)
def litPk (y : UInt8) : Pk := ⟨1, 0, 0, y⟩
def matPk (d n : Nat) : Pk := ⟨2, d, n, 0⟩
def litStep (t : Tab) (s : List UInt8) (i : Nat) (O : List Opt) : List Opt := upd O (i + 1) ((oat O i).1 + t.lit) (litPk (byte s i))
def edgeStep (t : Tab) (i : Nat) (C : Int) (O : List Opt) (e : Nat × Nat) : List Opt := upd O (i + e.1) (C + t.edge e.1 e.2) (matPk e.2 e.1)

def edgesTo (n len d : Nat) : List (Nat × Nat) := (List.range' n (len + 1 - n)).map fun m => (m, d)
def edgesGo : Nat → List (Nat × Nat) → List (Nat × Nat)
  | _, [] => []
  | n, (len, d) :: l => edgesTo n len d ++ edgesGo (max n (len + 1)) l

theorem edgesTo_cons {n len : Nat} (d : Nat) (h : n ≤ len) : edgesTo n len d = (n, d) :: edgesTo (n + 1) len d := by
  unfold edgesTo
  rw [show len + 1 - n = (len + 1 - (n + 1)) + 1 from by omega, List.range'_succ]
  rfl
theorem edgesTo_nil {n len : Nat} (d : Nat) (h : len < n) : edgesTo n len d = [] := by
  unfold edgesTo
  rw [show len + 1 - n = 0 from by omega]
  rfl
theorem mem_edgesTo {n len d m e : Nat} : (m, e) ∈ edgesTo n len d ↔ n ≤ m ∧ m ≤ len ∧ e = d := by
  unfold edgesTo
  rw [List.mem_map]
  constructor
  · rintro ⟨x, hx, h⟩
    rw [List.mem_range'] at hx
    obtain ⟨y, hy, rfl⟩ := hx
    simp only [Prod.mk.injEq] at h
    omega
  · rintro ⟨h1, h2, rfl⟩
    exact ⟨m, by rw [List.mem_range']; exact ⟨m - n, by omega, by omega⟩, rfl⟩

def placeStep (t : Tab) (s : List UInt8) (i : Nat) (L : List (Nat × Nat)) (O : List Opt) : List Opt := (edgesGo 2 L).foldl (edgeStep t i (oat O i).1) (litStep t s i O)

/-- What stands in the rows behind so many places. -/
inductive PlainTo (t : Tab) (s : List UInt8) (W : Int) : Nat → List Opt → Prop
  | zero : PlainTo t s W 0 (List.replicate (s.length + 1) zeroO)
  | step {i : Nat} {O : List Opt} {L : List (Nat × Nat)} : PlainTo t s W i O → i < s.length → Finds s W i L → PlainTo t s W (i + 1) (placeStep t s i L O)

theorem upd_length (O : List Opt) (j : Nat) (c : Int) (p : Pk) : (upd O j c p).length = O.length := by simp [upd]
theorem edges_length (t : Tab) (i : Nat) (C : Int) : ∀ (E : List (Nat × Nat)) (O : List Opt), (E.foldl (edgeStep t i C) O).length = O.length
  | [], _ => rfl
  | e :: E, O => by rw [List.foldl_cons, edges_length t i C E]; exact upd_length _ _ _ _

theorem PlainTo.length {t : Tab} {s : List UInt8} {W : Int} {i : Nat} {O : List Opt} (h : PlainTo t s W i O) : O.length = s.length + 1 := by
  induction h with
  | zero => simp
  | step _ _ _ ih => unfold placeStep; rw [edges_length]; unfold litStep; rw [upd_length]; exact ih

theorem PlainTo.le {t : Tab} {s : List UInt8} {W : Int} {i : Nat} {O : List Opt} (h : PlainTo t s W i O) : i ≤ s.length := by
  cases h with
  | zero => omega
  | step _ h _ => omega

theorem oat_upd (O : List Opt) (j k : Nat) (c : Int) (p : Pk) : oat (upd O j c p) k = if j = k ∧ j < O.length then betterO (oat O j) c p else oat O k := by
  unfold upd
  by_cases h : j = k
  · subst h
    by_cases hl : j < O.length
    · rw [if_pos ⟨rfl, hl⟩]
      show ((O.set j (betterO (oat O j) c p))[j]?).getD zeroO = _
      rw [List.getElem?_set, if_pos rfl, if_pos hl]
      rfl
    · rw [if_neg (fun h => hl h.2)]
      show ((O.set j (betterO (oat O j) c p))[j]?).getD zeroO = (O[j]?).getD zeroO
      rw [List.getElem?_set, if_pos rfl, if_neg hl, List.getElem?_eq_none (by omega)]
  · rw [if_neg (fun e => h e.1)]
    show ((O.set j (betterO (oat O j) c p))[k]?).getD zeroO = (O[k]?).getD zeroO
    rw [List.getElem?_set, if_neg h]

def Small (O : List Opt) (B : Int) : Prop := ∀ j, 0 ≤ (oat O j).1 ∧ (oat O j).1 ≤ B

theorem Small.upd {O : List Opt} {B : Int} (h : Small O B) (j : Nat) (c : Int) (p : Pk) (hc : 0 ≤ c ∧ c ≤ B) : Small (upd O j c p) B := by
  intro k
  rw [oat_upd]
  split
  · unfold betterO
    split
    · exact hc
    · exact h j
  · exact h k

theorem Small.edges {t : Tab} (ht : t.good) (i : Nat) {C B : Int} (hC : 0 ≤ C ∧ C + 660000 ≤ B) : ∀ (E : List (Nat × Nat)) (O : List Opt), Small O B → Small (E.foldl (edgeStep t i C) O) B
  | [], _, h => h
  | e :: E, O, h => by
    rw [List.foldl_cons]
    refine Small.edges ht i hC E _ (h.upd _ _ _ ?_)
    have := t.edge_ok ht e.1 e.2
    omega

theorem PlainTo.small {t : Tab} (ht : t.good) {s : List UInt8} {W : Int} {i : Nat} {O : List Opt} (h : PlainTo t s W i O) : Small O (i * 660000) := by
  induction h with
  | zero =>
    intro j
    have : oat (List.replicate (s.length + 1) zeroO) j = zeroO := by
      unfold oat
      rw [List.getElem?_replicate]
      split <;> rfl
    rw [this]
    exact ⟨Int.le_refl _, by simp [zeroO]⟩
  | @step i O L hp hi hf ih =>
    have hC := ih i
    have hl := ht.1
    unfold okP at hl
    refine Small.edges ht i ⟨hC.1, by push_cast; omega⟩ _ _ (Small.upd (fun j => ?_) _ _ _ ⟨by omega, by push_cast; omega⟩)
    have := ih j
    exact ⟨this.1, by push_cast; omega⟩

/-- What Next tells: each from a place before, as long as it is. -/
theorem pick_mem (i : Nat) : ∀ (l : List (Nat × Nat)) (best n d : Nat), (n, d) ∈ pick i best l → best < n ∧ ∃ k, (k, n) ∈ l ∧ d = i - k
  | [], _, _, _, h => by simp [pick] at h
  | (k, m) :: l, best, n, d, h => by
    unfold pick at h
    split at h
    · rename_i hb
      rcases List.mem_cons.1 h with e | h
      · simp only [Prod.mk.injEq] at e
        obtain ⟨rfl, rfl⟩ := e
        exact ⟨hb, k, List.mem_cons_self .., rfl⟩
      · obtain ⟨h1, k', h2, h3⟩ := pick_mem i l m n d h
        exact ⟨by omega, k', List.mem_cons_of_mem _ h2, h3⟩
    · obtain ⟨h1, k', h2, h3⟩ := pick_mem i l best n d h
      exact ⟨h1, k', List.mem_cons_of_mem _ h2, h3⟩

theorem finds_mem {s : List UInt8} {W : Int} {i : Nat} {L : List (Nat × Nat)} (h : Finds s W i L) {n d : Nat} (hm : (n, d) ∈ L) : 2 ≤ n ∧ 1 ≤ d ∧ d ≤ i ∧ (d : Int) ≤ W ∧ n = aliN s (i - d) i := by
  obtain ⟨t, ht, rfl, _⟩ := h
  obtain ⟨h1, k, h2, rfl⟩ := pick_mem i _ _ _ _ hm
  have hx := (met_is s i W t i ht.1 ht.2.1 ht.2.1).1 (k, n) h2
  dsimp only at hx
  have e : i - (i - k) = k := by omega
  rw [e]
  refine ⟨by omega, by omega, by omega, ?_, hx.2.2.2⟩
  have := hx.2.2.1
  omega

theorem made_opts (N : Nat) : madeCells #[.int .i64 0, .int .i64 0, .int .i64 0, .int .i64 0, .int .u8 0] (N * 5) = (cellsO (List.replicate N zeroO)).toArray := by
  apply Array.ext_getElem?
  intro x
  rw [show (cellsO (List.replicate N zeroO)).toArray[x]? = (cellsO (List.replicate N zeroO))[x]? from by simp]
  by_cases hx : x < N * 5
  · obtain ⟨a, b, hb, rfl⟩ : ∃ a b, b < 5 ∧ x = a * 5 + b := ⟨x / 5, x % 5, Nat.mod_lt _ (by decide), by omega⟩
    rw [cellsO_get (List.replicate N zeroO) a b zeroO (by rw [List.getElem?_replicate, if_pos (by omega)]) hb]
    have e : (madeCells #[.int .i64 0, .int .i64 0, .int .i64 0, .int .i64 0, .int .u8 0] (N * 5))[a * 5 + b]? = some (#[Value.int .i64 0, .int .i64 0, .int .i64 0, .int .i64 0, .int .u8 0][(a * 5 + b) % 5]!) := by
      simp [madeCells, hx]
    rw [e, show (a * 5 + b) % 5 = b from by omega]
    have : b = 0 ∨ b = 1 ∨ b = 2 ∨ b = 3 ∨ b = 4 := by omega
    rcases this with rfl | rfl | rfl | rfl | rfl <;> rfl
  · rw [List.getElem?_eq_none (by rw [cellsO_length, List.length_replicate]; omega), Array.getElem?_eq_none (by rw [size_madeCells]; omega)]
end Go.Proofs.YtalopgbkjgjppaaGreatDoor
