/- Part of a proof: Bs, Bc. -/
import Derived.Test.YtalopgbkjgjppaaGreatDoorGBt
import Derived.Test.YtalopgbkjgjppaaGreatDoorGAl
import Derived.Deep.OwnRows
/- The tree's finder: New; the closure that is handed to hang. -/
namespace Go.Proofs.YtalopgbkjgjppaaGreatDoor
open Go.RowKit Go.Cas

def rowC (A : Rows2) (b : Bool) (N : Nat) : Array Value := ((List.range N).map fun j => i6 (A (b, j))).toArray

theorem rowC_get (A : Rows2) (b : Bool) (N j : Nat) (hj : j < N) : (rowC A b N)[j]? = some (i6 (A (b, j))) := by simp [rowC, hj]

theorem made_rows (N : Nat) (b : Bool) : madeCells #[.int .i64 0] N = rowC (fun _ => 0) b N := by
  apply Array.ext'
  rw [toList_madeCells_one]
  unfold rowC
  apply List.ext_getElem?
  intro j
  by_cases hj : j < N <;> simp [hj]

theorem rowC_put (A : Rows2) (b : Bool) (N j : Nat) (v : Int) : (rowC A b N).setIfInBounds j (i6 v) = rowC (A.put (b, j) v) b N := by
  apply Array.ext_getElem?
  intro x
  rw [Array.getElem?_setIfInBounds]
  by_cases hx : x < N
  · by_cases hjx : j = x
    · subst hjx
      rw [if_pos rfl, if_pos (by simp [rowC, hx]), rowC_get _ _ _ _ hx, put_same]
    · rw [if_neg hjx, rowC_get _ _ _ _ hx, rowC_get _ _ _ _ hx, put_other _ _ (fun e => hjx (Prod.mk.inj e).2.symm)]
  · have h1 : (rowC A b N)[x]? = none := by simp [rowC]; omega
    have h2 : (rowC (A.put (b, j) v) b N)[x]? = none := by simp [rowC]; omega
    rw [h1, h2]
    by_cases hjx : j = x
    · rw [if_pos hjx, if_neg (by simp [rowC]; omega)]
    · rw [if_neg hjx]

theorem rowC_other (A : Rows2) (b : Bool) (N : Nat) (c : Bool × Nat) (v : Int) (h : c.1 ≠ b) : rowC (A.put c v) b N = rowC A b N := by
  unfold rowC
  congr 1
  exact List.map_congr_left fun j _ => by rw [put_other _ _ (fun e => h (by rw [← e]))]

/-- The tree's finder. -/
structure BF (w : World) (p : Nat) (s : List UInt8) (W : Int) (pl : Nat) (top : Int) (g1 g2 : Nat) (A : Rows2) : Prop where
  blk : Blk w p #[.string ⟨s.toArray⟩, i6 W, i6 pl, i6 top, .slice (some ⟨g1, 0, none⟩) s.length s.length, .slice (some ⟨g2, 0, none⟩) s.length s.length] 151
  r1 : Blk w g1 (rowC A false s.length) 3
  r2 : Blk w g2 (rowC A true s.length) 3
  n1 : p ≠ g1
  n2 : p ≠ g2
  n3 : g1 ≠ g2

set_option maxHeartbeats 4000000 in
set_option maxRecDepth 100000 in
theorem bnew_any (s : List UInt8) (W : Int) (w : World) (hs : s.length ≤ 1000000) :
    Calls Tryz.prog 38 #[.string ⟨s.toArray⟩, i6 W] w fun z w' => ∃ p g1 g2, z = .returned (.pointer (some ⟨p, 0, none⟩)) ∧ Same w w' ∧ BF w' p s W 0 (-1) g1 g2 (fun _ => 0) ∧ w.heap.size ≤ p ∧ w.heap.size ≤ g1 ∧ w.heap.size ≤ g2 := by
  have hmk := fun w0 => run_make_row' (P := Tryz.prog) 114 3 (.int .i64 0) 8 Tryz.underlying114 Tryz.infoI rfl .i64 .i64 s.length (by omega) (by omega) w0
  go_enter Tryz.func38, Tryz.ntmps38
  go_upto_region 1 with fail
  refine wp_region_held_drew (S := (fun V => Same w V)) (by kernel_rfl) (by (try dsimp only); exact (Keeps.refl _ _).drew) (fun hHeld => ?_)
  refine wpAnyH_take (i := 0) (oi := ⟨some 5, _, _, _, _, _⟩) (v := ?v0n) rfl (by kernel_rfl) (by kernel_rfl) (by kernel_rfl) (fun _ _ _ h => h) (Or.inl ⟨by rfl, ?h0n⟩) (by assumption) ?r0n
  case h0n => intro w hSw; (try dsimp only at hSw); go_simp; (try with_reducible rfl)
  try simp only [Act.put, List.setIfInBounds_toArray, List.set_cons_zero, List.set_cons_succ]
  refine wpAnyH_take (i := 1) (oi := ⟨some 6, _, _, _, _, _⟩) (v := ?v1n) rfl (by kernel_rfl) (by kernel_rfl) (by kernel_rfl) (fun _ _ _ h => h) (Or.inl ⟨by rfl, ?h1n⟩) (by assumption) ?r1n
  case h1n => intro w hSw; (try dsimp only at hSw); go_simp; (try with_reducible rfl)
  try simp only [Act.put, List.setIfInBounds_toArray, List.set_cons_zero, List.set_cons_succ]
  refine wpAnyH_take (i := 2) (oi := ⟨some 7, _, _, _, _, _⟩) (v := ?v2n) rfl (by kernel_rfl) (by kernel_rfl) (by kernel_rfl) (fun _ _ _ h => h) (Or.inl ⟨by rfl, ?h2n⟩) (by assumption) ?r2n
  case h2n => intro w hSw; (try dsimp only at hSw); go_simp; (try with_reducible rfl)
  try simp only [Act.put, List.setIfInBounds_toArray, List.set_cons_zero, List.set_cons_succ]
  refine wpAnyH_take (i := 3) (oi := ⟨some 8, _, _, _, _, _⟩) (v := ?v3n) rfl (by kernel_rfl) (by kernel_rfl) (by kernel_rfl) (fun _ _ _ h => h) (Or.inl ⟨by rfl, ?h3n⟩) (by assumption) ?r3n
  case h3n => intro w hSw; (try dsimp only at hSw); go_simp; (try with_reducible rfl)
  try simp only [Act.put, List.setIfInBounds_toArray, List.set_cons_zero, List.set_cons_succ]
  refine wpAnyH_take (i := 5) (oi := ⟨some 10, _, _, _, _, _⟩) (v := ?v5n) rfl (by kernel_rfl) (by kernel_rfl) (by kernel_rfl) (fun _ _ _ h => h) (Or.inl ⟨by rfl, ?h5n⟩) (by assumption) ?r5n
  case h5n => intro w hSw; (try dsimp only at hSw); go_simp; (try with_reducible rfl)
  try simp only [Act.put, List.setIfInBounds_toArray, List.set_cons_zero, List.set_cons_succ]
  refine wpAnyH_take (i := 6) (oi := ⟨some 11, _, _, _, _, _⟩) (v := ?v6n) rfl (by kernel_rfl) (by kernel_rfl) (by kernel_rfl) (fun _ _ _ h => h) (Or.inl ⟨by rfl, ?h6n⟩) (by assumption) ?r6n
  case h6n => intro w hSw; (try dsimp only at hSw); go_simp; (try with_reducible rfl)
  try simp only [Act.put, List.setIfInBounds_toArray, List.set_cons_zero, List.set_cons_succ]
  refine wpAnyH_ready (rs := [4, 7]) (by kernel_rfl) (by simp) ?_
  refine AllReadyH.cons (o := ⟨some 9, _, _, _, _, _⟩) rfl (fun K hK => ?_) (AllReadyH.cons (o := ⟨some 12, _, _, _, _, _⟩) rfl (fun K hK => ?_) AllReadyH.nil)
  · go_simp
    refine hK.out _ _ (by (try dsimp only); repeat (first | exact Keeps.refl _ _ | refine Keeps.drew ?_ | refine Keeps.drewN ?_ _ | refine Keeps.alloc ?_ _ | refine Keeps.setCell ?_ (by simp; try omega) _ | exact Hid.out (by assumption) | refine Keeps.trans ?_ (by assumption))) (fun hHeld => ?_)
    clear hK K
    try simp only [Act.put, List.setIfInBounds_toArray, List.set_cons_zero, List.set_cons_succ]
    refine wpAnyH_ready (rs := [7]) (by kernel_rfl) (by simp) ?_
    refine AllReadyH.cons (o := ⟨some 12, _, _, _, _, _⟩) rfl (fun K hK => ?_) AllReadyH.nil
    go_simp
    refine hK.out _ _ (by (try dsimp only); repeat (first | exact Keeps.refl _ _ | refine Keeps.drew ?_ | refine Keeps.drewN ?_ _ | refine Keeps.alloc ?_ _ | refine Keeps.setCell ?_ (by simp; try omega) _ | exact Hid.out (by assumption) | refine Keeps.trans ?_ (by assumption))) (fun hHeld => ?_)
    clear hK K
    try simp only [Act.put, List.setIfInBounds_toArray, List.set_cons_zero, List.set_cons_succ]
    refine wpAnyH_take (i := 8) (oi := ⟨some 13, _, _, _, _, _⟩) (v := ?v8na) rfl (by kernel_rfl) (by kernel_rfl) (by kernel_rfl) (fun _ _ _ h => h) (Or.inl ⟨by rfl, ?h8na⟩) (by assumption) ?r8na
    case h8na => intro w hSw; (try dsimp only at hSw); go_simp; (try with_reducible rfl)
    try simp only [Act.put, List.setIfInBounds_toArray, List.set_cons_zero, List.set_cons_succ]
    refine wpAnyH_ready (rs := [9]) (by kernel_rfl) (by simp) ?_
    refine AllReadyH.cons (o := ⟨some 14, _, _, _, _, _⟩) rfl (fun K hK => ?_) AllReadyH.nil
    go_simp
    refine hK.out _ _ (by (try dsimp only); repeat (first | exact Keeps.refl _ _ | refine Keeps.drew ?_ | refine Keeps.drewN ?_ _ | refine Keeps.alloc ?_ _ | refine Keeps.setCell ?_ (by simp; try omega) _ | exact Hid.out (by assumption) | refine Keeps.trans ?_ (by assumption))) (fun hHeld => ?_)
    clear hK K
    try simp only [Act.put, List.setIfInBounds_toArray, List.set_cons_zero, List.set_cons_succ]
    refine wpAnyH_take (i := 10) (oi := ⟨some 4, _, _, _, _, _⟩) (v := ?v10na) rfl (by kernel_rfl) (by kernel_rfl) (by kernel_rfl) (fun _ _ _ h => h) (Or.inl ⟨by rfl, ?h10na⟩) (by assumption) ?r10na
    case h10na => intro w hSw; (try dsimp only at hSw); go_simp; (try with_reducible rfl)
    try simp only [Act.put, List.setIfInBounds_toArray, List.set_cons_zero, List.set_cons_succ]
    refine wpAnyH_done (by kernel_rfl) ?_ _
    go_wp2_with fail
    go_ret
    refine ⟨_, w.heap.size, w.heap.size + 1, rfl, by repeat (first | exact Keeps.refl _ _ | refine Keeps.drew ?_ | refine Keeps.drewN ?_ _ | refine Keeps.alloc ?_ _ | refine Keeps.setCell ?_ (by simp; try omega) _ | exact Hid.out (by assumption) | refine Keeps.trans ?_ (by assumption)), ⟨Blk.new_at (by simp), (by rw [← made_rows _ false]; exact ((Blk.new _ _ _).alloc _).alloc _), (by rw [← made_rows _ true]; exact (Blk.new_at (by simp)).alloc _), ?_, ?_, ?_⟩, ?_, ?_, ?_⟩
    all_goals first | omega | (simp; done) | (simp; omega)
  · go_simp
    refine hK.out _ _ (by (try dsimp only); repeat (first | exact Keeps.refl _ _ | refine Keeps.drew ?_ | refine Keeps.drewN ?_ _ | refine Keeps.alloc ?_ _ | refine Keeps.setCell ?_ (by simp; try omega) _ | exact Hid.out (by assumption) | refine Keeps.trans ?_ (by assumption))) (fun hHeld => ?_)
    clear hK K
    try simp only [Act.put, List.setIfInBounds_toArray, List.set_cons_zero, List.set_cons_succ]
    refine wpAnyH_ready (rs := [4]) (by kernel_rfl) (by simp) ?_
    refine AllReadyH.cons (o := ⟨some 9, _, _, _, _, _⟩) rfl (fun K hK => ?_) AllReadyH.nil
    go_simp
    refine hK.out _ _ (by (try dsimp only); repeat (first | exact Keeps.refl _ _ | refine Keeps.drew ?_ | refine Keeps.drewN ?_ _ | refine Keeps.alloc ?_ _ | refine Keeps.setCell ?_ (by simp; try omega) _ | exact Hid.out (by assumption) | refine Keeps.trans ?_ (by assumption))) (fun hHeld => ?_)
    clear hK K
    try simp only [Act.put, List.setIfInBounds_toArray, List.set_cons_zero, List.set_cons_succ]
    refine wpAnyH_take (i := 8) (oi := ⟨some 13, _, _, _, _, _⟩) (v := ?v8nb) rfl (by kernel_rfl) (by kernel_rfl) (by kernel_rfl) (fun _ _ _ h => h) (Or.inl ⟨by rfl, ?h8nb⟩) (by assumption) ?r8nb
    case h8nb => intro w hSw; (try dsimp only at hSw); go_simp; (try with_reducible rfl)
    try simp only [Act.put, List.setIfInBounds_toArray, List.set_cons_zero, List.set_cons_succ]
    refine wpAnyH_ready (rs := [9]) (by kernel_rfl) (by simp) ?_
    refine AllReadyH.cons (o := ⟨some 14, _, _, _, _, _⟩) rfl (fun K hK => ?_) AllReadyH.nil
    go_simp
    refine hK.out _ _ (by (try dsimp only); repeat (first | exact Keeps.refl _ _ | refine Keeps.drew ?_ | refine Keeps.drewN ?_ _ | refine Keeps.alloc ?_ _ | refine Keeps.setCell ?_ (by simp; try omega) _ | exact Hid.out (by assumption) | refine Keeps.trans ?_ (by assumption))) (fun hHeld => ?_)
    clear hK K
    try simp only [Act.put, List.setIfInBounds_toArray, List.set_cons_zero, List.set_cons_succ]
    refine wpAnyH_take (i := 10) (oi := ⟨some 4, _, _, _, _, _⟩) (v := ?v10nb) rfl (by kernel_rfl) (by kernel_rfl) (by kernel_rfl) (fun _ _ _ h => h) (Or.inl ⟨by rfl, ?h10nb⟩) (by assumption) ?r10nb
    case h10nb => intro w hSw; (try dsimp only at hSw); go_simp; (try with_reducible rfl)
    try simp only [Act.put, List.setIfInBounds_toArray, List.set_cons_zero, List.set_cons_succ]
    refine wpAnyH_done (by kernel_rfl) ?_ _
    go_wp2_with fail
    go_ret
    refine ⟨_, w.heap.size + 1, w.heap.size, rfl, by repeat (first | exact Keeps.refl _ _ | refine Keeps.drew ?_ | refine Keeps.drewN ?_ _ | refine Keeps.alloc ?_ _ | refine Keeps.setCell ?_ (by simp; try omega) _ | exact Hid.out (by assumption) | refine Keeps.trans ?_ (by assumption)), ⟨Blk.new_at (by simp), (by rw [← made_rows _ false]; exact (Blk.new_at (by simp)).alloc _), (by rw [← made_rows _ true]; exact ((Blk.new _ _ _).alloc _).alloc _), ?_, ?_, ?_⟩, ?_, ?_, ?_⟩
    all_goals first | omega | (simp; done) | (simp; omega)
end Go.Proofs.YtalopgbkjgjppaaGreatDoor

/- The closure that Next hands to hang. -/
namespace Go.Proofs.YtalopgbkjgjppaaGreatDoor
open Go.RowKit Go.Cas

/-- What the closure captures: the best till now; what was found; the place. -/
structure CS (w : World) (bB oB iB i best : Nat) (L : List (Nat × Nat)) (r : Option Addr) (rc : Nat) : Prop where
  b1 : Blk w bB #[i6 best] 3
  b2 : Blk w oB #[.slice r L.length rc] 95
  b3 : Blk w iB #[i6 i] 3
  sl : Sl 98 2 w r rc L.length (cellsF L)
  d1 : bB ≠ oB
  d2 : bB ≠ iB
  d3 : oB ≠ iB
  e1 : ¬ sblk r bB
  e2 : ¬ sblk r oB
  e3 : ¬ sblk r iB

def csF (bB oB iB : Nat) (r : Option Addr) : Nat → Prop := fun b => b = bB ∨ b = oB ∨ b = iB ∨ sblk r b

theorem CS.keeps {S : Nat → Prop} {w w' : World} {bB oB iB i best : Nat} {L : List (Nat × Nat)} {r : Option Addr} {rc : Nat} (h : CS w bB oB iB i best L r rc) (k : Keeps S w w') (hn : ∀ b, csF bB oB iB r b → ¬ S b) : CS w' bB oB iB i best L r rc :=
  ⟨h.b1.keeps k (hn _ (.inl rfl)), h.b2.keeps k (hn _ (.inr (.inl rfl))), h.b3.keeps k (hn _ (.inr (.inr (.inl rfl)))), h.sl.keeps k fun b hb => hn b (.inr (.inr (.inr hb))), h.d1, h.d2, h.d3, h.e1, h.e2, h.e3⟩

theorem CS.lt {w : World} {bB oB iB i best : Nat} {L : List (Nat × Nat)} {r : Option Addr} {rc : Nat} (h : CS w bB oB iB i best L r rc) : ∀ b, csF bB oB iB r b → b < w.heap.size := by
  rintro b (rfl | rfl | rfl | e)
  · exact h.b1.lt
  · exact h.b2.lt
  · exact h.b3.lt
  · exact h.sl.lt b e

/-- What the closure leaves. -/
def MetLeft (bB oB iB i best : Nat) (L : List (Nat × Nat)) (r : Option Addr) (w w' : World) : Prop :=
  ∃ r' rc', CS w' bB oB iB i best L r' rc' ∧ Keeps (csF bB oB iB r) w w' ∧ ∀ b, sblk r' b → sblk r b ∨ w.heap.size ≤ b

theorem met_step {w W6 : World} {X : Obj} {bB oB iB i best n d rc rc2 : Nat} {L : List (Nat × Nat)} {r r2 : Option Addr} (h : CS w bB oB iB i best L r rc)
    (hown : W6.ownsRow 0 98 2 (.slice r2 (L.length + 1) rc2) (L.length + 1) (cellsF L ++ [i6 n, i6 d])) (hk : Keeps (sblk r) ((w.setCell ⟨bB, 0, none⟩ (i6 n)).alloc X) W6) (hat : ∀ k, sblk r2 k → sblk r k ∨ k = ((w.setCell ⟨bB, 0, none⟩ (i6 n)).alloc X).heap.size) :
    W6.cell? ⟨oB, 0, none⟩ = some (.slice r L.length rc) ∧ W6.frozen? ⟨oB, 0, none⟩ = false ∧ oB < W6.heap.size ∧
    Hid (MetLeft bB oB iB i n (L ++ [(n, d)]) r w (W6.setCell ⟨oB, 0, none⟩ (.slice r2 (L.length + 1) rc2))) := by
  have K1 : Keeps (fun b => b = bB) w (w.setCell ⟨bB, 0, none⟩ (i6 n)) := Keeps.setCell (p := ⟨bB, 0, none⟩) (Keeps.refl (fun b => b = bB) w) (fun _ => rfl) _
  have hb1 : Blk (w.setCell ⟨bB, 0, none⟩ (i6 n)) bB #[i6 n] 3 := by have := h.b1.set 0 (i6 n); simpa using this
  have e1 : ((w.setCell ⟨bB, 0, none⟩ (i6 n)).alloc X).heap.size = w.heap.size + 1 := by simp
  have hK : Keeps (fun b => b = bB ∨ sblk r b) w W6 := ((K1.mono (S' := fun b => b = bB ∨ sblk r b) fun b _ e => .inl e).alloc X).trans' hk fun b _ e => .inr e
  have l1 := h.b1.lt
  have l2 := h.b2.lt
  have l3 := h.b3.lt
  have c1 : Blk W6 bB #[i6 n] 3 := (hb1.alloc X).keeps hk h.e1
  have c2 : Blk W6 oB #[.slice r L.length rc] 95 := h.b2.keeps hK (fun e => e.elim (fun e => h.d1 e.symm) h.e2)
  have c3 : Blk W6 iB #[i6 i] 3 := h.b3.keeps hK (fun e => e.elim (fun e => h.d2 e.symm) h.e3)
  have ns : ∀ b, b < w.heap.size → ¬ sblk r b → ¬ sblk r2 b := fun b hb hn e => by
    rcases hat b e with e | e
    · exact hn e
    · omega
  have K2 : Keeps (fun b => b = oB) W6 (W6.setCell ⟨oB, 0, none⟩ (.slice r2 (L.length + 1) rc2)) := Keeps.setCell (p := ⟨oB, 0, none⟩) (Keeps.refl (fun b => b = oB) W6) (fun _ => rfl) _
  refine ⟨by simpa using c2.cell 0, c2.frozen 0, c2.lt, hid ⟨r2, rc2, ⟨c1.keeps K2 h.d1, ?_, c3.keeps K2 (fun e => h.d3 e.symm), ?_, h.d1, h.d2, h.d3, ns _ l1 h.e1, ns _ l2 h.e2, ns _ l3 h.e3⟩, ?_, ?_⟩⟩
  · have := c2.set 0 (.slice r2 (L.length + 1) rc2)
    simpa using this
  · refine Sl.keeps ⟨?_⟩ K2 (fun b hb e => ns _ l2 h.e2 (e ▸ hb))
    rw [List.length_append, cellsF_snoc]
    exact hown
  · exact (hK.mono (S' := csF bB oB iB r) fun b _ e => e.elim .inl (fun e => .inr (.inr (.inr e)))).trans' K2 fun b _ e => .inr (.inl e)
  · intro b e
    rcases hat b e with e | e
    · exact .inl e
    · exact .inr (by omega)

set_option maxHeartbeats 4000000 in
set_option maxRecDepth 100000 in
theorem met_any (k n bB oB iB i best rc : Nat) (L : List (Nat × Nat)) (r : Option Addr) (w : World) (h : CS w bB oB iB i best L r rc) (hk : k ≤ i) (hi : i ≤ 1000000) (hL : L.length ≤ 1000000) :
    Calls Tryz.prog 73 #[i6 k, i6 n, .pointer (some ⟨bB, 0, none⟩), .pointer (some ⟨oB, 0, none⟩), .pointer (some ⟨iB, 0, none⟩)] w fun z w' => z = .returned (.tuple #[]) ∧
      MetLeft bB oB iB i (if best < n then n else best) (if best < n then L ++ [(n, i - k)] else L) r w w' := by
  have c1 := h.b1.cell 0
  have c2 := h.b2.cell 0
  have c3 := h.b3.cell 0
  have f1 := h.b1.frozen 0
  have l1 := h.b1.lt
  have l2 := h.b2.lt
  have l3 := h.b3.lt
  have n1 := h.d1
  have n2 := h.d2
  have n3 := h.d3
  simp only [List.getElem?_toArray, List.getElem?_cons_zero] at c1 c2 c3
  obtain ⟨i0, HI⟩ := info_hid Tryz.infoF
  have H1 := hid (show L.length + 1 ≤ maxLen by unfold maxLen; omega)
  have H2 := hid (show (L.length + 1) * 16 ≤ 140737488355328 by omega)
  have hik : ((i - k : Nat) : Int) = (i : Int) - k := by omega
  by_cases hb : best < n
  · rw [if_pos hb, if_pos hb]
    have hsl : Sl 98 2 (w.setCell ⟨bB, 0, none⟩ (i6 n)) r rc L.length (cellsF L) := h.sl.keeps (Keeps.setCell (p := ⟨bB, 0, none⟩) (Keeps.refl (fun b => b = bB) w) (fun _ => rfl) _) (fun b hb e => h.e1 (e ▸ hb))
    have hE := hid hik
    clear hik
    go_enter Tryz.func73, Tryz.ntmps73
    go_wp2_with ((at_builtin; refine wpList_push _ rfl (.tmp 11) (.tmp 17) 95 rfl 98 i0 (.agg #[.int .i64 0, .int .i64 0]) 2 16 Tryz.underlying95 HI zF (by decide) r L.length rc (cellsF L) ?_ ?_ ⟨w.heap.size, 0, none⟩ 1 1 [i6 n, i6 ((i : Int) - k)] ?_ rfl ?_ (two_one _ _) H1 H2 ?_; exact rfl; exact hsl.own.alloc _; exact rfl; exact cells_two_at (by simp); intro r2 rc2 w6 hown6 hk6 hat6 _; have HX := hid (met_step (n := n) (d := i - k) h (by rw [hE.out]; exact hown6) hk6 hat6); have hx1 := HX.out.1; have hx2 := HX.out.2.1; have hx3 := HX.out.2.2.1; clear hown6 hk6 hat6))
    go_end0
    exact ⟨rfl, HX.out.2.2.2.out⟩
  · rw [if_neg hb, if_neg hb]
    go_enter Tryz.func73, Tryz.ntmps73
    go_wp2_with fail
    go_end0
    exact ⟨rfl, r, rc, h, Keeps.refl _ _, fun b e => .inl e⟩
end Go.Proofs.YtalopgbkjgjppaaGreatDoor
