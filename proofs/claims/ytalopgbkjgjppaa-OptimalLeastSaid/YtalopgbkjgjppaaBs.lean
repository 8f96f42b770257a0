/- The tree's finder: New; the closure that is handed to hang. -/
import Derived.Test.YtalopgbkjgjppaaBr
import Derived.Test.YtalopgbkjgjppaaNx
import Derived.Deep.OwnRows
namespace Go.Proofs.Ytalopgbkjgjppaa
open Go.RowKit Go.Cas

def rowC (A : Rows2) (b : Bool) (N : Nat) : Array Value := ((List.range N).map fun j => i6 (A (b, j))).toArray

theorem rowC_get (A : Rows2) (b : Bool) (N j : Nat) (hj : j < N) : (rowC A b N)[j]? = some (i6 (A (b, j))) := by simp [rowC, hj]

theorem made_rows (N : Nat) (b : Bool) : madeCells #[.int .i64 0] N = rowC (fun _ => 0) b N := by
  apply Array.ext'
  rw [toList_madeCells_one]
  unfold rowC
  apply List.ext_getElem?
  intro j
  by_cases hj : j < N <;> simp [hj]

theorem rowC_put (A : Rows2) (b : Bool) (N j : Nat) (v : Int) : (rowC A b N).setIfInBounds j (i6 v) = rowC (A.put (b, j) v) b N := by
  apply Array.ext_getElem?
  intro x
  rw [Array.getElem?_setIfInBounds]
  by_cases hx : x < N
  · by_cases hjx : j = x
    · subst hjx
      rw [if_pos rfl, if_pos (by simp [rowC, hx]), rowC_get _ _ _ _ hx, put_same]
    · rw [if_neg hjx, rowC_get _ _ _ _ hx, rowC_get _ _ _ _ hx, put_other _ _ (fun e => hjx (Prod.mk.inj e).2.symm)]
  · have h1 : (rowC A b N)[x]? = none := by simp [rowC]; omega
    have h2 : (rowC (A.put (b, j) v) b N)[x]? = none := by simp [rowC]; omega
    rw [h1, h2]
    by_cases hjx : j = x
    · rw [if_pos hjx, if_neg (by simp [rowC]; omega)]
    · rw [if_neg hjx]

theorem rowC_other (A : Rows2) (b : Bool) (N : Nat) (c : Bool × Nat) (v : Int) (h : c.1 ≠ b) : rowC (A.put c v) b N = rowC A b N := by
  unfold rowC
  congr 1
  exact List.map_congr_left fun j _ => by rw [put_other _ _ (fun e => h (by rw [← e]))]

/-- The tree's finder. -/
structure BF (w : World) (p : Nat) (s : List UInt8) (W : Int) (pl : Nat) (top : Int) (g1 g2 : Nat) (A : Rows2) : Prop where
  blk : Blk w p #[.string ⟨s.toArray⟩, i6 W, i6 pl, i6 top, .slice (some ⟨g1, 0, none⟩) s.length s.length, .slice (some ⟨g2, 0, none⟩) s.length s.length] 109
  r1 : Blk w g1 (rowC A false s.length) 3
  r2 : Blk w g2 (rowC A true s.length) 3
  n1 : p ≠ g1
  n2 : p ≠ g2
  n3 : g1 ≠ g2

set_option maxHeartbeats 4000000 in
set_option maxRecDepth 100000 in
theorem bnew_any (s : List UInt8) (W : Int) (w : World) (hs : s.length ≤ 1000000) :
    Calls Try.prog 49 #[.string ⟨s.toArray⟩, i6 W] w fun z w' => ∃ p g1 g2, z = .returned (.pointer (some ⟨p, 0, none⟩)) ∧ Same w w' ∧ BF w' p s W 0 (-1) g1 g2 (fun _ => 0) ∧ w.heap.size ≤ p ∧ w.heap.size ≤ g1 ∧ w.heap.size ≤ g2 := by
  have hmk := fun w0 => run_make_row' (P := Try.prog) 63 3 (.int .i64 0) 8 Try.underlying63 Try.infoI rfl .i64 .i64 s.length (by omega) (by omega) w0
  go_enter Try.func49, Try.ntmps49
  go_upto_region 1 with fail
  refine wp_region_held_drew (S := (fun V => Same w V)) (by kernel_rfl) (by (try dsimp only); exact (Keeps.refl _ _).drew) (fun hHeld => ?_)
  refine wpAnyH_take (i := 0) (oi := ⟨some 5, _, _, _, _, _⟩) (v := ?v0n) rfl (by kernel_rfl) (by kernel_rfl) (by kernel_rfl) (fun _ _ _ h => h) (Or.inl ⟨by rfl, ?h0n⟩) (by assumption) ?r0n
  case h0n => intro w hSw; (try dsimp only at hSw); go_simp; (try with_reducible rfl)
  try simp only [Act.put, List.setIfInBounds_toArray, List.set_cons_zero, List.set_cons_succ]
  refine wpAnyH_take (i := 1) (oi := ⟨some 6, _, _, _, _, _⟩) (v := ?v1n) rfl (by kernel_rfl) (by kernel_rfl) (by kernel_rfl) (fun _ _ _ h => h) (Or.inl ⟨by rfl, ?h1n⟩) (by assumption) ?r1n
  case h1n => intro w hSw; (try dsimp only at hSw); go_simp; (try with_reducible rfl)
  try simp only [Act.put, List.setIfInBounds_toArray, List.set_cons_zero, List.set_cons_succ]
  refine wpAnyH_take (i := 2) (oi := ⟨some 7, _, _, _, _, _⟩) (v := ?v2n) rfl (by kernel_rfl) (by kernel_rfl) (by kernel_rfl) (fun _ _ _ h => h) (Or.inl ⟨by rfl, ?h2n⟩) (by assumption) ?r2n
  case h2n => intro w hSw; (try dsimp only at hSw); go_simp; (try with_reducible rfl)
  try simp only [Act.put, List.setIfInBounds_toArray, List.set_cons_zero, List.set_cons_succ]
  refine wpAnyH_take (i := 3) (oi := ⟨some 8, _, _, _, _, _⟩) (v := ?v3n) rfl (by kernel_rfl) (by kernel_rfl) (by kernel_rfl) (fun _ _ _ h => h) (Or.inl ⟨by rfl, ?h3n⟩) (by assumption) ?r3n
  case h3n => intro w hSw; (try dsimp only at hSw); go_simp; (try with_reducible rfl)
  try simp only [Act.put, List.setIfInBounds_toArray, List.set_cons_zero, List.set_cons_succ]
  refine wpAnyH_take (i := 5) (oi := ⟨some 10, _, _, _, _, _⟩) (v := ?v5n) rfl (by kernel_rfl) (by kernel_rfl) (by kernel_rfl) (fun _ _ _ h => h) (Or.inl ⟨by rfl, ?h5n⟩) (by assumption) ?r5n
  case h5n => intro w hSw; (try dsimp only at hSw); go_simp; (try with_reducible rfl)
  try simp only [Act.put, List.setIfInBounds_toArray, List.set_cons_zero, List.set_cons_succ]
  refine wpAnyH_take (i := 6) (oi := ⟨some 11, _, _, _, _, _⟩) (v := ?v6n) rfl (by kernel_rfl) (by kernel_rfl) (by kernel_rfl) (fun _ _ _ h => h) (Or.inl ⟨by rfl, ?h6n⟩) (by assumption) ?r6n
  case h6n => intro w hSw; (try dsimp only at hSw); go_simp; (try with_reducible rfl)
  try simp only [Act.put, List.setIfInBounds_toArray, List.set_cons_zero, List.set_cons_succ]
  refine wpAnyH_ready (rs := [4, 7]) (by kernel_rfl) (by simp) ?_
  refine AllReadyH.cons (o := ⟨some 9, _, _, _, _, _⟩) rfl (fun K hK => ?_) (AllReadyH.cons (o := ⟨some 12, _, _, _, _, _⟩) rfl (fun K hK => ?_) AllReadyH.nil)
  · go_simp
    refine hK.out _ _ (by (try dsimp only); repeat (first | exact Keeps.refl _ _ | refine Keeps.drew ?_ | refine Keeps.drewN ?_ _ | refine Keeps.alloc ?_ _ | refine Keeps.setCell ?_ (by simp; try omega) _ | exact Hid.out (by assumption) | refine Keeps.trans ?_ (by assumption))) (fun hHeld => ?_)
    clear hK K
    try simp only [Act.put, List.setIfInBounds_toArray, List.set_cons_zero, List.set_cons_succ]
    refine wpAnyH_ready (rs := [7]) (by kernel_rfl) (by simp) ?_
    refine AllReadyH.cons (o := ⟨some 12, _, _, _, _, _⟩) rfl (fun K hK => ?_) AllReadyH.nil
    go_simp
    refine hK.out _ _ (by (try dsimp only); repeat (first | exact Keeps.refl _ _ | refine Keeps.drew ?_ | refine Keeps.drewN ?_ _ | refine Keeps.alloc ?_ _ | refine Keeps.setCell ?_ (by simp; try omega) _ | exact Hid.out (by assumption) | refine Keeps.trans ?_ (by assumption))) (fun hHeld => ?_)
    clear hK K
    try simp only [Act.put, List.setIfInBounds_toArray, List.set_cons_zero, List.set_cons_succ]
    refine wpAnyH_take (i := 8) (oi := ⟨some 13, _, _, _, _, _⟩) (v := ?v8na) rfl (by kernel_rfl) (by kernel_rfl) (by kernel_rfl) (fun _ _ _ h => h) (Or.inl ⟨by rfl, ?h8na⟩) (by assumption) ?r8na
    case h8na => intro w hSw; (try dsimp only at hSw); go_simp; (try with_reducible rfl)
    try simp only [Act.put, List.setIfInBounds_toArray, List.set_cons_zero, List.set_cons_succ]
    refine wpAnyH_ready (rs := [9]) (by kernel_rfl) (by simp) ?_
    refine AllReadyH.cons (o := ⟨some 14, _, _, _, _, _⟩) rfl (fun K hK => ?_) AllReadyH.nil
    go_simp
    refine hK.out _ _ (by (try dsimp only); repeat (first | exact Keeps.refl _ _ | refine Keeps.drew ?_ | refine Keeps.drewN ?_ _ | refine Keeps.alloc ?_ _ | refine Keeps.setCell ?_ (by simp; try omega) _ | exact Hid.out (by assumption) | refine Keeps.trans ?_ (by assumption))) (fun hHeld => ?_)
    clear hK K
    try simp only [Act.put, List.setIfInBounds_toArray, List.set_cons_zero, List.set_cons_succ]
    refine wpAnyH_take (i := 10) (oi := ⟨some 4, _, _, _, _, _⟩) (v := ?v10na) rfl (by kernel_rfl) (by kernel_rfl) (by kernel_rfl) (fun _ _ _ h => h) (Or.inl ⟨by rfl, ?h10na⟩) (by assumption) ?r10na
    case h10na => intro w hSw; (try dsimp only at hSw); go_simp; (try with_reducible rfl)
    try simp only [Act.put, List.setIfInBounds_toArray, List.set_cons_zero, List.set_cons_succ]
    refine wpAnyH_done (by kernel_rfl) ?_ _
    go_wp2_with fail
    go_ret
    refine ⟨_, w.heap.size, w.heap.size + 1, rfl, by repeat (first | exact Keeps.refl _ _ | refine Keeps.drew ?_ | refine Keeps.drewN ?_ _ | refine Keeps.alloc ?_ _ | refine Keeps.setCell ?_ (by simp; try omega) _ | exact Hid.out (by assumption) | refine Keeps.trans ?_ (by assumption)), ⟨Blk.new_at (by simp), (by rw [← made_rows _ false]; exact ((Blk.new _ _ _).alloc _).alloc _), (by rw [← made_rows _ true]; exact (Blk.new_at (by simp)).alloc _), ?_, ?_, ?_⟩, ?_, ?_, ?_⟩
    all_goals first | omega | (simp; done) | (simp; omega)
  · go_simp
    refine hK.out _ _ (by (try dsimp only); repeat (first | exact Keeps.refl _ _ | refine Keeps.drew ?_ | refine Keeps.drewN ?_ _ | refine Keeps.alloc ?_ _ | refine Keeps.setCell ?_ (by simp; try omega) _ | exact Hid.out (by assumption) | refine Keeps.trans ?_ (by assumption))) (fun hHeld => ?_)
    clear hK K
    try simp only [Act.put, List.setIfInBounds_toArray, List.set_cons_zero, List.set_cons_succ]
    refine wpAnyH_ready (rs := [4]) (by kernel_rfl) (by simp) ?_
    refine AllReadyH.cons (o := ⟨some 9, _, _, _, _, _⟩) rfl (fun K hK => ?_) AllReadyH.nil
    go_simp
    refine hK.out _ _ (by (try dsimp only); repeat (first | exact Keeps.refl _ _ | refine Keeps.drew ?_ | refine Keeps.drewN ?_ _ | refine Keeps.alloc ?_ _ | refine Keeps.setCell ?_ (by simp; try omega) _ | exact Hid.out (by assumption) | refine Keeps.trans ?_ (by assumption))) (fun hHeld => ?_)
    clear hK K
    try simp only [Act.put, List.setIfInBounds_toArray, List.set_cons_zero, List.set_cons_succ]
    refine wpAnyH_take (i := 8) (oi := ⟨some 13, _, _, _, _, _⟩) (v := ?v8nb) rfl (by kernel_rfl) (by kernel_rfl) (by kernel_rfl) (fun _ _ _ h => h) (Or.inl ⟨by rfl, ?h8nb⟩) (by assumption) ?r8nb
    case h8nb => intro w hSw; (try dsimp only at hSw); go_simp; (try with_reducible rfl)
    try simp only [Act.put, List.setIfInBounds_toArray, List.set_cons_zero, List.set_cons_succ]
    refine wpAnyH_ready (rs := [9]) (by kernel_rfl) (by simp) ?_
    refine AllReadyH.cons (o := ⟨some 14, _, _, _, _, _⟩) rfl (fun K hK => ?_) AllReadyH.nil
    go_simp
    refine hK.out _ _ (by (try dsimp only); repeat (first | exact Keeps.refl _ _ | refine Keeps.drew ?_ | refine Keeps.drewN ?_ _ | refine Keeps.alloc ?_ _ | refine Keeps.setCell ?_ (by simp; try omega) _ | exact Hid.out (by assumption) | refine Keeps.trans ?_ (by assumption))) (fun hHeld => ?_)
    clear hK K
    try simp only [Act.put, List.setIfInBounds_toArray, List.set_cons_zero, List.set_cons_succ]
    refine wpAnyH_take (i := 10) (oi := ⟨some 4, _, _, _, _, _⟩) (v := ?v10nb) rfl (by kernel_rfl) (by kernel_rfl) (by kernel_rfl) (fun _ _ _ h => h) (Or.inl ⟨by rfl, ?h10nb⟩) (by assumption) ?r10nb
    case h10nb => intro w hSw; (try dsimp only at hSw); go_simp; (try with_reducible rfl)
    try simp only [Act.put, List.setIfInBounds_toArray, List.set_cons_zero, List.set_cons_succ]
    refine wpAnyH_done (by kernel_rfl) ?_ _
    go_wp2_with fail
    go_ret
    refine ⟨_, w.heap.size + 1, w.heap.size, rfl, by repeat (first | exact Keeps.refl _ _ | refine Keeps.drew ?_ | refine Keeps.drewN ?_ _ | refine Keeps.alloc ?_ _ | refine Keeps.setCell ?_ (by simp; try omega) _ | exact Hid.out (by assumption) | refine Keeps.trans ?_ (by assumption)), ⟨Blk.new_at (by simp), (by rw [← made_rows _ false]; exact (Blk.new_at (by simp)).alloc _), (by rw [← made_rows _ true]; exact ((Blk.new _ _ _).alloc _).alloc _), ?_, ?_, ?_⟩, ?_, ?_, ?_⟩
    all_goals first | omega | (simp; done) | (simp; omega)
end Go.Proofs.Ytalopgbkjgjppaa
