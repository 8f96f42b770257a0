/- Part of a proof: Row, Be. -/
import Derived.Test.YtalopgbkjgjppaaGreatDoorMem
import Derived.Test.YtalopgbkjgjppaaGreatDoorRows
import Derived.ProofKit
import Derived.OpenShut
import Derived.ShutString
import Derived.Test.YtalopgbkjgjppaaGreatDoorSt
import Derived.LaidMore
import Derived.Stop.Joined
/- From a walk that answers true and turns nothing to the row's own words. -/
namespace Go.Cas
open Go.ChangeShapes Go.WideShapes Go.ChangeAt Go.RowKit

theorem trodAll_below {H : Type} {enc : TypeId × Value → H} {P : Program} (hl : laidOutB P = true) {W W' : World} (hb : Below W.heap.size W W') :
    ∀ (ts : List TypeId) (vs : List Value) (ds : List (DataW H)) (ps : List MemPlace), (∀ t ∈ ts, P.readableRec t = true ∧ t < P.types.size) →
      DataW.TrodAll enc P W 0 (fun _ => true) true ts vs ds ps → (∀ x ∈ ps, x.block < W.heap.size) →
      DataW.TrodAll enc P W' 0 (fun b => decide (b < W.heap.size)) true ts vs ds ps
  | [], [], [], ps, _, h, _ => h
  | t :: ts, v :: vs, d :: ds, ps, hr, h, hlt => by
    obtain ⟨p, q, h1, h2, rfl⟩ := h
    exact ⟨p, q, Below.trod hl (hr t (List.mem_cons_self ..)).1 (hr t (List.mem_cons_self ..)).2 h1 hb (fun x hx => hlt x (List.mem_append_left _ hx)),
      trodAll_below hl hb ts vs ds q (fun t ht => hr t (List.mem_cons_of_mem _ ht)) h2 (fun x hx => hlt x (List.mem_append_right _ hx)), rfl⟩
  | [], [], _ :: _, _, _, h, _ => h.elim
  | [], _ :: _, _, _, _, h, _ => h.elim
  | _ :: _, [], _, _, _, h, _ => h.elim
  | _ :: _, _ :: _, [], _, _, h, _ => h.elim

theorem law_post {H : Type} {enc : TypeId × Value → H} {P : Program} {f : Func} {s : ChangeSpec} {W W' : World} {args : Array Value} {ds gs : List (DataW H)} {before : List MemPlace} {apart : Bool}
    (hl : laidOutB P = true) (hv : s.vars = []) (hr : ∀ t ∈ f.params.toList, P.readableRec t = true ∧ t < P.types.size) (tb : TypeId) (hres : f.resultTypes = #[tb]) (hb : P.underlying tb = some .bool)
    (hW : DataW.Whole enc P f.params.toList s.vars apart W args.toList ds gs before) (hfn : s.fn H (ds ++ gs) = { results := [.lit (.bool true)], args := ds }) (hs : Same W W') :
    s.post enc P f apart true false false W args (.bool true) W' := by
  have hlt := hW.lt
  have hW' := hW
  obtain ⟨p, q, hA, hV, rfl, hz, hn⟩ := hW
  refine ⟨ds, gs, p ++ q, [], p, [], hW', ?_, ?_, ?_, ?_, fun h => by cases h⟩
  · rw [hfn, hres]
    exact trodAll_mk1 (shut_bool hb _)
  · rw [hfn]
    exact trodAll_below hl hs.toBelow _ _ _ _ hr hA (fun x hx => hlt x (List.mem_append_left _ hx))
  · rw [hfn, hv]
    exact rfl
  · exact hs.toBelow.frame _
end Go.Cas

/- What the listed variable holds, for the walks; the row's frame, with it. -/
namespace Go.Proofs.YtalopgbkjgjppaaGreatDoor
open Go.RowKit Go.Cas Go.ChangeShapes Go.WideShapes Go.ChangeAt

theorem gBehind : Tryz.prog.globalNamed "cassone/state.behind" = some 0 := by kernel_rfl
theorem tBehind : (Tryz.prog.globals[0]?).map (·.type) = some 205 := by kernel_rfl
theorem cells_row2 : Tryz.prog.cellsOf 204 = 2 := by kernel_rfl
theorem cells_state : Tryz.prog.cellsOf 120 = 1 := by kernel_rfl

theorem behind_rows {H : Type} {i k : Nat} {n : Int} {ys : List (DataW H × List MemPlace)} {z : DataW H × List MemPlace} {ws : List (DataW H)} (hi : i < 5) (hk : k < 2)
    (hws : ws = [.agg [.lit (.int .i64 0), .lit (.int .i64 0)], .agg [.lit (.int .i64 0), .lit (.int .i64 0)], .agg [.lit (.int .i64 7), .lit (.int .i64 10)], .agg [.lit (.int .i64 8), .lit (.int .i64 11)], .agg [.lit (.int .i64 9), .lit (.int .i64 11)]])
    (h1 : ws[i]? = some (.agg (ys.map (·.1)))) (h2 : ys[k]? = some z) (h3 : z.1 = .lit (.int .i64 n)) : behindL[i * 2 + k]?.getD 0 = n := by
  have h4 : (ys.map (·.1))[k]? = some (.lit (.int .i64 n)) := by rw [List.getElem?_map, h2]; simp [h3]
  subst hws
  have hc : (i = 0 ∨ i = 1 ∨ i = 2 ∨ i = 3 ∨ i = 4) ∧ (k = 0 ∨ k = 1) := by omega
  obtain ⟨rfl | rfl | rfl | rfl | rfl, rfl | rfl⟩ := hc <;>
  · simp only [List.getElem?_cons_zero, List.getElem?_cons_succ, Option.some.injEq, DataW.agg.injEq] at h1
    rw [← h1] at h4
    simp only [List.getElem?_cons_zero, List.getElem?_cons_succ, Option.some.injEq, DataW.lit.injEq, Lit.int.injEq, true_and] at h4
    rw [← h4]
    rfl

set_option maxRecDepth 100000 in
theorem behind_of_laid {W : World} (h : laidMetH Tryz.prog [("cassone/state.behind", Rows.laid_cassone_state_behind)] W) : Behind W := by
  rw [MakeChecks.laidMetH_plain _ _ _ (by kernel_rfl)] at h
  obtain ⟨ps, ⟨g0, t0, cs0, f0, p0, q0, hg0, ht0, hv0, hd0, _, _⟩, _, _⟩ := h
  obtain rfl := Option.some.inj (gBehind.symm.trans hg0)
  obtain rfl := Option.some.inj (tBehind.symm.trans ht0)
  obtain ⟨xs, m, rfl, hx, hlen, hn, hel⟩ := DataW.trod_array (n := 5) Tryz.underlying205 hd0
  have hxs : xs.map (·.1) = [.agg [.lit (.int .i64 0), .lit (.int .i64 0)], .agg [.lit (.int .i64 0), .lit (.int .i64 0)], .agg [.lit (.int .i64 7), .lit (.int .i64 10)], .agg [.lit (.int .i64 8), .lit (.int .i64 11)], .agg [.lit (.int .i64 9), .lit (.int .i64 11)]] := by
    simp only [Prod.mk.injEq, Rows.laid_cassone_state_behind, DataW.agg.injEq] at hx
    exact hx.1.symm
  have key : ∀ i k, i < 5 → k < 2 → cs0.toList[i * 2 + k]? = some (i6 (behindL[i * 2 + k]?.getD 0)) := by
    intro i k hi hk
    have h1 := hel i hi
    rw [cells_row2] at h1
    obtain ⟨y, hy⟩ : ∃ y, xs[i]? = some y := ⟨xs[i], by simp [hn, hi]⟩
    rw [hy] at h1
    obtain ⟨ys, m2, e, hy2, hlen2, hn2, hel2⟩ := DataW.trod_array (n := 2) Tryz.underlying204 h1
    have h2 := hel2 k hk
    rw [cells_state] at h2
    obtain ⟨z, hz⟩ : ∃ z, ys[k]? = some z := ⟨ys[k], by simp [hn2, hk]⟩
    rw [hz] at h2
    obtain ⟨n, e1, e2, _⟩ := DataW.trod_int Tryz.underlying120 h2
    have hv := behind_rows (n := n) hi hk hxs (by rw [List.getElem?_map, hy, hy2]; rfl) hz (by rw [e2])
    rw [hv]
    have h0 : ((((cs0.toList.drop (i * 2)).take 2).drop (k * 1)).take 1)[0]? = some (Value.int .i64 n) := by rw [e1]; rfl
    rw [List.getElem?_take_of_lt (by omega), List.getElem?_drop, List.getElem?_take_of_lt (by omega), List.getElem?_drop] at h0
    rw [← h0]
    congr 1; omega
  have hcell : ∀ j, j < 10 → W.cell? ⟨0, j, none⟩ = some (i6 (behindL[j]?.getD 0)) := by
    intro j hj
    have h1 := key (j / 2) (j % 2) (by omega) (by omega)
    rw [show j / 2 * 2 + j % 2 = j from by omega] at h1
    rw [World.var?_cell hg0 hv0 j, ← h1, Array.getElem?_toList]
  refine ⟨?_, hcell⟩
  have h0 := hcell 0 (by decide)
  rcases Nat.eq_zero_or_pos W.heap.size with e | e
  · have : W.heap[0]? = none := by simp [e]
    simp [World.cell?, this] at h0
  · exact e

/-- The door's own heap meets the condition. -/
theorem door_met (os : Os) (args : Array Value) : laidMetH Tryz.prog [("cassone/state.behind", Rows.laid_cassone_state_behind)] ((World.doorLaid Tryz.prog 17 os).forCall (fun _ _ => 0) ⟨#[], args, []⟩).memory :=
  laidMetH_of_parts3 (fuel := 8) (laidMet_of_run' 8 (by kernel_rfl) (by kernel_rfl)) (by kernel_rfl) (by kernel_rfl)
end Go.Proofs.YtalopgbkjgjppaaGreatDoor
