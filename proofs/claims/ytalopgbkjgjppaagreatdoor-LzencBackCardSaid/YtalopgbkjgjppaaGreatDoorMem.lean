/- Memory words: which blocks a call keeps, what a block holds. No program in sight. -/
import Derived.Below
import Derived.WalkKit
import Derived.Deep.Heap
import Derived.Deep.Draws
import Derived.Maps.AppendAt
namespace Go.Cas
open Go.RowKit

/-- A fact laid aside: the walk takes no rule from it. -/
theorem hid {p : Prop} (h : p) : Hid p := h

/-- An element type's row of the table, laid aside. -/
theorem info_hid {P : Program} {e : TypeId} {z : Value} {size bytes : Nat} (h : (P.info? e).map (fun i => (i.zero, i.size, i.bytes)) = some (some z, size, bytes)) :
    ∃ i, Hid (P.info? e = some i ∧ i.zero = some z ∧ i.size = size ∧ i.bytes = bytes) := info_parts h

/-- All blocks of `w` but those of `S` are as they were; none is gone. -/
structure Keeps (S : Nat → Prop) (w w' : World) : Prop where
  os : w'.os = w.os
  tape : w'.tape = w.tape
  output : w'.output = w.output
  size : w.heap.size ≤ w'.heap.size
  block : ∀ k, k < w.heap.size → ¬ S k → w'.heap[k]? = w.heap[k]?

/-- Nothing that was there has turned. -/
abbrev Same (w w' : World) : Prop := Keeps (fun _ => False) w w'

namespace Keeps
variable {S S' : Nat → Prop} {w w' w'' : World}

theorem refl (S : Nat → Prop) (w : World) : Keeps S w w := ⟨rfl, rfl, rfl, Nat.le_refl _, fun _ _ _ => rfl⟩

theorem trans' (h : Keeps S w w') (k : Keeps S' w' w'') (hs : ∀ b, b < w.heap.size → S' b → S b) : Keeps S w w'' :=
  ⟨k.os.trans h.os, k.tape.trans h.tape, k.output.trans h.output, Nat.le_trans h.size k.size,
    fun b hb hn => (k.block b (Nat.lt_of_lt_of_le hb h.size) (fun hq => hn (hs b hb hq))).trans (h.block b hb hn)⟩

theorem trans (h : Keeps S w w') (k : Keeps S w' w'') : Keeps S w w'' := h.trans' k fun _ _ h => h

theorem mono (h : Keeps S w w') (hs : ∀ b, b < w.heap.size → S b → S' b) : Keeps S' w w' :=
  ⟨h.os, h.tape, h.output, h.size, fun b hb hn => h.block b hb (fun hq => hn (hs b hb hq))⟩

/-- Two steps of an object: its blocks at first F, then F1, then F2. -/
theorem chain {F F1 F2 : Nat → Prop} (h : Keeps F w w') (g : ∀ k, F1 k → F k ∨ w.heap.size ≤ k) (h' : Keeps F1 w' w'') (g' : ∀ k, F2 k → F1 k ∨ w'.heap.size ≤ k) :
    Keeps F w w'' ∧ (∀ k, F2 k → F k ∨ w.heap.size ≤ k) :=
  ⟨h.trans' h' fun b hb hf => (g b hf).resolve_right (by omega), fun k hk => (g' k hk).elim (g k) fun hh => .inr (Nat.le_trans h.size hh)⟩

theorem of_same (h : Same w w') : Keeps S w w' := h.mono fun _ _ h => h.elim

theorem drew (h : Keeps S w w') : Keeps S w w'.drew := ⟨h.os, h.tape, h.output, h.size, h.block⟩
theorem drewN (h : Keeps S w w') (n : Nat) : Keeps S w (w'.drewN n) := ⟨h.os, h.tape, h.output, h.size, h.block⟩
theorem drew_left (h : Keeps S w.drew w') : Keeps S w w' := ⟨h.os, h.tape, h.output, h.size, h.block⟩

theorem alloc (h : Keeps S w w') (o : Obj) : Keeps S w (w'.alloc o) :=
  h.trans ⟨rfl, rfl, rfl, by simp, fun k hk _ => Below.heap_alloc _ _ _ (by omega)⟩

theorem setCell (h : Keeps S w w') {p : Addr} (hp : p.block < w.heap.size → S p.block) (u : Value) : Keeps S w (w'.setCell p u) :=
  ⟨h.os, h.tape, h.output, by simpa [World.setCell] using h.size, fun k hk hn => by
    rw [Below.heap_setCell _ _ _ _ (fun e => by subst e; exact hn (hp hk))]; exact h.block k hk hn⟩

theorem set4 (w : World) (b : Nat) (v0 v1 v2 v3 : Value) : Keeps (fun k => k = b) w ((((w.setCell ⟨b, 0, none⟩ v0).setCell ⟨b, 1, none⟩ v1).setCell ⟨b, 2, none⟩ v2).setCell ⟨b, 3, none⟩ v3) :=
  setCell (p := ⟨b, 3, none⟩) (setCell (p := ⟨b, 2, none⟩) (setCell (p := ⟨b, 1, none⟩) (setCell (p := ⟨b, 0, none⟩) (refl (fun k => k = b) w) (fun _ => rfl) v0) (fun _ => rfl) v1) (fun _ => rfl) v2) (fun _ => rfl) v3

theorem grown {row : Option Nat} (h : Keeps S w w') (hg : w'.grownBy w'' row) (hr : ∀ k, row = some k → k < w.heap.size → S k) : Keeps S w w'' :=
  h.trans' ⟨hg.os, hg.tape, hg.output, hg.size, fun k hk hn => hg.block k hk hn⟩ fun b hb hs => hr b hs.symm hb

theorem below {B : Nat} (h : Keeps S w w') (hB : B ≤ w.heap.size) (hs : ∀ b, b < B → ¬ S b) : Below B w w' :=
  ⟨h.os, h.tape, h.output, h.size, fun k hk => h.block k (Nat.lt_of_lt_of_le hk hB) (hs k hk)⟩

theorem toBelow (h : Same w w') : Below w.heap.size w w' := h.below (Nat.le_refl _) fun _ _ h => h
theorem cell (h : Keeps S w w') {p : Addr} (hp : p.block < w.heap.size) (hn : ¬ S p.block) : w'.cell? p = w.cell? p := World.cell?_of_block (w := w) (h.block _ hp hn)
theorem frozen (h : Keeps S w w') {p : Addr} (hp : p.block < w.heap.size) (hn : ¬ S p.block) : w'.frozen? p = w.frozen? p := World.frozen?_of_block (w := w) (h.block _ hp hn)
end Keeps

theorem Same.cellb {w w' : World} (h : Same w w') : ∀ b o, b < w.heap.size → w'.cell? ⟨b, o, none⟩ = w.cell? ⟨b, o, none⟩ := fun b o hb => h.cell (p := ⟨b, o, none⟩) hb fun h => h
theorem Same.frozenb {w w' : World} (h : Same w w') : ∀ b o, b < w.heap.size → w'.frozen? ⟨b, o, none⟩ = w.frozen? ⟨b, o, none⟩ := fun b o hb => h.frozen (p := ⟨b, o, none⟩) hb fun h => h

/-- Block `b` is just these cells of type `t`, none frozen. -/
def Blk (w : World) (b : Nat) (cs : Array Value) (t : TypeId) : Prop := w.heap[b]? = some (.cells cs t (0, 0))

namespace Blk
variable {w w' : World} {b : Nat} {cs : Array Value} {t : TypeId} {S : Nat → Prop}
theorem lt (h : Blk w b cs t) : b < w.heap.size := (Array.getElem?_eq_some_iff.1 h).1
theorem cell (h : Blk w b cs t) (i : Nat) : w.cell? ⟨b, i, none⟩ = cs[i]? := by simp [World.cell?, show w.heap[b]? = _ from h]
theorem frozen (h : Blk w b cs t) (i : Nat) : w.frozen? ⟨b, i, none⟩ = false := by simp [World.frozen?, show w.heap[b]? = _ from h]
theorem of_eq (h : Blk w b cs t) (e : w'.heap[b]? = w.heap[b]?) : Blk w' b cs t := e.trans h
theorem keeps (h : Blk w b cs t) (k : Keeps S w w') (hn : ¬ S b) : Blk w' b cs t := h.of_eq (k.block b h.lt hn)
theorem alloc (h : Blk w b cs t) (o : Obj) : Blk (w.alloc o) b cs t := h.of_eq (Below.heap_alloc _ _ _ h.lt)
theorem drew (h : Blk w b cs t) : Blk w.drew b cs t := h
theorem setOther (h : Blk w b cs t) {p : Addr} (hp : b ≠ p.block) (v : Value) : Blk (w.setCell p v) b cs t := h.of_eq (Below.heap_setCell _ _ _ _ hp)
theorem set (h : Blk w b cs t) (i : Nat) (v : Value) : Blk (w.setCell ⟨b, i, none⟩ v) b (cs.setIfInBounds i v) t := by
  unfold Blk at *; simp [World.setCell, Array.getElem?_modify, h]
theorem four {v0 v1 v2 v3 : Value} (h : Blk w b #[v0, v1, v2, v3] t) : w.cell? ⟨b, 0, none⟩ = some v0 ∧ w.cell? ⟨b, 1, none⟩ = some v1 ∧ w.cell? ⟨b, 2, none⟩ = some v2 ∧ w.cell? ⟨b, 3, none⟩ = some v3 ∧ ∀ i, w.frozen? ⟨b, i, none⟩ = false :=
  ⟨h.cell 0, h.cell 1, h.cell 2, h.cell 3, h.frozen⟩
theorem set4 {a0 a1 a2 a3 : Value} (h : Blk w b #[a0, a1, a2, a3] t) (v0 v1 v2 v3 : Value) :
    Blk ((((w.setCell ⟨b, 0, none⟩ v0).setCell ⟨b, 1, none⟩ v1).setCell ⟨b, 2, none⟩ v2).setCell ⟨b, 3, none⟩ v3) b #[v0, v1, v2, v3] t := by
  have := (((h.set 0 v0).set 1 v1).set 2 v2).set 3 v3
  simpa using this
theorem new (w : World) (cs : Array Value) (t : TypeId) : Blk (w.alloc (.cells cs t)) w.heap.size cs t := Deep.blk_alloc_new _ _
theorem new_at {w : World} {n : Nat} {cs : Array Value} {t : TypeId} (h : n = w.heap.size) : Blk (w.alloc (.cells cs t)) n cs t := h ▸ Deep.blk_alloc_new _ _
end Blk

end Go.Cas
namespace Go.Cas
open Go.RowKit

section
variable {P : Program}
/-- Copying inside an array of four that lies in the last block but one: `copy(r[1:n+1], r[:n])`. -/
theorem run_copy_up {w : World} {o : Obj} {dT sT ty e t : TypeId} {v0 v1 v2 v3 : Value} (hu : P.underlying dT = some (.slice e)) (hs : (P.info? e).map (·.size) = some 1)
    (h0 : v0.oneCell' = true) (h1 : v1.oneCell' = true) (h2 : v2.oneCell' = true) :
    (Builtin.copy_ #[dT, sT] ty #[.slice (some ⟨w.heap.size, 1, none⟩) 0 3, .slice (some ⟨w.heap.size, 0, none⟩) 0 4]).run P (((w.alloc (.cells #[v0, v1, v2, v3] t)).alloc o).drew)
      = .ok (goInt 0) (((w.alloc (.cells #[v0, v1, v2, v3] t)).alloc o).drew) ∧
    (Builtin.copy_ #[dT, sT] ty #[.slice (some ⟨w.heap.size, 1, none⟩) 1 3, .slice (some ⟨w.heap.size, 0, none⟩) 1 4]).run P (((w.alloc (.cells #[v0, v1, v2, v3] t)).alloc o).drew)
      = .ok (goInt 1) (((w.alloc (.cells #[v0, v0, v2, v3] t)).alloc o).drew) ∧
    (Builtin.copy_ #[dT, sT] ty #[.slice (some ⟨w.heap.size, 1, none⟩) 2 3, .slice (some ⟨w.heap.size, 0, none⟩) 2 4]).run P (((w.alloc (.cells #[v0, v1, v2, v3] t)).alloc o).drew)
      = .ok (goInt 2) (((w.alloc (.cells #[v0, v0, v1, v3] t)).alloc o).drew) ∧
    (Builtin.copy_ #[dT, sT] ty #[.slice (some ⟨w.heap.size, 1, none⟩) 3 3, .slice (some ⟨w.heap.size, 0, none⟩) 3 4]).run P (((w.alloc (.cells #[v0, v1, v2, v3] t)).alloc o).drew)
      = .ok (goInt 3) (((w.alloc (.cells #[v0, v0, v1, v2] t)).alloc o).drew) := by
  have key : ∀ cs : List Value, cs = [] ∨ cs = [v0] ∨ cs = [v0, v1] ∨ cs = [v0, v1, v2] → (Builtin.copy_ #[dT, sT] ty #[.slice (some ⟨w.heap.size, 1, none⟩) cs.length 3, .slice (some ⟨w.heap.size, 0, none⟩) cs.length 4]).run P (((w.alloc (.cells #[v0, v1, v2, v3] t)).alloc o).drew)
      = .ok (goInt cs.length) ((((w.alloc (.cells #[v0, v1, v2, v3] t)).alloc o).drew).setCells w.heap.size 1 cs) := by
    intro cs hcs
    refine run_copy_cells _ dT sT ty e w.heap.size 1 cs.length 3 ⟨w.heap.size, 0, none⟩ cs.length 4 cs hu hs (by simp) ?_ ?_ ?_ ?_
    · intro j v hj
      have hb : Blk (((w.alloc (.cells #[v0, v1, v2, v3] t)).alloc o).drew) w.heap.size #[v0, v1, v2, v3] t := ((Blk.new w _ t).alloc o).drew
      rw [show (⟨w.heap.size, 0, none⟩ : Addr).add j = ⟨w.heap.size, j, none⟩ from by unfold Addr.add; split <;> simp_all, hb.cell]
      rcases hcs with rfl | rfl | rfl | rfl <;> (rcases j with _ | _ | _ | j <;> simp_all)
    · intro j hj
      have hb : Blk (((w.alloc (.cells #[v0, v1, v2, v3] t)).alloc o).drew) w.heap.size #[v0, v1, v2, v3] t := ((Blk.new w _ t).alloc o).drew
      rw [hb.cell]
      have hl : cs.length ≤ 3 := by rcases hcs with rfl | rfl | rfl | rfl <;> simp
      simp; omega
    · intro j hj
      have hb : Blk (((w.alloc (.cells #[v0, v1, v2, v3] t)).alloc o).drew) w.heap.size #[v0, v1, v2, v3] t := ((Blk.new w _ t).alloc o).drew
      exact hb.frozen _
    · intro v hv
      rcases hcs with rfl | rfl | rfl | rfl <;> simp at hv <;> (first | exact hv.elim | (rcases hv with rfl | rfl | rfl <;> assumption) | (rcases hv with rfl | rfl <;> assumption) | (subst hv; assumption))
  have hd : ∀ (a : Value) (i : Nat) (x0 x1 x2 x3 : Value), ((((w.alloc (.cells #[x0, x1, x2, x3] t)).alloc o).drew).setCell ⟨w.heap.size, i, none⟩ a) = (((w.alloc (.cells (#[x0, x1, x2, x3].setIfInBounds i a) t)).alloc o).drew) := by
    intro a i x0 x1 x2 x3
    rw [World.setCell_drew, World.setCell_alloc_past _ _ _ _ (by simp), World.setCell_alloc_at _ _ _ _ _ rfl]
  refine ⟨?_, ?_, ?_, ?_⟩
  · have := key [] (.inl rfl); simpa [World.setCells] using this
  · have := key [v0] (.inr (.inl rfl)); simp only [World.setCells, hd] at this; simpa using this
  · have := key [v0, v1] (.inr (.inr (.inl rfl))); simp only [World.setCells, hd, List.setIfInBounds_toArray, List.set_cons_succ, List.set_cons_zero] at this; simpa using this
  · have := key [v0, v1, v2] (.inr (.inr (.inr rfl))); simp only [World.setCells, hd, List.setIfInBounds_toArray, List.set_cons_succ, List.set_cons_zero] at this; simpa using this
end
end Go.Cas
namespace Go.Cas
open Go.RowKit

theorem setCell_setCell (w : World) (b i : Nat) (u v : Value) : (w.setCell ⟨b, i, none⟩ u).setCell ⟨b, i, none⟩ v = w.setCell ⟨b, i, none⟩ v := by
  unfold World.setCell
  simp only [World.mk.injEq, and_true]
  apply Array.ext_getElem?
  intro k
  simp only [Array.getElem?_modify]
  by_cases hk : b = k
  · subst hk
    cases w.heap[b]? with
    | none => simp
    | some o => cases o <;> simp [Array.setIfInBounds_setIfInBounds]
  · simp [hk]

theorem setCell_swap (w : World) (b i j : Nat) (hij : i ≠ j) (u v : Value) : (w.setCell ⟨b, i, none⟩ u).setCell ⟨b, j, none⟩ v = (w.setCell ⟨b, j, none⟩ v).setCell ⟨b, i, none⟩ u := by
  unfold World.setCell
  simp only [World.mk.injEq, and_true]
  apply Array.ext_getElem?
  intro k
  simp only [Array.getElem?_modify]
  by_cases hk : b = k
  · subst hk
    cases w.heap[b]? with
    | none => simp
    | some o => cases o <;> simp [Array.setIfInBounds_comm _ _ hij]
  · simp [hk]

/-- Four cells written twice: once. -/
theorem set4_twice (w : World) (b : Nat) (a0 a1 a2 a3 b0 b1 b2 b3 : Value) :
    ((((((((w.setCell ⟨b, 0, none⟩ a0).setCell ⟨b, 1, none⟩ a1).setCell ⟨b, 2, none⟩ a2).setCell ⟨b, 3, none⟩ a3).setCell ⟨b, 0, none⟩ b0).setCell ⟨b, 1, none⟩ b1).setCell ⟨b, 2, none⟩ b2).setCell ⟨b, 3, none⟩ b3) =
      (((w.setCell ⟨b, 0, none⟩ b0).setCell ⟨b, 1, none⟩ b1).setCell ⟨b, 2, none⟩ b2).setCell ⟨b, 3, none⟩ b3 := by
  rw [setCell_swap _ b 3 0 (by decide), setCell_swap _ b 2 0 (by decide), setCell_swap _ b 1 0 (by decide), setCell_setCell,
    setCell_swap _ b 3 1 (by decide), setCell_swap _ b 2 1 (by decide), setCell_setCell, setCell_swap _ b 3 2 (by decide), setCell_setCell, setCell_setCell]

end Go.Cas
namespace Go.Cas
open Go.RowKit

theorem ownBlock_slice (q : Option Addr) (n c : Nat) : Value.ownBlock (.slice q n c) = q.map Addr.block := by cases q <;> rfl

theorem ownsRow_keeps {S : Nat → Prop} {w w' : World} {base e size n : Nat} {v : Value} {xs : List Value} (h : w.ownsRow base e size v n xs) (k : Keeps S w w') (hn : ∀ b, v.ownBlock = some b → ¬ S b) : w'.ownsRow base e size v n xs := by
  refine ⟨h.1, ?_⟩
  rcases h.2 with hh | ⟨g, cap, cur, rfl, hb, hg, rest⟩
  · exact .inl hh
  · refine .inr ⟨g, cap, cur, rfl, hb, ?_, rest⟩
    rw [k.block g (Array.getElem?_eq_some_iff.1 hg).1 (hn g rfl)]
    exact hg

theorem ownsRow_slice {w : World} {base e size n : Nat} {v : Value} {xs : List Value} (h : w.ownsRow base e size v n xs) : ∃ q c, v = .slice q n c := by
  rcases h.2 with ⟨rfl, rfl⟩ | ⟨g, cap, cur, rfl, _⟩
  · exact ⟨none, 0, rfl⟩
  · exact ⟨_, _, rfl⟩

/-- The block of a slice that holds something. -/
abbrev sblk (q : Option Addr) : Nat → Prop := fun k => q.map Addr.block = some k

theorem Keeps.of_grown {w w' : World} {row : Option Nat} (h : w.grownBy w' row) : Keeps (fun k => row = some k) w w' :=
  ⟨h.os, h.tape, h.output, h.size, fun k hk hn => h.block k hk fun e => hn e.symm⟩

section
variable {P : Program} (w : World)
/-- What was there of the slice is still there behind the append. -/
theorem run_push_old (t ty e : TypeId) (i : TypeInfo) (z : Value) (size bytes : Nat) (ht : P.underlying t = some (.slice e)) (hI : Hid (P.info? e = some i ∧ i.zero = some z ∧ i.size = size ∧ i.bytes = bytes))
    (_hsz : 0 < size) (q : Option Addr) (n cap : Nat) (xs : List Value) (hown : w.ownsRow 0 e size (.slice q n cap) n xs)
    (a : Addr) (m c : Nat) (news : List Value) (hl : news.length = m * size) (hnews : ∀ j u, news[j]? = some u → w.cell? (a.add j) = some u) (h1 : ∀ u ∈ news, u.oneCell' = true)
    (h63 : Hid (n + m ≤ maxLen)) (hbytes : Hid ((n + m) * bytes ≤ 140737488355328)) (v' : Value) (w' : World)
    (hr : (Builtin.append_ #[t, t] ty #[.slice q n cap, .slice (some a) m c]).run P w = .ok v' w') :
    ∀ g j, sblk q g → j < n * size → w'.cell? ⟨g, j, none⟩ = w.cell? ⟨g, j, none⟩ := by
  intro g j hgq hj
  obtain ⟨hi, hz, rfl, rfl⟩ := hI.out
  have hsmall : n + m ≤ 9223372036854775807 := by have := h63.out; simp only [maxLen] at this; omega
  rcases hown.2 with ⟨h2, _⟩ | ⟨g', cap', cur, h2, _, hgg, hnc, hcm, hcs, htake⟩
  · simp at h2; obtain ⟨rfl, _⟩ := h2; simp [sblk] at hgq
  · simp only [Value.slice.injEq, true_and] at h2
    obtain ⟨rfl, rfl⟩ := h2
    simp [sblk] at hgq
    subst hgq
    by_cases hroom : n + m ≤ cap
    · have hfit : n * i.size + news.length ≤ cur.size := by rw [hl, hcs, ← Nat.add_mul]; exact Nat.mul_le_mul_right _ hroom
      have hr2 := run_append_room (P := P) w t ty e i ht hi g' n cap cur hgg a m c news hl hnews h1 hroom hfit
      rw [hr] at hr2
      simp only [Result.ok.injEq] at hr2
      obtain ⟨_, rfl⟩ := hr2
      rw [cell_of_row _ g' j _ e (0, 0) (setRow_heap w g' cur _ e _ hgg), cell_of_row w g' j cur e (0, 0) hgg]
      have hjl : j < cur.size := by omega
      have hlen : j < (List.take (n * i.size) cur.toList).length := by rw [List.length_take, Array.length_toList]; omega
      rw [List.getElem?_toArray, List.append_assoc, List.getElem?_append_left hlen, List.getElem?_take, if_pos hj]
      simp
    · have holds : ∀ j u, xs[j]? = some u → w.cell? ((⟨g', 0, none⟩ : Addr).add j) = some u := hown.cells (g := g') rfl
      have hr2 := run_append_grow (P := P) w t ty e i z ht hi hz ⟨g', 0, none⟩ n cap xs hown.1 holds a m c news hl hnews (by omega) (by omega) (growslice_fits (by omega) hbytes.out)
      rw [hr] at hr2
      simp only [Result.ok.injEq] at hr2
      obtain ⟨_, rfl⟩ := hr2
      exact World.cell?_of_block (w := w) (Below.heap_alloc w.drew _ g' (Array.getElem?_eq_some_iff.1 hgg).1)

/-- Appending to a slice that lies at the head of a block of its own, or to nil. -/
theorem run_push (t ty e : TypeId) (i : TypeInfo) (z : Value) (size bytes : Nat) (ht : P.underlying t = some (.slice e)) (hI : Hid (P.info? e = some i ∧ i.zero = some z ∧ i.size = size ∧ i.bytes = bytes))
    (hzs : z.cells.size = size) (hsz : 0 < size) (q : Option Addr) (n cap : Nat) (xs : List Value) (hown : w.ownsRow 0 e size (.slice q n cap) n xs)
    (a : Addr) (m c : Nat) (news : List Value) (hl : news.length = m * size) (hnews : ∀ j u, news[j]? = some u → w.cell? (a.add j) = some u) (h1 : ∀ u ∈ news, u.oneCell' = true)
    (h63 : Hid (n + m ≤ maxLen)) (hbytes : Hid ((n + m) * bytes ≤ 140737488355328)) :
    ∃ q' cap' w', (Builtin.append_ #[t, t] ty #[.slice q n cap, .slice (some a) m c]).run P w = .ok (.slice q' (n + m) cap') w' ∧ w'.ownsRow 0 e size (.slice q' (n + m) cap') (n + m) (xs ++ news) ∧
      Keeps (sblk q) w w' ∧ (∀ k, sblk q' k → sblk q k ∨ k = w.heap.size) ∧ (∀ g j, sblk q g → j < n * size → w'.cell? ⟨g, j, none⟩ = w.cell? ⟨g, j, none⟩) := by
  have hold := run_push_old (P := P) w t ty e i z size bytes ht hI hsz q n cap xs hown a m c news hl hnews h1 h63 hbytes
  obtain ⟨v', w', hr, ho, hg, _, hat⟩ := run_append_own_at (P := P) w 0 t ty e i z size bytes ht hI.out.1 hI.out.2.1 hI.out.2.2.1 hI.out.2.2.2 hzs hsz _ n xs hown a m c news hl hnews h1 h63.out hbytes.out (Nat.zero_le _)
  obtain ⟨q', cap', rfl⟩ := ownsRow_slice ho
  refine ⟨q', cap', w', hr, ho, ?_, ?_, fun g j hgq hj => hold _ _ hr g j hgq hj⟩
  · have := Keeps.of_grown hg
    rw [ownBlock_slice] at this
    exact this
  · intro k hk
    rw [ownBlock_slice, ownBlock_slice] at hat
    rcases hat with hat | hat
    · exact .inl (hat.symm.trans hk)
    · refine .inr ?_
      have := hat.symm.trans hk
      exact (Option.some.inj this).symm

theorem wp_push {o : Oper} {a : Act} {K : Act → World → Prop} {Q : Exit → Act → World → Prop} (s x : Operand) (t : TypeId)
    (ho : o.op = .call { callee := .builtin .append, args := #[s, x], argTypes := #[t, t] })
    (e : TypeId) (i : TypeInfo) (z : Value) (size bytes : Nat) (ht : P.underlying t = some (.slice e)) (hI : Hid (P.info? e = some i ∧ i.zero = some z ∧ i.size = size ∧ i.bytes = bytes))
    (hzs : z.cells.size = size) (hsz : 0 < size) (q : Option Addr) (n cap : Nat) (xs : List Value) (hs : a.eval s = .slice q n cap) (hown : w.ownsRow 0 e size (.slice q n cap) n xs)
    (ad : Addr) (m c : Nat) (news : List Value) (hx : a.eval x = .slice (some ad) m c) (hl : news.length = m * size) (hnews : ∀ j u, news[j]? = some u → w.cell? (ad.add j) = some u) (h1 : ∀ u ∈ news, u.oneCell' = true)
    (h63 : Hid (n + m ≤ maxLen)) (hbytes : Hid ((n + m) * bytes ≤ 140737488355328))
    (h : ∀ q' cap' w', w'.ownsRow 0 e size (.slice q' (n + m) cap') (n + m) (xs ++ news) → Keeps (sblk q) w w' → (∀ k, sblk q' k → sblk q k ∨ k = w.heap.size) → (∀ g j, sblk q g → j < n * size → w'.cell? ⟨g, j, none⟩ = w.cell? ⟨g, j, none⟩) → K (a.put o.dst (.slice q' (n + m) cap')) w') : o.wp P a w K Q := by
  obtain ⟨q', cap', w', hr, h2, h3, h4, h5⟩ := run_push (P := P) w t o.type e i z size bytes ht hI hzs hsz q n cap xs hown ad m c news hl hnews h1 h63 hbytes
  unfold Oper.wp execOp
  simp only [ho, resolve, invoke, builtin, Sem.run_bind, Sem.run_pure, Result.andThen_ok, List.map_toArray, List.map_cons, List.map_nil, hs, hx, hr]
  exact h q' cap' w' h2 h3 h4 h5

theorem wpList_push {ops : Array Oper} {rest : List Oper} {o : Oper} {a : Act} {Q : Exit → Act → World → Prop} (hgd : o.guard = none) (s x : Operand) (t : TypeId)
    (ho : o.op = .call { callee := .builtin .append, args := #[s, x], argTypes := #[t, t] })
    (e : TypeId) (i : TypeInfo) (z : Value) (size bytes : Nat) (ht : P.underlying t = some (.slice e)) (hI : Hid (P.info? e = some i ∧ i.zero = some z ∧ i.size = size ∧ i.bytes = bytes))
    (hzs : z.cells.size = size) (hsz : 0 < size) (q : Option Addr) (n cap : Nat) (xs : List Value) (hs : a.eval s = .slice q n cap) (hown : w.ownsRow 0 e size (.slice q n cap) n xs)
    (ad : Addr) (m c : Nat) (news : List Value) (hx : a.eval x = .slice (some ad) m c) (hl : news.length = m * size) (hnews : ∀ j u, news[j]? = some u → w.cell? (ad.add j) = some u) (h1 : ∀ u ∈ news, u.oneCell' = true)
    (h63 : Hid (n + m ≤ maxLen)) (hbytes : Hid ((n + m) * bytes ≤ 140737488355328))
    (h : ∀ q' cap' w', w'.ownsRow 0 e size (.slice q' (n + m) cap') (n + m) (xs ++ news) → Keeps (sblk q) w w' → (∀ k, sblk q' k → sblk q k ∨ k = w.heap.size) → (∀ g j, sblk q g → j < n * size → w'.cell? ⟨g, j, none⟩ = w.cell? ⟨g, j, none⟩) → wpList P ops Q rest (a.put o.dst (.slice q' (n + m) cap')) w') :
    wpList P ops Q (o :: rest) a w :=
  wpList_plain hgd fun _ hK => wp_push w s x t ho e i z size bytes ht hI hzs hsz q n cap xs hs hown ad m c news hx hl hnews h1 h63 hbytes fun q' cap' w' h2 h3 h4 h5 => hK _ _ (h q' cap' w' h2 h3 h4 h5)
end
end Go.Cas
