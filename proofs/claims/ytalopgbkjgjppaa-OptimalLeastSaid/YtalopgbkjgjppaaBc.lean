/- The closure that Next hands to hang. -/
import Derived.Test.YtalopgbkjgjppaaBs
namespace Go.Proofs.Ytalopgbkjgjppaa
open Go.RowKit Go.Cas

/-- What the closure captures: the best till now; what was found; the place. -/
structure CS (w : World) (bB oB iB i best : Nat) (L : List (Nat × Nat)) (r : Option Addr) (rc : Nat) : Prop where
  b1 : Blk w bB #[i6 best] 3
  b2 : Blk w oB #[.slice r L.length rc] 73
  b3 : Blk w iB #[i6 i] 3
  sl : Sl 70 2 w r rc L.length (cellsF L)
  d1 : bB ≠ oB
  d2 : bB ≠ iB
  d3 : oB ≠ iB
  e1 : ¬ sblk r bB
  e2 : ¬ sblk r oB
  e3 : ¬ sblk r iB

def csF (bB oB iB : Nat) (r : Option Addr) : Nat → Prop := fun b => b = bB ∨ b = oB ∨ b = iB ∨ sblk r b

theorem CS.keeps {S : Nat → Prop} {w w' : World} {bB oB iB i best : Nat} {L : List (Nat × Nat)} {r : Option Addr} {rc : Nat} (h : CS w bB oB iB i best L r rc) (k : Keeps S w w') (hn : ∀ b, csF bB oB iB r b → ¬ S b) : CS w' bB oB iB i best L r rc :=
  ⟨h.b1.keeps k (hn _ (.inl rfl)), h.b2.keeps k (hn _ (.inr (.inl rfl))), h.b3.keeps k (hn _ (.inr (.inr (.inl rfl)))), h.sl.keeps k fun b hb => hn b (.inr (.inr (.inr hb))), h.d1, h.d2, h.d3, h.e1, h.e2, h.e3⟩

theorem CS.lt {w : World} {bB oB iB i best : Nat} {L : List (Nat × Nat)} {r : Option Addr} {rc : Nat} (h : CS w bB oB iB i best L r rc) : ∀ b, csF bB oB iB r b → b < w.heap.size := by
  rintro b (rfl | rfl | rfl | e)
  · exact h.b1.lt
  · exact h.b2.lt
  · exact h.b3.lt
  · exact h.sl.lt b e

/-- What the closure leaves. -/
def MetLeft (bB oB iB i best : Nat) (L : List (Nat × Nat)) (r : Option Addr) (w w' : World) : Prop :=
  ∃ r' rc', CS w' bB oB iB i best L r' rc' ∧ Keeps (csF bB oB iB r) w w' ∧ ∀ b, sblk r' b → sblk r b ∨ w.heap.size ≤ b

theorem met_step {w W6 : World} {X : Obj} {bB oB iB i best n d rc rc2 : Nat} {L : List (Nat × Nat)} {r r2 : Option Addr} (h : CS w bB oB iB i best L r rc)
    (hown : W6.ownsRow 0 70 2 (.slice r2 (L.length + 1) rc2) (L.length + 1) (cellsF L ++ [i6 n, i6 d])) (hk : Keeps (sblk r) ((w.setCell ⟨bB, 0, none⟩ (i6 n)).alloc X) W6) (hat : ∀ k, sblk r2 k → sblk r k ∨ k = ((w.setCell ⟨bB, 0, none⟩ (i6 n)).alloc X).heap.size) :
    W6.cell? ⟨oB, 0, none⟩ = some (.slice r L.length rc) ∧ W6.frozen? ⟨oB, 0, none⟩ = false ∧ oB < W6.heap.size ∧
    Hid (MetLeft bB oB iB i n (L ++ [(n, d)]) r w (W6.setCell ⟨oB, 0, none⟩ (.slice r2 (L.length + 1) rc2))) := by
  have K1 : Keeps (fun b => b = bB) w (w.setCell ⟨bB, 0, none⟩ (i6 n)) := Keeps.setCell (p := ⟨bB, 0, none⟩) (Keeps.refl (fun b => b = bB) w) (fun _ => rfl) _
  have hb1 : Blk (w.setCell ⟨bB, 0, none⟩ (i6 n)) bB #[i6 n] 3 := by have := h.b1.set 0 (i6 n); simpa using this
  have e1 : ((w.setCell ⟨bB, 0, none⟩ (i6 n)).alloc X).heap.size = w.heap.size + 1 := by simp
  have hK : Keeps (fun b => b = bB ∨ sblk r b) w W6 := ((K1.mono (S' := fun b => b = bB ∨ sblk r b) fun b _ e => .inl e).alloc X).trans' hk fun b _ e => .inr e
  have l1 := h.b1.lt
  have l2 := h.b2.lt
  have l3 := h.b3.lt
  have c1 : Blk W6 bB #[i6 n] 3 := (hb1.alloc X).keeps hk h.e1
  have c2 : Blk W6 oB #[.slice r L.length rc] 73 := h.b2.keeps hK (fun e => e.elim (fun e => h.d1 e.symm) h.e2)
  have c3 : Blk W6 iB #[i6 i] 3 := h.b3.keeps hK (fun e => e.elim (fun e => h.d2 e.symm) h.e3)
  have ns : ∀ b, b < w.heap.size → ¬ sblk r b → ¬ sblk r2 b := fun b hb hn e => by
    rcases hat b e with e | e
    · exact hn e
    · omega
  have K2 : Keeps (fun b => b = oB) W6 (W6.setCell ⟨oB, 0, none⟩ (.slice r2 (L.length + 1) rc2)) := Keeps.setCell (p := ⟨oB, 0, none⟩) (Keeps.refl (fun b => b = oB) W6) (fun _ => rfl) _
  refine ⟨by simpa using c2.cell 0, c2.frozen 0, c2.lt, hid ⟨r2, rc2, ⟨c1.keeps K2 h.d1, ?_, c3.keeps K2 (fun e => h.d3 e.symm), ?_, h.d1, h.d2, h.d3, ns _ l1 h.e1, ns _ l2 h.e2, ns _ l3 h.e3⟩, ?_, ?_⟩⟩
  · have := c2.set 0 (.slice r2 (L.length + 1) rc2)
    simpa using this
  · refine Sl.keeps ⟨?_⟩ K2 (fun b hb e => ns _ l2 h.e2 (e ▸ hb))
    rw [List.length_append, cellsF_snoc]
    exact hown
  · exact (hK.mono (S' := csF bB oB iB r) fun b _ e => e.elim .inl (fun e => .inr (.inr (.inr e)))).trans' K2 fun b _ e => .inr (.inl e)
  · intro b e
    rcases hat b e with e | e
    · exact .inl e
    · exact .inr (by omega)

set_option maxHeartbeats 4000000 in
set_option maxRecDepth 100000 in
theorem met_any (k n bB oB iB i best rc : Nat) (L : List (Nat × Nat)) (r : Option Addr) (w : World) (h : CS w bB oB iB i best L r rc) (hk : k ≤ i) (hi : i ≤ 1000000) (hL : L.length ≤ 1000000) :
    Calls Try.prog 61 #[i6 k, i6 n, .pointer (some ⟨bB, 0, none⟩), .pointer (some ⟨oB, 0, none⟩), .pointer (some ⟨iB, 0, none⟩)] w fun z w' => z = .returned (.tuple #[]) ∧
      MetLeft bB oB iB i (if best < n then n else best) (if best < n then L ++ [(n, i - k)] else L) r w w' := by
  have c1 := h.b1.cell 0
  have c2 := h.b2.cell 0
  have c3 := h.b3.cell 0
  have f1 := h.b1.frozen 0
  have l1 := h.b1.lt
  have l2 := h.b2.lt
  have l3 := h.b3.lt
  have n1 := h.d1
  have n2 := h.d2
  have n3 := h.d3
  simp only [List.getElem?_toArray, List.getElem?_cons_zero] at c1 c2 c3
  obtain ⟨i0, HI⟩ := info_hid Try.infoF
  have H1 := hid (show L.length + 1 ≤ maxLen by unfold maxLen; omega)
  have H2 := hid (show (L.length + 1) * 16 ≤ 140737488355328 by omega)
  have hik : ((i - k : Nat) : Int) = (i : Int) - k := by omega
  by_cases hb : best < n
  · rw [if_pos hb, if_pos hb]
    have hsl : Sl 70 2 (w.setCell ⟨bB, 0, none⟩ (i6 n)) r rc L.length (cellsF L) := h.sl.keeps (Keeps.setCell (p := ⟨bB, 0, none⟩) (Keeps.refl (fun b => b = bB) w) (fun _ => rfl) _) (fun b hb e => h.e1 (e ▸ hb))
    have hE := hid hik
    clear hik
    go_enter Try.func61, Try.ntmps61
    go_wp2_with ((at_builtin; refine wpList_push _ rfl (.tmp 11) (.tmp 17) 73 rfl 70 i0 (.agg #[.int .i64 0, .int .i64 0]) 2 16 Try.underlying73 HI zF (by decide) r L.length rc (cellsF L) ?_ ?_ ⟨w.heap.size, 0, none⟩ 1 1 [i6 n, i6 ((i : Int) - k)] ?_ rfl ?_ (two_one _ _) H1 H2 ?_; exact rfl; exact hsl.own.alloc _; exact rfl; exact cells_two_at (by simp); intro r2 rc2 w6 hown6 hk6 hat6 _; have HX := hid (met_step (n := n) (d := i - k) h (by rw [hE.out]; exact hown6) hk6 hat6); have hx1 := HX.out.1; have hx2 := HX.out.2.1; have hx3 := HX.out.2.2.1; clear hown6 hk6 hat6))
    go_end0
    exact ⟨rfl, HX.out.2.2.2.out⟩
  · rw [if_neg hb, if_neg hb]
    go_enter Try.func61, Try.ntmps61
    go_wp2_with fail
    go_end0
    exact ⟨rfl, r, rc, h, Keeps.refl _ _, fun b e => .inl e⟩
end Go.Proofs.Ytalopgbkjgjppaa
