/- Part of a proof: Mt, Ps. -/
import Derived.Test.YtalopgbkjgjppaaGreatDoorGMm
import Derived.Test.YtalopgbkjgjppaaGreatDoorGSy
import Derived.Test.YtalopgbkjgjppaaGreatDoorGWin
/- The walks of model's Text, Len. -/
namespace Go.Proofs.YtalopgbkjgjppaaGreatDoor
open Go.RowKit Go.Cas Go.Cas.Enc

set_option maxHeartbeats 2000000 in
set_option maxRecDepth 100000 in
theorem mtext_any (w : World) (L : Lay) (S : MSt) (P : Prb) (q : Option Addr) (cap : Nat) (h : MM w L S P q cap) :
    Calls Tryz.prog 36 #[.pointer (some ⟨L.φ 0, 0, none⟩)] w fun e w' => e = .returned (.string ⟨S.text.toArray⟩) ∧ w' = w := by
  have c4 : w.cell? ⟨L.φ 0, 4, none⟩ = some (.pointer (some ⟨L.wb, 0, none⟩)) := h.mcell 4 (by decide)
  have HT := hid (wtext_any L.wb L.most cap S.text q w h.win)
  clear h
  generalize L.φ 0 = φ0 at *
  generalize L.wb = wb at *
  go_enter Tryz.func36, Tryz.ntmps36
  go_wp2_with (go_at_call 71; refine HT.out.mono ?_; rintro z w2 ⟨rfl, rfl⟩)
  go_ret
  exact ⟨rfl, rfl⟩

set_option maxHeartbeats 2000000 in
set_option maxRecDepth 100000 in
theorem mlen_any (w : World) (L : Lay) (S : MSt) (P : Prb) (q : Option Addr) (cap : Nat) (h : MM w L S P q cap) :
    Calls Tryz.prog 94 #[.pointer (some ⟨L.φ 0, 0, none⟩)] w fun e w' => e = .returned (i6 S.text.length) ∧ w' = w := by
  have c4 : w.cell? ⟨L.φ 0, 4, none⟩ = some (.pointer (some ⟨L.wb, 0, none⟩)) := h.mcell 4 (by decide)
  have HT := hid (wlen_any L.wb L.most cap S.text q w h.win)
  clear h
  generalize L.φ 0 = φ0 at *
  generalize L.wb = wb at *
  generalize S.text.length = n at *
  go_enter Tryz.func94, Tryz.ntmps94
  go_wp2_with (go_at_call 65; refine HT.out.mono ?_; rintro z w2 ⟨rfl, rfl⟩)
  go_ret
  exact ⟨rfl, rfl⟩
end Go.Proofs.YtalopgbkjgjppaaGreatDoor

/- A decoding: what it is in memory. -/
namespace Go.Proofs.YtalopgbkjgjppaaGreatDoor
open Go.RowKit Go.Cas Go.Cas.Enc

/-- A decoding somewhere: the model, the decoder, the box of both, the packets so far. -/
structure DAt (w0 w : World) (G0 : Nat → Prop) (L : Lay) (x y : Nat) (S : MSt) (D : Dec) (P : Prb) (q2 : Option Addr) (c2 : Nat) (out : List Pk) (q : Option Addr) (cap : Nat) (F : Nat → Prop) : Prop where
  mc : MC w L S P q cap x (.dec D) F
  own : ∀ b, MF L q b ∨ F b → G0 b ∨ w0.heap.size ≤ b
  keeps : Keeps G0 w0 w
  box : Blk w y #[.pointer (some ⟨L.φ 0, 0, none⟩), .pointer (some ⟨x, 0, none⟩)] 86
  ny : ¬ (MF L q y ∨ F y) ∧ ¬ sblk q2 y
  pks : Pks w q2 c2 out
  new : ∀ b, sblk q2 b → w0.heap.size ≤ b ∧ ¬ (MF L q b ∨ F b)
  pos : 0 < w0.heap.size

variable {w0 w : World} {G0 : Nat → Prop} {L : Lay} {x y : Nat} {S : MSt} {D : Dec} {P : Prb} {q2 : Option Addr} {c2 : Nat} {out : List Pk} {q : Option Addr} {cap : Nat} {F : Nat → Prop}

theorem DAt.lt (h : DAt w0 w G0 L x y S D P q2 c2 out q cap F) : y < w.heap.size ∧ (∀ b, MF L q b ∨ F b → b < w.heap.size) ∧ ∀ b, sblk q2 b → b < w.heap.size :=
  ⟨h.box.lt, fun b hb => hb.elim (h.mc.mm.lt b) (h.mc.cm.lt b), h.pks.lt⟩

theorem DAt.kept {w' : World} {T : Nat → Prop} (h : DAt w0 w G0 L x y S D P q2 c2 out q cap F) (hK : Keeps T w w') (h1 : ∀ b, T b → w0.heap.size ≤ b) (h2 : ∀ b, T b → w.heap.size ≤ b ∨ (¬ (MF L q b ∨ F b) ∧ b ≠ y ∧ ¬ sblk q2 b)) : DAt w0 w' G0 L x y S D P q2 c2 out q cap F := by
  obtain ⟨l1, l2, l3⟩ := h.lt
  refine ⟨h.mc.keeps hK fun b hb e => ?_, h.own, h.keeps.trans' hK fun b hb e => by have := h1 b e; omega, h.box.keeps hK fun e => ?_, h.ny, h.pks.keeps hK fun b hb e => ?_, h.new, h.pos⟩
  · have hb0 : MF L q b ∨ F b := by
      rcases hb with hb | hb | rfl
      · exact .inl hb
      · exact .inr hb
      · have := h1 0 e
        have := h.pos
        omega
    rcases h2 b e with h3 | h3
    · have := l2 b hb0; omega
    · exact h3.1 hb0
  · rcases h2 y e with h3 | h3
    · omega
    · exact h3.2.1 rfl
  · rcases h2 b e with h3 | h3
    · have := l3 b hb; omega
    · exact h3.2.2 hb

theorem DAt.same {w' : World} (h : DAt w0 w G0 L x y S D P q2 c2 out q cap F) (hK : Same w w') : DAt w0 w' G0 L x y S D P q2 c2 out q cap F := h.kept hK (fun _ e => e.elim) (fun _ e => e.elim)

/-- A step of the model. -/
theorem DAt.get {w1 w3 : World} {S' : MSt} {D1 : Dec} {P1 : Prb} (h : DAt w0 w G0 L x y S D P q2 c2 out q cap F) (hs : Same w w1) (hl : LeftM w1 w3 L S' x (fun b => MF L q b ∨ F b) (.dec D1, P1)) : ∃ q' cap' F', DAt w0 w3 G0 L x y S' D1 P1 q2 c2 out q' cap' F' ∧ ∀ b, w.heap.size ≤ b → b < w1.heap.size → ¬ (MF L q' b ∨ F' b) := by
  obtain ⟨q', cap', F', k1, k2, k3⟩ := hl
  obtain ⟨l1, l2, l3⟩ := h.lt
  have z1 := hs.size
  have z0 := h.keeps.size
  have h1 := h.same hs
  refine ⟨q', cap', F', ⟨k1, fun b hb => ?_, h1.keeps.trans' k2 fun b hb e => (h.own b e).resolve_right (by omega), h1.box.keeps k2 h.ny.1, ⟨fun e => ?_, h.ny.2⟩, h1.pks.keeps k2 fun b hb e => (h.new b hb).2 e, fun b hb => ⟨(h.new b hb).1, fun e => ?_⟩, h.pos⟩, fun b hb1 hb2 e => ?_⟩
  · rcases k3 b hb with e | e
    · exact h.own b e
    · exact .inr (by omega)
  · rcases k3 y e with e | e
    · exact h.ny.1 e
    · omega
  · rcases k3 b e with e | e
    · exact (h.new b hb).2 e
    · have := l3 b hb; omega
  · rcases k3 b e with e | e
    · have := l2 b e; omega
    · omega

/-- The box of the packet that was got is filled. -/
theorem DAt.set4 {b7 : Nat} (h : DAt w0 w G0 L x y S D P q2 c2 out q cap F) (h1 : w0.heap.size ≤ b7) (h2 : ¬ (MF L q b7 ∨ F b7)) (h3 : b7 ≠ y) (h4 : ¬ sblk q2 b7) (v0 v1 v2 v3 : Value) : DAt w0 ((((w.setCell ⟨b7, 0, none⟩ v0).setCell ⟨b7, 1, none⟩ v1).setCell ⟨b7, 2, none⟩ v2).setCell ⟨b7, 3, none⟩ v3) G0 L x y S D P q2 c2 out q cap F :=
  h.kept (Keeps.set4 _ _ _ _ _ _) (fun b e => by omega) (fun b e => .inr (by subst e; exact ⟨h2, h3, h4⟩))

theorem LeftM.blk {w1 w3 : World} {S' : MSt} {s : CSt} {b : Nat} {cs : Array Value} {t : TypeId} (h : DAt w0 w G0 L x y S D P q2 c2 out q cap F) (hl : LeftM w1 w3 L S' x (fun b => MF L q b ∨ F b) s) (hge : w.heap.size ≤ b) (hB : Blk w1 b cs t) : Blk w3 b cs t := by
  obtain ⟨q', cap', F', k1, k2, k3⟩ := hl
  exact hB.keeps k2 fun e => by have := h.lt.2.1 b e; omega

theorem cellsP_snoc' (l : List Pk) (p : Pk) : cellsP (l ++ [p]) = cellsP l ++ p.cells := by simp [cellsP]

/-- A packet more. -/
theorem DAt.push {W w6 : World} {q3 : Option Addr} {c3 : Nat} {p : Pk} (h : DAt w0 w G0 L x y S D P q2 c2 out q cap F) (hW : Same w W) (hown : w6.ownsRow 0 39 4 (.slice q3 (out.length + 1) c3) (out.length + 1) (cellsP out ++ p.cells)) (hk : Keeps (sblk q2) W w6) (hat : ∀ k, sblk q3 k → sblk q2 k ∨ k = W.heap.size) :
    DAt w0 w6 G0 L x y S D P q3 c3 (out ++ [p]) q cap F := by
  obtain ⟨l1, l2, l3⟩ := h.lt
  have h1 := h.same hW
  have z := hW.size
  have z0 := h.keeps.size
  refine ⟨h1.mc.keeps hk fun b hb e => ?_, h.own, h1.keeps.trans' hk fun b hb e => by have := (h.new b e).1; omega, h1.box.keeps hk h.ny.2, ⟨h.ny.1, fun e => ?_⟩, ⟨?_⟩, fun b hb => ?_, h.pos⟩
  · rcases hb with hb | hb | rfl
    · exact (h.new b e).2 (.inl hb)
    · exact (h.new b e).2 (.inr hb)
    · have := (h.new 0 e).1
      have := h.pos
      omega
  · rcases hat y e with e | e
    · exact h.ny.2 e
    · omega
  · rw [List.length_append, cellsP_snoc']
    exact hown
  · rcases hat b hb with e | e
    · exact h.new b e
    · exact ⟨by omega, fun e' => by have := l2 b e'; omega⟩

theorem Tryz.infoP' : (Tryz.prog.info? 39).map (fun i => (i.zero, i.size, i.bytes)) = some (some (.agg #[.int .i64 0, .int .i64 0, .int .i64 0, .int .u8 0]), 4, 32) := by kernel_rfl
theorem zP' : (Value.agg #[.int .i64 0, .int .i64 0, .int .i64 0, .int .u8 0]).cells.size = 4 := by kernel_rfl
theorem pk_one' (k d l : Int) (y : Int) : ∀ u ∈ [i6 k, i6 d, i6 l, Value.int .u8 y], u.oneCell' = true := by
  intro u hu; simp at hu; rcases hu with rfl | rfl | rfl | rfl <;> rfl
theorem cells_four_new' (w : World) (x0 x1 x2 x3 : Value) (t : TypeId) : ∀ j u, [x0, x1, x2, x3][j]? = some u → (w.alloc (.cells #[x0, x1, x2, x3] t)).cell? ((⟨w.heap.size, 0, none⟩ : Addr).add j) = some u := by
  intro j u hj
  rw [show (⟨w.heap.size, 0, none⟩ : Addr).add j = ⟨w.heap.size, j, none⟩ from by unfold Addr.add; split <;> simp_all, World.cell?_alloc_new]
  match j, hj with
  | 0, hj => exact hj
  | 1, hj => exact hj
  | 2, hj => exact hj
  | 3, hj => exact hj
end Go.Proofs.YtalopgbkjgjppaaGreatDoor
