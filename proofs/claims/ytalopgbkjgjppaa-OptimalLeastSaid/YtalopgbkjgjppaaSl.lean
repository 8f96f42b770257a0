/- A slice that owns its row, of whatever element; the step of an append. -/
import Derived.Test.YtalopgbkjgjppaaAp
import Derived.Test.YtalopgbkjgjppaaRp
namespace Go.Proofs.Ytalopgbkjgjppaa
open Go.RowKit Go.Cas

structure Sl (T : TypeId) (sz : Nat) (w : World) (q : Option Addr) (cap n : Nat) (xs : List Value) : Prop where
  own : w.ownsRow 0 T sz (.slice q n cap) n xs

theorem Sl.keeps {T : TypeId} {sz : Nat} {S : Nat → Prop} {w w' : World} {q : Option Addr} {cap n : Nat} {xs : List Value} (h : Sl T sz w q cap n xs) (k : Keeps S w w') (hn : ∀ b, sblk q b → ¬ S b) : Sl T sz w' q cap n xs :=
  ⟨ownsRow_keeps h.own k fun b hb => hn b (by rw [ownBlock_slice] at hb; exact hb)⟩

theorem Sl.same {T : TypeId} {sz : Nat} {w w' : World} {q : Option Addr} {cap n : Nat} {xs : List Value} (h : Sl T sz w q cap n xs) (k : Same w w') : Sl T sz w' q cap n xs := h.keeps k fun _ _ h => h

theorem Sl.lt {T : TypeId} {sz : Nat} {w : World} {q : Option Addr} {cap n : Nat} {xs : List Value} (h : Sl T sz w q cap n xs) : ∀ b, sblk q b → b < w.heap.size := fun b hb => (h.own.lt b (by rw [ownBlock_slice]; exact hb)).2

theorem Sl.nil (T : TypeId) (sz : Nat) (w : World) : Sl T sz w none 0 0 [] := ⟨World.ownsRow_nil _ _ _ _⟩

theorem Sl.ex {T : TypeId} {sz : Nat} {w : World} {q : Option Addr} {cap n : Nat} {xs : List Value} (h : Sl T sz w q cap n xs) (hl : 0 < n) : ∃ g, q = some ⟨g, 0, none⟩ := by
  rcases h.own.2 with ⟨h1, h2⟩ | ⟨g, c, cur, h1, _⟩
  · omega
  · simp at h1; exact ⟨g, h1.1⟩

theorem Sl.cell {T : TypeId} {sz : Nat} {w : World} {g cap n : Nat} {xs : List Value} (h : Sl T sz w (some ⟨g, 0, none⟩) cap n xs) (j : Nat) (hj : j < n * sz) : w.cell? ⟨g, j, none⟩ = xs[j]? := h.own.cellAt j hj

/-- What an append leaves: the new slice; it lies in the old block or in a new one; all else stays. -/
theorem Sl.push {T : TypeId} {sz : Nat} {w W w6 : World} {n m c2 : Nat} {q1 q2 : Option Addr} {xs news : List Value} {X : Obj}
    (hsm : Same w W) (hge : ∀ b, sblk q1 b → w.heap.size ≤ b)
    (hown : w6.ownsRow 0 T sz (.slice q2 (n + m) c2) (n + m) (xs ++ news)) (hk : Keeps (sblk q1) (W.alloc X) w6) (hat : ∀ k, sblk q2 k → sblk q1 k ∨ k = (W.alloc X).heap.size) :
    Sl T sz w6 q2 c2 (n + m) (xs ++ news) ∧ (∀ b, sblk q2 b → w.heap.size ≤ b) ∧ Same w w6 ∧ Keeps (sblk q1) W w6 ∧ (∀ b, b < W.heap.size → ¬ sblk q1 b → ¬ sblk q2 b) := by
  have l3 := hsm.size
  have l4 : (W.alloc X).heap.size = W.heap.size + 1 := by simp
  refine ⟨⟨hown⟩, ?_, ?_, ?_, ?_⟩
  · intro b e; rcases hat _ e with e | e
    · exact hge b e
    · omega
  · exact (hsm.alloc X).trans' (S' := sblk q1) hk fun b hb hs => by have := hge b hs; omega
  · exact ((Keeps.refl (sblk q1) W).alloc X).trans hk
  · intro b hb hn e; rcases hat _ e with e | e
    · exact hn e
    · omega

abbrev RPks (w : World) (q : Option Addr) (cap : Nat) (l : List Pk) : Prop := Sl 28 4 w q cap l.length (cellsP l)
abbrev Bys (w : World) (q : Option Addr) (cap : Nat) (bs : List UInt8) : Prop := Sl 5 1 w q cap bs.length (bs.map b8)

theorem rpks_at {w : World} {g cap : Nat} {l : List Pk} (h : RPks w (some ⟨g, 0, none⟩) cap l) (k : Nat) (p : Pk) (hk : l[k]? = some p) :
    w.cell? ⟨g, k * 4, none⟩ = some (i6 p.k) ∧ w.cell? ⟨g, k * 4 + 1, none⟩ = some (i6 p.d) ∧ w.cell? ⟨g, k * 4 + 2, none⟩ = some (i6 p.l) ∧ w.cell? ⟨g, k * 4 + 3, none⟩ = some (b8 p.y) := by
  have hkl : k < l.length := (List.getElem?_eq_some_iff.1 hk).1
  have e := fun j hj => (h.cell (k * 4 + j) (by omega)).trans (cellsP_get l k j p hk hj)
  exact ⟨e 0 (by omega), e 1 (by omega), e 2 (by omega), e 3 (by omega)⟩

theorem bys_at {w : World} {g cap : Nat} {bs : List UInt8} (h : Bys w (some ⟨g, 0, none⟩) cap bs) (k : Nat) (hk : k < bs.length) : w.cell? ⟨g, k, none⟩ = some (b8 bs[k]) := by
  rw [h.cell k (by omega), b8_get bs k hk]

theorem cell_one_at {w : World} {n : Nat} {x : Value} {t : TypeId} (h : n = w.heap.size) : ∀ j u, [x][j]? = some u → (w.alloc (.cells #[x] t)).cell? ((⟨n, 0, none⟩ : Addr).add j) = some u := by
  subst h; exact cell_one_new _ _ _

theorem Try.infoR : (Try.prog.info? 28).map (fun i => (i.zero, i.size, i.bytes)) = some (some (.agg #[.int .i64 0, .int .i64 0, .int .i64 0, .int .u8 0]), 4, 32) := by kernel_rfl
end Go.Proofs.Ytalopgbkjgjppaa
