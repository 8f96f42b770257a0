/- bst.Next: the matches at the next place. -/
import Derived.Test.YtalopgbkjgjppaaBh
namespace Go.Proofs.Ytalopgbkjgjppaa
open Go.RowKit Go.Cas

theorem fold_pick (i : Nat) : ∀ (l : List (Nat × Nat)) (best : Nat) (L : List (Nat × Nat)), (l.foldl (metF i) (best, L)).2 = L ++ pick i best l
  | [], best, L => by simp [pick]
  | (k, n) :: l, best, L => by
    rw [List.foldl_cons, pick, show metF i (best, L) (k, n) = if best < n then (n, L ++ [(n, i - k)]) else (best, L) from rfl]
    by_cases h : best < n
    · rw [if_pos h, if_pos h, fold_pick i l, List.append_assoc]; rfl
    · rw [if_neg h, if_neg h, fold_pick i l]

theorem hangRun_range (s : List UInt8) (i : Nat) (W : Int) : ∀ (f : Nat) (A : Rows2) (lp mp : Bool × Nat) (k : Int) (v : List (Nat × Nat)), -1 ≤ k → k < lp.2 → k < mp.2 → lp.2 ≤ i → mp.2 ≤ i →
    (∀ (b : Bool) (j : Nat), j ≤ i → (b, j) ≠ lp → (b, j) ≠ mp → -1 ≤ A (b, j) ∧ A (b, j) < j) → ∀ (b : Bool) (j : Nat), j ≤ i → -1 ≤ (hangRun s i W f A lp mp k v).1 (b, j) ∧ (hangRun s i W f A lp mp k v).1 (b, j) < j := by
  have two : ∀ (A : Rows2) (lp mp : Bool × Nat) (x y : Int), -1 ≤ x → x < lp.2 → -1 ≤ y → y < mp.2 → (∀ (b : Bool) (j : Nat), j ≤ i → (b, j) ≠ lp → (b, j) ≠ mp → -1 ≤ A (b, j) ∧ A (b, j) < j) → ∀ (b : Bool) (j : Nat), j ≤ i → -1 ≤ ((A.put lp x).put mp y) (b, j) ∧ ((A.put lp x).put mp y) (b, j) < j := by
    intro A lp mp x y h1 h2 h3 h4 hA b j hj
    by_cases e1 : (b, j) = mp
    · subst e1; rw [put_same]; exact ⟨h3, h4⟩
    · rw [put_other _ _ e1]
      by_cases e2 : (b, j) = lp
      · subst e2; rw [put_same]; exact ⟨h1, h2⟩
      · rw [put_other _ _ e2]; exact hA b j hj e2 e1
  intro f
  induction f with
  | zero =>
    intro A lp mp k v hk hkl hkm hl hm hA
    exact two A lp mp (-1) (-1) (by omega) (by omega) (by omega) (by omega) hA
  | succ f ih =>
    intro A lp mp k v hk hkl hkm hl hm hA
    unfold hangRun
    split
    · rename_i hc
      obtain ⟨kn, rfl⟩ : ∃ kn : Nat, k = kn := ⟨k.toNat, by omega⟩
      simp only [Int.toNat_natCast]
      have hz := fun b => hA b kn (by omega) (fun e => by have e2 : kn = lp.2 := congrArg Prod.snd e; omega) (fun e => by have e2 : kn = mp.2 := congrArg Prod.snd e; omega)
      split
      · exact two A lp mp _ _ (hz false).1 (by have := (hz false).2; omega) (hz true).1 (by have := (hz true).2; omega) hA
      · split
        · have e : (A.put lp (kn : Int)) (true, kn) = A (true, kn) := put_other _ _ (fun e => by have e2 : kn = lp.2 := congrArg Prod.snd e; omega)
          rw [e]
          refine ih _ _ _ _ _ (hz true).1 (hz true).2 (by have := (hz true).2; omega) (by show kn ≤ i; omega) hm ?_
          intro b j hj h1 h2
          by_cases e2 : (b, j) = lp
          · subst e2; rw [put_same]; exact ⟨hk, hkl⟩
          · rw [put_other _ _ e2]; exact hA b j hj e2 h2
        · have e : (A.put mp (kn : Int)) (false, kn) = A (false, kn) := put_other _ _ (fun e => by have e2 : kn = mp.2 := congrArg Prod.snd e; omega)
          rw [e]
          refine ih _ _ _ _ _ (hz false).1 (by have := (hz false).2; omega) (hz false).2 hl (by show kn ≤ i; omega) ?_
          intro b j hj h1 h2
          by_cases e2 : (b, j) = mp
          · subst e2; rw [put_same]; exact ⟨hk, hkm⟩
          · rw [put_other _ _ e2]; exact hA b j hj h1 e2
    · exact two A lp mp (-1) (-1) (by omega) (by omega) (by omega) (by omega) hA

/-- The finder behind so many places. -/
def F8 (w : World) (p : Nat) (s : List UInt8) (W : Int) (i g1 g2 : Nat) : Prop :=
  ∃ (A : Rows2) (top : Int) (t : Tr), BF w p s W i top g1 g2 A ∧ TreeAt s W i A top t ∧ (-1 ≤ top ∧ top < i) ∧ ∀ (b : Bool) (j : Nat), j < i → -1 ≤ A (b, j) ∧ A (b, j) < j

theorem F8.keeps {S : Nat → Prop} {w w' : World} {p : Nat} {s : List UInt8} {W : Int} {i g1 g2 : Nat} (h : F8 w p s W i g1 g2) (k : Keeps S w w') (hn : ∀ b, b = p ∨ b = g1 ∨ b = g2 → ¬ S b) : F8 w' p s W i g1 g2 := by
  obtain ⟨A, top, t, h1, h2⟩ := h
  exact ⟨A, top, t, h1.keeps k hn, h2⟩

theorem F8.new {w : World} {p : Nat} {s : List UInt8} {W : Int} {g1 g2 : Nat} (h : BF w p s W 0 (-1) g1 g2 (fun _ => 0)) : F8 w p s W 0 g1 g2 :=
  ⟨_, -1, .nil, h, ⟨holds_nil s W, trivial, rfl⟩, by omega, fun b j hj => by omega⟩

/-- What Next finds. -/
def Finds (s : List UInt8) (W : Int) (i : Nat) (L : List (Nat × Nat)) : Prop := ∃ t, Holds s W i t ∧ L = pick i 1 (t.met s i W)

def Next8Left (w w' : World) (p : Nat) (s : List UInt8) (W : Int) (i g1 g2 : Nat) (z : Ending) : Prop :=
  ∃ r rc L, z = .returned (.slice r (L : List (Nat × Nat)).length rc) ∧ Sl 70 2 w' r rc L.length (cellsF L) ∧ F8 w' p s W (i + 1) g1 g2 ∧ Keeps (fun b => b = p ∨ b = g1 ∨ b = g2) w w' ∧ (∀ b, sblk r b → w.heap.size ≤ b) ∧ Finds s W i L

theorem next_tree {s : List UInt8} {W : Int} {i : Nat} {A : Rows2} {top : Int} {t : Tr} (h : TreeAt s W i A top t) (ht : -1 ≤ top ∧ top < i) (hA : ∀ (b : Bool) (j : Nat), j < i → -1 ≤ A (b, j) ∧ A (b, j) < j) :
    ∀ R, hangRun s i W (i + 1) A (false, i) (true, i) top [] = R → ((R.2).foldl (metF i) (1, [])).2 = pick i 1 (t.met s i W) ∧ (∃ t', TreeAt s W (i + 1) R.1 i t') ∧ ∀ (b : Bool) (j : Nat), j < i + 1 → -1 ≤ R.1 (b, j) ∧ R.1 (b, j) < j := by
  rintro R rfl
  obtain ⟨h1, h2⟩ := treeAt_hang s W i A top t h (i + 1) (by omega)
  refine ⟨by rw [h1, fold_pick]; rfl, ⟨_, h2⟩, fun b j hj => hangRun_range s i W (i + 1) A (false, i) (true, i) top [] ht.1 ht.2 ht.2 (Nat.le_refl _) (Nat.le_refl _) (fun b j hj h1 h2 => ?_) b j (by omega)⟩
  have hji : j ≠ i := by
    rintro rfl
    cases b
    · exact h1 rfl
    · exact h2 rfl
  exact hA b j (by omega)

abbrev nwA (w0 : World) : World := w0.alloc (.cells #[i6 0] 3)
abbrev nwB (w0 : World) (n i : Nat) : World := (nwA w0).setCell ⟨n, 0, none⟩ (i6 i)
abbrev nwC (w0 : World) (n i p : Nat) : World := (nwB w0 n i).setCell ⟨p, 2, none⟩ (i6 ((i : Int) + 1))
abbrev nwD (w0 : World) (n i p : Nat) : World := (nwC w0 n i p).alloc (.cells #[.slice none 0 0] 73)
abbrev nwE (w0 : World) (n i p : Nat) : World := (nwD w0 n i p).alloc (.cells #[i6 0] 3)
abbrev nwF (w0 : World) (n i p : Nat) : World := (nwD w0 n i p).alloc (.cells #[i6 1] 3)

theorem next8_ready {w0 : World} {n p : Nat} {s : List UInt8} {W : Int} {i : Nat} {top : Int} {g1 g2 : Nat} {A : Rows2} (hn : n = w0.heap.size) (h : BF w0 p s W i top g1 g2 A) :
    ((nwA w0).cell? ⟨n, 0, none⟩ = some (i6 0) ∧ (nwA w0).frozen? ⟨n, 0, none⟩ = false ∧ n < (nwA w0).heap.size) ∧
    ((nwB w0 n i).cell? ⟨p, 2, none⟩ = some (i6 i) ∧ (nwB w0 n i).frozen? ⟨p, 2, none⟩ = false ∧ p < (nwB w0 n i).heap.size) ∧
    ((nwE w0 n i p).cell? ⟨n + 1 + 1, 0, none⟩ = some (i6 0) ∧ (nwE w0 n i p).frozen? ⟨n + 1 + 1, 0, none⟩ = false ∧ n + 1 + 1 < (nwE w0 n i p).heap.size) ∧
    (nwF w0 n i p).cell? ⟨n, 0, none⟩ = some (i6 i) ∧ Keeps (fun b => b = p) w0 (nwF w0 n i p) ∧
    HS (nwF w0 n i p) (nwF w0 n i p) p s W (i + 1) top g1 g2 A (n + 1 + 1) (n + 1) n i 1 [] none 0 none := by
  have lp := h.blk.lt
  have l1 := h.r1.lt
  have l2 := h.r2.lt
  have sA : (nwA w0).heap.size = n + 1 := by simp [hn]
  have bA : Blk (nwA w0) n #[i6 0] 3 := Blk.new_at hn
  have bB : Blk (nwB w0 n i) n #[i6 i] 3 := by have := bA.set 0 (i6 i); simpa using this
  have sB : (nwB w0 n i).heap.size = n + 1 := by simp [hn]
  have bC : Blk (nwC w0 n i p) n #[i6 i] 3 := bB.setOther (p := ⟨p, 2, none⟩) (by show n ≠ p; omega) _
  have sC : (nwC w0 n i p).heap.size = n + 1 := by simp [hn]
  have bD : Blk (nwD w0 n i p) n #[i6 i] 3 := bC.alloc _
  have oD : Blk (nwD w0 n i p) (n + 1) #[.slice none 0 0] 73 := Blk.new_at sC.symm
  have sD : (nwD w0 n i p).heap.size = n + 2 := by simp [hn]
  have eE : Blk (nwE w0 n i p) (n + 1 + 1) #[i6 0] 3 := Blk.new_at sD.symm
  have sE : (nwE w0 n i p).heap.size = n + 3 := by simp [hn]
  have eF : Blk (nwF w0 n i p) (n + 1 + 1) #[i6 1] 3 := Blk.new_at sD.symm
  have oF : Blk (nwF w0 n i p) (n + 1) #[.slice none 0 0] 73 := oD.alloc _
  have bF : Blk (nwF w0 n i p) n #[i6 i] 3 := bD.alloc _
  have pA : Blk (nwA w0) p _ _ := h.blk.alloc _
  have pB : Blk (nwB w0 n i) p _ _ := pA.setOther (p := ⟨n, 0, none⟩) (by show p ≠ n; omega) _
  have pC : Blk (nwC w0 n i p) p #[.string ⟨s.toArray⟩, i6 W, i6 ((i : Int) + 1), i6 top, .slice (some ⟨g1, 0, none⟩) s.length s.length, .slice (some ⟨g2, 0, none⟩) s.length s.length] 109 := by have := pB.set 2 (i6 ((i : Int) + 1)); simpa using this
  have pF : Blk (nwF w0 n i p) p _ _ := (pC.alloc _).alloc _
  have K : Keeps (fun b => b = p) w0 (nwF w0 n i p) := by
    exact Keeps.alloc (Keeps.alloc (Keeps.setCell (S := fun b => b = p) (p := ⟨p, 2, none⟩) (Keeps.setCell (S := fun b => b = p) (p := ⟨n, 0, none⟩) ((Keeps.refl (fun b => b = p) _).alloc _) (fun hx => absurd hx (by show ¬ n < w0.heap.size; omega)) _) (fun _ => rfl) _) _) _
  refine ⟨⟨bA.cell 0, bA.frozen 0, bA.lt⟩, ⟨pB.cell 2, pB.frozen 2, pB.lt⟩, ⟨eE.cell 0, eE.frozen 0, eE.lt⟩, bF.cell 0, K, ?_⟩
  refine ⟨⟨pF, h.r1.keeps K (fun e => h.n1 e.symm), h.r2.keeps K (fun e => h.n2 e.symm), h.n1, h.n2, h.n3⟩, ⟨eF, oF, bF, Sl.nil _ _ _, by omega, by omega, by omega, by simp [sblk], by simp [sblk], by simp [sblk]⟩, ?_, Keeps.refl _ _, fun b e => .inl e⟩
  rintro b (rfl | rfl | rfl | e)
  · omega
  · omega
  · omega
  · simp [sblk] at e

set_option maxHeartbeats 4000000 in
set_option maxRecDepth 100000 in
theorem next8_any (p : Nat) (s : List UInt8) (W : Int) (i g1 g2 : Nat) (w : World) (h : F8 w p s W i g1 g2) (hi : i < s.length) (hs : s.length ≤ 1000000) :
    Calls Try.prog 51 #[.pointer (some ⟨p, 0, none⟩)] w fun z w' => Next8Left w w' p s W i g1 g2 z := by
  obtain ⟨A, top, t, hB, hT, htop, hA⟩ := h
  have c0 := hB.blk.cell 0
  have c2 := hB.blk.cell 2
  have cf := hB.blk.frozen 2
  have cl := hB.blk.lt
  simp only [List.getElem?_toArray, List.getElem?_cons_succ, List.getElem?_cons_zero] at c0 c2
  have d1 : decide ((s.length : Int) ≤ (i : Int)) = false := by simp; omega
  have d2 : decide ((i : Int) ≥ (s.length : Int)) = false := by simp; omega
  have hwr : IntKind.i64.wrap ((i : Int) + 1) = (i : Int) + 1 := IntWalk.i64_in _ (by omega)
  obtain ⟨R, hR⟩ : ∃ R, hangRun s i W (i + 1) A (false, i) (true, i) top [] = R := ⟨_, rfl⟩
  have HN := hid (next_tree hT htop hA R hR)
  have HR := hid hR
  have HA := hid hA
  have HT := hid hT
  clear hA hR hT
  go_enter Try.func51, Try.ntmps51
  go_upto_region 1 with fail
  go_quiet (fail)
  obtain ⟨⟨a1, a2, a3⟩, ⟨b1, b2, b3⟩, ⟨e1, e2, e3⟩, f1, K, hS⟩ := next8_ready (w0 := w.drewN nq) (n := w.heap.size) (by simp) (hB.keeps ((Keeps.refl (fun _ => False) w).drewN nq) (fun _ _ h => h))
  have HG := hid (fun w0 hS => hang_any p s W (i + 1) top g1 g2 A (w.heap.size + 1 + 1) (w.heap.size + 1) w.heap.size i 1 [] none 0 w0 hS hi hs htop HA.out rfl)
  have HS0 := hid hS
  have HK := hid K
  clear hS K
  simp only [nwA, nwB, nwC, nwD, nwE, nwF] at a1 a2 a3 b1 b2 b3 e1 e2 e3 f1
  go_wp2_with ((go_at_call 60; refine (HG.out _ HS0.out).mono ?_; rintro z w4 ⟨rfl, r5, rc5, hS5⟩; have d2 := hS5.cs.b2.cell 0; simp only [List.getElem?_toArray, List.getElem?_cons_zero] at d2))
  go_ret
  have hRR := HR.out
  rw [hRR] at hS5 ⊢
  obtain ⟨n1, ⟨t', n2⟩, n3⟩ := HN.out
  have hz := HK.out.size
  have hz0 : (w.drewN nq).heap.size = w.heap.size := by simp
  refine ⟨r5, rc5, (R.2.foldl (metF i) (1, [])).2, rfl, hS5.cs.sl, ⟨R.1, i, t', hS5.bf, n2, ⟨by omega, by push_cast; omega⟩, n3⟩, ?_, ?_, ⟨t, HT.out.1, n1⟩⟩
  · have K1 : Keeps (fun b => b = p ∨ b = g1 ∨ b = g2) w (nwF (w.drewN nq) w.heap.size i p) := (((Keeps.refl (fun b => b = p) w).drewN nq).trans HK.out).mono fun b _ e => .inl e
    refine K1.trans' hS5.kp fun b hb e => ?_
    rcases e with e | e | e | e
    · exact .inl e
    · exact .inr (.inl e)
    · exact .inr (.inr e)
    · rcases e with e | e | e | e
      · omega
      · omega
      · omega
      · simp [sblk] at e
  · intro b e
    rcases hS5.hr b e with e | e
    · simp [sblk] at e
    · omega
end Go.Proofs.Ytalopgbkjgjppaa
