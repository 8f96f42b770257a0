/- Part of a proof: Nl, Mk, Mk2, Mk3. -/
import Derived.Test.YtalopgbkjgjppaaGreatDoorGGt
import Derived.Test.YtalopgbkjgjppaaGreatDoorGWin
/- The walk of model.newLengths. -/
namespace Go.Proofs.YtalopgbkjgjppaaGreatDoor
open Go.RowKit Go.Cas Go.Cas.Enc

/-- The cells of lengths of which m trees are laid. -/
def lenC (far : Value) (ψ : Nat → Nat) (c : Nat) (m o : Nat) : Value :=
  if o < 2 then v16 c else if o = 34 then far else if o < 2 + m then .slice (some ⟨ψ (o - 2), 0, none⟩) 8 8 else .slice none 0 0

def NearAt (w3 w : World) (g : Nat) (far : Value) (m : Nat) : Prop :=
  ∃ ψ : Nat → Nat, Blk w g (rowV (lenC far ψ 1024 m) 35) 174 ∧ (∀ j, j < m → Blk w (ψ j) (rowP (fun _ => 1024) 8) T16 ∧ w3.heap.size ≤ ψ j) ∧ (∀ j k, j < m → k < m → ψ j = ψ k → j = k) ∧ Keeps (fun b => b = g) w3 w

theorem NearAt.step {w3 w w' : World} {g gn m : Nat} {far : Value} (h : NearAt w3 w g far m) (hg3 : g < w3.heap.size) (hm : m < 32) (hs : Same w w') (hB : Blk w' gn (rowP (fun _ => 1024) 8) T16) (hge : w.heap.size ≤ gn) :
    NearAt w3 (w'.setCell ⟨g, 2 + m, none⟩ (.slice (some ⟨gn, 0, none⟩) 8 8)) g far (m + 1) := by
  obtain ⟨ψ, hb, hj, hi, hk⟩ := h
  have h3 : w3.heap.size ≤ w.heap.size := hk.size
  have hrow : (rowV (lenC far ψ 1024 m) 35).setIfInBounds (2 + m) (.slice (some ⟨gn, 0, none⟩) 8 8) = rowV (lenC far (fun j => if j = m then gn else ψ j) 1024 (m + 1)) 35 := by
    refine rowV_set _ _ _ _ _ ?_ fun k hk => ?_
    · unfold lenC
      rw [if_neg (by omega), if_neg (by omega), if_pos (by omega)]
      show Value.slice (some ⟨if 2 + m - 2 = m then gn else ψ (2 + m - 2), 0, none⟩) 8 8 = _
      rw [if_pos (by omega)]
    · unfold lenC
      by_cases h1 : k < 2
      · rw [if_pos h1, if_pos h1]
      · by_cases h2 : k = 34
        · rw [if_neg h1, if_pos h2, if_neg h1, if_pos h2]
        · by_cases h4 : k < 2 + m
          · rw [if_neg h1, if_neg h2, if_pos (by omega), if_neg h1, if_neg h2, if_pos h4]
            show Value.slice (some ⟨if k - 2 = m then gn else ψ (k - 2), 0, none⟩) 8 8 = _
            rw [if_neg (by omega)]
          · rw [if_neg h1, if_neg h2, if_neg (by omega), if_neg h1, if_neg h2, if_neg h4]
  have hks : Keeps (fun b => b = g) w' (w'.setCell ⟨g, 2 + m, none⟩ (.slice (some ⟨gn, 0, none⟩) 8 8)) := Keeps.setCell (p := ⟨g, 2 + m, none⟩) (Keeps.refl _ _) (fun _ => by simp) _
  have hlt : ∀ j, j < m → ψ j < w.heap.size := fun j hj' => (hj j hj').1.lt
  refine ⟨fun j => if j = m then gn else ψ j, ?_, fun j hjm => ?_, fun j k hjm hkm e => ?_, (hk.trans (Keeps.of_same hs)).trans hks⟩
  · rw [← hrow]
    exact (hb.keeps hs (fun h => h)).set _ _
  · dsimp only
    by_cases e : j = m
    · rw [if_pos e]
      exact ⟨hB.keeps hks (by have := hb.lt; omega), by omega⟩
    · rw [if_neg e]
      obtain ⟨h1, h2⟩ := hj j (by omega)
      exact ⟨(h1.keeps hs (fun h => h)).keeps hks (by omega), h2⟩
  · dsimp only at e
    by_cases e1 : j = m
    · by_cases e2 : k = m
      · omega
      · rw [if_pos e1, if_neg e2] at e
        have := hlt k (by omega); omega
    · by_cases e2 : k = m
      · rw [if_neg e1, if_pos e2] at e
        have := hlt j (by omega); omega
      · rw [if_neg e1, if_neg e2] at e
        exact hi j k (by omega) (by omega) e

/-- Lengths anew. -/
def LenMade (w w' : World) (g : Nat) : Prop :=
  ∃ (gf : Nat) (ψ : Nat → Nat), Blk w' g (rowV (lenC (.slice (some ⟨gf, 0, none⟩) 256 256) ψ 1024 32) 35) 174 ∧ Blk w' gf (rowP (fun _ => 1024) 256) T16 ∧ (∀ j, j < 32 → Blk w' (ψ j) (rowP (fun _ => 1024) 8) T16) ∧
    w.heap.size ≤ gf ∧ gf < g ∧ (∀ j, j < 32 → g < ψ j) ∧ (∀ j k, j < 32 → k < 32 → ψ j = ψ k → j = k) ∧ Same w w'

set_option maxHeartbeats 8000000 in
set_option maxRecDepth 100000 in
theorem newlen_any (w : World) :
    Calls Tryz.prog 63 #[] w fun z w' => ∃ g, z = .returned (.pointer (some ⟨g, 0, none⟩)) ∧ LenMade w w' g := by
  have HNew3 := hid (fun w0 => pnew_any 3 w0 (by decide))
  have HNew8 := hid (fun w0 => pnew_any 8 w0 (by decide))
  go_enter Tryz.func63, Tryz.ntmps63
  go_wp2_with fail
  refine (HNew8.out _).mono ?_
  rintro z w1 ⟨gf, rfl, hBf, hgf, hs1⟩
  go_wp2_with fail
  generalize hw2 : World.alloc w1 _ = w2
  obtain ⟨far, hfar⟩ : ∃ far, Value.slice (some ⟨gf, 0, none⟩) 256 256 = far := ⟨_, rfl⟩
  have hB2 : Blk w2 w1.heap.size (rowV (lenC far (fun _ => 0) 0 0) 35) 174 := by
    rw [← hw2, ← hfar]
    exact Blk.new _ _ _
  have hs2 : Same w1 w2 := by rw [← hw2]; exact (Keeps.refl _ _).alloc _
  clear hw2
  obtain ⟨g, hg⟩ : ∃ g, w1.heap.size = g := ⟨_, rfl⟩
  rw [hg] at hB2 ⊢
  have HBeg := hid (mbegin_any g 0 2 2 _ _ w2 hB2 (by simp [rowV]) (by decide))
  refine HBeg.out.mono ?_
  rintro z w3 ⟨rfl, hB3, hK3⟩
  have hrow : fillN (rowV (lenC far (fun _ => 0) 0 0) 35) 0 2 = rowV (lenC far (fun _ => 0) 1024 0) 35 := by
    apply Array.ext_getElem?
    intro i
    rw [fillN_get]
    by_cases hi : i < 35
    · rw [rowV_get _ hi, rowV_get _ hi]
      unfold lenC
      by_cases h2 : i < 2
      · rw [if_pos (by simp [rowV]; omega), if_pos h2]
      · rw [if_neg (by omega)]; simp only [if_neg h2]
    · have e1 : ∀ f, (rowV f 35)[i]? = none := fun f => by simp [rowV]; omega
      rw [e1, e1, if_neg (by simp [rowV]; omega)]
  rw [hrow] at hB3
  go_wp2_with fail
  have hg3 : g < w3.heap.size := hB3.lt
  have hN : NearAt w3 w3 g far 0 := ⟨fun _ => 0, hB3, fun j hj => absurd hj (by omega), fun j k hj => absurd hj (by omega), Keeps.refl _ _⟩
  have HX := hid (And.intro hs1 (And.intro hs2 (And.intro hK3 (And.intro hBf (And.intro hgf (And.intro hg hfar))))))
  clear hs1 hs2 hK3 hBf hgf hg hfar hB3 hB2 hrow
  go_loopw [12] (fun s12 wr => ∃ i : Nat, s12 = i6 i ∧ i ≤ 2 ∧ NearAt w3 wr g far (i * 16)) (fun s12 _ => 2 - (intOf s12).toNat)
  case atStart => exact ⟨0, rfl, by decide, hN⟩
  case round =>
    clear hN
    obtain ⟨i, rfl, hi, hN⟩ := hrel
    by_cases he : i = 2
    · subst he
      have d0 : decide (((2 : Nat) : Int) < 2) = false := by simp
      have HN := hid hN
      clear hN
      go_wp2_with fail
      go_ret
      obtain ⟨hs1, hs2, hK3, hBf, hgf, hg, hfar⟩ := HX.out
      obtain ⟨ψ, hb, hj, hinj, hk⟩ := HN.out
      have hz : w.heap.size ≤ w1.heap.size := hs1.size
      refine ⟨g, rfl, gf, ψ, by rw [hfar]; exact hb, ((hBf.keeps hs2 (fun h => h)).keeps hK3 (by have := hBf.lt; omega)).keeps hk (by have := hBf.lt; omega), fun j hj' => (hj j hj').1, hgf, by have := hBf.lt; omega, fun j hj' => by have := (hj j hj').2; omega, hinj, ?_⟩
      exact ((hs1.trans hs2).trans' hK3 (fun b hb e => by omega)).trans' hk (fun b hb e => by omega)
    · have hi2 : i < 2 := by omega
      have d0 : decide ((i : Int) < 2) = true := by simp; omega
      have fi : IntKind.i64.wrap ((i : Int) + 1) = (i : Int) + 1 := IntWalk.i64_in _ (by omega)
      have HN := hid hN
      have hi0 : (0 : Int) ≤ (i : Int) := by omega
      have hi1 : (i : Int) < 2 := by omega
      clear hN he
      go_wp2_with fail
      obtain ⟨wi, rfl⟩ : ∃ wi : World, wi = wr := ⟨_, rfl⟩
      go_loopw [15] (fun s15 wr => ∃ k : Nat, s15 = i6 k ∧ k ≤ 16 ∧ NearAt w3 wr g far (i * 16 + k)) (fun s15 _ => 16 - (intOf s15).toNat)
      case atStart => exact ⟨0, rfl, by decide, HN.out⟩
      case round =>
        obtain ⟨k, rfl, hk, hN⟩ := hrel
        by_cases he : k = 16
        · subst he
          have d1 : decide (((16 : Nat) : Int) < 16) = false := by simp
          have HN2 := hid hN
          clear hN
          go_wp2_with fail
          go_roundw
          case rel => exact ⟨i + 1, by go_num, by omega, by have := HN2.out; rw [show (i + 1) * 16 = i * 16 + 16 from by omega]; exact this⟩
          case measure => simp [intOf]; omega
        · have hk2 : k < 16 := by omega
          have d1 : decide ((k : Int) < 16) = true := by simp; omega
          have fk : IntKind.i64.wrap ((k : Int) + 1) = (k : Int) + 1 := IntWalk.i64_in _ (by omega)
          have hk0 : (0 : Int) ≤ (k : Int) := by omega
          have hk1 : (k : Int) < 16 := by omega
          obtain ⟨m, hm⟩ : ∃ m, i * 16 + k = m := ⟨_, rfl⟩
          have hmo : 2 + i * 16 + k = 2 + m := by omega
          rw [hm] at hN
          have hm32 : m < 32 := by omega
          have HN2 := hid hN
          have HMo := hid (And.intro hm hmo)
          clear hN he hm
          go_upto_region 9 with fail
          refine wp_region_held_drew (S := (fun V => True)) (by kernel_rfl) (by (try dsimp only); (first | done | trivial)) (fun hHeld => ?_)
          refine wpAnyH_take (i := 0) (oi := ⟨some 18, _, _, _, _, _⟩) (v := ?v0a) rfl (by kernel_rfl) (by kernel_rfl) (by kernel_rfl) (fun _ _ _ h => h) (Or.inl ⟨by rfl, ?h0a⟩) (by assumption) ?r0a
          case h0a => intro w hSw; (try dsimp only at hSw); go_simp; (try with_reducible rfl)
          try simp only [Act.put, List.setIfInBounds_toArray, List.set_cons_zero, List.set_cons_succ]
          refine wpAnyH_take (i := 1) (oi := ⟨some 19, _, _, _, _, _⟩) (v := ?v1a) rfl (by kernel_rfl) (by kernel_rfl) (by kernel_rfl) (fun _ _ _ h => h) (Or.inl ⟨by rfl, ?h1a⟩) (by assumption) ?r1a
          case h1a => intro w hSw; (try dsimp only at hSw); go_simp; (try with_reducible rfl)
          try simp only [Act.put, List.setIfInBounds_toArray, List.set_cons_zero, List.set_cons_succ]
          refine wpAnyH_take (i := 2) (oi := ⟨some 20, _, _, _, _, _⟩) (v := ?v2a) rfl (by kernel_rfl) (by kernel_rfl) (by kernel_rfl) (fun _ _ _ h => h) (Or.inl ⟨by rfl, ?h2a⟩) (by assumption) ?r2a
          case h2a => intro w hSw; (try dsimp only at hSw); go_simp; (try with_reducible rfl)
          try simp only [Act.put, List.setIfInBounds_toArray, List.set_cons_zero, List.set_cons_succ]
          refine wpAnyH_take (i := 4) (oi := ⟨some 22, _, _, _, _, _⟩) (v := ?v4a) rfl (by kernel_rfl) (by kernel_rfl) (by kernel_rfl) (fun _ _ _ h => h) (Or.inl ⟨by rfl, ?h4a⟩) (by assumption) ?r4a
          case h4a => intro w hSw; (try dsimp only at hSw); go_simp; (try with_reducible rfl)
          try simp only [Act.put, List.setIfInBounds_toArray, List.set_cons_zero, List.set_cons_succ]
          refine wpAnyH_take (i := 5) (oi := ⟨some 23, _, _, _, _, _⟩) (v := ?v5a) rfl (by kernel_rfl) (by kernel_rfl) (by kernel_rfl) (fun _ _ _ h => h) (Or.inl ⟨by rfl, ?h5a⟩) (by assumption) ?r5a
          case h5a => intro w hSw; (try dsimp only at hSw); go_simp; (try with_reducible rfl)
          try simp only [Act.put, List.setIfInBounds_toArray, List.set_cons_zero, List.set_cons_succ]
          refine wpAnyH_take (i := 6) (oi := ⟨some 24, _, _, _, _, _⟩) (v := ?v6a) rfl (by kernel_rfl) (by kernel_rfl) (by kernel_rfl) (fun _ _ _ h => h) (Or.inl ⟨by rfl, ?h6a⟩) (by assumption) ?r6a
          case h6a => intro w hSw; (try dsimp only at hSw); go_simp; (try with_reducible rfl)
          try simp only [Act.put, List.setIfInBounds_toArray, List.set_cons_zero, List.set_cons_succ]
          refine wpAnyH_ready (rs := [3]) (by kernel_rfl) (by simp) ?_
          refine AllReadyH.cons (o := ⟨some 21, _, _, _, _, _⟩) rfl (fun K hK => ?_) AllReadyH.nil
          go_simp; (go_at_call 60; refine (HNew3.out _).mono ?_; rintro z w4 ⟨gn, rfl, hBn, hgn, hs4⟩; have hN4 := HN2.out; obtain ⟨ψ, hb, hrest⟩ := hN4; have hb4 := hb.drew.keeps hs4 (fun h => h); have hc4 : w4.cell? ⟨g, 2 + m, none⟩ = some (lenC far ψ 1024 m (2 + m)) := (by rw [hb4.cell, rowV_get _ (by omega)]); have hz4 := hb4.frozen (2 + m); generalize lenC far ψ 1024 m (2 + m) = old at hc4; clear hb hrest hb4)
          refine hK.out _ _ (by (try dsimp only); (first | done | trivial)) (fun hHeld => ?_)
          clear hK K
          try simp only [Act.put, List.setIfInBounds_toArray, List.set_cons_zero, List.set_cons_succ]
          refine wpAnyH_take (i := 7) (oi := ⟨some 25, _, _, _, _, _⟩) (v := ?v7a) rfl (by kernel_rfl) (by kernel_rfl) (by kernel_rfl) (fun _ _ _ h => h) (Or.inl ⟨by rfl, ?h7a⟩) (by assumption) ?r7a
          case h7a => intro w hSw; (try dsimp only at hSw); go_simp; (try with_reducible rfl)
          try simp only [Act.put, List.setIfInBounds_toArray, List.set_cons_zero, List.set_cons_succ]
          refine wpAnyH_ready (rs := [8]) (by kernel_rfl) (by simp) ?_
          refine AllReadyH.cons (o := ⟨none, _, _, _, _, _⟩) rfl (fun K hK => ?_) AllReadyH.nil
          go_simp
          refine hK.out _ _ (by (try dsimp only); (first | done | trivial)) (fun hHeld => ?_)
          clear hK K
          try simp only [Act.put, List.setIfInBounds_toArray, List.set_cons_zero, List.set_cons_succ]
          refine wpAnyH_done (by kernel_rfl) ?_ _
          go_wp2_with fail
          go_roundw
          case rel => exact ⟨k + 1, by go_num, by omega, by rw [show i * 16 + (k + 1) = m + 1 from by have := HMo.out.1; omega]; exact NearAt.step HN2.out hg3 hm32 (hs4.drew_left) hBn hgn⟩
          case measure => simp [intOf]; omega
end Go.Proofs.YtalopgbkjgjppaaGreatDoor

/- A model that is being made: what its blocks hold so far. -/
namespace Go.Proofs.YtalopgbkjgjppaaGreatDoor
open Go.RowKit Go.Cas Go.Cas.Enc

/-- A model at first. -/
def firstS : MSt := ⟨0, 1, 1, 1, 1, []⟩
def firstP : Prb := fun _ _ => 1024
def Lay.at (L : Lay) (i g : Nat) : Lay := { L with φ := fun j => if j = i then g else L.φ j }

/-- The model's block so far; the trees so far; the window. -/
structure Mk (w0 w : World) (mb : Nat) (L : Lay) (don D : Nat → Prop) : Prop where
  cs : ∃ cs, Blk w mb cs 132 ∧ cs.size = 464 ∧ ∀ o, o < 464 → don o → cs[o]? = some (mcell L firstS (fun _ => 1024) o)
  tr : ∀ i, D i → 3 ≤ i ∧ Blk w (L.φ i) (rowP (fun _ => 1024) (tsz i)) T16 ∧ w0.heap.size ≤ L.φ i ∧ L.φ i ≠ mb ∧ L.φ i ≠ L.wb
  inj : ∀ i j, D i → D j → L.φ i = L.φ j → i = j
  win : Win w L.wb L.most [] none 0
  mbw : mb ≠ L.wb ∧ w0.heap.size ≤ mb ∧ w0.heap.size ≤ L.wb
  same : Same w0 w

theorem winF_none {p b : Nat} (h : winF p none b) : b = p := h.resolve_right (by simp)

theorem Mk.lt {w0 w : World} {mb : Nat} {L : Lay} {don D : Nat → Prop} (h : Mk w0 w mb L don D) : mb < w.heap.size ∧ L.wb < w.heap.size ∧ ∀ i, D i → L.φ i < w.heap.size := by
  obtain ⟨cs, hb, _⟩ := h.cs
  exact ⟨hb.lt, h.win.blk.lt, fun i hi => (h.tr i hi).2.1.lt⟩

theorem Mk.mono {w0 w : World} {mb : Nat} {L : Lay} {don don' D : Nat → Prop} (h : Mk w0 w mb L don D) (hd : ∀ o, don' o → don o) : Mk w0 w mb L don' D := by
  obtain ⟨cs, hb, hz, hc⟩ := h.cs
  exact ⟨⟨cs, hb, hz, fun o ho hd' => hc o ho (hd o hd')⟩, h.tr, h.inj, h.win, h.mbw, h.same⟩

/-- A step that turns none of it but the model's own block. -/
theorem Mk.turn {w0 w w' : World} {mb : Nat} {L : Lay} {don don' D : Nat → Prop} {S : Nat → Prop} (h : Mk w0 w mb L don D) (hK : Keeps S w w') (hS : ∀ b, S b → w0.heap.size ≤ b) (hS2 : ∀ i, D i → L.φ i = mb ∨ ¬ S (L.φ i)) (hS3 : ¬ S L.wb)
    (hc : ∃ cs, Blk w' mb cs 132 ∧ cs.size = 464 ∧ ∀ o, o < 464 → don' o → cs[o]? = some (mcell L firstS (fun _ => 1024) o)) : Mk w0 w' mb L don' D := by
  refine ⟨hc, fun i hi => ?_, h.inj, h.win.keeps hK fun b hb e => hS3 (winF_none hb ▸ e), h.mbw, h.same.trans' hK fun b hb e => by have := hS b e; omega⟩
  obtain ⟨h3, h1, h2, h4, h5⟩ := h.tr i hi
  exact ⟨h3, h1.keeps hK ((hS2 i hi).resolve_left h4), h2, h4, h5⟩

theorem Mk.keeps {w0 w w' : World} {mb : Nat} {L : Lay} {don D : Nat → Prop} {S : Nat → Prop} (h : Mk w0 w mb L don D) (hK : Keeps S w w') (hS : ∀ b, S b → w0.heap.size ≤ b) (hS1 : ¬ S mb) (hS2 : ∀ i, D i → ¬ S (L.φ i)) (hS3 : ¬ S L.wb) : Mk w0 w' mb L don D := by
  obtain ⟨cs, hb, hz, hc⟩ := h.cs
  exact h.turn hK hS (fun i hi => .inr (hS2 i hi)) hS3 ⟨cs, hb.keeps hK hS1, hz, hc⟩

theorem Mk.kept {w0 w w' : World} {mb : Nat} {L : Lay} {don D : Nat → Prop} (h : Mk w0 w mb L don D) (hK : Same w w') : Mk w0 w' mb L don D :=
  h.keeps hK (fun _ h => h.elim) (fun h => h) (fun _ _ h => h) (fun h => h)

/-- Probabilities that begin. -/
theorem Mk.fill {w0 w w' : World} {mb : Nat} {L : Lay} {don D : Nat → Prop} (h : Mk w0 w mb L don D) {cs : Array Value} (hz : cs.size = 464) (hc : ∀ o, o < 464 → don o → cs[o]? = some (mcell L firstS (fun _ => 1024) o)) {o n : Nat}
    (hB : Blk w' mb (fillN cs o n) 132) (hK : Keeps (fun b => b = mb) w w') (h1 : 10 ≤ o) (h2 : o + n ≤ 442) : Mk w0 w' mb L (fun k => don k ∨ o ≤ k ∧ k < o + n) D := by
  refine h.turn hK (fun b e => by have := h.mbw.2.1; omega) (fun i hi => .inr (h.tr i hi).2.2.2.1) (fun e => h.mbw.1 e.symm) ⟨_, hB, by rw [fillN_size, hz], fun k hk hd => ?_⟩
  rw [fillN_get]
  by_cases e : o ≤ k ∧ k < o + n ∧ k < cs.size
  · rw [if_pos e]
    unfold mcell
    rw [if_pos (by omega)]
  · rw [if_neg e]
    exact hc k hk (hd.resolve_right (by omega))

set_option maxRecDepth 100000 in
theorem mcell_at (L : Lay) (S : MSt) (f : Nat → Nat) (i g o : Nat) (h3 : 3 ≤ i) (ho : o ≠ i + 440) (hl : o < 464) : mcell (L.at i g) S f o = mcell L S f o := by
  have ht : ∀ j, j ≠ i → (L.at i g).tree j = L.tree j := fun j hj => by
    unfold Lay.tree Lay.at
    dsimp only
    rw [if_neg hj]
  unfold mcell
  refine ite_congr rfl (fun _ => rfl) fun _ => ?_
  refine ite_congr rfl (fun _ => rfl) fun _ => ?_
  refine ite_congr rfl (fun _ => rfl) fun _ => ?_
  refine ite_congr rfl (fun _ => rfl) fun _ => ?_
  refine ite_congr rfl (fun _ => rfl) fun _ => ?_
  refine ite_congr rfl (fun _ => rfl) fun _ => ?_
  refine ite_congr rfl (fun _ => rfl) fun _ => ?_
  refine ite_congr rfl (fun _ => rfl) fun _ => ?_
  refine ite_congr rfl (fun _ => rfl) fun _ => ?_
  refine ite_congr rfl (fun _ => rfl) fun _ => ?_
  refine ite_congr rfl (fun _ => rfl) fun _ => ?_
  refine ite_congr rfl (fun _ => rfl) fun _ => ?_
  refine ite_congr rfl (fun _ => ht _ (by omega)) fun _ => ?_
  refine ite_congr rfl (fun _ => rfl) fun _ => ?_
  refine ite_congr rfl (fun _ => ht _ (by omega)) fun _ => ?_
  refine ite_congr rfl (fun _ => ht 21 (by omega)) fun _ => ?_
  show Value.pointer (some ⟨(if o - 461 = i then g else L.φ (o - 461)), 0, none⟩) = _
  rw [if_neg (by omega)]

theorem mcell_tree (L : Lay) (S : MSt) (f : Nat → Nat) (i : Nat) (h : 3 ≤ i ∧ i < 7 ∨ 11 ≤ i ∧ i < 22) : mcell L S f (i + 440) = L.tree i := by
  have e : i + 440 - 440 = i := by omega
  unfold mcell
  rw [if_neg (by omega), if_neg (by omega), if_neg (by omega), if_neg (by omega), if_neg (by omega), if_neg (by omega), if_neg (by omega), if_neg (by omega), if_neg (by omega), if_neg (by omega), if_neg (by omega), if_neg (by omega)]
  by_cases h1 : i + 440 < 447
  · rw [if_pos h1, e]
  · rw [if_neg h1, if_neg (by omega)]
    by_cases h2 : i + 440 < 461
    · rw [if_pos h2, e]
    · rw [if_neg h2, if_pos (by omega)]
      have : i = 21 := by omega
      rw [this]

/-- One tree more, made since. -/
theorem Mk.grow {w0 w w' : World} {mb : Nat} {L : Lay} {don D : Nat → Prop} (h : Mk w0 w mb L don D) (hs : Same w w') {i g : Nat} (hB : Blk w' g (rowP (fun _ => 1024) (tsz i)) T16) (hge : w.heap.size ≤ g) (h3 : 3 ≤ i) (hD : ¬ D i) (hd : ¬ don (i + 440)) :
    Mk w0 w' mb (L.at i g) don (fun j => D j ∨ j = i) := by
  have hk := h.kept hs
  obtain ⟨l1, l2, l3⟩ := h.lt
  have hz := h.same.size
  obtain ⟨cs, hb, hz2, hc⟩ := hk.cs
  refine ⟨⟨cs, hb, hz2, fun o ho hdo => ?_⟩, fun j hj => ?_, fun j k hj hk' e => ?_, hk.win, hk.mbw, hk.same⟩
  · rw [mcell_at L _ _ i g o h3 (fun e => hd (e ▸ hdo)) ho]
    exact hc o ho hdo
  · by_cases e : j = i
    · subst e
      show 3 ≤ j ∧ Blk w' (if j = j then g else _) _ _ ∧ _
      unfold Lay.at
      dsimp only
      rw [if_pos rfl]
      exact ⟨h3, hB, by omega, by omega, by omega⟩
    · have := hk.tr j (hj.resolve_right e)
      unfold Lay.at
      dsimp only
      rw [if_neg e]
      exact this
  · unfold Lay.at at e
    dsimp only at e
    by_cases e1 : j = i
    · by_cases e2 : k = i
      · omega
      · rw [if_pos e1, if_neg e2] at e
        have := l3 k (hk'.resolve_right e2); omega
    · by_cases e2 : k = i
      · rw [if_neg e1, if_pos e2] at e
        have := l3 j (hj.resolve_right e1); omega
      · rw [if_neg e1, if_neg e2] at e
        exact h.inj j k (hj.resolve_right e1) (hk'.resolve_right e2) e

/-- A store into a cell that is not done yet, or is done by it. -/
theorem Mk.store {w0 w : World} {mb : Nat} {L : Lay} {don don' D : Nat → Prop} (h : Mk w0 w mb L don D) (o : Nat) (v : Value) (hd : ∀ k, k < 464 → don' k → k ≠ o → don k) (hv : don' o → v = mcell L firstS (fun _ => 1024) o) :
    Mk w0 (w.setCell ⟨mb, o, none⟩ v) mb L don' D := by
  obtain ⟨cs, hb, hz, hc⟩ := h.cs
  have hK : Keeps (fun b => b = mb) w (w.setCell ⟨mb, o, none⟩ v) := Keeps.setCell (p := ⟨mb, o, none⟩) (Keeps.refl (fun b => b = mb) _) (fun _ => rfl) _
  refine h.turn hK (fun b e => by have := h.mbw.2.1; omega) (fun i hi => .inr (h.tr i hi).2.2.2.1) (fun e => h.mbw.1 e.symm) ⟨cs.setIfInBounds o v, hb.set o v, by simpa using hz, fun k hk hdk => ?_⟩
  rw [Array.getElem?_setIfInBounds]
  by_cases e : o = k
  · subst e
    rw [if_pos rfl, if_pos (by omega), hv hdk]
  · rw [if_neg e]
    exact hc k hk (hd k hk hdk (fun h => e h.symm))

/-- A tree of a field. -/
theorem Mk.tree {w0 w w' : World} {mb : Nat} {L : Lay} {don D : Nat → Prop} (h : Mk w0 w mb L don D) (hs : Same w w') {i g n : Nat} (hB : Blk w' g (rowP (fun _ => 1024) n) T16) (hn : n = tsz i) (hge : w.heap.size ≤ g) (hi : 3 ≤ i ∧ i < 7 ∨ 11 ≤ i ∧ i < 22) (hD : ¬ D i) (hd : ¬ don (i + 440)) {o : Nat} (ho : o = i + 440) :
    Mk w0 (w'.setCell ⟨mb, o, none⟩ (.slice (some ⟨g, 0, none⟩) n n)) mb (L.at i g) (fun k => don k ∨ k = i + 440) (fun j => D j ∨ j = i) := by
  subst hn ho
  refine (h.grow hs hB hge (by omega) hD hd).store (i + 440) _ (fun k _ hk e => hk.resolve_right e) fun _ => ?_
  rw [mcell_tree _ _ _ _ hi]
  unfold Lay.tree Lay.at
  dsimp only
  rw [if_pos rfl]

theorem tsz_lit88 (a : Nat) : tsz (88 + a) = 1024 := by unfold tsz; rw [if_neg (by omega), if_neg (by omega), if_neg (by omega), if_neg (by omega), if_neg (by omega)]
end Go.Proofs.YtalopgbkjgjppaaGreatDoor

/- A model that is being made: its literals; when all of it is there. -/
namespace Go.Proofs.YtalopgbkjgjppaaGreatDoor
open Go.RowKit Go.Cas Go.Cas.Enc

/-- The trees of literals so far. -/
structure Lits (w0 w : World) (mb : Nat) (L : Lay) (D : Nat → Prop) (q : Option Addr) (c a : Nat) : Prop where
  cell : w.cell? ⟨mb, 442, none⟩ = some (.slice q a c)
  own : Sl 118 1 w q c a ((List.range a).map fun j => L.tree (88 + j))
  new : ∀ b, sblk q b → w0.heap.size ≤ b ∧ b ≠ mb ∧ b ≠ L.wb ∧ ∀ i, D i → L.φ i ≠ b

theorem Lits.kept {w0 w w' : World} {mb : Nat} {L : Lay} {D : Nat → Prop} {q : Option Addr} {c a : Nat} (h : Lits w0 w mb L D q c a) (hK : Same w w') (hm : mb < w.heap.size) : Lits w0 w' mb L D q c a :=
  ⟨(hK.cell (p := ⟨mb, 442, none⟩) hm (fun h => h)).trans h.cell, h.own.same hK, h.new⟩

theorem Lits.push {w0 w w1 W w6 : World} {mb g a c c2 : Nat} {L : Lay} {don D : Nat → Prop} {q q2 : Option Addr} (hM : Mk w0 w mb L don D) (hL : Lits w0 w mb L D q c a) (hs : Same w w1) (hB : Blk w1 g (rowP (fun _ => 1024) 1024) T16) (hge : w.heap.size ≤ g)
    (hW : Same w1 W) (hown : w6.ownsRow 0 118 1 (.slice q2 (a + 1) c2) (a + 1) (((List.range a).map fun j => L.tree (88 + j)) ++ [.slice (some ⟨g, 0, none⟩) 1024 1024])) (hk : Keeps (sblk q) W w6) (hat : ∀ k, sblk q2 k → sblk q k ∨ k = W.heap.size)
    (hD : ¬ D (88 + a)) (hd : ¬ don 442) (hd2 : ∀ o, don o → o < 464) :
    Mk w0 (w6.setCell ⟨mb, 442, none⟩ (.slice q2 (a + 1) c2)) mb (L.at (88 + a) g) don (fun j => D j ∨ j = 88 + a) ∧
    Lits w0 (w6.setCell ⟨mb, 442, none⟩ (.slice q2 (a + 1) c2)) mb (L.at (88 + a) g) (fun j => D j ∨ j = 88 + a) q2 c2 (a + 1) := by
  have ht : tsz (88 + a) = 1024 := tsz_lit88 a
  have h1 := hM.grow hs (i := 88 + a) (g := g) (by rw [ht]; exact hB) hge (by omega) hD (fun e => by have := hd2 _ e; omega)
  have hWK : Keeps (sblk q) w1 w6 := (Keeps.of_same hW).trans hk
  obtain ⟨l1, l2, l3⟩ := hM.lt
  have hz1 := hs.size
  have hzW := hW.size
  have hz0 := hM.same.size
  have hgl := hB.lt
  have hφg : (L.at (88 + a) g).φ (88 + a) = g := if_pos rfl
  have hφo : ∀ i, i ≠ 88 + a → (L.at (88 + a) g).φ i = L.φ i := fun i hi => if_neg hi
  have h6 : Mk w0 w6 mb (L.at (88 + a) g) don (fun j => D j ∨ j = 88 + a) := by
    refine h1.keeps hWK (fun b hb => (hL.new b hb).1) (fun hb => (hL.new mb hb).2.1 rfl) (fun i hi hb => ?_) (fun hb => (hL.new _ hb).2.2.1 rfl)
    by_cases e : i = 88 + a
    · rw [e, hφg] at hb
      have := hL.own.lt g hb; omega
    · rw [hφo i e] at hb
      exact (hL.new _ hb).2.2.2 i (hi.resolve_right e) rfl
  refine ⟨h6.store 442 _ (fun k _ hk _ => hk) (fun e => absurd e hd), ?_, ?_, fun b hb => ?_⟩
  · obtain ⟨cs, hb, hz, _⟩ := h6.cs
    rw [(hb.set 442 _).cell 442, Array.getElem?_setIfInBounds, if_pos rfl, if_pos (by omega)]
  · have e : ((List.range (a + 1)).map fun j => (L.at (88 + a) g).tree (88 + j)) = ((List.range a).map fun j => L.tree (88 + j)) ++ [.slice (some ⟨g, 0, none⟩) 1024 1024] := by
      rw [List.range_succ, List.map_append]
      congr 1
      · apply List.map_congr_left
        intro j hj
        have hj2 : j < a := List.mem_range.1 hj
        show Value.slice (some ⟨(L.at (88 + a) g).φ (88 + j), 0, none⟩) _ _ = _
        rw [hφo _ (by omega)]
        rfl
      · show [Value.slice (some ⟨(L.at (88 + a) g).φ (88 + a), 0, none⟩) _ _] = _
        rw [hφg, ht]
    rw [e]
    have hK : Keeps (fun b => b = mb) w6 (w6.setCell ⟨mb, 442, none⟩ (.slice q2 (a + 1) c2)) := Keeps.setCell (p := ⟨mb, 442, none⟩) (Keeps.refl (fun b => b = mb) _) (fun _ => rfl) _
    refine (⟨hown⟩ : Sl 118 1 w6 q2 c2 (a + 1) _).keeps hK fun b hb e => ?_
    subst e
    rcases hat b hb with hb | hb
    · exact (hL.new b hb).2.1 rfl
    · omega
  · rcases hat b hb with hb | hb
    · obtain ⟨n1, n2, n3, n4⟩ := hL.new b hb
      refine ⟨n1, n2, n3, fun i hi e => ?_⟩
      by_cases e2 : i = 88 + a
      · rw [e2, hφg] at e
        have := hL.own.lt b hb; omega
      · rw [hφo i e2] at e
        exact n4 i (hi.resolve_right e2) e
    · refine ⟨by omega, by omega, ?_, fun i hi e => ?_⟩
      · show b ≠ L.wb
        omega
      · by_cases e2 : i = 88 + a
        · rw [e2, hφg] at e; omega
        · rw [hφo i e2] at e
          have := l3 i (hi.resolve_right e2); omega

theorem Lits.fill {w0 w w' : World} {mb : Nat} {L : Lay} {D : Nat → Prop} {q : Option Addr} {c a : Nat} (h : Lits w0 w mb L D q c a) {cs : Array Value} {o n : Nat} {t t' : TypeId} (hB0 : Blk w mb cs t) (hB : Blk w' mb (fillN cs o n) t') (hK : Keeps (fun b => b = mb) w w') (ho : o + n ≤ 442) : Lits w0 w' mb L D q c a := by
  refine ⟨?_, h.own.keeps hK fun b hb e => (h.new b hb).2.1 e, h.new⟩
  have hc := h.cell
  rw [hB0.cell] at hc
  rw [hB.cell, fillN_get, if_neg (by omega)]
  exact hc

/-- Setting another cell of the model. -/
theorem Lits.store {w0 w w' : World} {mb : Nat} {L L' : Lay} {D D' : Nat → Prop} {q : Option Addr} {c a : Nat} (h : Lits w0 w mb L D q c a) (hs : Same w w') (hm : mb < w.heap.size) (o : Nat) (v : Value) (ho : o ≠ 442) (h1 : L'.wb = L.wb) (h2 : ∀ j, j < a → L'.φ (88 + j) = L.φ (88 + j))
    (h3 : ∀ i, D' i → D i ∨ w.heap.size ≤ L'.φ i) (h4 : ∀ i, D i → L'.φ i = L.φ i) : Lits w0 (w'.setCell ⟨mb, o, none⟩ v) mb L' D' q c a := by
  have hK : Keeps (fun b => b = mb) w' (w'.setCell ⟨mb, o, none⟩ v) := Keeps.setCell (p := ⟨mb, o, none⟩) (Keeps.refl (fun b => b = mb) _) (fun _ => rfl) _
  have hk := h.kept hs hm
  have e : ((List.range a).map fun j => L'.tree (88 + j)) = ((List.range a).map fun j => L.tree (88 + j)) := by
    apply List.map_congr_left
    intro j hj
    have hj2 : j < a := List.mem_range.1 hj
    show Value.slice (some ⟨L'.φ (88 + j), 0, none⟩) _ _ = _
    rw [h2 j hj2]
    rfl
  refine ⟨?_, ?_, fun b hb => ?_⟩
  · refine (World.cell?_setCell_other (a := ⟨mb, o, none⟩) (b := ⟨mb, 442, none⟩) _ _ (fun e => ?_)).trans hk.cell
    injection e with _ e
    exact ho e
  · rw [e]
    exact hk.own.keeps hK fun b hb e => (h.new b hb).2.1 e
  · obtain ⟨n1, n2, n3, n4⟩ := h.new b hb
    refine ⟨n1, n2, by rw [h1]; exact n3, fun i hi e => ?_⟩
    rcases h3 i hi with hd | hd
    · rw [h4 i hd] at e
      exact n4 i hd e
    · have := h.own.lt b hb; omega
/-- The same params, the same window. -/
def Par (L L1 : Lay) : Prop := L.wb = L1.wb ∧ L.lc = L1.lc ∧ L.lp = L1.lp ∧ L.pb = L1.pb ∧ L.most = L1.most

/-- A model and its literals so far. -/
def MkL (w0 w : World) (mb : Nat) (L1 : Lay) (don D : Nat → Prop) (a : Nat) : Prop := ∃ L q c, Par L L1 ∧ Mk w0 w mb L don D ∧ Lits w0 w mb L D q c a

theorem Mk.dcongr {w0 w : World} {mb : Nat} {L : Lay} {don don' D D' : Nat → Prop} (h : Mk w0 w mb L don D) (hd : ∀ o, don' o → don o) (hD : ∀ i, D' i → D i) : Mk w0 w mb L don' D' :=
  ⟨(h.mono hd).cs, fun i hi => h.tr i (hD i hi), fun i j hi hj => h.inj i j (hD i hi) (hD j hj), h.win, h.mbw, h.same⟩
theorem Lits.dcongr {w0 w : World} {mb : Nat} {L : Lay} {D D' : Nat → Prop} {q : Option Addr} {c a : Nat} (h : Lits w0 w mb L D q c a) (hD : ∀ i, D' i → D i) : Lits w0 w mb L D' q c a :=
  ⟨h.cell, h.own, fun b hb => ⟨(h.new b hb).1, (h.new b hb).2.1, (h.new b hb).2.2.1, fun i hi => (h.new b hb).2.2.2 i (hD i hi)⟩⟩
theorem MkL.dcongr {w0 w : World} {mb a : Nat} {L1 : Lay} {don don' D D' : Nat → Prop} (h : MkL w0 w mb L1 don D a) (hd : ∀ o, don' o → don o) (hD : ∀ i, D' i → D i) : MkL w0 w mb L1 don' D' a := by
  obtain ⟨L, q, c, hp, hM, hL⟩ := h
  exact ⟨L, q, c, hp, hM.dcongr hd hD, hL.dcongr hD⟩

theorem MkL.cs {w0 w : World} {mb a : Nat} {L1 : Lay} {don D : Nat → Prop} (h : MkL w0 w mb L1 don D a) : ∃ cs, Blk w mb cs 132 ∧ cs.size = 464 := by
  obtain ⟨L, q, c, hp, hM, hL⟩ := h
  obtain ⟨cs, h1, h2, _⟩ := hM.cs
  exact ⟨cs, h1, h2⟩
theorem MkL.same {w0 w : World} {mb a : Nat} {L1 : Lay} {don D : Nat → Prop} (h : MkL w0 w mb L1 don D a) : Same w0 w := by
  obtain ⟨L, q, c, hp, hM, hL⟩ := h
  exact hM.same

/-- Probabilities that begin. -/
theorem MkL.fill {w0 w w' : World} {mb a : Nat} {L1 : Lay} {don D : Nat → Prop} (h : MkL w0 w mb L1 don D a) {cs : Array Value} (hB0 : Blk w mb cs 132) {o n : Nat} (hB : Blk w' mb (fillN cs o n) 132) (hK : Keeps (fun b => b = mb) w w') (h1 : 10 ≤ o) (h2 : o + n ≤ 442) :
    MkL w0 w' mb L1 (fun k => don k ∨ o ≤ k ∧ k < o + n) D a := by
  obtain ⟨L, q, c, hp, hM, hL⟩ := h
  obtain ⟨cs', g1, g2, g3⟩ := hM.cs
  have e : cs' = cs := by
    unfold Blk at g1 hB0
    rw [g1] at hB0
    injection hB0 with e
    injection e
  subst e
  exact ⟨L, q, c, hp, hM.fill g2 g3 hB hK h1 h2, hL.fill g1 hB hK h2⟩

/-- A literal's tree more. -/
theorem MkL.push {w0 w w1 W w6 : World} {mb g a c c2 : Nat} {L L1 : Lay} {don D : Nat → Prop} {q q2 : Option Addr} (hp : Par L L1) (hM : Mk w0 w mb L don D) (hL : Lits w0 w mb L D q c a) (hs : Same w w1) (hB : Blk w1 g (rowP (fun _ => 1024) 1024) T16) (hge : w.heap.size ≤ g)
    (hW : Same w1 W) (hown : w6.ownsRow 0 118 1 (.slice q2 (a + 1) c2) (a + 1) (((List.range a).map fun j => L.tree (88 + j)) ++ [.slice (some ⟨g, 0, none⟩) 1024 1024])) (hk : Keeps (sblk q) W w6) (hat : ∀ k, sblk q2 k → sblk q k ∨ k = W.heap.size)
    (hD : ¬ D (88 + a)) (hd : ¬ don 442) (hd2 : ∀ o, don o → o < 464) :
    w6.cell? ⟨mb, 442, none⟩ = some (.slice q a c) ∧ w6.frozen? ⟨mb, 442, none⟩ = false ∧
    Hid (MkL w0 (w6.setCell ⟨mb, 442, none⟩ (.slice q2 (a + 1) c2)) mb L1 don (fun j => D j ∨ j = 88 + a) (a + 1)) := by
  obtain ⟨k1, k2⟩ := hL.push hM hs hB hge hW hown hk hat hD hd hd2
  obtain ⟨cs, hb, hz, _⟩ := hM.cs
  have hb6 := ((hb.keeps hs (fun h => h)).keeps hW (fun h => h)).keeps hk (fun e => (hL.new mb e).2.1 rfl)
  refine ⟨?_, hb6.frozen 442, hid ⟨L.at (88 + a) g, _, _, hp, k1, k2⟩⟩
  have := hL.cell
  rw [hb.cell] at this
  rw [hb6.cell]
  exact this

/-- A field's tree more. -/
theorem MkL.tree {w0 w w' : World} {mb a : Nat} {L1 : Lay} {don D : Nat → Prop} (h : MkL w0 w mb L1 don D a) (hs : Same w w') {i g n o : Nat} (hB : Blk w' g (rowP (fun _ => 1024) n) T16) (hn : n = tsz i) (hge : w.heap.size ≤ g) (hi : 3 ≤ i ∧ i < 7 ∨ 11 ≤ i ∧ i < 22) (hD : ¬ D i) (hd : ¬ don (i + 440)) (ho : o = i + 440) :
    MkL w0 (w'.setCell ⟨mb, o, none⟩ (.slice (some ⟨g, 0, none⟩) n n)) mb L1 (fun k => don k ∨ k = i + 440) (fun j => D j ∨ j = i) a := by
  obtain ⟨L, q, c, hp, hM, hL⟩ := h
  refine ⟨L.at i g, q, c, hp, hM.tree hs hB hn hge hi hD hd ho, ?_⟩
  refine hL.store hs hM.lt.1 o _ (by omega) rfl (fun j _ => ?_) (fun j hj => ?_) fun j hj => ?_
  · exact if_neg (by omega)
  · by_cases e : j = i
    · right
      rw [e]
      show w.heap.size ≤ if i = i then g else _
      rw [if_pos rfl]
      exact hge
    · exact .inl (hj.resolve_right e)
  · exact if_neg (fun e => by subst e; exact hD hj)

end Go.Proofs.YtalopgbkjgjppaaGreatDoor

/- A model that is made: all of it is there. -/
namespace Go.Proofs.YtalopgbkjgjppaaGreatDoor
open Go.RowKit Go.Cas Go.Cas.Enc

theorem lenC_lcell (L : Lay) (t gf : Nat) (ψ : Nat → Nat) (ht : t < 2) (k1 : ∀ j, j < 32 → L.φ (22 + t * 32 + j) = ψ j) (k2 : L.φ (86 + t) = gf) : rowV (lenC (.slice (some ⟨gf, 0, none⟩) 256 256) ψ 1024 32) 35 = rowV (lcell L t (fun _ => 1024)) 35 := by
  apply Array.ext_getElem?
  intro o
  by_cases ho : o < 35
  · rw [rowV_get _ ho, rowV_get _ ho]
    unfold lcell lenC
    by_cases c1 : o < 2
    · rw [if_pos c1, if_pos c1]
    · rw [if_neg c1, if_neg c1]
      by_cases c2 : o < 34
      · rw [if_pos c2, if_neg (by omega), if_pos (by omega)]
        have e1 : tsz (22 + t * 32 + (o - 2)) = 8 := by unfold tsz; rw [if_neg (by omega), if_neg (by omega), if_neg (by omega), if_pos (by omega)]
        unfold Lay.tree
        rw [e1, k1 (o - 2) (by omega)]
      · rw [if_pos (show o = 34 by omega), if_neg c2]
        have e1 : tsz (86 + t) = 256 := by unfold tsz; rw [if_neg (by omega), if_neg (by omega), if_neg (by omega), if_neg (by omega), if_pos (by omega)]
        unfold Lay.tree
        rw [e1, k2]
  · have e1 : ∀ f, (rowV f 35)[o]? = none := fun f => by simp [rowV]; omega
    rw [e1, e1]

theorem okS_one (L : Lay) (i : Nat) : okRow (firstP i) i := by
  unfold okRow firstP
  split
  · intro _ _ _; exact (by decide : 31 ≤ 1024 ∧ 1024 ≤ 2017)
  · split
    · intro _ _; exact (by decide : 31 ≤ 1024 ∧ 1024 ≤ 2017)
    · intro _ _; exact (by decide : 31 ≤ 1024 ∧ 1024 ≤ 2017)

/-- The places of all blocks. -/
def allφ (L : Lay) (mb g1 g2 gf1 gf2 : Nat) (ψ1 ψ2 : Nat → Nat) (i : Nat) : Nat :=
  if i = 0 then mb else if i = 1 then g1 else if i = 2 then g2 else if i < 22 then L.φ i else if i < 54 then ψ1 (i - 22) else if i < 86 then ψ2 (i - 54) else if i = 86 then gf1 else if i = 87 then gf2 else L.φ i

set_option maxRecDepth 100000 in
theorem mcell_all (L : Lay) (S : MSt) (f φ : Nat → Nat) (lb c o : Nat) (hφ : ∀ i, 3 ≤ i → i < 22 → φ i = L.φ i) (ho : o ≠ 442) (hl : o < 462) : mcell { L with φ := φ, lb := lb, lcap := c } S f o = mcell L S f o := by
  have ht : ∀ j, 3 ≤ j → j < 22 → ({ L with φ := φ, lb := lb, lcap := c } : Lay).tree j = L.tree j := fun j h3 hj => by
    unfold Lay.tree
    dsimp only
    rw [hφ j h3 hj]
  unfold mcell
  refine ite_congr rfl (fun _ => rfl) fun _ => ?_
  refine ite_congr rfl (fun _ => rfl) fun _ => ?_
  refine ite_congr rfl (fun _ => rfl) fun _ => ?_
  refine ite_congr rfl (fun _ => rfl) fun _ => ?_
  refine ite_congr rfl (fun _ => rfl) fun _ => ?_
  refine ite_congr rfl (fun _ => rfl) fun _ => ?_
  refine ite_congr rfl (fun _ => rfl) fun _ => ?_
  refine ite_congr rfl (fun _ => rfl) fun _ => ?_
  refine ite_congr rfl (fun _ => rfl) fun _ => ?_
  refine ite_congr rfl (fun _ => rfl) fun _ => ?_
  refine ite_congr rfl (fun _ => rfl) fun _ => ?_
  rw [if_neg ho, if_neg ho]
  refine ite_congr rfl (fun _ => ht _ (by omega) (by omega)) fun _ => ?_
  refine ite_congr rfl (fun _ => rfl) fun _ => ?_
  refine ite_congr rfl (fun _ => ht _ (by omega) (by omega)) fun _ => ?_
  rw [if_pos (by omega), if_pos (by omega)]
  exact ht 21 (by decide) (by decide)

set_option maxHeartbeats 4000000 in
theorem Mk.made {w0 w w1 w2 : World} {mb g1 g2 c : Nat} {L : Lay} {don D : Nat → Prop} {q : Option Addr} (h : Mk w0 w mb L don D) (hL : Lits w0 w mb L D q c L.cnt) (hl1 : LenMade w w1 g1) (hl2 : LenMade w1 w2 g2) (hb : Behind w0)
    (hdon : ∀ o, o < 462 → o ≠ 442 → don o) (hD : ∀ i, 3 ≤ i → i < 22 → ¬ (7 ≤ i ∧ i < 11) → D i) (hD2 : ∀ a, a < L.cnt → D (88 + a)) (hp : L.lc + L.lp ≤ 4) (hpb : L.pb ≤ 4) {w3 : World}
    (h3 : w3 = (w2.setCell ⟨mb, 462, none⟩ (.pointer (some ⟨g1, 0, none⟩))).setCell ⟨mb, 463, none⟩ (.pointer (some ⟨g2, 0, none⟩))) :
    ∃ L' : Lay, L'.φ 0 = mb ∧ L'.lc = L.lc ∧ L'.lp = L.lp ∧ L'.pb = L.pb ∧ L'.most = L.most ∧ MM w3 L' firstS firstP none 0 ∧ (∀ b, MF L' none b → w0.heap.size ≤ b) ∧ Same w0 w3 := by
  have hcnt : 0 < L.cnt := Nat.pow_pos (by decide)
  obtain ⟨lb, hq⟩ := hL.own.ex hcnt
  subst hq
  obtain ⟨n1, n2, n3, n4⟩ := hL.new lb rfl
  have hlbl := hL.own.lt lb rfl
  obtain ⟨l1, l2, l3⟩ := h.lt
  have hz0 := h.same.size
  have hb0 := hb.1
  obtain ⟨gf1, ψ1, A1, A2, A3, a4, a5, a6, a7, hs1⟩ := hl1
  obtain ⟨gf2, ψ2, B1, B2, B3, b4, b5, b6, b7, hs2⟩ := hl2
  have hsz1 := hs1.size
  have hsz2 := hs2.size
  have hg1 := A1.lt
  have hg2 := B1.lt
  have hK : Keeps (fun b => b = mb) w2 w3 := by
    rw [h3]
    exact Keeps.setCell (p := ⟨mb, 463, none⟩) (Keeps.setCell (p := ⟨mb, 462, none⟩) (Keeps.refl (fun b => b = mb) _) (fun _ => rfl) _) (fun _ => rfl) _
  have hW2 : Mk w0 w2 mb L don D := (h.kept hs1).kept hs2
  have hS3 : Same w0 w3 := hW2.same.trans' hK fun b hb e => by have := h.mbw.2.1; omega
  obtain ⟨L', hL'⟩ : ∃ L' : Lay, { L with φ := allφ L mb g1 g2 gf1 gf2 ψ1 ψ2, lb := lb, lcap := c } = L' := ⟨_, rfl⟩
  have hφ : ∀ i, L'.φ i = allφ L mb g1 g2 gf1 gf2 ψ1 ψ2 i := fun i => by rw [← hL']
  have hlb' : L'.lb = lb := by rw [← hL']
  have hcnt' : L'.cnt = L.cnt := by rw [← hL']; rfl
  have hwb' : L'.wb = L.wb := by rw [← hL']
  have tag : ∀ i, L'.used i → (i = 0 ∧ L'.φ i = mb) ∨ (i = 1 ∧ L'.φ i = g1) ∨ (i = 2 ∧ L'.φ i = g2) ∨ (D i ∧ 3 ≤ i ∧ L'.φ i = L.φ i ∧ L.φ i < w.heap.size ∧ L.φ i ≠ mb ∧ w0.heap.size ≤ L.φ i ∧ L.φ i ≠ L.wb ∧ L.φ i ≠ lb ∧ (i < 22 ∨ 88 ≤ i)) ∨
      (22 ≤ i ∧ i < 54 ∧ L'.φ i = ψ1 (i - 22) ∧ g1 < ψ1 (i - 22) ∧ ψ1 (i - 22) < w1.heap.size) ∨ (54 ≤ i ∧ i < 86 ∧ L'.φ i = ψ2 (i - 54) ∧ g2 < ψ2 (i - 54) ∧ ψ2 (i - 54) < w2.heap.size) ∨ (i = 86 ∧ L'.φ i = gf1) ∨ (i = 87 ∧ L'.φ i = gf2) := by
    intro i hu
    have hu1 : i < 88 + L.cnt := by have := hu.1; omega
    have hu2 := hu.2
    rw [hφ]
    unfold allφ
    by_cases e0 : i = 0
    · rw [if_pos e0]; exact .inl ⟨e0, rfl⟩
    rw [if_neg e0]
    by_cases e1 : i = 1
    · rw [if_pos e1]; exact .inr (.inl ⟨e1, rfl⟩)
    rw [if_neg e1]
    by_cases e2 : i = 2
    · rw [if_pos e2]; exact .inr (.inr (.inl ⟨e2, rfl⟩))
    rw [if_neg e2]
    have key : D i → (i < 22 ∨ 88 ≤ i) → (D i ∧ 3 ≤ i ∧ L.φ i = L.φ i ∧ L.φ i < w.heap.size ∧ L.φ i ≠ mb ∧ w0.heap.size ≤ L.φ i ∧ L.φ i ≠ L.wb ∧ L.φ i ≠ lb ∧ (i < 22 ∨ 88 ≤ i)) := fun hd hr => by
      obtain ⟨t1, t2, t3, t4, t5⟩ := h.tr i hd
      exact ⟨hd, t1, rfl, l3 i hd, t4, t3, t5, n4 i hd, hr⟩
    by_cases e3 : i < 22
    · rw [if_pos e3]; exact .inr (.inr (.inr (.inl (key (hD i (by omega) e3 hu2) (.inl e3)))))
    rw [if_neg e3]
    by_cases e4 : i < 54
    · rw [if_pos e4]; exact .inr (.inr (.inr (.inr (.inl ⟨by omega, e4, rfl, a6 _ (by omega), (A3 _ (by omega)).lt⟩))))
    rw [if_neg e4]
    by_cases e5 : i < 86
    · rw [if_pos e5]; exact .inr (.inr (.inr (.inr (.inr (.inl ⟨by omega, e5, rfl, b6 _ (by omega), (B3 _ (by omega)).lt⟩)))))
    rw [if_neg e5]
    by_cases e6 : i = 86
    · rw [if_pos e6]; exact .inr (.inr (.inr (.inr (.inr (.inr (.inl ⟨e6, rfl⟩))))))
    rw [if_neg e6]
    by_cases e7 : i = 87
    · rw [if_pos e7]; exact .inr (.inr (.inr (.inr (.inr (.inr (.inr ⟨e7, rfl⟩))))))
    rw [if_neg e7]
    refine .inr (.inr (.inr (.inl (key ?_ (.inr (by omega))))))
    have := hD2 (i - 88) (by omega)
    rw [show 88 + (i - 88) = i from by omega] at this
    exact this
  have hmbw := h.mbw
  have hge : ∀ i, L'.used i → w0.heap.size ≤ L'.φ i ∧ L'.φ i ≠ lb ∧ L'.φ i ≠ L.wb := fun i hu => by
    rcases tag i hu with ⟨_, e⟩ | ⟨_, e⟩ | ⟨_, e⟩ | ⟨_, _, e, _⟩ | ⟨_, _, e, _⟩ | ⟨_, _, e, _⟩ | ⟨_, e⟩ | ⟨_, e⟩ <;> rw [e] <;> omega
  have kp : ∀ {b : Nat} {cs : Array Value} {t : TypeId}, Blk w2 b cs t → b ≠ mb → Blk w3 b cs t := fun hB hne => hB.keeps hK hne
  refine ⟨L', by rw [hφ]; rfl, by rw [← hL'], by rw [← hL'], by rw [← hL'], by rw [← hL'], ⟨fun i hu => ?_, fun a ha => ?_, ?_, ?_, ?_, fun i j hi hj e => ?_, fun i hu => ?_, fun i hu e => ?_, fun e => ?_, ⟨fun i hu => ?_, ?_, fun e => ?_⟩, fun i _ => okS_one L' i, ?_⟩, ?_, hS3⟩
  · rcases tag i hu with ⟨rfl, e⟩ | ⟨rfl, e⟩ | ⟨rfl, e⟩ | ⟨hd, h3', e, _, hne, _⟩ | ⟨h22, h54, e, hlt, _⟩ | ⟨h54, h86, e, hlt, _⟩ | ⟨rfl, e⟩ | ⟨rfl, e⟩
    · rw [e]
      show Blk w3 mb (rowV (mcell L' firstS (fun _ => 1024)) 464) 132
      obtain ⟨cs, hbk, hz, hc⟩ := hW2.cs
      have h442 : cs[442]? = some (.slice (some ⟨lb, 0, none⟩) L.cnt c) := by
        have := ((hL.kept hs1 l1).kept hs2 (Nat.lt_of_lt_of_le l1 hsz1)).cell
        rw [hbk.cell] at this
        exact this
      have hrow : (cs.setIfInBounds 462 (.pointer (some ⟨g1, 0, none⟩))).setIfInBounds 463 (.pointer (some ⟨g2, 0, none⟩)) = rowV (mcell L' firstS (fun _ => 1024)) 464 := by
        apply Array.ext_getElem?
        intro o
        by_cases ho : o < 464
        · rw [rowV_get _ ho, Array.getElem?_setIfInBounds, Array.getElem?_setIfInBounds]
          by_cases o3 : 463 = o
          · subst o3
            rw [if_pos rfl, if_pos (by simp; omega)]
            have : L'.φ 2 = g2 := by rw [hφ]; rfl
            show _ = some (Value.pointer (some ⟨L'.φ 2, 0, none⟩))
            rw [this]
          · rw [if_neg o3]
            by_cases o2 : 462 = o
            · subst o2
              rw [if_pos rfl, if_pos (by omega)]
              have : L'.φ 1 = g1 := by rw [hφ]; rfl
              show _ = some (Value.pointer (some ⟨L'.φ 1, 0, none⟩))
              rw [this]
            · rw [if_neg o2]
              by_cases o4 : o = 442
              · subst o4
                rw [h442]
                show _ = some (Value.slice (some ⟨L'.lb, 0, none⟩) L'.cnt L'.lcap)
                rw [hlb', hcnt', ← hL']
              · rw [hc o ho (hdon o (by omega) o4), ← hL']
                rw [mcell_all L firstS _ _ lb c o (fun i i3 i22 => ?_) o4 (by omega)]
                unfold allφ
                rw [if_neg (by omega), if_neg (by omega), if_neg (by omega), if_pos i22]
        · have e1 : (rowV (mcell L' firstS (fun _ => 1024)) 464)[o]? = none := by simp [rowV]; omega
          rw [e1]
          simp; omega
      rw [h3, ← hrow]
      exact (hbk.set 462 _).set 463 _
    · rw [e]
      show Blk w3 g1 (rowV (lcell L' 0 (fun _ => 1024)) 35) 174
      rw [← lenC_lcell L' 0 gf1 ψ1 (by decide) (fun j hj => ?_) (by rw [hφ]; rfl)]
      · exact kp (A1.keeps hs2 (fun h => h)) (by omega)
      · rw [hφ]; unfold allφ
        rw [if_neg (by omega), if_neg (by omega), if_neg (by omega), if_neg (by omega), if_pos (by omega)]
        congr 1; omega
    · rw [e]
      show Blk w3 g2 (rowV (lcell L' 1 (fun _ => 1024)) 35) 174
      rw [← lenC_lcell L' 1 gf2 ψ2 (by decide) (fun j hj => ?_) (by rw [hφ]; rfl)]
      · exact kp B1 (by omega)
      · rw [hφ]; unfold allφ
        rw [if_neg (by omega), if_neg (by omega), if_neg (by omega), if_neg (by omega), if_neg (by omega), if_pos (by omega)]
        congr 1; omega
    · rw [e, cells_tree _ _ _ h3', typ_tree h3']
      exact kp (hW2.tr i hd).2.1 hne
    · have ht : tsz i = 8 := by unfold tsz; rw [if_neg (by omega), if_neg (by omega), if_neg (by omega), if_pos (by omega)]
      rw [e, cells_tree _ _ _ (by omega), typ_tree (by omega), ht]
      exact kp ((A3 _ (by omega)).keeps hs2 (fun h => h)) (by omega)
    · have ht : tsz i = 8 := by unfold tsz; rw [if_neg (by omega), if_neg (by omega), if_neg (by omega), if_pos (by omega)]
      rw [e, cells_tree _ _ _ (by omega), typ_tree (by omega), ht]
      exact kp (B3 _ (by omega)) (by omega)
    · rw [e, cells_tree _ _ _ (by decide), typ_tree (by decide)]
      exact kp (A2.keeps hs2 (fun h => h)) (by omega)
    · rw [e, cells_tree _ _ _ (by decide), typ_tree (by decide)]
      exact kp B2 (by omega)
  · rw [hcnt'] at ha
    rw [hlb']
    have hc := hL.own.cell a (by omega)
    have h2 : w3.cell? ⟨lb, a, none⟩ = w.cell? ⟨lb, a, none⟩ := by
      rw [hK.cell (p := ⟨lb, a, none⟩) (show lb < w2.heap.size by omega) n2, hs2.cell (p := ⟨lb, a, none⟩) (show lb < w1.heap.size by omega) (fun h => h), hs1.cell (p := ⟨lb, a, none⟩) hlbl (fun h => h)]
    rw [h2, hc, List.getElem?_map, List.getElem?_range ha]
    show some (Value.slice (some ⟨L.φ (88 + a), 0, none⟩) _ _) = some (Value.slice (some ⟨L'.φ (88 + a), 0, none⟩) _ _)
    have : L'.φ (88 + a) = L.φ (88 + a) := by
      rw [hφ]; unfold allφ
      rw [if_neg (by omega), if_neg (by omega), if_neg (by omega), if_neg (by omega), if_neg (by omega), if_neg (by omega), if_neg (by omega), if_neg (by omega)]
    rw [this]
  · rw [hlb']
    have := hK.size
    omega
  · rw [hwb', show L'.most = L.most from by rw [← hL']]
    exact hW2.win.keeps hK fun b hb e => by have := winF_none hb; omega
  · exact hb.keeps hS3 (fun h => h)
  · rcases tag i hi with ⟨_, e1⟩ | ⟨_, e1⟩ | ⟨_, e1⟩ | ⟨_, _, e1, _⟩ | ⟨_, _, e1, _⟩ | ⟨_, _, e1, _⟩ | ⟨_, e1⟩ | ⟨_, e1⟩ <;>
    rcases tag j hj with ⟨_, e2⟩ | ⟨_, e2⟩ | ⟨_, e2⟩ | ⟨_, _, e2, _⟩ | ⟨_, _, e2, _⟩ | ⟨_, _, e2, _⟩ | ⟨_, e2⟩ | ⟨_, e2⟩ <;>
    rw [e1, e2] at e <;>
    first
    | omega
    | exact h.inj i j (by assumption) (by assumption) e
    | (have := a7 _ _ (by omega) (by omega) e; omega)
    | (have := b7 _ _ (by omega) (by omega) e; omega)
  · rw [hlb']; exact (hge i hu).2.1
  · rw [hwb'] at e; exact (hge i hu).2.2 (winF_none e)
  · rw [hwb', hlb'] at e; exact n3 (winF_none e)
  · have := (hge i hu).1; omega
  · rw [hlb']; omega
  · rw [hwb'] at e; have := winF_none e; omega
  · refine ⟨by rw [← hL']; exact hp, by rw [← hL']; exact hpb, by decide, by decide⟩
  · rintro b (⟨i, hu, rfl⟩ | rfl | e)
    · exact (hge i hu).1
    · rw [hlb']; exact n1
    · rw [hwb'] at e; have := winF_none e; omega
end Go.Proofs.YtalopgbkjgjppaaGreatDoor
