/- The walks of model's Put, PutEnd. -/
import Derived.Test.YtalopgbkjgjppaaGreatDoorTe
namespace Go.Proofs.YtalopgbkjgjppaaGreatDoor
open Go.RowKit Go.Cas Go.Cas.Enc

/-- A model and a coder, somewhere within a set of blocks; what a step of both leaves. -/
def LeftM (w w' : World) (L : Lay) (S : MSt) (x : Nat) (G : Nat → Prop) (s : CSt) : Prop :=
  ∃ q' cap' F', MC w' L S s.2 q' cap' x s.1 F' ∧ Keeps G w w' ∧ ∀ b, MF L q' b ∨ F' b → G b ∨ w.heap.size ≤ b

theorem Coded.left {w w' : World} {L : Lay} {S : MSt} {q : Option Addr} {cap x : Nat} {F : Nat → Prop} {s : CSt} (h : Coded w w' L S q cap x F s) : LeftM w w' L S x (fun b => MF L q b ∨ F b) s := by
  obtain ⟨F', hM, hK, hG⟩ := h
  exact ⟨q, cap, F', hM, hK.mono fun b _ hb => hb.imp .inl id, fun b hb => hb.elim (fun h => .inl (.inl h)) fun h => (hG b h).imp .inr id⟩

theorem MC.told {w w' : World} {L : Lay} {S S' : MSt} {P : Prb} {q : Option Addr} {cap x : Nat} {C : Cdr} {F : Nat → Prop} (h : MC w L S P q cap x C F) (ht : ToldLeft w w' L S' P q) : LeftM w w' L S' x (fun b => MF L q b ∨ F b) (C, P) := by
  obtain ⟨q', cap', hM, hK, hG⟩ := ht
  have hd : ∀ b, F b → ¬ (b = L.φ 0 ∨ winF L.wb q b) := fun b hb e => by
    rcases e with e | e
    · exact h.dis b hb (.inl ⟨0, used_small (by decide) (by decide), e.symm⟩)
    · exact h.dis b hb (.inr (.inr e))
  refine ⟨q', cap', F, ⟨hM, h.cm.keeps hK hd, h.ok, fun b hb e => ?_, h.f0⟩, hK.mono fun b _ hb => ?_, fun b hb => ?_⟩
  · rcases e with ⟨i, hi, e⟩ | e | e
    · exact h.dis b hb (.inl ⟨i, hi, e⟩)
    · exact h.dis b hb (.inr (.inl e))
    · rcases hG b e with e | e
      · exact h.dis b hb (.inr (.inr e))
      · have := h.cm.lt b hb; omega
  · rcases hb with rfl | hb
    · exact .inl (.inl ⟨0, used_small (by decide) (by decide), rfl⟩)
    · exact .inl (.inr (.inr hb))
  · rcases hb with (⟨i, hi, e⟩ | e | e) | hb
    · exact .inl (.inl (.inl ⟨i, hi, e⟩))
    · exact .inl (.inl (.inr (.inl e)))
    · rcases hG b e with e | e
      · exact .inl (.inl (.inr (.inr e)))
      · exact .inr e
    · exact .inl (.inr hb)

theorem LeftM.two {w w1 w2 : World} {L : Lay} {S1 S2 : MSt} {x : Nat} {G : Nat → Prop} {s1 s2 : CSt} (h : LeftM w w1 L S1 x G s1)
    (k : ∀ q cap F, MC w1 L S1 s1.2 q cap x s1.1 F → LeftM w1 w2 L S2 x (fun b => MF L q b ∨ F b) s2) : LeftM w w2 L S2 x G s2 := by
  obtain ⟨q, cap, F, hM, hK, hG⟩ := h
  obtain ⟨q', cap', F', hM', hK', hG'⟩ := k q cap F hM
  refine ⟨q', cap', F', hM', hK.trans' hK' fun b hb h => (hG b h).resolve_right (by omega), fun b hb => ?_⟩
  rcases hG' b hb with h | h
  · exact hG b h
  · exact .inr (Nat.le_trans hK.size h)

theorem LeftM.pre {w w1 w2 : World} {L : Lay} {S2 : MSt} {x : Nat} {G : Nat → Prop} {s2 : CSt} (h : Same w w1) (k : LeftM w1 w2 L S2 x G s2) : LeftM w w2 L S2 x G s2 := by
  obtain ⟨q', cap', F', hM', hK', hG'⟩ := k
  exact ⟨q', cap', F', hM', (Keeps.of_same h).trans hK', fun b hb => (hG' b hb).imp id fun e => Nat.le_trans h.size e⟩

theorem LeftM.after {w w1 w2 : World} {L : Lay} {S2 : MSt} {q : Option Addr} {x : Nat} {F F6 : Nat → Prop} {s2 : CSt} (hK6 : Keeps (fun b => (∃ i, L.used i ∧ L.φ i = b) ∨ F b) w w1) (hG6 : ∀ b, F6 b → F b ∨ w.heap.size ≤ b)
    (k : LeftM w1 w2 L S2 x (fun b => MF L q b ∨ F6 b) s2) : LeftM w w2 L S2 x (fun b => MF L q b ∨ F b) s2 := by
  obtain ⟨q', cap', F', hM', hK', hG'⟩ := k
  refine ⟨q', cap', F', hM', (hK6.mono fun b _ hb => hb.imp .inl id).trans' hK' fun b hb h => ?_, fun b hb => ?_⟩
  · rcases h with h | h
    · exact .inl h
    · exact .inr ((hG6 b h).resolve_right (by omega))
  · rcases hG' b hb with (h | h) | h
    · exact .inl (.inl h)
    · exact (hG6 b h).imp .inr id
    · exact .inr (Nat.le_trans hK6.size h)

/-- The kinds of what fits. -/
theorem fits_kinds {k d l y h a b c e : Int} (hf : (fitsL k d l y h a b c e).2.2.2 = true) :
    (k = 1 ∧ d = 0 ∧ l = 0) ∨ (k = 2 ∧ y = 0 ∧ 1 ≤ d ∧ d ≤ h ∧ d ≤ 1048576 ∧ 2 ≤ l ∧ l ≤ 273) ∨ (k = 3 ∧ y = 0 ∧ 0 ≤ d ∧ d < 4 ∧ 2 ≤ l ∧ l ≤ 273) ∨ (k = 4 ∧ d = 0 ∧ l = 0 ∧ y = 0) := by
  unfold fitsL at hf
  split at hf
  · rename_i h1; exact .inl h1
  · split at hf
    · rename_i h1 h2
      unfold copiesL at h2
      split at h2
      · rename_i h3
        simp [longB] at h2
        exact .inr (.inl ⟨h3.1, h3.2, by omega, by omega, by omega, by omega, by omega⟩)
      · split at h2
        · rename_i h3 h4
          simp only [longB, Bool.and_eq_true, decide_eq_true_eq] at h2
          exact .inr (.inr (.inl ⟨h4.1, h4.2.1, h4.2.2.1, h4.2.2.2, by omega, by omega⟩))
        · split at h2
          · rename_i h3 h4 h5; exact .inr (.inr (.inr ⟨h5.1, h5.2.1, h5.2.2.1, h5.2.2.2⟩))
          · simp at h2
    · simp at hf

/-- The distance that a packet puts: less one. -/
def dN (p : Pk) : Nat := if p.d ≤ 0 then 4294967295 else (p.d - 1).toNat
def encP (L : Lay) (S : MSt) (p : Pk) (s : CSt) : (Nat × Nat × Nat × Nat × Bool) × CSt := codeP L S p.k.toNat p.d.toNat (p.l - 2).toNat (dN p) p.y.toNat s

set_option maxHeartbeats 16000000 in
set_option maxRecDepth 100000 in
theorem mput_any (w : World) (L : Lay) (S : MSt) (P : Prb) (q : Option Addr) (cap x : Nat) (E : Cas.Enc) (F : Nat → Prop) (p : Pk) (k : Nat) (h : MC w L S P q cap x (.enc E) F) (hk : (Cdr.enc E).n ≤ k) (hk2 : k ≤ 60000000) (hr : Room L S p) :
    Calls Tryz.prog 32 #[.pointer (some ⟨L.φ 0, 0, none⟩), .pointer (some ⟨x, 0, none⟩), pk p.k p.d p.l (p.y.toNat : Int)] w fun z w' =>
      z = .returned (.bool true) ∧ LeftM w w' L (tellS S p) x (fun b => MF L q b ∨ F b) (encP L S p (.enc E, P)).2 ∧ (encP L S p (.enc E, P)).2.1.n ≤ k + 300 := by
  have hkinds := fits_kinds hr.1
  have HFit := hid (fun w0 => fits_any p.k p.d p.l p.y.toNat S.text.length S.r0 S.r1 S.r2 S.r3 w0)
  have HTell := hid (fun (w0 : World) (P0 : Prb) (hm : MM w0 L S P0 q cap) => mtell_any w0 L S P0 q cap p hm hr)
  have hkd : p.k.toNat ≤ 4 := by have := hr.2.2.1; omega
  have hdw : IntKind.u32.wrap ((p.d.toNat : Int) - 1) = (dN p : Int) := by
    unfold dN
    by_cases h0 : p.d ≤ 0
    · rw [if_pos h0, show p.d.toNat = 0 from by omega]; rfl
    · rw [if_neg h0, wr_u32 _ (by omega) (by omega)]; omega
  have hdl : dN p < 4294967296 := by unfold dN; split <;> omega
  have HCode := hid (fun (w0 : World) (hm : MC w0 L S P q cap x (.enc E) F) => mcode_any w0 L S P q cap x (.enc E) F p.k.toNat p.d.toNat (p.l - 2).toNat (dN p) k p.l p.y false hm hk hk2 (by omega) hkd (by omega) (fun _ => hdw) hdl (fun hc => by cases hc) (fun _ => ⟨by omega, by omega, by omega, by omega, fun hc => by cases hc⟩))
  obtain ⟨R, hR⟩ : ∃ R, encP L S p (.enc E, P) = R := ⟨_, rfl⟩
  have hR' : codeP L S p.k.toNat p.d.toNat (p.l - 2).toNat (dN p) p.y.toNat (.enc E, P) = R := hR
  rw [hR]
  rw [hR'] at HCode
  have ek : ((p.k.toNat : Nat) : Int) = p.k := by omega
  have ed : ((p.d.toNat : Nat) : Int) = p.d := by omega
  rw [ek, ed] at HCode
  unfold ifV ifT at HCode
  obtain ⟨S', hS'⟩ : ∃ S', tellS S p = S' := ⟨_, rfl⟩
  rw [hS'] at HTell ⊢
  obtain ⟨hok, hk1, hk4, hfar, hn1, hroom, hmost⟩ := hr
  obtain ⟨pk_, pd, pl, py⟩ := p
  dsimp only at *
  generalize fitsL pk_ pd pl py.toNat S.text.length S.r0 S.r1 S.r2 S.r3 = f at *
  obtain ⟨x0, x1, ⟨n0, n1, n2, n3⟩, ok⟩ := f
  dsimp only at *
  subst hok
  have c3 : w.cell? ⟨L.φ 0, 3, none⟩ = some (i6 L.most) := h.mm.mcell 3 (by decide)
  have c4 : w.cell? ⟨L.φ 0, 4, none⟩ = some (.pointer (some ⟨L.wb, 0, none⟩)) := h.mm.mcell 4 (by decide)
  have c6 : w.cell? ⟨L.φ 0, 6, none⟩ = some (i6 S.r0) := h.mm.mcell 6 (by decide)
  have c7 : w.cell? ⟨L.φ 0, 7, none⟩ = some (i6 S.r1) := h.mm.mcell 7 (by decide)
  have c8 : w.cell? ⟨L.φ 0, 8, none⟩ = some (i6 S.r2) := h.mm.mcell 8 (by decide)
  have c9 : w.cell? ⟨L.φ 0, 9, none⟩ = some (i6 S.r3) := h.mm.mcell 9 (by decide)
  have hφl := (h.mm.blk 0 (used_small (by decide) (by decide))).lt
  obtain ⟨φ0, hφ0⟩ : ∃ φ0, L.φ 0 = φ0 := ⟨_, rfl⟩
  obtain ⟨N, hN⟩ : ∃ N, S.text.length = N := ⟨_, rfl⟩
  obtain ⟨M, hM⟩ : ∃ M, L.most = M := ⟨_, rfl⟩
  have HLen := hid (fun w0 hw => wlen_any L.wb L.most cap S.text q w0 hw)
  have HH := hid h
  rw [hφ0] at c3 c4 c6 c7 c8 c9 hφl HTell HCode ⊢
  rw [hN] at HLen HFit hroom
  rw [hM] at c3 hroom hmost
  have m1 : IntKind.i64.wrap ((M : Int) - (N : Int)) = (M : Int) - (N : Int) := IntWalk.i64_in _ (by omega)
  have m2 : decide ((M : Int) - (N : Int) < x1) = false := by simp; omega
  have m3 : decide (x1 > (M : Int) - (N : Int)) = false := by simp; omega
  clear h hN hM hk1 hk4 hfar hn1 hroom hmost hkinds hkd hdw hdl hR hR' ek ed hS'
  go_enter Tryz.func32, Tryz.ntmps32
  go_upto_region 3 with fail
  have hb0 : Blk (w.alloc (.cells #[i6 pk_, i6 pd, i6 pl, b8 py] PkT)) w.heap.size #[i6 pk_, i6 pd, i6 pl, b8 py] PkT := (Blk.new _ _ _)
  have hs0 : Same w (w.alloc (.cells #[i6 pk_, i6 pd, i6 pl, b8 py] PkT)) := (Keeps.refl _ _).alloc _
  generalize w.alloc (.cells #[i6 pk_, i6 pd, i6 pl, b8 py] PkT) = w0 at hb0 hs0 ⊢
  obtain ⟨B, hB⟩ : ∃ B, w.heap.size = B := ⟨_, rfl⟩
  rw [hB] at hb0 hφl ⊢
  have hbl := hb0.lt
  have d3 := (hs0.cell (p := ⟨φ0, 3, none⟩) (by rw [hB]; exact hφl) (fun h => h)).trans c3
  have d4 := (hs0.cell (p := ⟨φ0, 4, none⟩) (by rw [hB]; exact hφl) (fun h => h)).trans c4
  have d6 := (hs0.cell (p := ⟨φ0, 6, none⟩) (by rw [hB]; exact hφl) (fun h => h)).trans c6
  have d7 := (hs0.cell (p := ⟨φ0, 7, none⟩) (by rw [hB]; exact hφl) (fun h => h)).trans c7
  have d8 := (hs0.cell (p := ⟨φ0, 8, none⟩) (by rw [hB]; exact hφl) (fun h => h)).trans c8
  have d9 := (hs0.cell (p := ⟨φ0, 9, none⟩) (by rw [hB]; exact hφl) (fun h => h)).trans c9
  have hφl2 : φ0 < w0.heap.size := by omega
  have hb0c := hb0.four
  have HW0 := hid (fun (V : World) (hV : Same w0 V) => (HH.out.mm.win.keeps hs0 (fun _ _ h => h)).keeps hV (fun _ _ h => h))
  have HB := hid (And.intro hB (And.intro hb0 hs0))
  clear hB hb0 hs0
  go_cut [8, 10] (fun s8 s10 wx => s8 = i6 x1 ∧ s10 = .bool true ∧ Same w0 wx)
  case first =>
    refine wp_region_held_drew (S := (fun W => Same w0 W)) (by kernel_rfl) (by (try dsimp only); exact (Keeps.refl _ _).drew) (fun hHeld => ?_)
    refine wpAnyH_take (i := 0) (oi := ⟨some 14, _, _, _, _, _⟩) (v := ?v0x1) rfl (by kernel_rfl) (by kernel_rfl) (by kernel_rfl) (fun _ _ _ h => h) (Or.inl ⟨by rfl, ?h0x1⟩) (by assumption) ?r0x1
    case h0x1 => intro w hSw; (try dsimp only at hSw); have q0 := (Keeps.cell hSw (p := ⟨B, 0, none⟩) hbl (fun h => h)).trans hb0c.1; have q1 := (Keeps.cell hSw (p := ⟨B, 1, none⟩) hbl (fun h => h)).trans hb0c.2.1; have q2 := (Keeps.cell hSw (p := ⟨B, 2, none⟩) hbl (fun h => h)).trans hb0c.2.2.1; have q3 := (Keeps.cell hSw (p := ⟨B, 3, none⟩) hbl (fun h => h)).trans hb0c.2.2.2.1; go_simp; (try with_reducible rfl)
    try simp only [Act.put, List.setIfInBounds_toArray, List.set_cons_zero, List.set_cons_succ]
    refine wpAnyH_take (i := 1) (oi := ⟨some 15, _, _, _, _, _⟩) (v := ?v1x1) rfl (by kernel_rfl) (by kernel_rfl) (by kernel_rfl) (fun _ _ _ h => h) (Or.inl ⟨by rfl, ?h1x1⟩) (by assumption) ?r1x1
    case h1x1 => intro w hSw; (try dsimp only at hSw); go_simp; (try with_reducible rfl)
    try simp only [Act.put, List.setIfInBounds_toArray, List.set_cons_zero, List.set_cons_succ]
    refine wpAnyH_take (i := 2) (oi := ⟨some 16, _, _, _, _, _⟩) (v := ?v2x1) rfl (by kernel_rfl) (by kernel_rfl) (by kernel_rfl) (fun _ _ _ h => h) (Or.inl ⟨by rfl, ?h2x1⟩) (by assumption) ?r2x1
    case h2x1 => intro w hSw; (try dsimp only at hSw); go_simp; (try with_reducible rfl)
    try simp only [Act.put, List.setIfInBounds_toArray, List.set_cons_zero, List.set_cons_succ]
    refine wpAnyH_take (i := 3) (oi := ⟨some 17, _, _, _, _, _⟩) (v := ?v3x1) rfl (by kernel_rfl) (by kernel_rfl) (by kernel_rfl) (fun _ _ _ h => h) (Or.inl ⟨by rfl, ?h3x1⟩) (by assumption) ?r3x1
    case h3x1 => intro w hSw; (try dsimp only at hSw); go_simp; (try with_reducible rfl)
    try simp only [Act.put, List.setIfInBounds_toArray, List.set_cons_zero, List.set_cons_succ]
    refine wpAnyH_take (i := 4) (oi := ⟨some 18, _, _, _, _, _⟩) (v := ?v4x1) rfl (by kernel_rfl) (by kernel_rfl) (by kernel_rfl) (fun _ _ _ h => h) (Or.inl ⟨by rfl, ?h4x1⟩) (by assumption) ?r4x1
    case h4x1 => intro w hSw; (try dsimp only at hSw); have q4 := (Keeps.cell hSw (p := ⟨φ0, 4, none⟩) hφl2 (fun h => h)).trans d4; go_simp; (try with_reducible rfl)
    try simp only [Act.put, List.setIfInBounds_toArray, List.set_cons_zero, List.set_cons_succ]
    refine wpAnyH_take (i := 6) (oi := ⟨some 20, _, _, _, _, _⟩) (v := ?v6x1) rfl (by kernel_rfl) (by kernel_rfl) (by kernel_rfl) (fun _ _ _ h => h) (Or.inl ⟨by rfl, ?h6x1⟩) (by assumption) ?r6x1
    case h6x1 => intro w hSw; (try dsimp only at hSw); go_simp; (try with_reducible rfl)
    try simp only [Act.put, List.setIfInBounds_toArray, List.set_cons_zero, List.set_cons_succ]
    refine wpAnyH_take (i := 7) (oi := ⟨some 21, _, _, _, _, _⟩) (v := ?v7x1) rfl (by kernel_rfl) (by kernel_rfl) (by kernel_rfl) (fun _ _ _ h => h) (Or.inl ⟨by rfl, ?h7x1⟩) (by assumption) ?r7x1
    case h7x1 => intro w hSw; (try dsimp only at hSw); go_simp; (try with_reducible rfl)
    try simp only [Act.put, List.setIfInBounds_toArray, List.set_cons_zero, List.set_cons_succ]
    refine wpAnyH_take (i := 8) (oi := ⟨some 22, _, _, _, _, _⟩) (v := ?v8x1) rfl (by kernel_rfl) (by kernel_rfl) (by kernel_rfl) (fun _ _ _ h => h) (Or.inl ⟨by rfl, ?h8x1⟩) (by assumption) ?r8x1
    case h8x1 => intro w hSw; (try dsimp only at hSw); go_simp; (try with_reducible rfl)
    try simp only [Act.put, List.setIfInBounds_toArray, List.set_cons_zero, List.set_cons_succ]
    refine wpAnyH_take (i := 9) (oi := ⟨some 23, _, _, _, _, _⟩) (v := ?v9x1) rfl (by kernel_rfl) (by kernel_rfl) (by kernel_rfl) (fun _ _ _ h => h) (Or.inl ⟨by rfl, ?h9x1⟩) (by assumption) ?r9x1
    case h9x1 => intro w hSw; (try dsimp only at hSw); have q6 := (Keeps.cell hSw (p := ⟨φ0, 6, none⟩) hφl2 (fun h => h)).trans d6; have q7 := (Keeps.cell hSw (p := ⟨φ0, 7, none⟩) hφl2 (fun h => h)).trans d7; have q8 := (Keeps.cell hSw (p := ⟨φ0, 8, none⟩) hφl2 (fun h => h)).trans d8; have q9 := (Keeps.cell hSw (p := ⟨φ0, 9, none⟩) hφl2 (fun h => h)).trans d9; go_simp; (try with_reducible rfl)
    try simp only [Act.put, List.setIfInBounds_toArray, List.set_cons_zero, List.set_cons_succ]
    refine wpAnyH_ready (rs := [5, 16]) (by kernel_rfl) (by simp) ?_
    refine AllReadyH.cons (o := ⟨some 19, _, _, _, _, _⟩) rfl (fun K hK => ?_) (AllReadyH.cons (o := ⟨some 9, _, _, _, _, _⟩) rfl (fun K hK => ?_) AllReadyH.nil)
    · go_simp; (go_at_call 65; refine (HLen.out _ (HW0.out _ (by repeat (first | exact Keeps.refl _ _ | refine Keeps.drew ?_ | refine Keeps.drewN ?_ _ | refine Keeps.alloc ?_ _ | refine Keeps.setCell ?_ (by simp; try omega) _ | exact Hid.out (by assumption) | refine Keeps.trans ?_ (by assumption))))).mono ?_; rintro z w5 ⟨rfl, rfl⟩)
      refine hK.out _ _ (by (try dsimp only); repeat (first | exact Keeps.refl _ _ | refine Keeps.drew ?_ | refine Keeps.drewN ?_ _ | refine Keeps.alloc ?_ _ | refine Keeps.setCell ?_ (by simp; try omega) _ | exact Hid.out (by assumption) | refine Keeps.trans ?_ (by assumption))) (fun hHeld => ?_)
      clear hK K
      try simp only [Act.put, List.setIfInBounds_toArray, List.set_cons_zero, List.set_cons_succ]
      refine wpAnyH_ready (rs := [10, 16]) (by kernel_rfl) (by simp) ?_
      refine AllReadyH.cons (o := ⟨some 24, _, _, _, _, _⟩) rfl (fun K hK => ?_) (AllReadyH.cons (o := ⟨some 9, _, _, _, _, _⟩) rfl (fun K hK => ?_) AllReadyH.nil)
      · go_simp; (go_at_call 64; refine (HFit.out _).mono ?_; rintro z w4 ⟨rfl, hs4⟩; dsimp only)
        refine hK.out _ _ (by (try dsimp only); repeat (first | exact Keeps.refl _ _ | refine Keeps.drew ?_ | refine Keeps.drewN ?_ _ | refine Keeps.alloc ?_ _ | refine Keeps.setCell ?_ (by simp; try omega) _ | exact Hid.out (by assumption) | refine Keeps.trans ?_ (by assumption))) (fun hHeld => ?_)
        clear hK K
        try simp only [Act.put, List.setIfInBounds_toArray, List.set_cons_zero, List.set_cons_succ]
        have hz4 := hs4.size
        simp at hz4
        refine wpAnyH_take (i := 11) (oi := ⟨some 13, _, _, _, _, _⟩) (v := ?v11x3) rfl (by kernel_rfl) (by kernel_rfl) (by kernel_rfl) (fun _ _ _ h => h) (Or.inl ⟨by rfl, ?h11x3⟩) (by assumption) ?r11x3
        case h11x3 => intro w hSw; (try dsimp only at hSw); go_simp; (try with_reducible rfl)
        try simp only [Act.put, List.setIfInBounds_toArray, List.set_cons_zero, List.set_cons_succ]
        refine wpAnyH_take (i := 12) (oi := ⟨some 25, _, _, _, _, _⟩) (v := ?v12x3) rfl (by kernel_rfl) (by kernel_rfl) (by kernel_rfl) (fun _ _ _ h => h) (Or.inl ⟨by rfl, ?h12x3⟩) (by assumption) ?r12x3
        case h12x3 => intro w hSw; (try dsimp only at hSw); go_simp; (try with_reducible rfl)
        try simp only [Act.put, List.setIfInBounds_toArray, List.set_cons_zero, List.set_cons_succ]
        refine wpAnyH_take (i := 13) (oi := ⟨some 26, _, _, _, _, _⟩) (v := ?v13x3) rfl (by kernel_rfl) (by kernel_rfl) (by kernel_rfl) (fun _ _ _ h => h) (Or.inl ⟨by rfl, ?h13x3⟩) (by assumption) ?r13x3
        case h13x3 => intro w hSw; (try dsimp only at hSw); go_simp; (try with_reducible rfl)
        try simp only [Act.put, List.setIfInBounds_toArray, List.set_cons_zero, List.set_cons_succ]
        refine wpAnyH_take (i := 14) (oi := ⟨some 27, _, _, _, _, _⟩) (v := ?v14x3) rfl (by kernel_rfl) (by kernel_rfl) (by kernel_rfl) (fun _ _ _ h => h) (Or.inl ⟨by rfl, ?h14x3⟩) (by assumption) ?r14x3
        case h14x3 => intro w hSw; (try dsimp only at hSw); go_simp; (try with_reducible rfl)
        try simp only [Act.put, List.setIfInBounds_toArray, List.set_cons_zero, List.set_cons_succ]
        refine wpAnyH_take (i := 15) (oi := ⟨some 28, _, _, _, _, _⟩) (v := ?v15x3) rfl (by kernel_rfl) (by kernel_rfl) (by kernel_rfl) (fun _ _ _ h => h) (Or.inl ⟨by rfl, ?h15x3⟩) (by assumption) ?r15x3
        case h15x3 => intro w hSw; (try dsimp only at hSw); go_simp; (try with_reducible rfl)
        try simp only [Act.put, List.setIfInBounds_toArray, List.set_cons_zero, List.set_cons_succ]
        refine wpAnyH_ready (rs := [16]) (by kernel_rfl) (by simp) ?_
        refine AllReadyH.cons (o := ⟨some 9, _, _, _, _, _⟩) rfl (fun K hK => ?_) AllReadyH.nil
        go_simp
        refine hK.out _ _ (by (try dsimp only); repeat (first | exact Keeps.refl _ _ | refine Keeps.drew ?_ | refine Keeps.drewN ?_ _ | refine Keeps.alloc ?_ _ | refine Keeps.setCell ?_ (by simp; try omega) _ | exact Hid.out (by assumption) | refine Keeps.trans ?_ (by assumption))) (fun hHeld => ?_)
        clear hK K
        try simp only [Act.put, List.setIfInBounds_toArray, List.set_cons_zero, List.set_cons_succ]
        refine wpAnyH_take (i := 17) (oi := ⟨some 7, _, _, _, _, _⟩) (v := ?v17x3) rfl (by kernel_rfl) (by kernel_rfl) (by kernel_rfl) (fun _ _ _ h => h) (Or.inl ⟨by rfl, ?h17x3⟩) (by assumption) ?r17x3
        case h17x3 => intro w hSw; (try dsimp only at hSw); go_simp; (try with_reducible rfl)
        try simp only [Act.put, List.setIfInBounds_toArray, List.set_cons_zero, List.set_cons_succ]
        refine wpAnyH_take (i := 18) (oi := ⟨some 8, _, _, _, _, _⟩) (v := ?v18x3) rfl (by kernel_rfl) (by kernel_rfl) (by kernel_rfl) (fun _ _ _ h => h) (Or.inl ⟨by rfl, ?h18x3⟩) (by assumption) ?r18x3
        case h18x3 => intro w hSw; (try dsimp only at hSw); go_simp; (try with_reducible rfl)
        try simp only [Act.put, List.setIfInBounds_toArray, List.set_cons_zero, List.set_cons_succ]
        refine wpAnyH_ready (rs := [19]) (by kernel_rfl) (by simp) ?_
        refine AllReadyH.cons (o := ⟨none, _, _, _, _, _⟩) rfl (fun K hK => ?_) AllReadyH.nil
        go_simp
        refine hK.out _ _ (by (try dsimp only); repeat (first | exact Keeps.refl _ _ | refine Keeps.drew ?_ | refine Keeps.drewN ?_ _ | refine Keeps.alloc ?_ _ | refine Keeps.setCell ?_ (by simp; try omega) _ | exact Hid.out (by assumption) | refine Keeps.trans ?_ (by assumption))) (fun hHeld => ?_)
        clear hK K
        try simp only [Act.put, List.setIfInBounds_toArray, List.set_cons_zero, List.set_cons_succ]
        refine wpAnyH_take (i := 20) (oi := ⟨some 10, _, _, _, _, _⟩) (v := ?v20x3) rfl (by kernel_rfl) (by kernel_rfl) (by kernel_rfl) (fun _ _ _ h => h) (Or.inl ⟨by rfl, ?h20x3⟩) (by assumption) ?r20x3
        case h20x3 => intro w hSw; (try dsimp only at hSw); go_simp; (try with_reducible rfl)
        try simp only [Act.put, List.setIfInBounds_toArray, List.set_cons_zero, List.set_cons_succ]
        refine wpAnyH_done (by kernel_rfl) ?_ _
        go_wp2_with fail
        go_meet
        refine ⟨rfl, rfl, ?_⟩
        repeat (first | exact Keeps.refl _ _ | refine Keeps.drew ?_ | refine Keeps.drewN ?_ _ | refine Keeps.alloc ?_ _ | refine Keeps.setCell ?_ (by simp; try omega) _ | exact Hid.out (by assumption) | refine Keeps.trans ?_ (by assumption))
      · go_simp
        refine hK.out _ _ (by (try dsimp only); repeat (first | exact Keeps.refl _ _ | refine Keeps.drew ?_ | refine Keeps.drewN ?_ _ | refine Keeps.alloc ?_ _ | refine Keeps.setCell ?_ (by simp; try omega) _ | exact Hid.out (by assumption) | refine Keeps.trans ?_ (by assumption))) (fun hHeld => ?_)
        clear hK K
        try simp only [Act.put, List.setIfInBounds_toArray, List.set_cons_zero, List.set_cons_succ]
        refine wpAnyH_ready (rs := [10]) (by kernel_rfl) (by simp) ?_
        refine AllReadyH.cons (o := ⟨some 24, _, _, _, _, _⟩) rfl (fun K hK => ?_) AllReadyH.nil
        go_simp; (go_at_call 64; refine (HFit.out _).mono ?_; rintro z w4 ⟨rfl, hs4⟩; dsimp only)
        refine hK.out _ _ (by (try dsimp only); repeat (first | exact Keeps.refl _ _ | refine Keeps.drew ?_ | refine Keeps.drewN ?_ _ | refine Keeps.alloc ?_ _ | refine Keeps.setCell ?_ (by simp; try omega) _ | exact Hid.out (by assumption) | refine Keeps.trans ?_ (by assumption))) (fun hHeld => ?_)
        clear hK K
        try simp only [Act.put, List.setIfInBounds_toArray, List.set_cons_zero, List.set_cons_succ]
        have hzB := Blk.keeps (t := 69) (Blk.drew (Blk.new_at (n := w0.heap.size) (cs := #[i6 0, i6 0, i6 0, i6 0]) (by simp))) hs4 (fun h => h); have hzl := hzB.lt; have hzb := hzB.four
        refine wpAnyH_take (i := 11) (oi := ⟨some 13, _, _, _, _, _⟩) (v := ?v11x4) rfl (by kernel_rfl) (by kernel_rfl) (by kernel_rfl) (fun _ _ _ h => h) (Or.inl ⟨by rfl, ?h11x4⟩) (by assumption) ?r11x4
        case h11x4 => intro w hSw; (try dsimp only at hSw); go_simp; (try with_reducible rfl)
        try simp only [Act.put, List.setIfInBounds_toArray, List.set_cons_zero, List.set_cons_succ]
        refine wpAnyH_take (i := 12) (oi := ⟨some 25, _, _, _, _, _⟩) (v := ?v12x4) rfl (by kernel_rfl) (by kernel_rfl) (by kernel_rfl) (fun _ _ _ h => h) (Or.inl ⟨by rfl, ?h12x4⟩) (by assumption) ?r12x4
        case h12x4 => intro w hSw; (try dsimp only at hSw); go_simp; (try with_reducible rfl)
        try simp only [Act.put, List.setIfInBounds_toArray, List.set_cons_zero, List.set_cons_succ]
        refine wpAnyH_take (i := 13) (oi := ⟨some 26, _, _, _, _, _⟩) (v := ?v13x4) rfl (by kernel_rfl) (by kernel_rfl) (by kernel_rfl) (fun _ _ _ h => h) (Or.inl ⟨by rfl, ?h13x4⟩) (by assumption) ?r13x4
        case h13x4 => intro w hSw; (try dsimp only at hSw); go_simp; (try with_reducible rfl)
        try simp only [Act.put, List.setIfInBounds_toArray, List.set_cons_zero, List.set_cons_succ]
        refine wpAnyH_take (i := 14) (oi := ⟨some 27, _, _, _, _, _⟩) (v := ?v14x4) rfl (by kernel_rfl) (by kernel_rfl) (by kernel_rfl) (fun _ _ _ h => h) (Or.inl ⟨by rfl, ?h14x4⟩) (by assumption) ?r14x4
        case h14x4 => intro w hSw; (try dsimp only at hSw); go_simp; (try with_reducible rfl)
        try simp only [Act.put, List.setIfInBounds_toArray, List.set_cons_zero, List.set_cons_succ]
        refine wpAnyH_take (i := 15) (oi := ⟨some 28, _, _, _, _, _⟩) (v := ?v15x4) rfl (by kernel_rfl) (by kernel_rfl) (by kernel_rfl) (fun _ _ _ h => h) (Or.inl ⟨by rfl, ?h15x4⟩) (by assumption) ?r15x4
        case h15x4 => intro w hSw; (try dsimp only at hSw); go_simp; (try with_reducible rfl)
        try simp only [Act.put, List.setIfInBounds_toArray, List.set_cons_zero, List.set_cons_succ]
        refine wpAnyH_take (i := 17) (oi := ⟨some 7, _, _, _, _, _⟩) (v := ?v17x4) rfl (by kernel_rfl) (by kernel_rfl) (by kernel_rfl) (fun _ _ _ h => h) (Or.inl ⟨by rfl, ?h17x4⟩) (by assumption) ?r17x4
        case h17x4 => intro w hSw; (try dsimp only at hSw); go_simp; (try with_reducible rfl)
        try simp only [Act.put, List.setIfInBounds_toArray, List.set_cons_zero, List.set_cons_succ]
        refine wpAnyH_take (i := 18) (oi := ⟨some 8, _, _, _, _, _⟩) (v := ?v18x4) rfl (by kernel_rfl) (by kernel_rfl) (by kernel_rfl) (fun _ _ _ h => h) (Or.inl ⟨by rfl, ?h18x4⟩) (by assumption) ?r18x4
        case h18x4 => intro w hSw; (try dsimp only at hSw); go_simp; (try with_reducible rfl)
        try simp only [Act.put, List.setIfInBounds_toArray, List.set_cons_zero, List.set_cons_succ]
        refine wpAnyH_ready (rs := [19]) (by kernel_rfl) (by simp) ?_
        refine AllReadyH.cons (o := ⟨none, _, _, _, _, _⟩) rfl (fun K hK => ?_) AllReadyH.nil
        go_simp
        refine hK.out _ _ (by (try dsimp only); repeat (first | exact Keeps.refl _ _ | refine Keeps.drew ?_ | refine Keeps.drewN ?_ _ | refine Keeps.alloc ?_ _ | refine Keeps.setCell ?_ (by simp; try omega) _ | exact Hid.out (by assumption) | refine Keeps.trans ?_ (by assumption))) (fun hHeld => ?_)
        clear hK K
        try simp only [Act.put, List.setIfInBounds_toArray, List.set_cons_zero, List.set_cons_succ]
        refine wpAnyH_take (i := 20) (oi := ⟨some 10, _, _, _, _, _⟩) (v := ?v20x4) rfl (by kernel_rfl) (by kernel_rfl) (by kernel_rfl) (fun _ _ _ h => h) (Or.inl ⟨by rfl, ?h20x4⟩) (by assumption) ?r20x4
        case h20x4 => intro w hSw; (try dsimp only at hSw); go_simp; (try with_reducible rfl)
        try simp only [Act.put, List.setIfInBounds_toArray, List.set_cons_zero, List.set_cons_succ]
        refine wpAnyH_done (by kernel_rfl) ?_ _
        go_wp2_with fail
        go_meet
        refine ⟨rfl, rfl, ?_⟩
        repeat (first | exact Keeps.refl _ _ | refine Keeps.drew ?_ | refine Keeps.drewN ?_ _ | refine Keeps.alloc ?_ _ | refine Keeps.setCell ?_ (by simp; try omega) _ | exact Hid.out (by assumption) | refine Keeps.trans ?_ (by assumption))
    · go_simp
      refine hK.out _ _ (by (try dsimp only); repeat (first | exact Keeps.refl _ _ | refine Keeps.drew ?_ | refine Keeps.drewN ?_ _ | refine Keeps.alloc ?_ _ | refine Keeps.setCell ?_ (by simp; try omega) _ | exact Hid.out (by assumption) | refine Keeps.trans ?_ (by assumption))) (fun hHeld => ?_)
      clear hK K
      try simp only [Act.put, List.setIfInBounds_toArray, List.set_cons_zero, List.set_cons_succ]
      refine wpAnyH_ready (rs := [5]) (by kernel_rfl) (by simp) ?_
      refine AllReadyH.cons (o := ⟨some 19, _, _, _, _, _⟩) rfl (fun K hK => ?_) AllReadyH.nil
      go_simp; (go_at_call 65; refine (HLen.out _ (HW0.out _ (by repeat (first | exact Keeps.refl _ _ | refine Keeps.drew ?_ | refine Keeps.drewN ?_ _ | refine Keeps.alloc ?_ _ | refine Keeps.setCell ?_ (by simp; try omega) _ | exact Hid.out (by assumption) | refine Keeps.trans ?_ (by assumption))))).mono ?_; rintro z w5 ⟨rfl, rfl⟩)
      refine hK.out _ _ (by (try dsimp only); repeat (first | exact Keeps.refl _ _ | refine Keeps.drew ?_ | refine Keeps.drewN ?_ _ | refine Keeps.alloc ?_ _ | refine Keeps.setCell ?_ (by simp; try omega) _ | exact Hid.out (by assumption) | refine Keeps.trans ?_ (by assumption))) (fun hHeld => ?_)
      clear hK K
      try simp only [Act.put, List.setIfInBounds_toArray, List.set_cons_zero, List.set_cons_succ]
      refine wpAnyH_ready (rs := [10]) (by kernel_rfl) (by simp) ?_
      refine AllReadyH.cons (o := ⟨some 24, _, _, _, _, _⟩) rfl (fun K hK => ?_) AllReadyH.nil
      go_simp; (go_at_call 64; refine (HFit.out _).mono ?_; rintro z w4 ⟨rfl, hs4⟩; dsimp only)
      refine hK.out _ _ (by (try dsimp only); repeat (first | exact Keeps.refl _ _ | refine Keeps.drew ?_ | refine Keeps.drewN ?_ _ | refine Keeps.alloc ?_ _ | refine Keeps.setCell ?_ (by simp; try omega) _ | exact Hid.out (by assumption) | refine Keeps.trans ?_ (by assumption))) (fun hHeld => ?_)
      clear hK K
      try simp only [Act.put, List.setIfInBounds_toArray, List.set_cons_zero, List.set_cons_succ]
      have hzB := Blk.keeps (t := 69) (Blk.drew (Blk.new_at (n := w0.heap.size) (cs := #[i6 0, i6 0, i6 0, i6 0]) (by simp))) hs4 (fun h => h); have hzl := hzB.lt; have hzb := hzB.four
      refine wpAnyH_take (i := 11) (oi := ⟨some 13, _, _, _, _, _⟩) (v := ?v11x5) rfl (by kernel_rfl) (by kernel_rfl) (by kernel_rfl) (fun _ _ _ h => h) (Or.inl ⟨by rfl, ?h11x5⟩) (by assumption) ?r11x5
      case h11x5 => intro w hSw; (try dsimp only at hSw); go_simp; (try with_reducible rfl)
      try simp only [Act.put, List.setIfInBounds_toArray, List.set_cons_zero, List.set_cons_succ]
      refine wpAnyH_take (i := 12) (oi := ⟨some 25, _, _, _, _, _⟩) (v := ?v12x5) rfl (by kernel_rfl) (by kernel_rfl) (by kernel_rfl) (fun _ _ _ h => h) (Or.inl ⟨by rfl, ?h12x5⟩) (by assumption) ?r12x5
      case h12x5 => intro w hSw; (try dsimp only at hSw); go_simp; (try with_reducible rfl)
      try simp only [Act.put, List.setIfInBounds_toArray, List.set_cons_zero, List.set_cons_succ]
      refine wpAnyH_take (i := 13) (oi := ⟨some 26, _, _, _, _, _⟩) (v := ?v13x5) rfl (by kernel_rfl) (by kernel_rfl) (by kernel_rfl) (fun _ _ _ h => h) (Or.inl ⟨by rfl, ?h13x5⟩) (by assumption) ?r13x5
      case h13x5 => intro w hSw; (try dsimp only at hSw); go_simp; (try with_reducible rfl)
      try simp only [Act.put, List.setIfInBounds_toArray, List.set_cons_zero, List.set_cons_succ]
      refine wpAnyH_take (i := 14) (oi := ⟨some 27, _, _, _, _, _⟩) (v := ?v14x5) rfl (by kernel_rfl) (by kernel_rfl) (by kernel_rfl) (fun _ _ _ h => h) (Or.inl ⟨by rfl, ?h14x5⟩) (by assumption) ?r14x5
      case h14x5 => intro w hSw; (try dsimp only at hSw); go_simp; (try with_reducible rfl)
      try simp only [Act.put, List.setIfInBounds_toArray, List.set_cons_zero, List.set_cons_succ]
      refine wpAnyH_take (i := 15) (oi := ⟨some 28, _, _, _, _, _⟩) (v := ?v15x5) rfl (by kernel_rfl) (by kernel_rfl) (by kernel_rfl) (fun _ _ _ h => h) (Or.inl ⟨by rfl, ?h15x5⟩) (by assumption) ?r15x5
      case h15x5 => intro w hSw; (try dsimp only at hSw); go_simp; (try with_reducible rfl)
      try simp only [Act.put, List.setIfInBounds_toArray, List.set_cons_zero, List.set_cons_succ]
      refine wpAnyH_take (i := 17) (oi := ⟨some 7, _, _, _, _, _⟩) (v := ?v17x5) rfl (by kernel_rfl) (by kernel_rfl) (by kernel_rfl) (fun _ _ _ h => h) (Or.inl ⟨by rfl, ?h17x5⟩) (by assumption) ?r17x5
      case h17x5 => intro w hSw; (try dsimp only at hSw); go_simp; (try with_reducible rfl)
      try simp only [Act.put, List.setIfInBounds_toArray, List.set_cons_zero, List.set_cons_succ]
      refine wpAnyH_take (i := 18) (oi := ⟨some 8, _, _, _, _, _⟩) (v := ?v18x5) rfl (by kernel_rfl) (by kernel_rfl) (by kernel_rfl) (fun _ _ _ h => h) (Or.inl ⟨by rfl, ?h18x5⟩) (by assumption) ?r18x5
      case h18x5 => intro w hSw; (try dsimp only at hSw); go_simp; (try with_reducible rfl)
      try simp only [Act.put, List.setIfInBounds_toArray, List.set_cons_zero, List.set_cons_succ]
      refine wpAnyH_ready (rs := [19]) (by kernel_rfl) (by simp) ?_
      refine AllReadyH.cons (o := ⟨none, _, _, _, _, _⟩) rfl (fun K hK => ?_) AllReadyH.nil
      go_simp
      refine hK.out _ _ (by (try dsimp only); repeat (first | exact Keeps.refl _ _ | refine Keeps.drew ?_ | refine Keeps.drewN ?_ _ | refine Keeps.alloc ?_ _ | refine Keeps.setCell ?_ (by simp; try omega) _ | exact Hid.out (by assumption) | refine Keeps.trans ?_ (by assumption))) (fun hHeld => ?_)
      clear hK K
      try simp only [Act.put, List.setIfInBounds_toArray, List.set_cons_zero, List.set_cons_succ]
      refine wpAnyH_take (i := 20) (oi := ⟨some 10, _, _, _, _, _⟩) (v := ?v20x5) rfl (by kernel_rfl) (by kernel_rfl) (by kernel_rfl) (fun _ _ _ h => h) (Or.inl ⟨by rfl, ?h20x5⟩) (by assumption) ?r20x5
      case h20x5 => intro w hSw; (try dsimp only at hSw); go_simp; (try with_reducible rfl)
      try simp only [Act.put, List.setIfInBounds_toArray, List.set_cons_zero, List.set_cons_succ]
      refine wpAnyH_done (by kernel_rfl) ?_ _
      go_wp2_with fail
      go_meet
      refine ⟨rfl, rfl, ?_⟩
      repeat (first | exact Keeps.refl _ _ | refine Keeps.drew ?_ | refine Keeps.drewN ?_ _ | refine Keeps.alloc ?_ _ | refine Keeps.setCell ?_ (by simp; try omega) _ | exact Hid.out (by assumption) | refine Keeps.trans ?_ (by assumption))
  case rest =>
    obtain ⟨rfl, rfl, hsx⟩ := hcut
    obtain ⟨wx, rfl⟩ : ∃ wx : World, wx = wc := ⟨_, rfl⟩
    have hsw : Same w wx := HB.out.2.2.trans hsx
    have hbB := HB.out.2.1.keeps hsx (fun h => h)
    have e3 := (hsx.cell (p := ⟨φ0, 3, none⟩) hφl2 (fun h => h)).trans d3
    have e4 := (hsx.cell (p := ⟨φ0, 4, none⟩) hφl2 (fun h => h)).trans d4
    have HW := hid (fun (V : World) (hV : Same wx V) => (HW0.out V (hsx.trans hV)))
    have HX := hid (And.intro hsw (And.intro hbB hsx))
    clear hsw hbB hsx d3 d4 d6 d7 d8 d9 hb0c c3 c4 c6 c7 c8 c9
    go_upto_region 4 with fail
    refine wp_region_held_drew (S := (fun V => V.cell? ⟨φ0, 3, none⟩ = some (i6 M) ∧ V.cell? ⟨φ0, 4, none⟩ = some (.pointer (some ⟨L.wb, 0, none⟩)))) (by kernel_rfl) (by (try dsimp only); exact ⟨e3, e4⟩) (fun hHeld => ?_)
    refine wpAnyH_take (i := 0) (oi := ⟨some 29, _, _, _, _, _⟩) (v := ?v0p) rfl (by kernel_rfl) (by kernel_rfl) (by kernel_rfl) (fun _ _ _ h => h) (Or.inl ⟨by rfl, ?h0p⟩) (by assumption) ?r0p
    case h0p => intro w hSw; (try dsimp only at hSw); go_simp; (try with_reducible rfl)
    try simp only [Act.put, List.setIfInBounds_toArray, List.set_cons_zero, List.set_cons_succ]
    refine wpAnyH_take (i := 1) (oi := ⟨some 30, _, _, _, _, _⟩) (v := ?v1p) rfl (by kernel_rfl) (by kernel_rfl) (by kernel_rfl) (fun _ _ _ h => h) (Or.inl ⟨by rfl, ?h1p⟩) (by assumption) ?r1p
    case h1p => intro w hSw; (try dsimp only at hSw); go_simp; (try with_reducible rfl)
    try simp only [Act.put, List.setIfInBounds_toArray, List.set_cons_zero, List.set_cons_succ]
    refine wpAnyH_take (i := 2) (oi := ⟨some 31, _, _, _, _, _⟩) (v := ?v2p) rfl (by kernel_rfl) (by kernel_rfl) (by kernel_rfl) (fun _ _ _ h => h) (Or.inl ⟨by rfl, ?h2p⟩) (by assumption) ?r2p
    case h2p => intro w hSw; (try dsimp only at hSw); go_simp; (try with_reducible rfl)
    try simp only [Act.put, List.setIfInBounds_toArray, List.set_cons_zero, List.set_cons_succ]
    refine wpAnyH_take (i := 3) (oi := ⟨some 32, _, _, _, _, _⟩) (v := ?v3p) rfl (by kernel_rfl) (by kernel_rfl) (by kernel_rfl) (fun _ _ _ h => h) (Or.inl ⟨by rfl, ?h3p⟩) (by assumption) ?r3p
    case h3p => intro w hSw; (try dsimp only at hSw); go_simp; (try with_reducible rfl)
    try simp only [Act.put, List.setIfInBounds_toArray, List.set_cons_zero, List.set_cons_succ]
    refine wpAnyH_take (i := 4) (oi := ⟨some 33, _, _, _, _, _⟩) (v := ?v4p) rfl (by kernel_rfl) (by kernel_rfl) (by kernel_rfl) (fun _ _ _ h => h) (Or.inl ⟨by rfl, ?h4p⟩) (by assumption) ?r4p
    case h4p => intro w hSw; (try dsimp only at hSw); go_simp; (try with_reducible rfl)
    try simp only [Act.put, List.setIfInBounds_toArray, List.set_cons_zero, List.set_cons_succ]
    refine wpAnyH_take (i := 5) (oi := ⟨some 34, _, _, _, _, _⟩) (v := ?v5p) rfl (by kernel_rfl) (by kernel_rfl) (by kernel_rfl) (fun _ _ _ h => h) (Or.inl ⟨by rfl, ?h5p⟩) (by assumption) ?r5p
    case h5p => intro w hSw; (try dsimp only at hSw); go_simp; (try with_reducible rfl)
    try simp only [Act.put, List.setIfInBounds_toArray, List.set_cons_zero, List.set_cons_succ]
    refine wpAnyH_take (i := 6) (oi := ⟨some 35, _, _, _, _, _⟩) (v := ?v6p) rfl (by kernel_rfl) (by kernel_rfl) (by kernel_rfl) (fun _ _ _ h => h) (Or.inl ⟨by rfl, ?h6p⟩) (by assumption) ?r6p
    case h6p => intro w hSw; (try dsimp only at hSw); go_simp; (try with_reducible rfl)
    try simp only [Act.put, List.setIfInBounds_toArray, List.set_cons_zero, List.set_cons_succ]
    refine wpAnyH_take (i := 7) (oi := ⟨some 36, _, _, _, _, _⟩) (v := ?v7p) rfl (by kernel_rfl) (by kernel_rfl) (by kernel_rfl) (fun _ _ _ h => h) (Or.inl ⟨by rfl, ?h7p⟩) (by assumption) ?r7p
    case h7p => intro w hSw; (try dsimp only at hSw); obtain ⟨hSw, hSw2⟩ := hSw; go_simp; (try with_reducible rfl)
    try simp only [Act.put, List.setIfInBounds_toArray, List.set_cons_zero, List.set_cons_succ]
    refine wpAnyH_take (i := 8) (oi := ⟨some 37, _, _, _, _, _⟩) (v := ?v8p) rfl (by kernel_rfl) (by kernel_rfl) (by kernel_rfl) (fun _ _ _ h => h) (Or.inl ⟨by rfl, ?h8p⟩) (by assumption) ?r8p
    case h8p => intro w hSw; (try dsimp only at hSw); go_simp; (try with_reducible rfl)
    try simp only [Act.put, List.setIfInBounds_toArray, List.set_cons_zero, List.set_cons_succ]
    refine wpAnyH_take (i := 9) (oi := ⟨some 38, _, _, _, _, _⟩) (v := ?v9p) rfl (by kernel_rfl) (by kernel_rfl) (by kernel_rfl) (fun _ _ _ h => h) (Or.inl ⟨by rfl, ?h9p⟩) (by assumption) ?r9p
    case h9p => intro w hSw; (try dsimp only at hSw); go_simp; (try with_reducible rfl)
    try simp only [Act.put, List.setIfInBounds_toArray, List.set_cons_zero, List.set_cons_succ]
    refine wpAnyH_take (i := 10) (oi := ⟨some 39, _, _, _, _, _⟩) (v := ?v10p) rfl (by kernel_rfl) (by kernel_rfl) (by kernel_rfl) (fun _ _ _ h => h) (Or.inl ⟨by rfl, ?h10p⟩) (by assumption) ?r10p
    case h10p => intro w hSw; (try dsimp only at hSw); go_simp; (try with_reducible rfl)
    try simp only [Act.put, List.setIfInBounds_toArray, List.set_cons_zero, List.set_cons_succ]
    refine wpAnyH_take (i := 11) (oi := ⟨some 40, _, _, _, _, _⟩) (v := ?v11p) rfl (by kernel_rfl) (by kernel_rfl) (by kernel_rfl) (fun _ _ _ h => h) (Or.inl ⟨by rfl, ?h11p⟩) (by assumption) ?r11p
    case h11p => intro w hSw; (try dsimp only at hSw); obtain ⟨hSw, hSw2⟩ := hSw; go_simp; (try with_reducible rfl)
    try simp only [Act.put, List.setIfInBounds_toArray, List.set_cons_zero, List.set_cons_succ]
    refine wpAnyH_ready (rs := [12]) (by kernel_rfl) (by simp) ?_
    refine AllReadyH.cons (o := ⟨some 41, _, _, _, _, _⟩) rfl (fun K hK => ?_) AllReadyH.nil
    go_simp; (go_at_call 65; refine (HLen.out _ (HW.out _ ((Keeps.refl _ _).drew))).mono ?_; rintro z w5 ⟨rfl, hw5⟩; obtain rfl := hw5)
    refine hK.out _ _ (by (try dsimp only); exact hHeld) (fun hHeld => ?_)
    clear hK K
    try simp only [Act.put, List.setIfInBounds_toArray, List.set_cons_zero, List.set_cons_succ]
    refine wpAnyH_take (i := 13) (oi := ⟨some 42, _, _, _, _, _⟩) (v := ?v13p) rfl (by kernel_rfl) (by kernel_rfl) (by kernel_rfl) (fun _ _ _ h => h) (Or.inl ⟨by rfl, ?h13p⟩) (by assumption) ?r13p
    case h13p => intro w hSw; (try dsimp only at hSw); go_simp; (try with_reducible rfl)
    try simp only [Act.put, List.setIfInBounds_toArray, List.set_cons_zero, List.set_cons_succ]
    refine wpAnyH_take (i := 14) (oi := ⟨some 43, _, _, _, _, _⟩) (v := ?v14p) rfl (by kernel_rfl) (by kernel_rfl) (by kernel_rfl) (fun _ _ _ h => h) (Or.inl ⟨by rfl, ?h14p⟩) (by assumption) ?r14p
    case h14p => intro w hSw; (try dsimp only at hSw); go_simp; (try with_reducible rfl)
    try simp only [Act.put, List.setIfInBounds_toArray, List.set_cons_zero, List.set_cons_succ]
    refine wpAnyH_take (i := 15) (oi := ⟨some 44, _, _, _, _, _⟩) (v := ?v15p) rfl (by kernel_rfl) (by kernel_rfl) (by kernel_rfl) (fun _ _ _ h => h) (Or.inl ⟨by rfl, ?h15p⟩) (by assumption) ?r15p
    case h15p => intro w hSw; (try dsimp only at hSw); go_simp; (try with_reducible rfl)
    try simp only [Act.put, List.setIfInBounds_toArray, List.set_cons_zero, List.set_cons_succ]
    refine wpAnyH_done (by kernel_rfl) ?_ _
    have hM1 := HH.out.same (HX.out.1.drew)
    have HM1 := hid hM1
    have hb1 := HX.out.2.1.drew
    have hb1c := hb1.four
    have HB1 := hid hb1
    clear hM1 hb1 e3 e4 hHeld
    go_wp2_with fail
    refine (HCode.out _ HM1.out).mono ?_
    rintro z w5 ⟨rfl, hc5⟩
    have hb5 := Coded.blk HH.out hc5.1 HB1.out (Nat.le_of_eq HB.out.1)
    have hb5c := hb5.four
    have HC5 := hid (And.intro hc5 hb5)
    clear hc5 hb5 hb1c
    go_wp2_with fail
    obtain ⟨F6, hM6, hK6, hG6⟩ := HC5.out.1.1
    refine (HTell.out _ _ hM6.mm).mono ?_
    rintro z w6 ⟨rfl, h6⟩
    have hfin : LeftM w w6 L S' x (fun b => MF L q b ∨ F b) R.2 := by
      exact LeftM.pre (HX.out.1.drew) (LeftM.after hK6 hG6 (hM6.told h6))
    have HFin := hid hfin
    clear hfin h6 hM6 hK6 hG6 hb5c
    go_wp2_with fail
    go_ret
    exact ⟨rfl, HFin.out, HC5.out.1.2⟩
end Go.Proofs.YtalopgbkjgjppaaGreatDoor
