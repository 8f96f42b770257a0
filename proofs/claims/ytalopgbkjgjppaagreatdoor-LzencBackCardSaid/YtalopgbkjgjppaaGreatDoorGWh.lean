/- Part of a proof: Wh, By. -/
import Derived.Test.YtalopgbkjgjppaaGreatDoorDi
/- The walks of model's which, far, byte. -/
namespace Go.Proofs.YtalopgbkjgjppaaGreatDoor
open Go.RowKit Go.Cas Go.Cas.Enc

def whichGo (st i : Nat) : Nat → Nat → CSt → Nat × CSt
  | 0, k, s => (k + 1, s)
  | n + 1, k, s => let a := bitP 0 (418 + k * 12 + st) (min (i - 1 - k) 1) s; if a.1 = 0 then (k + 1, a.2) else whichGo st i n (k + 1) a.2
def whichP (st i : Nat) (s : CSt) : Nat × CSt := whichGo st i 2 0 s

theorem mcell_st (L : Lay) (S : MSt) (f : Nat → Nat) : mcell L S f 5 = i6 S.st := rfl

set_option maxHeartbeats 16000000 in
set_option maxRecDepth 100000 in
theorem mwhich_any (w : World) (L : Lay) (S : MSt) (P : Prb) (q : Option Addr) (cap x : Nat) (C : Cdr) (F : Nat → Prop) (i k : Nat) (h : MC w L S P q cap x C F) (hk : C.n ≤ k) (hk2 : k ≤ 80000000) (hi : i ≤ 10000) :
    Calls Tryz.prog 107 #[.pointer (some ⟨L.φ 0, 0, none⟩), ifV C x, i6 i] w fun z w' =>
      MCall w w' z (i6 (whichP S.st i (C, P)).1) L S q cap x F (k + 8) (whichP S.st i (C, P)).2 := by
  obtain ⟨R, hR⟩ : ∃ R, whichP S.st i (C, P) = R := ⟨_, rfl⟩
  rw [hR]
  have hR' : whichGo S.st i 2 0 (C, P) = R := hR
  unfold ifV
  obtain ⟨T, hT⟩ : ∃ T, ifT C = T := ⟨_, rfl⟩
  rw [hT]
  have HT := hid hT
  have hst := h.mm.par.2.2.1
  obtain ⟨st, hste⟩ : ∃ st, S.st = st := ⟨_, rfl⟩
  rw [hste] at hst hR'
  have HST := hid hste
  have HE := hid (rfl : C.isEnc = C.isEnc)
  clear hR hT hste
  go_enter Tryz.func107, Tryz.ntmps107
  go_wp2_with fail
  go_loopw [8] (fun s8 wr => ∃ (j : Nat) (C1 : Cdr) (P1 : Prb) (F1 : Nat → Prop), s8 = i6 j ∧ j ≤ 2 ∧ whichGo st i (2 - j) j (C1, P1) = R ∧ C1.isEnc = C.isEnc ∧ MC wr L S P1 q cap x C1 F1 ∧
    Keeps (fun b => (∃ i, L.used i ∧ L.φ i = b) ∨ F b) w wr ∧ (∀ b, F1 b → F b ∨ w.heap.size ≤ b) ∧ C1.n ≤ k + 4 * j) (fun s8 _ => 2 - (intOf s8).toNat)
  case atStart => exact ⟨0, C, P, F, rfl, by decide, hR', rfl, h, Keeps.refl _ _, fun _ hb => .inl hb, by omega⟩
  case round =>
    clear h hR' hk
    obtain ⟨j, C1, P1, F1, rfl, hj, hfin, he1, hM, hK, hG, hn⟩ := hrel
    by_cases hj2 : j = 2
    · subst hj2
      have d0 : decide (((2 : Nat) : Int) < 2) = false := by simp
      have hfin' : ((3 : Nat), (C1, P1)) = R := hfin
      have HX := hid (And.intro hfin' (And.intro hM (And.intro hK (And.intro hG hn))))
      clear hfin hM hK hG hn hfin' he1
      go_wp2_with fail
      go_ret
      obtain ⟨hfin', hM, hK, hG, hn⟩ := HX.out
      subst hfin'
      exact ⟨rfl, ⟨F1, hM, hK, hG⟩, by omega⟩
    · have hjl : j < 2 := by omega
      have d0 : decide ((j : Int) < 2) = true := by simp; omega
      have hlc := hM.mm.mcell 5 (by decide)
      rw [mcell_st, HST.out] at hlc
      have hna := nil_bit C1 x
      have hme := met_bit C1 x
      have hcf := cf_bit C1
      have hT1 : ifT C1 = T := by rw [← HT.out]; unfold ifT; rw [he1]
      rw [hT1] at hna hme
      obtain ⟨i1, hi1⟩ : ∃ i1 : Int, (i : Int) - 1 = i1 := ⟨_, rfl⟩
      obtain ⟨i2, hi2⟩ : ∃ i2 : Int, i1 - (j : Int) = i2 := ⟨_, rfl⟩
      have f1 : IntKind.i64.wrap i1 = i1 := IntWalk.i64_in _ (by omega)
      have f2 : IntKind.i64.wrap i2 = i2 := IntWalk.i64_in _ (by omega)
      obtain ⟨off, hoff⟩ : ∃ off, 418 + j * 12 + st = off := ⟨_, rfl⟩
      have hmin : min (max i2 0) 1 = ((min (i - 1 - j) 1 : Nat) : Int) := by omega
      have ob : 10 ≤ off ∧ off < 442 := by omega
      have hj0 : (0 : Int) ≤ (j : Int) := by omega
      have hj1 : (j : Int) < 2 := by omega
      have hs0 : (0 : Int) ≤ (st : Int) := by omega
      have hs1 : (st : Int) < 12 := by omega
      have i1b : -1 ≤ i1 ∧ i1 ≤ 10000 := by omega
      have i2b : -2 ≤ i2 ∧ i2 ≤ 10000 := by omega
      have hk4 : k + 4 * j ≤ 90000000 := by omega
      have HX := hid (And.intro hfin (And.intro hM (And.intro hK (And.intro hG (And.intro hn (And.intro he1 hmin))))))
      have HJ := hid (And.intro hj (And.intro hjl ob))
      clear hfin hM hK hG hn he1 hT1 hj hjl hj2 hmin ob
      go_upto_region 4 with fail
      refine wp_region_held_drew (S := (fun V => V.cell? ⟨L.φ 0, 5, none⟩ = some (i6 st))) (by kernel_rfl) (by (try dsimp only); exact hlc) (fun hHeld => ?_)
      refine wpAnyH_take (i := 0) (oi := ⟨some 11, _, _, _, _, _⟩) (v := ?v0a) rfl (by kernel_rfl) (by kernel_rfl) (by kernel_rfl) (fun _ _ _ h => h) (Or.inl ⟨by rfl, ?h0a⟩) (by assumption) ?r0a
      case h0a => intro w hSw; (try dsimp only at hSw); go_simp; (try with_reducible rfl)
      try simp only [Act.put, List.setIfInBounds_toArray, List.set_cons_zero, List.set_cons_succ]
      refine wpAnyH_take (i := 1) (oi := ⟨some 12, _, _, _, _, _⟩) (v := ?v1a) rfl (by kernel_rfl) (by kernel_rfl) (by kernel_rfl) (fun _ _ _ h => h) (Or.inl ⟨by rfl, ?h1a⟩) (by assumption) ?r1a
      case h1a => intro w hSw; (try dsimp only at hSw); go_simp; (try with_reducible rfl)
      try simp only [Act.put, List.setIfInBounds_toArray, List.set_cons_zero, List.set_cons_succ]
      refine wpAnyH_take (i := 2) (oi := ⟨some 13, _, _, _, _, _⟩) (v := ?v2a) rfl (by kernel_rfl) (by kernel_rfl) (by kernel_rfl) (fun _ _ _ h => h) (Or.inl ⟨by rfl, ?h2a⟩) (by assumption) ?r2a
      case h2a => intro w hSw; (try dsimp only at hSw); go_simp; (try with_reducible rfl)
      try simp only [Act.put, List.setIfInBounds_toArray, List.set_cons_zero, List.set_cons_succ]
      refine wpAnyH_take (i := 3) (oi := ⟨some 14, _, _, _, _, _⟩) (v := ?v3a) rfl (by kernel_rfl) (by kernel_rfl) (by kernel_rfl) (fun _ _ _ h => h) (Or.inl ⟨by rfl, ?h3a⟩) (by assumption) ?r3a
      case h3a => intro w hSw; (try dsimp only at hSw); go_simp; (try with_reducible rfl)
      try simp only [Act.put, List.setIfInBounds_toArray, List.set_cons_zero, List.set_cons_succ]
      refine wpAnyH_take (i := 4) (oi := ⟨some 15, _, _, _, _, _⟩) (v := ?v4a) rfl (by kernel_rfl) (by kernel_rfl) (by kernel_rfl) (fun _ _ _ h => h) (Or.inl ⟨by rfl, ?h4a⟩) (by assumption) ?r4a
      case h4a => intro w hSw; (try dsimp only at hSw); go_simp; (try with_reducible rfl)
      try simp only [Act.put, List.setIfInBounds_toArray, List.set_cons_zero, List.set_cons_succ]
      refine wpAnyH_take (i := 5) (oi := ⟨some 16, _, _, _, _, _⟩) (v := ?v5a) rfl (by kernel_rfl) (by kernel_rfl) (by kernel_rfl) (fun _ _ _ h => h) (Or.inl ⟨by rfl, ?h5a⟩) (by assumption) ?r5a
      case h5a => intro w hSw; (try dsimp only at hSw); go_simp; (try with_reducible rfl)
      try simp only [Act.put, List.setIfInBounds_toArray, List.set_cons_zero, List.set_cons_succ]
      refine wpAnyH_take (i := 6) (oi := ⟨some 17, _, _, _, _, _⟩) (v := ?v6a) rfl (by kernel_rfl) (by kernel_rfl) (by kernel_rfl) (fun _ _ _ h => h) (Or.inl ⟨by rfl, ?h6a⟩) (by assumption) ?r6a
      case h6a => intro w hSw; (try dsimp only at hSw); go_simp; (try with_reducible rfl)
      try simp only [Act.put, List.setIfInBounds_toArray, List.set_cons_zero, List.set_cons_succ]
      refine wpAnyH_take (i := 7) (oi := ⟨some 18, _, _, _, _, _⟩) (v := ?v7a) rfl (by kernel_rfl) (by kernel_rfl) (by kernel_rfl) (fun _ _ _ h => h) (Or.inl ⟨by rfl, ?h7a⟩) (by assumption) ?r7a
      case h7a => intro w hSw; (try dsimp only at hSw); go_simp; (try with_reducible rfl)
      try simp only [Act.put, List.setIfInBounds_toArray, List.set_cons_zero, List.set_cons_succ]
      refine wpAnyH_take (i := 8) (oi := ⟨some 19, _, _, _, _, _⟩) (v := ?v8a) rfl (by kernel_rfl) (by kernel_rfl) (by kernel_rfl) (fun _ _ _ h => h) (Or.inl ⟨by rfl, ?h8a⟩) (by assumption) ?r8a
      case h8a => intro w hSw; (try dsimp only at hSw); go_simp; (try with_reducible rfl)
      try simp only [Act.put, List.setIfInBounds_toArray, List.set_cons_zero, List.set_cons_succ]
      refine wpAnyH_take (i := 9) (oi := ⟨some 20, _, _, _, _, _⟩) (v := ?v9a) rfl (by kernel_rfl) (by kernel_rfl) (by kernel_rfl) (fun _ _ _ h => h) (Or.inl ⟨by rfl, ?h9a⟩) (by assumption) ?r9a
      case h9a => intro w hSw; (try dsimp only at hSw); go_simp; (try with_reducible rfl)
      try simp only [Act.put, List.setIfInBounds_toArray, List.set_cons_zero, List.set_cons_succ]
      refine wpAnyH_take (i := 10) (oi := ⟨some 21, _, _, _, _, _⟩) (v := ?v10a) rfl (by kernel_rfl) (by kernel_rfl) (by kernel_rfl) (fun _ _ _ h => h) (Or.inl ⟨by rfl, ?h10a⟩) (by assumption) ?r10a
      case h10a => intro w hSw; (try dsimp only at hSw); go_simp; (try with_reducible rfl)
      try simp only [Act.put, List.setIfInBounds_toArray, List.set_cons_zero, List.set_cons_succ]
      refine wpAnyH_take (i := 11) (oi := ⟨some 22, _, _, _, _, _⟩) (v := ?v11a) rfl (by kernel_rfl) (by kernel_rfl) (by kernel_rfl) (fun _ _ _ h => h) (Or.inl ⟨by rfl, ?h11a⟩) (by assumption) ?r11a
      case h11a => intro w hSw; (try dsimp only at hSw); go_simp; (try with_reducible rfl)
      try simp only [Act.put, List.setIfInBounds_toArray, List.set_cons_zero, List.set_cons_succ]
      refine wpAnyH_take (i := 12) (oi := ⟨some 23, _, _, _, _, _⟩) (v := ?v12a) rfl (by kernel_rfl) (by kernel_rfl) (by kernel_rfl) (fun _ _ _ h => h) (Or.inl ⟨by rfl, ?h12a⟩) (by assumption) ?r12a
      case h12a => intro w hSw; (try dsimp only at hSw); go_simp; (try with_reducible rfl)
      try simp only [Act.put, List.setIfInBounds_toArray, List.set_cons_zero, List.set_cons_succ]
      refine wpAnyH_take (i := 13) (oi := ⟨some 24, _, _, _, _, _⟩) (v := ?v13a) rfl (by kernel_rfl) (by kernel_rfl) (by kernel_rfl) (fun _ _ _ h => h) (Or.inl ⟨by rfl, ?h13a⟩) (by assumption) ?r13a
      case h13a => intro w hSw; (try dsimp only at hSw); go_simp; (try with_reducible rfl)
      try simp only [Act.put, List.setIfInBounds_toArray, List.set_cons_zero, List.set_cons_succ]
      refine wpAnyH_take (i := 14) (oi := ⟨some 25, _, _, _, _, _⟩) (v := ?v14a) rfl (by kernel_rfl) (by kernel_rfl) (by kernel_rfl) (fun _ _ _ h => h) (Or.inl ⟨by rfl, ?h14a⟩) (by assumption) ?r14a
      case h14a => intro w hSw; (try dsimp only at hSw); go_simp; (try with_reducible rfl)
      try simp only [Act.put, List.setIfInBounds_toArray, List.set_cons_zero, List.set_cons_succ]
      refine wpAnyH_take (i := 15) (oi := ⟨some 26, _, _, _, _, _⟩) (v := ?v15a) rfl (by kernel_rfl) (by kernel_rfl) (by kernel_rfl) (fun _ _ _ h => h) (Or.inl ⟨by rfl, ?h15a⟩) (by assumption) ?r15a
      case h15a => intro w hSw; (try dsimp only at hSw); go_simp; (try with_reducible rfl)
      try simp only [Act.put, List.setIfInBounds_toArray, List.set_cons_zero, List.set_cons_succ]
      refine wpAnyH_take (i := 16) (oi := ⟨some 27, _, _, _, _, _⟩) (v := ?v16a) rfl (by kernel_rfl) (by kernel_rfl) (by kernel_rfl) (fun _ _ _ h => h) (Or.inl ⟨by rfl, ?h16a⟩) (by assumption) ?r16a
      case h16a => intro w hSw; (try dsimp only at hSw); go_simp; (try with_reducible rfl)
      try simp only [Act.put, List.setIfInBounds_toArray, List.set_cons_zero, List.set_cons_succ]
      refine wpAnyH_take (i := 17) (oi := ⟨some 28, _, _, _, _, _⟩) (v := ?v17a) rfl (by kernel_rfl) (by kernel_rfl) (by kernel_rfl) (fun _ _ _ h => h) (Or.inl ⟨by rfl, ?h17a⟩) (by assumption) ?r17a
      case h17a => intro w hSw; (try dsimp only at hSw); go_simp; (try with_reducible rfl)
      try simp only [Act.put, List.setIfInBounds_toArray, List.set_cons_zero, List.set_cons_succ]
      refine wpAnyH_take (i := 18) (oi := ⟨some 29, _, _, _, _, _⟩) (v := ?v18a) rfl (by kernel_rfl) (by kernel_rfl) (by kernel_rfl) (fun _ _ _ h => h) (Or.inl ⟨by rfl, ?h18a⟩) (by assumption) ?r18a
      case h18a => intro w hSw; (try dsimp only at hSw); go_simp; (try with_reducible rfl)
      try simp only [Act.put, List.setIfInBounds_toArray, List.set_cons_zero, List.set_cons_succ]
      refine wpAnyH_take (i := 19) (oi := ⟨some 30, _, _, _, _, _⟩) (v := ?v19a) rfl (by kernel_rfl) (by kernel_rfl) (by kernel_rfl) (fun _ _ _ h => h) (Or.inl ⟨by rfl, ?h19a⟩) (by assumption) ?r19a
      case h19a => intro w hSw; (try dsimp only at hSw); go_simp; (try with_reducible rfl)
      try simp only [Act.put, List.setIfInBounds_toArray, List.set_cons_zero, List.set_cons_succ]
      refine wpAnyH_ready (rs := [20]) (by kernel_rfl) (by simp) ?_
      refine AllReadyH.cons (o := ⟨some 31, _, _, _, _, _⟩) rfl (fun K hK => ?_) AllReadyH.nil
      go_simp; refine ((HX.out.2.1.same ((Keeps.refl _ _).drew)).bit (i := 0) (o := off) (h := min (i - 1 - j) 1) HX.out.2.2.2.2.1 hk4 (.inl ⟨rfl, HJ.out.2.2.1, HJ.out.2.2.2⟩) (fun hc => by (have := HX.out.2.2.2.2.2.2; omega))).mono ?_; intro z w6 h6; obtain ⟨rfl, F6, hM6, hK6, hG6, hk6⟩ := Coded.at h6; have hl6 := hM6.mm.mcell 5 (by decide); rw [mcell_st, HST.out] at hl6
      refine hK.out _ _ (by (try dsimp only); exact hl6) (fun hHeld => ?_)
      clear hK K
      try simp only [Act.put, List.setIfInBounds_toArray, List.set_cons_zero, List.set_cons_succ]
      refine wpAnyH_take (i := 21) (oi := ⟨some 32, _, _, _, _, _⟩) (v := ?v21a) rfl (by kernel_rfl) (by kernel_rfl) (by kernel_rfl) (fun _ _ _ h => h) (Or.inl ⟨by rfl, ?h21a⟩) (by assumption) ?r21a
      case h21a => intro w hSw; (try dsimp only at hSw); go_simp; (try with_reducible rfl)
      try simp only [Act.put, List.setIfInBounds_toArray, List.set_cons_zero, List.set_cons_succ]
      refine wpAnyH_done (by kernel_rfl) ?_ _
      clear hHeld
      obtain ⟨hfin, hM, hK, hG, hn, he1, hmin⟩ := HX.out
      obtain ⟨hj, hjl, ob⟩ := HJ.out
      obtain ⟨n2, hn2⟩ : ∃ n2, 2 - j = n2 + 1 := ⟨1 - j, by omega⟩
      have hstep : (if (bitP 0 off (min (i - 1 - j) 1) (C1, P1)).1 = 0 then (j + 1, (bitP 0 off (min (i - 1 - j) 1) (C1, P1)).2) else whichGo st i n2 (j + 1) (bitP 0 off (min (i - 1 - j) 1) (C1, P1)).2) = R := by
        rw [hn2, whichGo, hoff] at hfin
        exact hfin
      have he2 : (bitP 0 off (min (i - 1 - j) 1) (C1, P1)).2.1.isEnc = C.isEnc := (bitP_enc _ _ _ _).trans he1
      generalize hb1 : (bitP 0 off (min (i - 1 - j) 1) (C1, P1)).1 = b1 at *
      generalize hs1 : (bitP 0 off (min (i - 1 - j) 1) (C1, P1)).2 = s1 at *
      obtain ⟨C2, P2⟩ := s1
      have hK2 : Keeps (fun b => (∃ i, L.used i ∧ L.φ i = b) ∨ F b) w w6 ∧ ∀ b, F6 b → F b ∨ w.heap.size ≤ b := by
        obtain ⟨F7, g1, g2, g3⟩ := Coded.trans hK hG (Coded.trans (q := q) (cap := cap) (x := x) (s := (C2, P2)) (Keeps.of_same (Keeps.refl _ wr).drew) (fun _ h => .inl h) ⟨F6, hM6, hK6, hG6⟩)
        exact ⟨g2, fun b hb => by
          rcases hG6 b hb with h | h
          · exact hG b h
          · exact .inr (Nat.le_trans hK.size (by simpa using h))⟩
      have HY := hid (And.intro hstep (And.intro he2 (And.intro hM6 (And.intro hK2 (And.intro hk6 (And.intro hn2 (And.intro hj hjl)))))))
      clear hfin hM hK hG hn he1 hmin hj hjl ob hn2 hstep he2 hb1 hs1 hK2 hM6 hK6 hG6 hk6 h6 HX HJ hme hna hcf hl6 hlc
      by_cases hb0 : b1 = 0
      · have d1 : ((b1 : Int) == 0) = true := by simp; omega
        have HB := hid hb0
        have fj : IntKind.i64.wrap ((j : Int) + 1) = (j : Int) + 1 := IntWalk.i64_in _ (by omega)
        clear hb0
        go_wp2_with fail
        go_ret
        obtain ⟨hstep, he2, hM6, hK2, hk6, hn2, hj, hjl⟩ := HY.out
        rw [if_pos HB.out] at hstep
        rw [← hstep]
        exact ⟨rfl, ⟨F6, hM6, hK2.1, hK2.2⟩, Nat.le_trans hk6 (by omega)⟩
      · have d1 : ((b1 : Int) == 0) = false := by simp; omega
        have HB := hid hb0
        have fj : IntKind.i64.wrap ((j : Int) + 1) = (j : Int) + 1 := IntWalk.i64_in _ (by omega)
        clear hb0
        go_wp2_with fail
        obtain ⟨hstep, he2, hM6, hK2, hk6, hn2, hj, hjl⟩ := HY.out
        rw [if_neg HB.out] at hstep
        go_roundw
        case rel => exact ⟨j + 1, C2, P2, F6, by go_num, by omega, by rw [show 2 - (j + 1) = n2 from by omega]; exact hstep, he2, hM6, hK2.1, hK2.2, Nat.le_trans hk6 (by omega)⟩
        case measure => simp [intOf]; omega

theorem lengthP_enc (t pl n : Nat) (s : CSt) : (lengthP t pl n s).2.1.isEnc = s.1.isEnc := by
  unfold lengthP
  dsimp only
  split
  · dsimp only
    rw [treeP_enc, bitP_enc]
  · split
    · dsimp only
      rw [treeP_enc, bitP_enc, bitP_enc]
    · dsimp only
      rw [treeP_enc, bitP_enc, bitP_enc]

def farP (pl d n : Nat) (s : CSt) : (Nat × Nat) × CSt :=
  let l := lengthP 0 pl n s
  let e := distP (classN l.1) d l.2
  ((e.1, l.1), e.2)

theorem classN_lt (n : Nat) : classN n < 4 := by
  unfold classN
  split
  · omega
  · split <;> omega

theorem mcell_lens (L : Lay) (S : MSt) (f : Nat → Nat) (t : Nat) (ht : t < 2) : mcell L S f (462 + t) = .pointer (some ⟨L.φ (1 + t), 0, none⟩) := by
  unfold mcell
  rw [if_neg (by omega), if_neg (by omega), if_neg (by omega), if_neg (by omega), if_neg (by omega), if_neg (by omega), if_neg (by omega), if_neg (by omega), if_neg (by omega), if_neg (by omega), if_neg (by omega), if_neg (by omega), if_neg (by omega), if_neg (by omega), if_neg (by omega), if_neg (by omega), show 462 + t - 461 = 1 + t from by omega]

set_option maxHeartbeats 4000000 in
set_option maxRecDepth 100000 in
theorem mfar_any (w : World) (L : Lay) (S : MSt) (P : Prb) (q : Option Addr) (cap x : Nat) (C : Cdr) (F : Nat → Prop) (d n k : Nat) (nI : Int) (h : MC w L S P q cap x C F) (hk : C.n ≤ k) (hk2 : k ≤ 70000000) (hd : d < 4294967296)
    (hh : C.isEnc = true → nI = n + 2 ∧ n < 272) (hI : -10 ≤ nI ∧ nI ≤ 10000) (hl : (lengthP 0 (placeN L S) n (C, P)).1 ≤ 1000000) :
    Calls Tryz.prog 89 #[.pointer (some ⟨L.φ 0, 0, none⟩), ifV C x, v32 d, i6 nI] w fun z w' =>
      MCall w w' z (.tuple #[v32 (farP (placeN L S) d n (C, P)).1.1, i6 (farP (placeN L S) d n (C, P)).1.2]) L S q cap x F (k + 200) (farP (placeN L S) d n (C, P)).2 := by
  have HL := hid (fun w0 (hm : MC w0 L S P q cap x C F) => mlength_any w0 L S P q cap x C F 0 n k nI hm (by decide) hk (by omega) hh hI)
  have hlc := h.mm.mcell 462 (by decide)
  rw [show (462 : Nat) = 462 + 0 from rfl, mcell_lens L S _ 0 (by decide)] at hlc
  unfold farP
  dsimp only
  have he1 := lengthP_enc 0 (placeN L S) n (C, P)
  obtain ⟨T, hT⟩ : ∃ T, ifV C x = T := ⟨_, rfl⟩
  rw [hT] at HL ⊢
  have hT1 : ifV (lengthP 0 (placeN L S) n (C, P)).2.1 x = T := by rw [← hT]; unfold ifV ifT; rw [he1]
  obtain ⟨r, hr⟩ : ∃ r, lengthP 0 (placeN L S) n (C, P) = r := ⟨_, rfl⟩
  rw [hr] at HL hl hT1 ⊢
  obtain ⟨l1, C1, P1⟩ := r
  have HC := hid (fun w0 => class_any l1 w0 hl)
  have hc4 := classN_lt l1
  obtain ⟨cl, hcl⟩ : ∃ cl, classN l1 = cl := ⟨_, rfl⟩
  rw [hcl] at HC hc4
  have HCl := hid hcl
  have HM := hid h
  have HT1 := hid hT1
  clear h hcl hT1 hT he1 hr hh hk
  go_enter Tryz.func89, Tryz.ntmps89
  go_wp2_with fail
  refine (HL.out _ HM.out).mono ?_
  intro z w6 h6
  obtain ⟨rfl, F6, hM6, hK6, hG6, hk6⟩ := Coded.at h6
  dsimp only at hM6 hk6
  have HX := hid (And.intro hM6 (And.intro hK6 (And.intro hG6 hk6)))
  clear hM6 hK6 hG6 hk6 h6
  dsimp only
  go_wp2_with (first | (go_at_call 110; refine (HC.out _).mono ?_; rintro z w7 ⟨rfl, hw7⟩; obtain rfl := hw7.symm) | fail)
  have HD := hid (mdist_any w6 L S P1 q cap x C1 F6 cl d (k + 40) HX.out.1 hc4 HX.out.2.2.2 (by omega) hd)
  rw [HT1.out] at HD
  refine HD.out.mono ?_
  intro z w8 h8
  have hc := MCall.then HX.out.2.1 HX.out.2.2.1 h8
  obtain ⟨rfl, h8b⟩ := hc
  have H8 := hid h8b
  clear h8 h8b
  go_wp2_with fail
  go_ret2
  rw [HCl.out]
  exact ⟨rfl, H8.out.1, Nat.le_trans H8.out.2 (by omega)⟩
end Go.Proofs.YtalopgbkjgjppaaGreatDoor

/- The walk of model's byte. -/
namespace Go.Proofs.YtalopgbkjgjppaaGreatDoor
open Go.RowKit Go.Cas Go.Cas.Enc

def byteP (L : Lay) (S : MSt) (b : Nat) (s : CSt) : Nat × CSt := if S.st < 7 then treeP (88 + litN L S) 8 b s else likeP (88 + litN L S) b (atB S.text S.r0).toNat s

theorem MC.treeL_lt {w : World} {L : Lay} {S : MSt} {P : Prb} {q : Option Addr} {cap x : Nat} {C : Cdr} {F : Nat → Prop} {a h : Nat} (hm : MC w L S P q cap x C F) (ha : a < L.cnt) : (treeP (88 + a) 8 h (C, P)).1 < 256 := by
  have ht := (ok_tree (by omega)).1 (hm.mm.ok (88 + a) (used_lit ha))
  have hN : tsz (88 + a) = 1024 := by unfold tsz; rw [if_neg (by omega), if_neg (by omega), if_neg (by omega), if_neg (by omega), if_neg (by omega)]
  rw [hN] at ht
  have hf := (treeR_fit (T := 8) (by decide) h 8 1 C (P (88 + a)) _ ⟨hm.ok, Nat.le_refl _⟩ ht (by decide)).2.2
  show (treeR h 8 1 C (P (88 + a))).1 - 2 ^ 8 < 256
  omega

theorem tree_lit (L : Lay) (a : Nat) : L.tree (88 + a) = .slice (some ⟨L.φ (88 + a), 0, none⟩) 1024 1024 := by
  have hN : tsz (88 + a) = 1024 := by unfold tsz; rw [if_neg (by omega), if_neg (by omega), if_neg (by omega), if_neg (by omega), if_neg (by omega)]
  unfold Lay.tree; rw [hN]

set_option maxHeartbeats 8000000 in
set_option maxRecDepth 100000 in
theorem mbyte_any (w : World) (L : Lay) (S : MSt) (P : Prb) (q : Option Addr) (cap x : Nat) (C : Cdr) (F : Nat → Prop) (b : UInt8) (k : Nat) (h : MC w L S P q cap x C F) (hk : C.n ≤ k) (hk2 : k ≤ 80000000) :
    Calls Tryz.prog 87 #[.pointer (some ⟨L.φ 0, 0, none⟩), ifV C x, b8 b] w fun z w' =>
      MCall w w' z (b8 (UInt8.ofNat (byteP L S b.toNat (C, P)).1)) L S q cap x F (k + 32) (byteP L S b.toNat (C, P)).2 := by
  have hix := litN_lt L S h.mm.par.1
  have HLi := hid (fun w0 (hm : MM w0 L S P q cap) => mliteral_any w0 L S P q cap hm)
  have HSt := hid (fun w0 => literal_any S.st w0)
  have HAt : Hid (∀ w0, Win w0 L.wb L.most S.text q cap → Calls Tryz.prog 106 #[.pointer (some ⟨L.wb, 0, none⟩), i6 S.r0] w0 fun e w' => e = .returned (.tuple #[b8 (atB S.text S.r0), .bool (atOk S.text S.r0)]) ∧ Same w0 w') :=
    hid fun w0 hw => (wat_any L.wb L.most cap S.text q S.r0 w0 hw (h.mm.par.2.2.2)).mono fun e w' hz => ⟨hz.1, by
      obtain ⟨n, hn⟩ := hz.2
      subst hn
      exact (Keeps.refl _ _).drewN _⟩
  have htl := tree_lit L (litN L S)
  obtain ⟨a, ha⟩ : ∃ a, litN L S = a := ⟨_, rfl⟩
  rw [ha] at HLi hix htl
  rw [htl] at HLi
  have e5 : mcell L S (P 0) 5 = i6 S.st := rfl
  have e4 : mcell L S (P 0) 4 = .pointer (some ⟨L.wb, 0, none⟩) := rfl
  have e6 : mcell L S (P 0) 6 = i6 S.r0 := rfl
  have HTree := hid (fun (w0 : World) (hm : MC w0 L S P q cap x C F) (hI : Int) (hh : Hint C b.toNat hI 256) => hm.treeL (a := a) (h := b.toNat) (hI := hI) hk (by omega) hix hh)
  have HLike := hid (fun (w0 : World) (hm : MC w0 L S P q cap x C F) (o : UInt8) => hm.like (a := a) (h := b) (other := o) hk (by omega) hix)
  have HTl := hid (h.treeL_lt (h := b.toNat) hix)
  have hres : byteP L S b.toNat (C, P) = if S.st < 7 then treeP (88 + a) 8 b.toNat (C, P) else likeP (88 + a) b.toNat (atB S.text S.r0).toNat (C, P) := by unfold byteP; rw [ha]
  obtain ⟨R, hR⟩ : ∃ R, byteP L S b.toNat (C, P) = R := ⟨_, rfl⟩
  rw [hR] at hres ⊢
  clear hR
  obtain ⟨st, hste⟩ : ∃ st, S.st = st := ⟨_, rfl⟩
  obtain ⟨r0, hr0⟩ : ∃ r0, S.r0 = r0 := ⟨_, rfl⟩
  obtain ⟨y, hy⟩ : ∃ y, atB S.text r0 = y := ⟨_, rfl⟩
  obtain ⟨ok, hok⟩ : ∃ ok, atOk S.text r0 = ok := ⟨_, rfl⟩
  rw [hste] at HSt e5 hres
  rw [hr0] at HAt e6 hres
  rw [hy] at HAt hres
  have HR := hid hres
  rw [hok] at HAt
  have hna := nil_tree C x
  have hme := met_tree C x
  have hcf := cf_tree C
  have hna2 := met_like C x
  have hcf2 := cf_like C
  have hnl := nil_bit C x
  unfold ifV
  obtain ⟨T, hT⟩ : ∃ T, ifT C = T := ⟨_, rfl⟩
  rw [hT] at hna hme hna2 hnl ⊢
  have HE := hid (And.intro e4 (And.intro e5 e6))
  have HM := hid h
  have HL2 := hid htl
  clear h ha hres hste hr0 hy hok hT e4 e5 e6 htl hk
  go_enter Tryz.func87, Tryz.ntmps87
  go_wp2_with fail
  refine (HLi.out _ HM.out.mm).mono ?_
  rintro z w1 ⟨rfl, hs1⟩
  have HM1 := hid (HM.out.same hs1)
  have HS1 := hid hs1
  have c5 := HM1.out.mm.mcell 5 (by decide)
  rw [HE.out.2.1] at c5
  clear hs1
  by_cases h7 : st < 7
  · have d7 : decide (st < 7) = true := by simpa using h7
    rw [d7] at HSt
    have H7 := hid h7
    clear h7 d7 hna2 hcf2 hnl
    have hby : IntKind.i64.wrap (b.toNat : Int) = (b.toNat : Int) := IntWalk.i64_in _ (by have := b.toNat_lt; omega)
    go_upto_region 3 with (go_at_call 105; refine (HSt.out _).mono ?_; rintro z w7 ⟨rfl, hw7⟩; obtain rfl := hw7.symm)
    refine wp_region_held_drew (S := (fun V => True)) (by kernel_rfl) (by (try dsimp only); (first | done | trivial)) (fun hHeld => ?_)
    refine wpAnyH_take (i := 0) (oi := ⟨some 17, _, _, _, _, _⟩) (v := ?v0a) rfl (by kernel_rfl) (by kernel_rfl) (by kernel_rfl) (fun _ _ _ h => h) (Or.inl ⟨by rfl, ?h0a⟩) (by assumption) ?r0a
    case h0a => intro w hSw; (try dsimp only at hSw); go_simp; (try with_reducible rfl)
    try simp only [Act.put, List.setIfInBounds_toArray, List.set_cons_zero, List.set_cons_succ]
    refine wpAnyH_take (i := 1) (oi := ⟨some 18, _, _, _, _, _⟩) (v := ?v1a) rfl (by kernel_rfl) (by kernel_rfl) (by kernel_rfl) (fun _ _ _ h => h) (Or.inl ⟨by rfl, ?h1a⟩) (by assumption) ?r1a
    case h1a => intro w hSw; (try dsimp only at hSw); go_simp; (try with_reducible rfl)
    try simp only [Act.put, List.setIfInBounds_toArray, List.set_cons_zero, List.set_cons_succ]
    refine wpAnyH_take (i := 2) (oi := ⟨some 19, _, _, _, _, _⟩) (v := ?v2a) rfl (by kernel_rfl) (by kernel_rfl) (by kernel_rfl) (fun _ _ _ h => h) (Or.inl ⟨by rfl, ?h2a⟩) (by assumption) ?r2a
    case h2a => intro w hSw; (try dsimp only at hSw); go_simp; (try with_reducible rfl)
    try simp only [Act.put, List.setIfInBounds_toArray, List.set_cons_zero, List.set_cons_succ]
    refine wpAnyH_take (i := 3) (oi := ⟨some 20, _, _, _, _, _⟩) (v := ?v3a) rfl (by kernel_rfl) (by kernel_rfl) (by kernel_rfl) (fun _ _ _ h => h) (Or.inl ⟨by rfl, ?h3a⟩) (by assumption) ?r3a
    case h3a => intro w hSw; (try dsimp only at hSw); go_simp; (try with_reducible rfl)
    try simp only [Act.put, List.setIfInBounds_toArray, List.set_cons_zero, List.set_cons_succ]
    refine wpAnyH_take (i := 4) (oi := ⟨some 21, _, _, _, _, _⟩) (v := ?v4a) rfl (by kernel_rfl) (by kernel_rfl) (by kernel_rfl) (fun _ _ _ h => h) (Or.inl ⟨by rfl, ?h4a⟩) (by assumption) ?r4a
    case h4a => intro w hSw; (try dsimp only at hSw); go_simp; (try with_reducible rfl)
    try simp only [Act.put, List.setIfInBounds_toArray, List.set_cons_zero, List.set_cons_succ]
    refine wpAnyH_take (i := 5) (oi := ⟨some 22, _, _, _, _, _⟩) (v := ?v5a) rfl (by kernel_rfl) (by kernel_rfl) (by kernel_rfl) (fun _ _ _ h => h) (Or.inl ⟨by rfl, ?h5a⟩) (by assumption) ?r5a
    case h5a => intro w hSw; (try dsimp only at hSw); go_simp; (try with_reducible rfl)
    try simp only [Act.put, List.setIfInBounds_toArray, List.set_cons_zero, List.set_cons_succ]
    refine wpAnyH_take (i := 6) (oi := ⟨some 23, _, _, _, _, _⟩) (v := ?v6a) rfl (by kernel_rfl) (by kernel_rfl) (by kernel_rfl) (fun _ _ _ h => h) (Or.inl ⟨by rfl, ?h6a⟩) (by assumption) ?r6a
    case h6a => intro w hSw; (try dsimp only at hSw); go_simp; (try with_reducible rfl)
    try simp only [Act.put, List.setIfInBounds_toArray, List.set_cons_zero, List.set_cons_succ]
    refine wpAnyH_take (i := 7) (oi := ⟨some 24, _, _, _, _, _⟩) (v := ?v7a) rfl (by kernel_rfl) (by kernel_rfl) (by kernel_rfl) (fun _ _ _ h => h) (Or.inl ⟨by rfl, ?h7a⟩) (by assumption) ?r7a
    case h7a => intro w hSw; (try dsimp only at hSw); go_simp; (try with_reducible rfl)
    try simp only [Act.put, List.setIfInBounds_toArray, List.set_cons_zero, List.set_cons_succ]
    refine wpAnyH_ready (rs := [8]) (by kernel_rfl) (by simp) ?_
    refine AllReadyH.cons (o := ⟨some 25, _, _, _, _, _⟩) rfl (fun K hK => ?_) AllReadyH.nil
    go_simp; refine (HTree.out _ (HM1.out.same ((Keeps.refl _ _).drew)) _ (fun hc => ⟨rfl, by have := b.toNat_lt; omega⟩)).mono ?_; intro z w6 h6; have H6 := hid h6; obtain ⟨rfl, h6b⟩ := h6; clear h6b
    refine hK.out _ _ (by (try dsimp only); (first | done | trivial)) (fun hHeld => ?_)
    clear hK K
    try simp only [Act.put, List.setIfInBounds_toArray, List.set_cons_zero, List.set_cons_succ]
    refine wpAnyH_take (i := 9) (oi := ⟨some 26, _, _, _, _, _⟩) (v := ?v9a) rfl (by kernel_rfl) (by kernel_rfl) (by kernel_rfl) (fun _ _ _ h => h) (Or.inl ⟨by rfl, ?h9a⟩) (by assumption) ?r9a
    case h9a => intro w hSw; (try dsimp only at hSw); go_simp; (try with_reducible rfl)
    try simp only [Act.put, List.setIfInBounds_toArray, List.set_cons_zero, List.set_cons_succ]
    refine wpAnyH_take (i := 10) (oi := ⟨some 6, _, _, _, _, _⟩) (v := ?v10a) rfl (by kernel_rfl) (by kernel_rfl) (by kernel_rfl) (fun _ _ _ h => h) (Or.inl ⟨by rfl, ?h10a⟩) (by assumption) ?r10a
    case h10a => intro w hSw; (try dsimp only at hSw); go_simp; (try with_reducible rfl)
    try simp only [Act.put, List.setIfInBounds_toArray, List.set_cons_zero, List.set_cons_succ]
    refine wpAnyH_done (by kernel_rfl) ?_ _
    have hv := HTl.out
    obtain ⟨v8, hv8⟩ : ∃ v8, (treeP (88 + a) 8 b.toNat (C, P)).1 = v8 := ⟨_, rfl⟩
    rw [hv8] at hv ⊢
    have HV := hid hv8
    have ew : Value.int IntKind.u8 (IntKind.u8.wrap (v8 : Int)) = b8 (UInt8.ofNat v8) := by
      have : (UInt8.ofNat v8).toNat = v8 := by simp [UInt8.toNat_ofNat]; omega
      show _ = Value.int IntKind.u8 ((UInt8.ofNat v8).toNat : Int)
      rw [this]
      simp [IntKind.wrap, IntKind.bits, IntKind.signed]
      omega
    rw [ew]
    have hc := MCall.pre HS1.out (MCall.pre ((Keeps.refl _ _).drew) H6.out)
    have HC := hid hc
    clear hc H6 ew hv hv8
    go_wp2_with fail
    go_ret
    have hr := HR.out
    rw [if_pos H7.out] at hr
    rw [hr]
    refine ⟨?_, HC.out.2.1, Nat.le_trans HC.out.2.2 (by omega)⟩
    rw [HV.out]
    rfl
  · have d7 : decide (st < 7) = false := by simpa using h7
    rw [d7] at HSt
    have H7 := hid h7
    clear h7 d7 hna hme hcf
    have c4 := HM1.out.mm.mcell 4 (by decide)
    rw [HE.out.1] at c4
    have c6 := HM1.out.mm.mcell 6 (by decide)
    rw [HE.out.2.2] at c6
    go_upto_region 4 with (go_at_call 105; refine (HSt.out _).mono ?_; rintro z w7 ⟨rfl, hw7⟩; obtain rfl := hw7.symm)
    refine wp_region_held_drew (S := (fun V => V.cell? ⟨L.φ 0, 4, none⟩ = some (.pointer (some ⟨L.wb, 0, none⟩)) ∧ V.cell? ⟨L.φ 0, 6, none⟩ = some (i6 r0))) (by kernel_rfl) (by (try dsimp only); exact ⟨c4, c6⟩) (fun hHeld => ?_)
    refine wpAnyH_take (i := 0) (oi := ⟨some 28, _, _, _, _, _⟩) (v := ?v0b) rfl (by kernel_rfl) (by kernel_rfl) (by kernel_rfl) (fun _ _ _ h => h) (Or.inl ⟨by rfl, ?h0b⟩) (by assumption) ?r0b
    case h0b => intro w hSw; (try dsimp only at hSw); go_simp; (try with_reducible rfl)
    try simp only [Act.put, List.setIfInBounds_toArray, List.set_cons_zero, List.set_cons_succ]
    refine wpAnyH_take (i := 1) (oi := ⟨some 29, _, _, _, _, _⟩) (v := ?v1b) rfl (by kernel_rfl) (by kernel_rfl) (by kernel_rfl) (fun _ _ _ h => h) (Or.inl ⟨by rfl, ?h1b⟩) (by assumption) ?r1b
    case h1b => intro w hSw; (try dsimp only at hSw); go_simp; (try with_reducible rfl)
    try simp only [Act.put, List.setIfInBounds_toArray, List.set_cons_zero, List.set_cons_succ]
    refine wpAnyH_take (i := 2) (oi := ⟨some 30, _, _, _, _, _⟩) (v := ?v2b) rfl (by kernel_rfl) (by kernel_rfl) (by kernel_rfl) (fun _ _ _ h => h) (Or.inl ⟨by rfl, ?h2b⟩) (by assumption) ?r2b
    case h2b => intro w hSw; (try dsimp only at hSw); go_simp; (try with_reducible rfl)
    try simp only [Act.put, List.setIfInBounds_toArray, List.set_cons_zero, List.set_cons_succ]
    refine wpAnyH_take (i := 3) (oi := ⟨some 31, _, _, _, _, _⟩) (v := ?v3b) rfl (by kernel_rfl) (by kernel_rfl) (by kernel_rfl) (fun _ _ _ h => h) (Or.inl ⟨by rfl, ?h3b⟩) (by assumption) ?r3b
    case h3b => intro w hSw; (try dsimp only at hSw); obtain ⟨hSw, hSw2⟩ := hSw; go_simp; (try with_reducible rfl)
    try simp only [Act.put, List.setIfInBounds_toArray, List.set_cons_zero, List.set_cons_succ]
    refine wpAnyH_take (i := 4) (oi := ⟨some 32, _, _, _, _, _⟩) (v := ?v4b) rfl (by kernel_rfl) (by kernel_rfl) (by kernel_rfl) (fun _ _ _ h => h) (Or.inl ⟨by rfl, ?h4b⟩) (by assumption) ?r4b
    case h4b => intro w hSw; (try dsimp only at hSw); go_simp; (try with_reducible rfl)
    try simp only [Act.put, List.setIfInBounds_toArray, List.set_cons_zero, List.set_cons_succ]
    refine wpAnyH_take (i := 5) (oi := ⟨some 33, _, _, _, _, _⟩) (v := ?v5b) rfl (by kernel_rfl) (by kernel_rfl) (by kernel_rfl) (fun _ _ _ h => h) (Or.inl ⟨by rfl, ?h5b⟩) (by assumption) ?r5b
    case h5b => intro w hSw; (try dsimp only at hSw); go_simp; (try with_reducible rfl)
    try simp only [Act.put, List.setIfInBounds_toArray, List.set_cons_zero, List.set_cons_succ]
    refine wpAnyH_take (i := 6) (oi := ⟨some 34, _, _, _, _, _⟩) (v := ?v6b) rfl (by kernel_rfl) (by kernel_rfl) (by kernel_rfl) (fun _ _ _ h => h) (Or.inl ⟨by rfl, ?h6b⟩) (by assumption) ?r6b
    case h6b => intro w hSw; (try dsimp only at hSw); go_simp; (try with_reducible rfl)
    try simp only [Act.put, List.setIfInBounds_toArray, List.set_cons_zero, List.set_cons_succ]
    refine wpAnyH_take (i := 7) (oi := ⟨some 35, _, _, _, _, _⟩) (v := ?v7b) rfl (by kernel_rfl) (by kernel_rfl) (by kernel_rfl) (fun _ _ _ h => h) (Or.inl ⟨by rfl, ?h7b⟩) (by assumption) ?r7b
    case h7b => intro w hSw; (try dsimp only at hSw); go_simp; (try with_reducible rfl)
    try simp only [Act.put, List.setIfInBounds_toArray, List.set_cons_zero, List.set_cons_succ]
    refine wpAnyH_take (i := 8) (oi := ⟨some 36, _, _, _, _, _⟩) (v := ?v8b) rfl (by kernel_rfl) (by kernel_rfl) (by kernel_rfl) (fun _ _ _ h => h) (Or.inl ⟨by rfl, ?h8b⟩) (by assumption) ?r8b
    case h8b => intro w hSw; (try dsimp only at hSw); obtain ⟨hSw, hSw2⟩ := hSw; go_simp; (try with_reducible rfl)
    try simp only [Act.put, List.setIfInBounds_toArray, List.set_cons_zero, List.set_cons_succ]
    refine wpAnyH_ready (rs := [9]) (by kernel_rfl) (by simp) ?_
    refine AllReadyH.cons (o := ⟨some 37, _, _, _, _, _⟩) rfl (fun K hK => ?_) AllReadyH.nil
    go_simp; refine (HAt.out _ ((HM1.out.same ((Keeps.refl _ _).drew)).mm.win)).mono ?_; rintro z w2 ⟨rfl, hs2⟩; have c42 := (hs2.cell (p := ⟨L.φ 0, 4, none⟩) ((HM1.out.same ((Keeps.refl _ _).drew)).mm.blk 0 (used_small (by decide) (by decide))).lt (fun h => h)).trans hHeld.1; have c62 := (hs2.cell (p := ⟨L.φ 0, 6, none⟩) ((HM1.out.same ((Keeps.refl _ _).drew)).mm.blk 0 (used_small (by decide) (by decide))).lt (fun h => h)).trans hHeld.2
    refine hK.out _ _ (by (try dsimp only); exact ⟨c42, c62⟩) (fun hHeld => ?_)
    clear hK K
    try simp only [Act.put, List.setIfInBounds_toArray, List.set_cons_zero, List.set_cons_succ]
    refine wpAnyH_take (i := 10) (oi := ⟨some 27, _, _, _, _, _⟩) (v := ?v10b) rfl (by kernel_rfl) (by kernel_rfl) (by kernel_rfl) (fun _ _ _ h => h) (Or.inl ⟨by rfl, ?h10b⟩) (by assumption) ?r10b
    case h10b => intro w hSw; (try dsimp only at hSw); go_simp; (try with_reducible rfl)
    try simp only [Act.put, List.setIfInBounds_toArray, List.set_cons_zero, List.set_cons_succ]
    refine wpAnyH_take (i := 11) (oi := ⟨some 38, _, _, _, _, _⟩) (v := ?v11b) rfl (by kernel_rfl) (by kernel_rfl) (by kernel_rfl) (fun _ _ _ h => h) (Or.inl ⟨by rfl, ?h11b⟩) (by assumption) ?r11b
    case h11b => intro w hSw; (try dsimp only at hSw); go_simp; (try with_reducible rfl)
    try simp only [Act.put, List.setIfInBounds_toArray, List.set_cons_zero, List.set_cons_succ]
    refine wpAnyH_take (i := 12) (oi := ⟨some 39, _, _, _, _, _⟩) (v := ?v12b) rfl (by kernel_rfl) (by kernel_rfl) (by kernel_rfl) (fun _ _ _ h => h) (Or.inl ⟨by rfl, ?h12b⟩) (by assumption) ?r12b
    case h12b => intro w hSw; (try dsimp only at hSw); go_simp; (try with_reducible rfl)
    try simp only [Act.put, List.setIfInBounds_toArray, List.set_cons_zero, List.set_cons_succ]
    refine wpAnyH_take (i := 13) (oi := ⟨some 8, _, _, _, _, _⟩) (v := ?v13b) rfl (by kernel_rfl) (by kernel_rfl) (by kernel_rfl) (fun _ _ _ h => h) (Or.inl ⟨by rfl, ?h13b⟩) (by assumption) ?r13b
    case h13b => intro w hSw; (try dsimp only at hSw); go_simp; (try with_reducible rfl)
    try simp only [Act.put, List.setIfInBounds_toArray, List.set_cons_zero, List.set_cons_succ]
    refine wpAnyH_take (i := 14) (oi := ⟨some 9, _, _, _, _, _⟩) (v := ?v14b) rfl (by kernel_rfl) (by kernel_rfl) (by kernel_rfl) (fun _ _ _ h => h) (Or.inl ⟨by rfl, ?h14b⟩) (by assumption) ?r14b
    case h14b => intro w hSw; (try dsimp only at hSw); go_simp; (try with_reducible rfl)
    try simp only [Act.put, List.setIfInBounds_toArray, List.set_cons_zero, List.set_cons_succ]
    refine wpAnyH_done (by kernel_rfl) ?_ _
    have HM3 := hid (HM1.out.same (Keeps.trans ((Keeps.refl _ w1).drew) hs2))
    have HS2 := hid (Keeps.trans HS1.out (Keeps.trans ((Keeps.refl _ w1).drew) hs2))
    clear hs2
    go_wp2_with fail
    rw [← HL2.out]
    refine (HLike.out _ HM3.out y).mono ?_
    intro z w8 h8
    have hc := MCall.pre HS2.out h8
    obtain ⟨rfl, h8b⟩ := hc
    have H8 := hid h8b
    clear h8 h8b
    go_wp2_with fail
    go_ret
    have hr := HR.out
    rw [if_neg H7.out] at hr
    rw [hr]
    exact ⟨rfl, H8.out.1, Nat.le_trans H8.out.2 (by omega)⟩
end Go.Proofs.YtalopgbkjgjppaaGreatDoor
