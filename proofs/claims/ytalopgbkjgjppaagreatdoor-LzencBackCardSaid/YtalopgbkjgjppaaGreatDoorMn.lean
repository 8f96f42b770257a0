/- The walk of model.New. -/
import Derived.Test.YtalopgbkjgjppaaGreatDoorGNl
namespace Go.Proofs.YtalopgbkjgjppaaGreatDoor
open Go.RowKit Go.Cas Go.Cas.Enc

theorem zero_5 : Tryz.zeroCells132[5]? = some (i6 0) := by kernel_rfl
theorem zero_442 : Tryz.zeroCells132[442]? = some (.slice none 0 0) := by kernel_rfl
theorem zero_447 : Tryz.zeroCells132[447]? = some (.slice none 0 0) := by kernel_rfl
theorem zero_448 : Tryz.zeroCells132[448]? = some (.slice none 0 0) := by kernel_rfl
theorem zero_449 : Tryz.zeroCells132[449]? = some (.slice none 0 0) := by kernel_rfl
theorem zero_450 : Tryz.zeroCells132[450]? = some (.slice none 0 0) := by kernel_rfl
theorem Tryz.infoTree : (Tryz.prog.info? 118).map (fun i => (i.zero, i.size, i.bytes)) = some (some (.slice none 0 0), 1, 24) := by kernel_rfl
theorem tree_one (v : Value) (h : v.oneCell' = true) : ∀ u ∈ [v], u.oneCell' = true := by intro u hu; simp at hu; subst hu; exact h
theorem LenMade.same {w w' : World} {g : Nat} (h : LenMade w w' g) : Same w w' := by obtain ⟨_, _, _, _, _, _, _, _, _, h⟩ := h; exact h
theorem tsz_slot' {i : Nat} (h1 : 3 ≤ i) (h2 : i < 7) : tsz i = 64 := by unfold tsz; rw [if_pos h2]
theorem zero_size : Tryz.zeroCells132.size = 464 := by kernel_rfl

set_option maxRecDepth 100000 in
theorem mk_first {w0 w3 w4 w5 : World} {lc lp pb most wb ga : Nat} {CS : Array Value} (hCS : CS = ((((((((((Tryz.zeroCells132.setIfInBounds 0 (i6 lc)).setIfInBounds 1 (i6 lp)).setIfInBounds 2 (i6 pb)).setIfInBounds 3 (i6 most)).setIfInBounds 4 (.pointer (some ⟨wb, 0, none⟩))).setIfInBounds 6 (i6 1)).setIfInBounds 7 (i6 1)).setIfInBounds 8 (i6 1)).setIfInBounds 9 (i6 1)).setIfInBounds 461 (.slice (some ⟨ga, 0, none⟩) 16 16))) (hs3 : Same w0 w3) (hw : Win w3 wb most [] none 0) (hwb : w0.heap.size ≤ wb) (hs4 : Same w3 w4) (hs5 : Same w4 w5) (hB5 : Blk w5 ga (rowP (fun _ => 1024) 16) T16) (hg5 : w4.heap.size ≤ ga) :
    MkL w0 (w5.alloc (.cells CS 132)) w5.heap.size ⟨fun _ => ga, 0, 0, wb, lc, lp, pb, most⟩ (fun o => o < 10 ∨ 447 ≤ o ∧ o < 451 ∨ o = 461) (fun i => i = 21) 0 := by
  have hsA : Same w5 (w5.alloc (.cells CS 132)) := (Keeps.refl _ _).alloc _
  have hbA : Blk (w5.alloc (.cells CS 132)) w5.heap.size CS 132 := Blk.new _ _ _
  have z0 := hs3.size
  have z3 := hw.blk.lt
  have z4 := hs4.size
  have z5 := hs5.size
  have hgl := hB5.lt
  have hsz : CS.size = 464 := by rw [hCS]; simp [zero_size]
  have hc : ∀ o, o < 464 → (o < 10 ∨ 447 ≤ o ∧ o < 451 ∨ o = 461) → CS[o]? = some (mcell ⟨fun _ => ga, 0, 0, wb, lc, lp, pb, most⟩ firstS (fun _ => 1024) o) := by
    intro o _ ho
    have hcs : o = 0 ∨ o = 1 ∨ o = 2 ∨ o = 3 ∨ o = 4 ∨ o = 5 ∨ o = 6 ∨ o = 7 ∨ o = 8 ∨ o = 9 ∨ o = 447 ∨ o = 448 ∨ o = 449 ∨ o = 450 ∨ o = 461 := by omega
    rcases hcs with rfl | rfl | rfl | rfl | rfl | rfl | rfl | rfl | rfl | rfl | rfl | rfl | rfl | rfl | rfl <;> (rw [hCS]; simp only [Array.getElem?_setIfInBounds, Array.size_setIfInBounds, zero_size, zero_5, zero_447, zero_448, zero_449, zero_450]; rfl)
  have h442 : CS[442]? = some (.slice none 0 0) := by rw [hCS]; simp only [Array.getElem?_setIfInBounds, Array.size_setIfInBounds, zero_size, zero_442]; rfl
  generalize w5.alloc (.cells CS 132) = w6 at *
  refine ⟨⟨fun _ => ga, 0, 0, wb, lc, lp, pb, most⟩, none, 0, ⟨rfl, rfl, rfl, rfl, rfl⟩, ⟨⟨_, hbA, hsz, hc⟩, ?_, ?_, ?_, ?_, ?_⟩, ⟨?_, Sl.nil _ _ _, fun b hb => by simp [sblk] at hb⟩⟩
  · rintro i rfl
    refine ⟨by decide, hB5.keeps hsA (fun h => h), ?_, ?_, ?_⟩
    · show w0.heap.size ≤ ga; omega
    · show ga ≠ w5.heap.size; omega
    · show ga ≠ wb; omega
  · rintro i j rfl rfl _; rfl
  · exact ((hw.keeps hs4 (fun _ _ h => h)).keeps hs5 (fun _ _ h => h)).keeps hsA (fun _ _ h => h)
  · refine ⟨?_, by omega, hwb⟩
    show w5.heap.size ≠ wb; omega
  · exact ((hs3.trans hs4).trans hs5).trans hsA
  · rw [hbA.cell]; exact h442

set_option maxHeartbeats 8000000 in
set_option maxRecDepth 100000 in
theorem mnew_any (lc lp pb most : Nat) (w : World) (hb : Behind w) (h1 : lc + lp ≤ 4) (h2 : pb ≤ 4) (hm : most ≤ 100000000) :
    Calls Tryz.prog 30 #[.agg #[i6 lc, i6 lp, i6 pb], i6 most] w fun z w' => ∃ L : Lay, z = .returned (.pointer (some ⟨L.φ 0, 0, none⟩)) ∧ L.lc = lc ∧ L.lp = lp ∧ L.pb = pb ∧ L.most = most ∧ MM w' L firstS firstP none 0 ∧ (∀ b, MF L none b → w.heap.size ≤ b) ∧ Same w w' := by
  have HGood := hid (fun w0 => good_any lc lp pb w0 h1 h2)
  have HWin := hid (fun w0 => wnew_any (most : Int) w0)
  have HFirst := hid (fun w0 => first_any w0)
  have HNew := hid (fun (n : Nat) w0 (hn : n ≤ 16) => pnew_any n w0 hn)
  have HLen := hid (fun w0 => newlen_any w0)
  have HH := hid (And.intro hb (And.intro h1 (And.intro h2 hm)))
  clear hb h1 h2 hm
  go_enter Tryz.func30, Tryz.ntmps30
  go_upto_region 1 with fail
  have hb0 : Blk (w.alloc (.cells #[i6 lc, i6 lp, i6 pb] 26)) w.heap.size #[i6 lc, i6 lp, i6 pb] 26 := (Blk.new _ _ _)
  have hs0 : Same w (w.alloc (.cells #[i6 lc, i6 lp, i6 pb] 26)) := (Keeps.refl _ _).alloc _
  generalize w.alloc (.cells #[i6 lc, i6 lp, i6 pb] 26) = wa at hb0 hs0 ⊢
  obtain ⟨B, hB⟩ : ∃ B, w.heap.size = B := ⟨_, rfl⟩
  rw [hB] at hb0 ⊢
  have a0 := hb0.cell 0
  have a1 := hb0.cell 1
  have a2 := hb0.cell 2
  simp only [List.getElem?_toArray, List.getElem?_cons_zero, List.getElem?_cons_succ] at a0 a1 a2
  have HA := hid (And.intro hB (And.intro hb0 hs0))
  clear hB hb0 hs0
  go_upto_region 3 with (go_at_call 29; refine (HGood.out _).mono ?_; rintro z w0 ⟨rfl, hs1⟩)
  have hb1 := HA.out.2.1.keeps hs1 (fun h => h)
  have hs2 : Same w w0 := HA.out.2.2.trans hs1
  have b0 := hb1.cell 0
  have b1 := hb1.cell 1
  have b2 := hb1.cell 2
  simp only [List.getElem?_toArray, List.getElem?_cons_zero, List.getElem?_cons_succ] at b0 b1 b2
  have hBl := hb1.lt
  have HB := hid (And.intro HA.out.1 (And.intro hb1 hs2))
  clear hb1 hs2 a0 a1 a2 hs1 HA
  go_cut [5] (fun s5 wx => ∃ mb wb ga : Nat, s5 = .pointer (some ⟨mb, 0, none⟩) ∧ MkL w0 wx mb ⟨fun _ => ga, 0, 0, wb, lc, lp, pb, most⟩ (fun o => o < 10 ∨ 447 ≤ o ∧ o < 451 ∨ o = 461) (fun i => i = 21) 0)
  case first =>
    refine wp_region_held_drew (S := (fun W => Same w0 W)) (by kernel_rfl) (by (try dsimp only); exact (Keeps.refl _ _).drew) (fun hHeld => ?_)
    refine wpAnyH_take (i := 0) (oi := ⟨some 14, _, _, _, _, _⟩) (v := ?v0x1) rfl (by kernel_rfl) (by kernel_rfl) (by kernel_rfl) (fun _ _ _ h => h) (Or.inl ⟨by rfl, ?h0x1⟩) (by assumption) ?r0x1
    case h0x1 => intro w hSw; (try dsimp only at hSw); have q0 := (Keeps.cell hSw (p := ⟨B, 0, none⟩) hBl (fun h => h)).trans b0; have q1 := (Keeps.cell hSw (p := ⟨B, 1, none⟩) hBl (fun h => h)).trans b1; have q2 := (Keeps.cell hSw (p := ⟨B, 2, none⟩) hBl (fun h => h)).trans b2; go_simp; (try with_reducible rfl)
    try simp only [Act.put, List.setIfInBounds_toArray, List.set_cons_zero, List.set_cons_succ]
    refine wpAnyH_take (i := 1) (oi := ⟨some 15, _, _, _, _, _⟩) (v := ?v1x1) rfl (by kernel_rfl) (by kernel_rfl) (by kernel_rfl) (fun _ _ _ h => h) (Or.inl ⟨by rfl, ?h1x1⟩) (by assumption) ?r1x1
    case h1x1 => intro w hSw; (try dsimp only at hSw); go_simp; (try with_reducible rfl)
    try simp only [Act.put, List.setIfInBounds_toArray, List.set_cons_zero, List.set_cons_succ]
    refine wpAnyH_take (i := 2) (oi := ⟨some 16, _, _, _, _, _⟩) (v := ?v2x1) rfl (by kernel_rfl) (by kernel_rfl) (by kernel_rfl) (fun _ _ _ h => h) (Or.inl ⟨by rfl, ?h2x1⟩) (by assumption) ?r2x1
    case h2x1 => intro w hSw; (try dsimp only at hSw); go_simp; (try with_reducible rfl)
    try simp only [Act.put, List.setIfInBounds_toArray, List.set_cons_zero, List.set_cons_succ]
    refine wpAnyH_ready (rs := [3]) (by kernel_rfl) (by simp) ?_
    refine AllReadyH.cons (o := ⟨some 17, _, _, _, _, _⟩) rfl (fun K hK => ?_) AllReadyH.nil
    go_simp; (go_at_call 59; refine (HWin.out _).mono ?_; rintro z w3 ⟨rfl, hs3, hw3⟩)
    refine hK.out _ _ (by (try dsimp only); repeat (first | exact Keeps.refl _ _ | refine Keeps.drew ?_ | refine Keeps.drewN ?_ _ | refine Keeps.alloc ?_ _ | refine Keeps.setCell ?_ (by simp; try omega) _ | exact Hid.out (by assumption) | refine Keeps.trans ?_ (by assumption))) (fun hHeld => ?_)
    clear hK K
    try simp only [Act.put, List.setIfInBounds_toArray, List.set_cons_zero, List.set_cons_succ]
    refine wpAnyH_ready (rs := [4]) (by kernel_rfl) (by simp) ?_
    refine AllReadyH.cons (o := ⟨some 18, _, _, _, _, _⟩) rfl (fun K hK => ?_) AllReadyH.nil
    go_simp; (go_at_call 26; refine (HFirst.out _).mono ?_; rintro z w4 ⟨rfl, hs4⟩)
    refine hK.out _ _ (by (try dsimp only); repeat (first | exact Keeps.refl _ _ | refine Keeps.drew ?_ | refine Keeps.drewN ?_ _ | refine Keeps.alloc ?_ _ | refine Keeps.setCell ?_ (by simp; try omega) _ | exact Hid.out (by assumption) | refine Keeps.trans ?_ (by assumption))) (fun hHeld => ?_)
    clear hK K
    try simp only [Act.put, List.setIfInBounds_toArray, List.set_cons_zero, List.set_cons_succ]
    refine wpAnyH_ready (rs := [5]) (by kernel_rfl) (by simp) ?_
    refine AllReadyH.cons (o := ⟨some 19, _, _, _, _, _⟩) rfl (fun K hK => ?_) AllReadyH.nil
    go_simp; (go_at_call 60; refine (HNew.out 4 _ (by decide)).mono ?_; rintro z w5 ⟨ga, rfl, hB5, hg5, hs5⟩)
    refine hK.out _ _ (by (try dsimp only); repeat (first | exact Keeps.refl _ _ | refine Keeps.drew ?_ | refine Keeps.drewN ?_ _ | refine Keeps.alloc ?_ _ | refine Keeps.setCell ?_ (by simp; try omega) _ | exact Hid.out (by assumption) | refine Keeps.trans ?_ (by assumption))) (fun hHeld => ?_)
    clear hK K
    try simp only [Act.put, List.setIfInBounds_toArray, List.set_cons_zero, List.set_cons_succ]
    refine wpAnyH_take (i := 6) (oi := ⟨some 20, _, _, _, _, _⟩) (v := ?v6x1) rfl (by kernel_rfl) (by kernel_rfl) (by kernel_rfl) (fun _ _ _ h => h) (Or.inl ⟨by rfl, ?h6x1⟩) (by assumption) ?r6x1
    case h6x1 => intro w hSw; (try dsimp only at hSw); go_simp; (try with_reducible rfl)
    try simp only [Act.put, List.setIfInBounds_toArray, List.set_cons_zero, List.set_cons_succ]
    refine wpAnyH_ready (rs := [7]) (by kernel_rfl) (by simp) ?_
    refine AllReadyH.cons (o := ⟨some 21, _, _, _, _, _⟩) rfl (fun K hK => ?_) AllReadyH.nil
    go_simp
    refine hK.out _ _ (by (try dsimp only); repeat (first | exact Keeps.refl _ _ | refine Keeps.drew ?_ | refine Keeps.drewN ?_ _ | refine Keeps.alloc ?_ _ | refine Keeps.setCell ?_ (by simp; try omega) _ | exact Hid.out (by assumption) | refine Keeps.trans ?_ (by assumption))) (fun hHeld => ?_)
    clear hK K
    try simp only [Act.put, List.setIfInBounds_toArray, List.set_cons_zero, List.set_cons_succ]
    refine wpAnyH_take (i := 8) (oi := ⟨some 5, _, _, _, _, _⟩) (v := ?v8x1) rfl (by kernel_rfl) (by kernel_rfl) (by kernel_rfl) (fun _ _ _ h => h) (Or.inl ⟨by rfl, ?h8x1⟩) (by assumption) ?r8x1
    case h8x1 => intro w hSw; (try dsimp only at hSw); go_simp; (try with_reducible rfl)
    try simp only [Act.put, List.setIfInBounds_toArray, List.set_cons_zero, List.set_cons_succ]
    refine wpAnyH_done (by kernel_rfl) ?_ _
    go_wp2_with fail
    go_meet
    refine ⟨w5.heap.size, w0.heap.size, ga, rfl, mk_first rfl (Keeps.drew_left hs3) (by simpa using hw3) (Nat.le_refl _) hs4 hs5 hB5 hg5⟩
  case rest =>
    obtain ⟨mb, wb, ga, rfl, hM⟩ := hcut
    obtain ⟨wx, rfl⟩ : ∃ wx : World, wx = wc := ⟨_, rfl⟩
    obtain ⟨L1, hL1⟩ : ∃ L1 : Lay, (⟨fun _ => ga, 0, 0, wb, lc, lp, pb, most⟩ : Lay) = L1 := ⟨_, rfl⟩
    rw [hL1] at hM
    have HMx := hid hM
    have HL1 := hid hL1
    clear hM hL1
    go_wp2_with fail
    go_loopw [22] (fun s22 wr => ∃ i : Nat, s22 = i6 i ∧ i ≤ 12 ∧ MkL w0 wr mb L1 (fun o => (o < 10 ∨ 447 ≤ o ∧ o < 451 ∨ o = 461) ∨ (10 ≤ o ∧ o < 10 + 16 * i) ∨ (226 ≤ o ∧ o < 226 + 16 * i)) (fun i => i = 21) 0) (fun s22 _ => 12 - (intOf s22).toNat)
    case atStart => exact ⟨0, rfl, by decide, HMx.out.dcongr (fun o ho => by omega) (fun _ h => h)⟩
    case round =>
      clear HMx
      obtain ⟨i, rfl, hi, hM⟩ := hrel
      by_cases he : i = 12
      · subst he
        have d0 : decide (((12 : Nat) : Int) < 12) = false := by simp
        obtain ⟨cs1, hB1, hz1⟩ := hM.cs
        have HM := hid hM
        have HB1 := hid hB1
        clear hM hB1
        go_wp2_with fail
        refine (mbegin_any mb 202 12 12 cs1 _ _ HB1.out (by omega) (by decide)).mono ?_
        rintro z w2 ⟨rfl, hB2, hK2⟩
        have hM2 := HM.out.fill HB1.out hB2 hK2 (by decide) (by decide)
        clear hB2 hK2
        obtain ⟨cs2, hB2, hz2⟩ := hM2.cs
        have HM2 := hid hM2
        have HB2 := hid hB2
        clear hM2 hB2
        go_wp2_with fail
        refine (mbegin_any mb 214 12 12 cs2 _ _ HB2.out (by omega) (by decide)).mono ?_
        rintro z v2 ⟨rfl, hC2, hK2⟩
        have hM3 := HM2.out.fill HB2.out hC2 hK2 (by decide) (by decide)
        clear hC2 hK2
        obtain ⟨cs3, hB3, hz3⟩ := hM3.cs
        have HM3 := hid hM3
        have HB3 := hid hB3
        clear hM3 hB3
        go_wp2_with fail
        refine (mbegin_any mb 418 12 12 cs3 _ _ HB3.out (by omega) (by decide)).mono ?_
        rintro z v3 ⟨rfl, hC3, hK3⟩
        have hM4 := HM3.out.fill HB3.out hC3 hK3 (by decide) (by decide)
        clear hC3 hK3
        obtain ⟨cs4, hB4, hz4⟩ := hM4.cs
        have HM4 := hid hM4
        have HB4 := hid hB4
        clear hM4 hB4
        go_wp2_with fail
        refine (mbegin_any mb (418 + 12) 12 12 cs4 _ _ HB4.out (by omega) (by decide)).mono ?_
        rintro z v4 ⟨rfl, hC4, hK4⟩
        have hM5 := HM4.out.fill HB4.out hC4 hK4 (by decide) (by decide)
        clear hC4 hK4
        have HM5 := hid (hM5.dcongr (don' := fun o => o < 442 ∨ 447 ≤ o ∧ o < 451 ∨ o = 461) (fun o ho => by omega) (D' := fun i => i = 21 ∨ 88 ≤ i ∧ i < 88 + 0) (fun i hi => by omega))
        clear hM5 HM HM2 HM3 HM4 HB1 HB2 HB3 HB4
        obtain ⟨v5, rfl⟩ : ∃ v : World, v = v4 := ⟨_, rfl⟩
        have hs5 := HM5.out.same
        have g0 := (hs5.cell (p := ⟨B, 0, none⟩) hBl (fun h => h)).trans b0
        have g1 := (hs5.cell (p := ⟨B, 1, none⟩) hBl (fun h => h)).trans b1
        clear hs5
        obtain ⟨n, hn⟩ : ∃ n, lc + lp = n := ⟨_, rfl⟩
        have hn4 : n ≤ 4 := by have := HH.out.2.1; omega
        have p0 : (lc : Int) + (lp : Int) = (n : Int) := by omega
        have p1 : IntKind.i64.wrap ((lc : Int) + (lp : Int)) = (n : Int) := by rw [p0]; exact IntWalk.i64_in _ (by omega)
        have p2 : IntKind.i64.wrap (n : Int) = (n : Int) := IntWalk.i64_in _ (by omega)
        obtain ⟨K, hK⟩ : ∃ K, (2 : Nat) ^ n = K := ⟨_, rfl⟩
        have hK2 : K ≤ 16 := by rw [← hK]; exact Nat.pow_le_pow_right (by decide) hn4
        have e1 : (2 : Int) ^ n = (K : Int) := by rw [← hK]; push_cast; rfl
        have e3 : IntKind.i64.wrap (K : Int) = (K : Int) := IntWalk.i64_in _ (by omega)
        have e4 : wrap64 ((2 : Int) ^ n) = (K : Int) := by rw [e1]; exact IntWalk.wrap64_in _ (by omega)
        have hnn : (n : Int).toNat = n := Int.toNat_natCast n
        have hn0 : (0 : Int) ≤ (n : Int) := by omega
        have hn64 : (n : Int) < 64 := by omega
        have HK := hid (And.intro hn hK)
        clear hn hK
        obtain ⟨i0, HI⟩ := info_hid Tryz.infoTree
        clear hn64
        go_wp2_with fail
        clear p0 p1 p2 e1 e3 e4 hnn hn0 g0 g1
        go_loopw [68] (fun s68 wr => ∃ a : Nat, s68 = i6 a ∧ a ≤ K ∧ MkL w0 wr mb L1 (fun o => o < 442 ∨ 447 ≤ o ∧ o < 451 ∨ o = 461) (fun i => i = 21 ∨ 88 ≤ i ∧ i < 88 + a) a) (fun s68 _ => K - (intOf s68).toNat)
        case atStart => exact ⟨0, rfl, Nat.zero_le _, HM5.out⟩
        case round =>
          clear HM5
          obtain ⟨a, rfl, ha, hM⟩ := hrel
          by_cases he : a = K
          · subst he
            have d0 : decide ((a : Int) < (a : Int)) = false := by simp
            have HM := hid hM
            clear hM
            obtain ⟨wi, rfl⟩ : ∃ wi : World, wi = wr := ⟨_, rfl⟩
            go_wp2_with fail
            go_loopw [81] (fun s81 wr => ∃ i : Nat, s81 = i6 i ∧ i ≤ 4 ∧ MkL w0 wr mb L1 (fun o => (o < 442 ∨ 447 ≤ o ∧ o < 451 ∨ o = 461) ∨ 443 ≤ o ∧ o < 443 + i) (fun j => (j = 21 ∨ 88 ≤ j ∧ j < 88 + a) ∨ 3 ≤ j ∧ j < 3 + i) a) (fun s81 _ => 4 - (intOf s81).toNat)
            case atStart => exact ⟨0, rfl, by decide, HM.out.dcongr (fun o ho => by omega) (fun j hj => by omega)⟩
            case round =>
              clear HM
              obtain ⟨i, rfl, hi, hM⟩ := hrel
              by_cases he : i = 4
              · subst he
                have d1 : decide (((4 : Nat) : Int) < 4) = false := by simp
                have HM := hid hM
                clear hM
                obtain ⟨wj, rfl⟩ : ∃ wj : World, wj = wr := ⟨_, rfl⟩
                go_wp2_with fail
                go_loopw [8] (fun s8 wr => ∃ i : Nat, s8 = i6 i ∧ 4 ≤ i ∧ i ≤ 14 ∧ MkL w0 wr mb L1 (fun o => ((o < 442 ∨ 447 ≤ o ∧ o < 451 ∨ o = 461) ∨ 443 ≤ o ∧ o < 447) ∨ 451 ≤ o ∧ o < 447 + i) (fun j => ((j = 21 ∨ 88 ≤ j ∧ j < 88 + a) ∨ 3 ≤ j ∧ j < 7) ∨ 11 ≤ j ∧ j < 7 + i) a) (fun s8 _ => 14 - (intOf s8).toNat)
                case atStart => exact ⟨4, rfl, by decide, by decide, HM.out.dcongr (fun o ho => by omega) (fun j hj => by omega)⟩
                case round =>
                  clear HM
                  obtain ⟨i, rfl, hi4, hi, hM⟩ := hrel
                  by_cases he : i = 14
                  · subst he
                    have d2 : decide (((14 : Nat) : Int) < 14) = false := by simp
                    obtain ⟨cs, hB, hz⟩ := hM.cs
                    have HM := hid (And.intro hM hB)
                    clear hM hB
                    obtain ⟨wk, rfl⟩ : ∃ wk : World, wk = wr := ⟨_, rfl⟩
                    go_wp2_with fail
                    refine (HLen.out _).mono ?_
                    rintro z w1 ⟨g1, rfl, hl1⟩
                    have HL1' := hid hl1
                    clear hl1
                    go_wp2_with fail
                    refine (HLen.out _).mono ?_
                    rintro z w2 ⟨g2, rfl, hl2⟩
                    have HL2' := hid hl2
                    clear hl2
                    have hbm := (HM.out.2.keeps HL1'.out.same (fun h => h)).keeps HL2'.out.same (fun h => h)
                    obtain ⟨o1, ho1⟩ : ∃ v, cs[462]? = some v := ⟨cs[462], by simp⟩
                    obtain ⟨o2, ho2⟩ : ∃ v, cs[463]? = some v := ⟨cs[463], by simp⟩
                    have c1 := (hbm.cell 462).trans ho1
                    have c2 := (hbm.cell 463).trans ho2
                    have z1 := hbm.frozen 462
                    have z2 := hbm.frozen 463
                    clear hbm ho1 ho2
                    go_wp2_with fail
                    go_ret
                    obtain ⟨L, q, c, hp, hM, hL⟩ := HM.out.1
                    obtain ⟨hp1, hp2, hp3, hp4, hp5⟩ := hp
                    have h1 := HL1.out
                    have e2 : L1.lc = lc := by rw [← h1]
                    have e3 : L1.lp = lp := by rw [← h1]
                    have e4 : L1.pb = pb := by rw [← h1]
                    have e5 : L1.most = most := by rw [← h1]
                    have hcnt : L.cnt = a := by
                      unfold Lay.cnt
                      rw [hp2, hp3, e2, e3, HK.out.1, HK.out.2]
                    subst hcnt
                    obtain ⟨L', k1, k2, k3, k4, k5, k6, k7, k8⟩ := hM.made hL HL1'.out HL2'.out (HH.out.1.keeps HB.out.2.2 (fun h => h)) (fun o ho ho2 => by omega) (fun i hi hi2 hi3 => by omega) (fun b hb => by omega) (by rw [hp2, hp3, e2, e3]; exact HH.out.2.1) (by rw [hp4, e4]; exact HH.out.2.2.1) rfl
                    exact ⟨L', by rw [k1]; rfl, by rw [k2, hp2, e2], by rw [k3, hp3, e3], by rw [k4, hp4, e4], by rw [k5, hp5, e5], k6, fun b hb => Nat.le_trans HB.out.2.2.size (k7 b hb), HB.out.2.2.trans k8⟩
                  · have hi2 : i < 14 := by omega
                    have d2 : decide ((i : Int) < 14) = true := by simp; omega
                    have fi : IntKind.i64.wrap ((i : Int) + 1) = (i : Int) + 1 := IntWalk.i64_in _ (by omega)
                    have hi0 : (0 : Int) ≤ (i : Int) := by omega
                    have hi1 : (i : Int) < 14 := by omega
                    have HBase := hid (fun w0 => base_any i w0 (by omega))
                    have hbn : (baseN i).2 = i / 2 - 1 := by unfold baseN; rw [if_neg (by omega), if_neg (by omega)]
                    generalize baseN i = bb at HBase hbn
                    obtain ⟨bx, bn⟩ := bb
                    dsimp only at HBase hbn
                    obtain ⟨N, hN⟩ : ∃ N, (2 : Nat) ^ bn = N := ⟨_, rfl⟩
                    have HNewB := hid (fun w0 => pnew_any bn w0 (by omega))
                    rw [hN] at HNewB
                    have htz : N = tsz (7 + i) := by
                      unfold tsz
                      rw [if_neg (by omega), if_pos (by omega), ← hN, hbn, show 7 + i - 7 = i from by omega]
                    obtain ⟨cs, hB, hz⟩ := hM.cs
                    obtain ⟨old, hold⟩ : ∃ v, cs[447 + i]? = some v := ⟨cs[447 + i], by simp⟩
                    have HM := hid (And.intro hM (And.intro hB (And.intro hold htz)))
                    clear hM hB he hN hbn hold htz
                    obtain ⟨wk, rfl⟩ : ∃ wk : World, wk = wr := ⟨_, rfl⟩
                    go_upto_region 27 with (go_at_call 62; refine (HBase.out _).mono ?_; rintro z w2 ⟨rfl, rfl⟩)
                    refine wp_region_held_drew (S := (fun V => True)) (by kernel_rfl) (by (try dsimp only); (first | done | trivial)) (fun hHeld => ?_)
                    refine wpAnyH_take (i := 0) (oi := ⟨some 100, _, _, _, _, _⟩) (v := ?v0t) rfl (by kernel_rfl) (by kernel_rfl) (by kernel_rfl) (fun _ _ _ h => h) (Or.inl ⟨by rfl, ?h0t⟩) (by assumption) ?r0t
                    case h0t => intro w hSw; (try dsimp only at hSw); go_simp; (try with_reducible rfl)
                    try simp only [Act.put, List.setIfInBounds_toArray, List.set_cons_zero, List.set_cons_succ]
                    refine wpAnyH_take (i := 1) (oi := ⟨some 101, _, _, _, _, _⟩) (v := ?v1t) rfl (by kernel_rfl) (by kernel_rfl) (by kernel_rfl) (fun _ _ _ h => h) (Or.inl ⟨by rfl, ?h1t⟩) (by assumption) ?r1t
                    case h1t => intro w hSw; (try dsimp only at hSw); go_simp; (try with_reducible rfl)
                    try simp only [Act.put, List.setIfInBounds_toArray, List.set_cons_zero, List.set_cons_succ]
                    refine wpAnyH_take (i := 2) (oi := ⟨some 102, _, _, _, _, _⟩) (v := ?v2t) rfl (by kernel_rfl) (by kernel_rfl) (by kernel_rfl) (fun _ _ _ h => h) (Or.inl ⟨by rfl, ?h2t⟩) (by assumption) ?r2t
                    case h2t => intro w hSw; (try dsimp only at hSw); go_simp; (try with_reducible rfl)
                    try simp only [Act.put, List.setIfInBounds_toArray, List.set_cons_zero, List.set_cons_succ]
                    refine wpAnyH_take (i := 4) (oi := ⟨some 104, _, _, _, _, _⟩) (v := ?v4t) rfl (by kernel_rfl) (by kernel_rfl) (by kernel_rfl) (fun _ _ _ h => h) (Or.inl ⟨by rfl, ?h4t⟩) (by assumption) ?r4t
                    case h4t => intro w hSw; (try dsimp only at hSw); go_simp; (try with_reducible rfl)
                    try simp only [Act.put, List.setIfInBounds_toArray, List.set_cons_zero, List.set_cons_succ]
                    refine wpAnyH_take (i := 5) (oi := ⟨some 105, _, _, _, _, _⟩) (v := ?v5t) rfl (by kernel_rfl) (by kernel_rfl) (by kernel_rfl) (fun _ _ _ h => h) (Or.inl ⟨by rfl, ?h5t⟩) (by assumption) ?r5t
                    case h5t => intro w hSw; (try dsimp only at hSw); go_simp; (try with_reducible rfl)
                    try simp only [Act.put, List.setIfInBounds_toArray, List.set_cons_zero, List.set_cons_succ]
                    refine wpAnyH_ready (rs := [3]) (by kernel_rfl) (by simp) ?_
                    refine AllReadyH.cons (o := ⟨some 103, _, _, _, _, _⟩) rfl (fun K hK => ?_) AllReadyH.nil
                    go_simp; (go_at_call 60; refine (HNewB.out _).mono ?_; rintro z w4 ⟨gn, rfl, hBn, hgn, hs4⟩; have hb4 := HM.out.2.1.drew.keeps hs4 (fun h => h); have hc4 := (hb4.cell (447 + i)).trans HM.out.2.2.1; have hz4 := hb4.frozen (447 + i); clear hb4)
                    refine hK.out _ _ (by (try dsimp only); (first | done | trivial)) (fun hHeld => ?_)
                    clear hK K
                    try simp only [Act.put, List.setIfInBounds_toArray, List.set_cons_zero, List.set_cons_succ]
                    refine wpAnyH_take (i := 6) (oi := ⟨some 106, _, _, _, _, _⟩) (v := ?v6t) rfl (by kernel_rfl) (by kernel_rfl) (by kernel_rfl) (fun _ _ _ h => h) (Or.inl ⟨by rfl, ?h6t⟩) (by assumption) ?r6t
                    case h6t => intro w hSw; (try dsimp only at hSw); go_simp; (try with_reducible rfl)
                    try simp only [Act.put, List.setIfInBounds_toArray, List.set_cons_zero, List.set_cons_succ]
                    refine wpAnyH_ready (rs := [7]) (by kernel_rfl) (by simp) ?_
                    refine AllReadyH.cons (o := ⟨none, _, _, _, _, _⟩) rfl (fun K hK => ?_) AllReadyH.nil
                    go_simp
                    refine hK.out _ _ (by (try dsimp only); (first | done | trivial)) (fun hHeld => ?_)
                    clear hK K
                    try simp only [Act.put, List.setIfInBounds_toArray, List.set_cons_zero, List.set_cons_succ]
                    refine wpAnyH_done (by kernel_rfl) ?_ _
                    go_wp2_with fail
                    go_roundw
                    case rel =>
                      refine ⟨_, _, _, _, _, _, _, _, _, _, _, _, _, _, _, _, _, _, _, ?_, rfl⟩
                      exact ⟨i + 1, by go_num, by omega, by omega, (HM.out.1.tree (i := 7 + i) (hs4.drew_left) hBn HM.out.2.2.2 hgn (by omega) (by omega) (by omega) (by omega)).dcongr (fun o ho => by omega) (fun j hj => by omega)⟩
                    case measure => simp [intOf]; omega
              · have hi2 : i < 4 := by omega
                have d1 : decide ((i : Int) < 4) = true := by simp; omega
                have fi : IntKind.i64.wrap ((i : Int) + 1) = (i : Int) + 1 := IntWalk.i64_in _ (by omega)
                have hi0 : (0 : Int) ≤ (i : Int) := by omega
                have hi1 : (i : Int) < 4 := by omega
                obtain ⟨cs, hB, hz⟩ := hM.cs
                obtain ⟨old, hold⟩ : ∃ v, cs[443 + i]? = some v := ⟨cs[443 + i], by simp⟩
                have HM := hid (And.intro hM (And.intro hB hold))
                clear hM hB he hold
                obtain ⟨wj, rfl⟩ : ∃ wj : World, wj = wr := ⟨_, rfl⟩
                go_upto_region 21 with fail
                refine wp_region_held_drew (S := (fun V => True)) (by kernel_rfl) (by (try dsimp only); (first | done | trivial)) (fun hHeld => ?_)
                refine wpAnyH_take (i := 0) (oi := ⟨some 84, _, _, _, _, _⟩) (v := ?v0s) rfl (by kernel_rfl) (by kernel_rfl) (by kernel_rfl) (fun _ _ _ h => h) (Or.inl ⟨by rfl, ?h0s⟩) (by assumption) ?r0s
                case h0s => intro w hSw; (try dsimp only at hSw); go_simp; (try with_reducible rfl)
                try simp only [Act.put, List.setIfInBounds_toArray, List.set_cons_zero, List.set_cons_succ]
                refine wpAnyH_take (i := 1) (oi := ⟨some 85, _, _, _, _, _⟩) (v := ?v1s) rfl (by kernel_rfl) (by kernel_rfl) (by kernel_rfl) (fun _ _ _ h => h) (Or.inl ⟨by rfl, ?h1s⟩) (by assumption) ?r1s
                case h1s => intro w hSw; (try dsimp only at hSw); go_simp; (try with_reducible rfl)
                try simp only [Act.put, List.setIfInBounds_toArray, List.set_cons_zero, List.set_cons_succ]
                refine wpAnyH_take (i := 3) (oi := ⟨some 87, _, _, _, _, _⟩) (v := ?v3s) rfl (by kernel_rfl) (by kernel_rfl) (by kernel_rfl) (fun _ _ _ h => h) (Or.inl ⟨by rfl, ?h3s⟩) (by assumption) ?r3s
                case h3s => intro w hSw; (try dsimp only at hSw); go_simp; (try with_reducible rfl)
                try simp only [Act.put, List.setIfInBounds_toArray, List.set_cons_zero, List.set_cons_succ]
                refine wpAnyH_take (i := 4) (oi := ⟨some 88, _, _, _, _, _⟩) (v := ?v4s) rfl (by kernel_rfl) (by kernel_rfl) (by kernel_rfl) (fun _ _ _ h => h) (Or.inl ⟨by rfl, ?h4s⟩) (by assumption) ?r4s
                case h4s => intro w hSw; (try dsimp only at hSw); go_simp; (try with_reducible rfl)
                try simp only [Act.put, List.setIfInBounds_toArray, List.set_cons_zero, List.set_cons_succ]
                refine wpAnyH_ready (rs := [2]) (by kernel_rfl) (by simp) ?_
                refine AllReadyH.cons (o := ⟨some 86, _, _, _, _, _⟩) rfl (fun K hK => ?_) AllReadyH.nil
                go_simp; (go_at_call 60; refine (HNew.out 6 _ (by decide)).mono ?_; rintro z w4 ⟨gn, rfl, hBn, hgn, hs4⟩; have hb4 := HM.out.2.1.drew.keeps hs4 (fun h => h); have hc4 := (hb4.cell (443 + i)).trans HM.out.2.2; have hz4 := hb4.frozen (443 + i); clear hb4)
                refine hK.out _ _ (by (try dsimp only); (first | done | trivial)) (fun hHeld => ?_)
                clear hK K
                try simp only [Act.put, List.setIfInBounds_toArray, List.set_cons_zero, List.set_cons_succ]
                refine wpAnyH_take (i := 5) (oi := ⟨some 89, _, _, _, _, _⟩) (v := ?v5s) rfl (by kernel_rfl) (by kernel_rfl) (by kernel_rfl) (fun _ _ _ h => h) (Or.inl ⟨by rfl, ?h5s⟩) (by assumption) ?r5s
                case h5s => intro w hSw; (try dsimp only at hSw); go_simp; (try with_reducible rfl)
                try simp only [Act.put, List.setIfInBounds_toArray, List.set_cons_zero, List.set_cons_succ]
                refine wpAnyH_ready (rs := [6]) (by kernel_rfl) (by simp) ?_
                refine AllReadyH.cons (o := ⟨none, _, _, _, _, _⟩) rfl (fun K hK => ?_) AllReadyH.nil
                go_simp
                refine hK.out _ _ (by (try dsimp only); (first | done | trivial)) (fun hHeld => ?_)
                clear hK K
                try simp only [Act.put, List.setIfInBounds_toArray, List.set_cons_zero, List.set_cons_succ]
                refine wpAnyH_done (by kernel_rfl) ?_ _
                go_wp2_with fail
                go_roundw
                case rel => exact ⟨i + 1, by go_num, by omega, (HM.out.1.tree (i := 3 + i) (n := 64) (hs4.drew_left) hBn (tsz_slot' (by omega) (by omega)).symm hgn (by omega) (by omega) (by omega) (by omega)).dcongr (fun o ho => by omega) (fun j hj => by omega)⟩
                case measure => simp [intOf]; omega
          · have ha2 : a < K := by omega
            have d0 : decide ((a : Int) < (K : Int)) = true := by simpa using ha2
            have fi : IntKind.i64.wrap ((a : Int) + 1) = (a : Int) + 1 := IntWalk.i64_in _ (by omega)
            have hi0 : (0 : Int) ≤ (a : Int) := by omega
            obtain ⟨L, q, c, hp, hM, hL⟩ := hM
            have hc := hL.cell
            have hmbl := hM.lt.1
            have HM := hid (And.intro hp (And.intro hM hL))
            clear hp hM hL he
            obtain ⟨wi, rfl⟩ : ∃ wi : World, wi = wr := ⟨_, rfl⟩
            go_upto_region 16 with fail
            refine wp_region_S (S := (fun V => V.cell? ⟨mb, 442, none⟩ = some (.slice q a c))) 8 (by kernel_rfl) (by (try dsimp only); exact hc) (fun hHeld => ?_)
            refine wpAnyS_take (i := 0) (oi := ⟨some 70, _, _, _, _, _⟩) (v := ?v0) rfl (by kernel_rfl) (by kernel_rfl) (by kernel_rfl) (by kernel_rfl) (fun _ _ _ h => h) (Or.inl ⟨by rfl, ?h0⟩) (by assumption) ?r0
            case h0 => intro w hSw; (try dsimp only at hSw); go_simp; (try with_reducible rfl)
            try simp only [Act.put, List.setIfInBounds_toArray, List.set_cons_zero, List.set_cons_succ]
            refine wpAnyS_take (i := 1) (oi := ⟨some 71, _, _, _, _, _⟩) (v := ?v1) rfl (by kernel_rfl) (by kernel_rfl) (by kernel_rfl) (by kernel_rfl) (fun _ _ _ h => h) (Or.inl ⟨by rfl, ?h1⟩) (by assumption) ?r1
            case h1 => intro w hSw; (try dsimp only at hSw); go_simp; (try with_reducible rfl)
            try simp only [Act.put, List.setIfInBounds_toArray, List.set_cons_zero, List.set_cons_succ]
            refine wpAnyS_take (i := 2) (oi := ⟨some 72, _, _, _, _, _⟩) (v := ?v2) rfl (by kernel_rfl) (by kernel_rfl) (by kernel_rfl) (by kernel_rfl) (fun _ _ _ h => h) (Or.inl ⟨by rfl, ?h2⟩) (by assumption) ?r2
            case h2 => intro w hSw; (try dsimp only at hSw); go_simp; (try with_reducible rfl)
            try simp only [Act.put, List.setIfInBounds_toArray, List.set_cons_zero, List.set_cons_succ]
            refine wpAnyS_take (i := 3) (oi := ⟨some 73, _, _, _, _, _⟩) (v := ?v3) rfl (by kernel_rfl) (by kernel_rfl) (by kernel_rfl) (by kernel_rfl) (fun _ _ _ h => h) (Or.inl ⟨by rfl, ?h3⟩) (by assumption) ?r3
            case h3 => intro w hSw; (try dsimp only at hSw); go_simp; (try with_reducible rfl)
            try simp only [Act.put, List.setIfInBounds_toArray, List.set_cons_zero, List.set_cons_succ]
            refine wpAnyS_take (i := 4) (oi := ⟨some 74, _, _, _, _, _⟩) (v := ?v4) rfl (by kernel_rfl) (by kernel_rfl) (by kernel_rfl) (by kernel_rfl) (fun _ _ _ h => h) (Or.inl ⟨by rfl, ?h4⟩) (by assumption) ?r4
            case h4 => intro w hSw; (try dsimp only at hSw); go_simp; (try with_reducible rfl)
            try simp only [Act.put, List.setIfInBounds_toArray, List.set_cons_zero, List.set_cons_succ]
            refine wpAnyS_one (i := 5) (o := ⟨some 75, _, _, _, _, _⟩) rfl (by kernel_rfl) (fun K hK => ?_)
            go_simp; (go_at_call 60; refine (HNew.out 10 _ (by decide)).mono ?_; rintro z w3 ⟨gn, rfl, hBn, hgn, hs3⟩; have z1 : w3.cell? ⟨mb, 442, none⟩ = some (.slice q a c) := (hs3.cell (p := ⟨mb, 442, none⟩) hmbl (fun h => h)).trans hc)
            refine hK.out _ _ (fun _ => by (try dsimp only); exact z1) ?_
            clear hK K
            try simp only [Act.put, List.setIfInBounds_toArray, List.set_cons_zero, List.set_cons_succ]
            refine wpAnyS_one (i := 6) (o := ⟨some 76, _, _, _, _, _⟩) rfl (by kernel_rfl) (fun K hK => ?_)
            go_simp; have hs3a : Same w3 (w3.alloc (.cells #[.slice (some ⟨gn, 0, none⟩) 1024 1024] 118)) := (Keeps.refl _ _).alloc _; have z2 : (w3.alloc (.cells #[.slice (some ⟨gn, 0, none⟩) 1024 1024] 118)).cell? ⟨mb, 442, none⟩ = some (.slice q a c) := (hs3a.cell (p := ⟨mb, 442, none⟩) (Nat.lt_of_lt_of_le hmbl hs3.size) (fun h => h)).trans z1
            refine hK.out _ _ (fun _ => by (try dsimp only); exact z2) ?_
            clear hK K
            try simp only [Act.put, List.setIfInBounds_toArray, List.set_cons_zero, List.set_cons_succ]
            refine wpAnyS_one (i := 7) (o := ⟨some 77, _, _, _, _, _⟩) rfl (by kernel_rfl) (fun K hK => ?_)
            refine wp_push _ _ _ 126 rfl 118 i0 (.slice none 0 0) 1 24 Tryz.underlying126 HI rfl (by decide) _ _ _ _ rfl ((HM.out.2.2.own.same (Keeps.drew_left hs3)).own.alloc _) ⟨w3.heap.size, 0, none⟩ 1 1 [.slice (some ⟨gn, 0, none⟩) 1024 1024] rfl rfl (cell_one_at (by simp)) (tree_one _ rfl) (hid (by unfold maxLen; omega)) (hid (by omega)) ?_; intro q1 c1 w6 hown1 hk1 hat1 hold1; clear hold1; obtain ⟨hx1, hx2, HX⟩ := MkL.push HM.out.1 HM.out.2.1 HM.out.2.2 (Keeps.drew_left hs3) hBn hgn hs3a hown1 hk1 hat1 (by omega) (by omega) (fun o ho => by omega); clear hown1 hk1 hat1
            refine hK.out _ _ (fun _ => by (try dsimp only); exact hx1) ?_
            clear hK K
            try simp only [Act.put, List.setIfInBounds_toArray, List.set_cons_zero, List.set_cons_succ]
            refine wpAnyS_one (i := 8) (o := ⟨some 78, _, _, _, _, _⟩) rfl (by kernel_rfl) (fun K hK => ?_)
            go_simp
            refine hK.out _ _ (fun h => absurd h (by decide)) ?_
            clear hK K
            try simp only [Act.put, List.setIfInBounds_toArray, List.set_cons_zero, List.set_cons_succ]
            refine wpAnyS_one (i := 9) (o := ⟨some 79, _, _, _, _, _⟩) rfl (by kernel_rfl) (fun K hK => ?_)
            go_simp
            refine hK.out _ _ (fun h => absurd h (by decide)) ?_
            clear hK K
            try simp only [Act.put, List.setIfInBounds_toArray, List.set_cons_zero, List.set_cons_succ]
            refine wpAnyS_one (i := 10) (o := ⟨none, _, _, _, _, _⟩) rfl (by kernel_rfl) (fun K hK => ?_)
            go_simp
            refine hK.out _ _ (fun h => absurd h (by decide)) ?_
            clear hK K
            try simp only [Act.put, List.setIfInBounds_toArray, List.set_cons_zero, List.set_cons_succ]
            refine wpAnyS_done (by kernel_rfl) ?_ _
            clear hx1 hx2
            go_wp2_with fail
            go_roundw
            case rel => exact ⟨a + 1, by go_num, by omega, HX.out.dcongr (fun _ h => h) (fun i hi => by omega)⟩
            case measure => simp [intOf]; omega
      · have hi2 : i < 12 := by omega
        have d0 : decide ((i : Int) < 12) = true := by simp; omega
        have fi : IntKind.i64.wrap ((i : Int) + 1) = (i : Int) + 1 := IntWalk.i64_in _ (by omega)
        have hi0 : (0 : Int) ≤ (i : Int) := by omega
        have hi1 : (i : Int) < 12 := by omega
        obtain ⟨cs1, hB1, hz1⟩ := hM.cs
        have HM := hid hM
        have HB1 := hid hB1
        clear hM hB1 he
        go_wp2_with fail
        refine (mbegin_any mb (10 + i * 16) 16 16 cs1 _ _ HB1.out (by omega) (by decide)).mono ?_
        rintro z w2 ⟨rfl, hB2, hK2⟩
        have hM2 := HM.out.fill HB1.out hB2 hK2 (by omega) (by omega)
        obtain ⟨cs2, hB3, hz3⟩ := hM2.cs
        have HM2 := hid hM2
        have HB3 := hid hB3
        clear hM2 hB3 hB2 hK2
        go_wp2_with fail
        refine (mbegin_any mb (226 + i * 16) 16 16 cs2 _ _ HB3.out (by omega) (by decide)).mono ?_
        rintro z w4 ⟨rfl, hB4, hK4⟩
        have HM4 := hid (HM2.out.fill HB3.out hB4 hK4 (by omega) (by omega))
        clear hB4 hK4
        go_wp2_with fail
        go_roundw
        case rel => exact ⟨i + 1, by go_num, by omega, HM4.out.dcongr (fun o ho => by omega) (fun _ h => h)⟩
        case measure => simp [intOf]; omega
end Go.Proofs.YtalopgbkjgjppaaGreatDoor
