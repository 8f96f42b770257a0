/- The walk of the statement OptimalLeast. -/
import Derived.Test.YtalopgbkjgjppaaOx
namespace Go.Proofs.Ytalopgbkjgjppaa
open Go.RowKit Go.Cas

theorem val_len {s : List UInt8} {W : Int} {i d n : Nat} (h : Val s W i d n) : 1 ≤ i ∧ d ≤ i ∧ 2 ≤ n ∧ 1 ≤ d ∧ (i ≤ s.length → i + n ≤ s.length) := by
  have := aliN_le s (i - d) i
  obtain ⟨h1, h2, h3, h4, h5⟩ := h
  omega

/-- The cheapest way of "aaaa". -/
theorem sp16_aaaa {O : List Opt} (h : PlainTo commonT [97, 97, 97, 97] (min 9 1048576) 4 O) : obackL O = [⟨1, 0, 0, 97⟩, ⟨2, 1, 3, 0⟩] := by
  have hw := plain_ways commonT_good h
  have hl := h.length
  have hl4 : ([97, 97, 97, 97] : List UInt8).length = 4 := rfl
  rw [hl4] at hl
  have L1 : commonT.lit = 34 := rfl
  have ed : ∀ n d, 36 ≤ commonT.edge n d := by
    intro n d
    have := commonT.dist_ok commonT_good d
    have : 16 ≤ commonT.len n := by unfold Tab.len; split <;> decide
    have : commonT.mat = 20 := rfl
    unfold Tab.edge
    omega
  have e31 : commonT.edge 3 1 = 36 := by decide
  have f1 : oat O 1 = (34, litPk 97) := by
    obtain ⟨a, g1, g2, g3, g4⟩ := hw.kind 1 (by decide) (hw.set 1 (by decide) (by decide))
    rcases g4 with ⟨e, g4⟩ | ⟨d, n, e, hv, g4⟩
    · obtain rfl : a = 0 := by omega
      rw [g4, hw.start, L1]
      rfl
    · have := val_len hv; omega
  have v113 : Val [97, 97, 97, 97] (min 9 1048576) 1 1 3 := by
    refine ⟨by decide, by decide, by decide, by decide, by decide⟩
  have c4 := (hw.edge 1 1 3 (by decide) v113).2
  rw [f1, e31] at c4
  have f2 : 68 ≤ (oat O 2).1 := by
    obtain ⟨a, g1, g2, g3, g4⟩ := hw.kind 2 (by decide) (hw.set 2 (by decide) (by decide))
    rcases g4 with ⟨e, g4⟩ | ⟨d, n, e, hv, g4⟩
    · obtain rfl : a = 1 := by omega
      rw [g4, f1, L1]; decide
    · have := val_len hv; omega
  have f3 : 70 ≤ (oat O 3).1 := by
    obtain ⟨a, g1, g2, g3, g4⟩ := hw.kind 3 (by decide) (hw.set 3 (by decide) (by decide))
    rcases g4 with ⟨e, g4⟩ | ⟨d, n, e, hv, g4⟩
    · obtain rfl : a = 2 := by omega
      rw [g4, L1]; dsimp only; omega
    · have := val_len hv
      obtain rfl : a = 1 := by omega
      have := ed n d
      rw [g4, f1]; dsimp only; omega
  have f4 : (oat O 4).2 = matPk 1 3 := by
    obtain ⟨a, g1, g2, g3, g4⟩ := hw.kind 4 (by decide) (hw.set 4 (by decide) (by decide))
    rcases g4 with ⟨e, g4⟩ | ⟨d, n, e, hv, g4⟩
    · obtain rfl : a = 3 := by omega
      rw [g4, L1] at c4; dsimp only at c4; omega
    · have hvl := val_len hv
      rw [hl4] at hvl
      have h12 : a = 1 ∨ a = 2 := by omega
      rcases h12 with rfl | rfl
      · obtain rfl : n = 3 := by omega
        obtain rfl : d = 1 := by omega
        rw [g4]
      · have := ed n d
        rw [g4] at c4; dsimp only at c4; omega
  unfold obackL
  rw [hl]
  show (backGo O 5 ((5 : Int) - 1)).reverse = _
  unfold backGo
  rw [if_pos (by decide), show ((5 : Int) - 1).toNat = 4 from rfl, f4, show ((5 : Int) - 1 - max (matPk 1 3).l 1) = 1 from by decide]
  unfold backGo
  rw [if_pos (by decide), show ((1 : Int)).toNat = 1 from rfl, f1, show ((1 : Int) - max ((34 : Int), litPk 97).2.l 1) = 0 from by decide, backGo_stop _ _ _ (by decide)]
  rfl

theorem sp16_ab {O : List Opt} (h : PlainTo commonT [97, 98] (min 9 1048576) 2 O) : (obackL O).length = 2 := by
  have hw := plain_ways commonT_good h
  have hl := h.length
  have hl4 : ([97, 98] : List UInt8).length = 2 := rfl
  rw [hl4] at hl
  have f : ∀ j, 0 < j → j ≤ 2 → ∃ y, (oat O j).2 = litPk y := by
    intro j h0 h2
    obtain ⟨a, g1, g2, g3, g4⟩ := hw.kind j h0 (hw.set j h0 h2)
    rcases g4 with ⟨e, g4⟩ | ⟨d, n, e, hv, g4⟩
    · exact ⟨_, by rw [g4]⟩
    · have hvl := val_len hv
      rw [hl4] at hvl g3
      omega
  obtain ⟨y1, e1⟩ := f 1 (by decide) (by decide)
  obtain ⟨y2, e2⟩ := f 2 (by decide) (by decide)
  unfold obackL
  rw [hl]
  show (backGo O 3 ((3 : Int) - 1)).reverse.length = _
  unfold backGo
  rw [if_pos (by decide), show ((3 : Int) - 1).toNat = 2 from rfl, e2, show ((3 : Int) - 1 - max (litPk y2).l 1) = 1 from by unfold litPk; dsimp only; omega]
  unfold backGo
  rw [if_pos (by decide), show ((1 : Int)).toNat = 1 from rfl, e1, show ((1 : Int) - max (litPk y1).l 1) = 0 from by unfold litPk; dsimp only; omega, backGo_stop _ _ _ (by decide)]
  rfl

set_option maxHeartbeats 4000000 in
set_option maxRecDepth 100000 in
theorem speaks16_any (w : World) : Calls Try.prog 28 #[] w fun z w' => z = .returned (.bool true) ∧ Same w w' := by
  have HC := hid common_any
  have HP := hid (fun w0 => plain_any [97, 97, 97, 97] 9 commonT w0 commonT_good (by decide))
  have HQ := hid (fun w0 => oparse_any [97, 98] 9 commonT w0 commonT_good (by decide))
  unfold commonT Tab.val at HC
  unfold Tab.val at HP HQ
  go_enter Try.func28, Try.ntmps28
  go_wp2_with fail
  refine (HC.out _).mono ?_
  rintro z w1 ⟨rfl, hs1⟩
  go_wp2_with fail
  refine (HP.out _).mono ?_
  rintro z w2 ⟨O, hO, q, c, rfl, hp, hs2, hb⟩
  have HO := hid (sp16_aaaa hO)
  rw [HO.out] at hp
  rw [HO.out]
  obtain ⟨g, rfl⟩ := hp.ex (by decide)
  have a0 := hp.at 0 _ rfl
  have a1 := hp.at 1 _ rfl
  dsimp only at a0 a1
  have hl : ([⟨1, 0, 0, 97⟩, ⟨2, 1, 3, 0⟩] : List Pk).length = 2 := rfl
  rw [hl]
  clear hO hb hl hp HP
  go_wp2_with fail
  refine (HC.out _).mono ?_
  rintro z w3 ⟨rfl, hs3⟩
  go_wp2_with fail
  refine (HQ.out _).mono ?_
  rintro z w4 ⟨O2, hO2, q2, c2, rfl, hp2, hs4, hb2⟩
  have h2 : (repeatL (obackL O2)).length = 2 := by rw [repeatL_len]; exact sp16_ab hO2
  rw [h2]
  clear hp2 hO2 h2 hb2
  go_wp2_with fail
  go_ret
  exact ⟨rfl, ((hs1.trans hs2).trans hs3).trans hs4⟩

set_option maxHeartbeats 8000000 in
set_option maxRecDepth 100000 in
theorem oleast_any (s0 : List UInt8) (W : Int) (t : Tab) (w : World) (hs0 : s0.length ≤ maxLen) :
    Calls Try.prog 8 #[.string ⟨s0.toArray⟩, i6 W, t.val] w fun e w' => e = .returned (.bool true) ∧ Same w w' := by
  have HSp := hid speaks16_any
  unfold Tab.val
  go_enter Try.func8, Try.ntmps8
  go_wp2_with fail
  refine (HSp.out _).mono ?_
  rintro z w1 ⟨rfl, hs1⟩
  have hbx := Blk.keeps (Blk.new w #[i6 t.lit, i6 t.mat, i6 t.near, i6 t.far, i6 t.bit] 59) hs1 (fun h => h)
  have hsa : Same w w1 := ((Keeps.refl (fun _ => False) w).alloc _).trans hs1
  generalize hbe : w.heap.size = bx at *
  have hbge : w.heap.size ≤ bx := by omega
  clear hs1 hbe
  go_upto_region 3 with fail
  go_cut [0] (fun v wx => ∃ t0 : List UInt8, v = .string ⟨t0.toArray⟩ ∧ t0.length ≤ 80 ∧ wx = w1)
  case first =>
    go_wp2_with fail
    all_goals go_meet
    exact ⟨s0.take 80, by congr 1; apply ByteArray.ext; simp; omega, by simp; omega, rfl⟩
  case rest =>
    obtain ⟨s, rfl, hs, rfl⟩ := hcut
    have y0 := hbx.cell 0
    have y1 := hbx.cell 1
    have y2 := hbx.cell 2
    have y3 := hbx.cell 3
    have y4 := hbx.cell 4
    simp only [List.getElem?_toArray, List.getElem?_cons_succ, List.getElem?_cons_zero] at y0 y1 y2 y3 y4
    by_cases ht : t.good
    · have HGd := hid (pgood_any t true ⟨fun _ => ht, fun _ => rfl⟩)
      have HPl := hid (fun w0 => plain_any s W t w0 ht (by omega))
      have HLe := hid (fun w0 => least_any s W t w0 ht (by omega))
      have HT := hid ht
      unfold Tab.val at HGd HPl HLe
      clear ht
      go_wp2_with fail
      refine (HGd.out _).mono ?_
      rintro z w2 ⟨rfl, hs2⟩
      have hbt := Blk.keeps (Blk.new wc #[i6 t.lit, i6 t.mat, i6 t.near, i6 t.far, i6 t.bit] 60) hs2 (fun h => h)
      have hbx2 := (hbx.alloc (.cells #[i6 t.lit, i6 t.mat, i6 t.near, i6 t.far, i6 t.bit] 60)).keeps hs2 (fun h => h)
      have hsb : Same w w2 := (hsa.alloc _).trans hs2
      generalize wc.heap.size = bt at *
      have yt := fun i => hbt.cell i
      have t0 := yt 0
      have t1 := yt 1
      have t2 := yt 2
      have t3 := yt 3
      have t4 := yt 4
      simp only [List.getElem?_toArray, List.getElem?_cons_succ, List.getElem?_cons_zero] at t0 t1 t2 t3 t4
      clear y0 y1 y2 y3 y4 hsa hbx hs2 yt
      go_wp2_with fail
      refine (HPl.out _).mono ?_
      rintro z w3 ⟨O, hO, q, c, rfl, hp, hs3, hb⟩
      obtain ⟨p1, p2, p3, p4, p5⟩ := plain_says HT.out (by omega) hO
      have HA := hid (fun w0 h => apply_any q c (obackL O) s.length w0 h (by omega) (by omega))
      rw [p1] at HA
      dsimp only at HA
      have HP2 := hid p2
      have HP3 := hid p3
      have HP4 := hid p4
      have hbt3 := hbt.keeps hs3 (fun h => h)
      have hbx3 := hbx2.keeps hs3 (fun h => h)
      have hsc := hsb.trans hs3
      have HO := hid hO
      clear p1 p2 p3 p4 hO hb hbt hbx2 hsb hs3 t0 t1 t2 t3 t4
      go_wp2_with fail
      refine (HA.out _ hp).mono ?_
      rintro z w4 ⟨rfl, hs4⟩
      have hp4 := hp.keeps hs4 (fun _ _ h => h)
      have hbt4 := hbt3.keeps hs4 (fun h => h)
      have hbx4 := hbx3.keeps hs4 (fun h => h)
      have hsd := hsc.trans hs4
      clear hp hbt3 hbx3 hsc hs4
      obtain ⟨L, hL⟩ : ∃ L, obackL O = L := ⟨_, rfl⟩
      rw [hL] at hp4 HP2 HP3 HP4 p5 ⊢
      clear HA hL
      go_wp2_with fail
      go_loopw [11] (fun s11 wx => ∃ k : Nat, s11 = i6 k ∧ k ≤ L.length ∧ Same w4 wx) (fun s11 _ => L.length - (intOf s11).toNat)
      case atStart => exact ⟨0, rfl, Nat.zero_le _, Keeps.refl _ _⟩
      case round =>
        obtain ⟨k, rfl, hk, hsm⟩ := hrel
        by_cases hlt : k < L.length
        · have hpr := hp4.keeps hsm (fun _ _ h => h)
          obtain ⟨g, rfl⟩ := hpr.ex (by omega)
          have hget : L[k]? = some L[k] := by simp [hlt]
          obtain ⟨x0, x1, x2, x3⟩ := hpr.at k _ hget
          have hd := HP4.out L[k] (List.getElem_mem hlt)
          generalize L[k] = p at *
          obtain ⟨pk_, pd, pl, py⟩ := p
          dsimp only at x0 x1 hd
          have d0 : decide ((k : Int) < (L.length : Int)) = true := by simpa using hlt
          clear x2 x3 hget
          by_cases h2 : pk_ = 2
          · subst h2
            have hd2 : pd ≤ W := by have := hd rfl; omega
            have d2 : decide (pd > W) = false := by simpa using hd2
            have d3 : decide (W < pd) = false := by simpa using hd2
            clear hd hd2
            go_wp2_with fail
            exact ⟨⟨k + 1, by go_num, hlt, hsm⟩, by simp [intOf]; omega⟩
          · have d2 : (pk_ == 2) = false := by simpa using h2
            clear hd
            go_wp2_with fail
            exact ⟨⟨k + 1, by go_num, hlt, hsm⟩, by simp [intOf]; omega⟩
        · obtain rfl : k = L.length := by omega
          have d0 : decide ((L.length : Int) < (L.length : Int)) = false := by simp
          have hbt5 := hbt4.keeps hsm (fun h => h)
          have hbx5 := hbx4.keeps hsm (fun h => h)
          have hp5 := hp4.keeps hsm (fun _ _ h => h)
          have yt := fun i => hbt5.cell i
          have t0 := yt 0
          have t1 := yt 1
          have t2 := yt 2
          have t3 := yt 3
          have t4 := yt 4
          simp only [List.getElem?_toArray, List.getElem?_cons_succ, List.getElem?_cons_zero] at t0 t1 t2 t3 t4
          have HOf := hid (of_any t HT.out q c L wr hp5 HP3.out (by omega))
          unfold Tab.val at HOf
          clear yt hp5 hp4 hk hlt
          go_wp2_with fail
          refine HOf.out.mono ?_
          rintro z w5 ⟨rfl, hs5⟩
          have hbx6 := hbx5.keeps hs5 (fun h => h)
          have yt := fun i => hbx6.cell i
          have t0 := yt 0
          have t1 := yt 1
          have t2 := yt 2
          have t3 := yt 3
          have t4 := yt 4
          simp only [List.getElem?_toArray, List.getElem?_cons_succ, List.getElem?_cons_zero] at t0 t1 t2 t3 t4
          clear yt HOf
          go_wp2_with fail
          refine (HLe.out _).mono ?_
          rintro z w6 ⟨g, A, rfl, hc, hs6, hLF⟩
          have hcost := ways_least (by omega) (plain_ways HT.out HO.out) hLF
          rw [← HP2.out] at hcost
          rw [← hcost] at hc
          clear hLF hcost t0 t1 t2 t3 t4
          go_wp2_with fail
          go_ret
          exact ⟨rfl, ((hsd.trans hsm).trans hs5).trans hs6⟩
    · have HGd := hid (pgood_any t false ⟨(fun h => nomatch h), fun h => absurd h ht⟩)
      unfold Tab.val at HGd
      go_wp2_with fail
      refine (HGd.out _).mono ?_
      rintro z w2 ⟨rfl, hs2⟩
      go_wp2_with fail
      go_ret
      exact ⟨rfl, (hsa.alloc _).trans hs2⟩
end Go.Proofs.Ytalopgbkjgjppaa
