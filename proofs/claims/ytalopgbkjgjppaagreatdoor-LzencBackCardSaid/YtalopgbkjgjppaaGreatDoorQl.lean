/- The document's model: its distances. -/
import Derived.Test.YtalopgbkjgjppaaGreatDoorQk
import Derived.Test.YtalopgbkjgjppaaGreatDoorGQe
namespace Go.Proofs.YtalopgbkjgjppaaGreatDoor
open Go.RowKit Go.Cas Go.Maps Go.Cas.Enc

theorem dirEN (v : Value) (k : Nat) (b : Int) (w : World) (h : EN w v k) (hk : k ≤ 200000) :
    Calls Tryz.prog 83 #[v, i6 b] w fun z w' => ∃ v', z = .returned v' ∧ EN w' v' (k + 1) ∧ Same w w' := by
  obtain ⟨n, sz, h1, h2, h3, h4⟩ := h
  refine (r3direct_any v n sz b w h1 (by omega) h3 h4).mono ?_
  rintro z w' ⟨v', n', sz', rfl, h5, h6, h7, h8, h9⟩
  exact ⟨v', rfl, ⟨n', sz', h5, by omega, h7, h8⟩, h9⟩

theorem tmod16 (y : Int) : -15 ≤ y.tmod 16 ∧ y.tmod 16 ≤ 15 := by
  rcases Int.le_total 0 y with h | h
  · rw [Int.tmod_eq_emod_of_nonneg h]; omega
  · have := Int.neg_tmod y 16
    rw [Int.tmod_eq_emod_of_nonneg (by omega : 0 ≤ -y)] at this
    omega

theorem i64_low (x : Int) : -9223372036854775808 ≤ IntKind.i64.wrap x ∧ IntKind.i64.wrap x < 9223372036854775808 := by
  simp [IntKind.wrap, IntKind.bits, IntKind.signed]; omega

set_option maxHeartbeats 4000000 in
set_option maxRecDepth 100000 in
theorem r10dist_any (p mb : Nat) (M : Mdl) (k : Nat) (v : Value) (d N : Nat) (w : World) (hD : D10 w p mb M k) (hE : EN w v k) (hk : k + 70 ≤ 200000) (hd : d < 4294967296) (hN : 2 ≤ N ∧ N ≤ 300) :
    Calls Tryz.prog 55 #[.pointer (some ⟨p, 0, none⟩), v, v64 d, i6 N] w fun z w' => ∃ v', z = .returned v' ∧ EN w' v' (k + 70) ∧ D10 w' p mb M (k + 70) ∧ Keeps (fun b => b = mb) w w' := by
  obtain ⟨g, n, cap, sz, rfl, hQ⟩ := QT.start hD hE
  have HSl := hid (fun w0 => r9slot_any d w0 hd)
  have HBa := hid (fun (s : Nat) (w0 : World) (hs : s < 64) => r9base_any s w0 hs)
  have HPw := hid (fun (n : Nat) (w0 : World) (hn : n ≤ 40) => r10power_any n w0 hn)
  obtain ⟨m, hm, hm2⟩ : ∃ m : Nat, (N : Int) - 2 = (m : Int) ∧ m ≤ 298 := ⟨N - 2, by omega, by omega⟩
  have np : ¬ p = mb := fun e => hD.ne e.symm
  have vm : IntKind.i64.wrap (m : Int) = (m : Int) := IntWalk.i64_in _ (by omega)
  clear hD hE hN hd
  go_enter Tryz.func55, Tryz.ntmps55
  go_upto_region 1 with fail
  generalize (w.alloc (.cells (eArr g n cap sz) 56)).alloc (.cells #[.slice none 0 0, .int .u64 0] 56) = w1 at hQ ⊢
  obtain ⟨x, hx⟩ : ∃ x, w.heap.size = x := ⟨_, rfl⟩
  rw [hx] at hQ ⊢
  have nx : ¬ x = mb := by have := hQ.mx; omega
  have HQ0 := hid hQ
  clear hQ hx
  go_upto_if 18 with fail
  go_cut [9] (fun s9 wx => ∃ C : Nat, s9 = i6 C ∧ C ≤ 3 ∧ wx = w1)
  case first =>
    by_cases h3 : m ≤ 3
    · have d0 : decide ((m : Int) > 3) = false := by simp; omega
      have d0' : decide ((3 : Int) < (m : Int)) = false := by simp; omega
      go_wp2_with fail
      go_meet
      exact ⟨m, rfl, h3, rfl⟩
    · have d0 : decide ((m : Int) > 3) = true := by simp; omega
      have d0' : decide ((3 : Int) < (m : Int)) = true := by simp; omega
      go_wp2_with fail
      go_meet
      exact ⟨3, rfl, Nat.le_refl _, rfl⟩
  case rest =>
    obtain ⟨C, rfl, hC, rfl⟩ := hcut
    obtain ⟨w1, rfl⟩ : ∃ w1 : World, w1 = wc := ⟨_, rfl⟩
    go_wp2_with fail
    refine (HSl.out _).mono ?_
    rintro z w2 ⟨⟨S, rfl, hS⟩, rfl⟩
    obtain ⟨w1, rfl⟩ : ∃ w1 : World, w1 = w2 := ⟨_, rfl⟩
    go_upto_region 5 with fail
    obtain ⟨g0, n0, c0, z0, hb0, hE0⟩ := HQ0.out.eb
    have lx0 := hb0.lt
    have lp0 := HQ0.out.D.blk.lt
    have r0 := hb0.cell 0
    have r1 := hb0.cell 1
    have m4 := HQ0.out.D.blk.cell 4
    simp only [Mdl.cells, eArr, List.getElem?_toArray, List.getElem?_cons_succ, List.getElem?_cons_zero] at r0 r1 m4
    have HE0 := hid hE0
    clear hE0 hb0
    go_wp2_with fail
    refine (r10tree_any p mb M (k) _ (300) (C) 6 S false _ HQ0.out.D HE0.out (by omega) (by omega) (by omega) (by omega) (by omega) (by omega)).mono ?_
    rintro z w2 ⟨v2, rfl, hE, hD, hK⟩
    obtain ⟨g, n, cap, sz, rfl, ⟨a0, a1, y0, y1⟩, f0, f1, hQ⟩ := HQ0.out.setx hE hD hK
    have HQ1 := hid hQ
    clear hE hD hK hQ r0 r1 m4 lx0 lp0
    go_upto_region 6 with fail
    clear y0 y1 f0 f1
    generalize ((w2.setCell ⟨x, 0, none⟩ (.slice (some ⟨g, 0, none⟩) n cap)).setCell ⟨x, 1, none⟩ (v64 sz)) = wn at HQ1 ⊢
    clear HE0 HQ0
    go_wp2_with fail
    refine (HBa.out S _ hS).mono ?_
    rintro z w2 ⟨⟨bs, nb, rfl, hbs, hnb, hn6⟩, rfl⟩
    obtain ⟨wn, rfl⟩ : ∃ wn : World, wn = w2 := ⟨_, rfl⟩
    obtain ⟨R, hR, hR2⟩ : ∃ R, IntKind.i64.wrap (IntKind.u64.wrap ((d : Int) - (bs : Int))) = R ∧ (-9223372036854775808 ≤ R ∧ R < 9223372036854775808) := ⟨_, rfl, i64_low _⟩
    have hR3 := hR2.1
    have hR4 := hR2.2
    have vR : IntKind.i64.wrap R = R := IntWalk.i64_in _ (by omega)
    by_cases h4 : S < 4
    · have d0 : decide ((S : Int) < 4) = true := by simp; omega
      obtain ⟨g1, n1, c1, z1, hb1, hE1⟩ := HQ1.out.eb
      have lx1 := hb1.lt
      have lp1 := HQ1.out.D.blk.lt
      have r0 := hb1.cell 0
      have r1 := hb1.cell 1
      have m4 := HQ1.out.D.blk.cell 4
      simp only [Mdl.cells, eArr, List.getElem?_toArray, List.getElem?_cons_succ, List.getElem?_cons_zero] at r0 r1 m4
      have HE1 := hid hE1
      clear hE1 hb1
      obtain ⟨g, n, cap, sz, e2, y0, y1, f0, f1, hQ⟩ := HQ1.out.sety HE1.out HQ1.out.D (Keeps.refl _ _)
      simp only [eArr, Value.agg.injEq, Array.mk.injEq, List.cons.injEq, Value.slice.injEq, Option.some.injEq, Addr.mk.injEq, Value.int.injEq, and_true, true_and, Int.natCast_inj] at e2
      obtain ⟨⟨rfl, rfl, rfl⟩, rfl⟩ := e2
      have HL := hid hQ
      have l0 := hQ.c0
      have l1 := hQ.c1
      clear hQ
      go_wp2_with fail
      refine bodyPost_ret (v := .agg (eArr g1 n1 c1 z1)) (by simp [results, Tryz.results55, go_sem, l0, l1]) rfl ?_
      exact ⟨_, rfl, HL.out.E.mono (by omega), HL.out.D.mono (by omega), HL.out.S⟩
    · have d0 : decide ((S : Int) < 4) = false := by simp; omega
      by_cases h14 : S < 14
      · have d1 : decide ((S : Int) < 14) = true := by simp; omega
        have hn7 := hn6 h14
        obtain ⟨g1, n1, c1, z1, hb1, hE1⟩ := HQ1.out.eb
        have lx1 := hb1.lt
        have lp1 := HQ1.out.D.blk.lt
        have r0 := hb1.cell 0
        have r1 := hb1.cell 1
        have m4 := HQ1.out.D.blk.cell 4
        simp only [Mdl.cells, eArr, List.getElem?_toArray, List.getElem?_cons_succ, List.getElem?_cons_zero] at r0 r1 m4
        have HE1 := hid hE1
        clear hE1 hb1
        go_wp2_with fail
        refine (r10tree_any p mb M (k + 6) _ (310) (S) nb R true _ HQ1.out.D HE1.out (by omega) (by omega) (by omega) (by omega) (by omega) (by omega)).mono ?_
        rintro z w2 ⟨v2, rfl, hE, hD, hK⟩
        obtain ⟨g, n, cap, sz, rfl, y0, y1, f0, f1, hQ⟩ := HQ1.out.sety hE hD hK
        have HL := hid hQ
        have l0 := hQ.c0
        have l1 := hQ.c1
        clear hE hD hK hQ
        go_wp2_with fail
        refine bodyPost_ret (v := .agg (eArr g n cap sz)) (by simp [results, Tryz.results55, go_sem, l0, l1]) rfl ?_
        exact ⟨_, rfl, HL.out.E.mono (by omega), HL.out.D.mono (by omega), HL.out.S⟩
      · have d1 : decide ((S : Int) < 14) = false := by simp; omega
        go_upto_region 12 with fail
        have HR := hid (And.intro hR hR2)
        have HQA := hid HQ1.out
        clear hR hR2 hn6 HQ1
        obtain ⟨nb1, hnb1⟩ : ∃ t : Int, (nb : Int) - 1 = t := ⟨_, rfl⟩
        have hnb2 : -1 ≤ nb1 ∧ nb1 ≤ 30 := by omega
        have vnb : IntKind.i64.wrap nb1 = nb1 := IntWalk.i64_in _ (by omega)
        have HNB := hid (And.intro hnb1 hnb2)
        go_wp2_with fail
        clear hnb1 hnb2
        go_loopw [14] (fun s14 wr => ∃ (z : Int) (c : Nat), s14 = i6 z ∧ -1 ≤ z ∧ z + c + 1 = nb ∧ QT w wr (fun b => b = mb) p mb x (x + 1) M (k + 6 + c)) (fun s14 _ => (intOf s14 + 1).toNat)
        case atStart => exact ⟨nb1, 0, rfl, HNB.out.2.1, by have := HNB.out.1; omega, HQA.out⟩
        case round =>
          obtain ⟨z, c, rfl, hz, hzc, hQ⟩ := hrel
          have hc31 : c ≤ 31 := by omega
          have HQ1 := hid hQ
          clear hQ
          by_cases hz4 : z < 4
          · have d2 : decide (z ≥ 4) = false := by simp; omega
            have d2' : decide ((4 : Int) ≤ z) = false := by simp; omega
            obtain ⟨r16, h16, h16a⟩ : ∃ r, R.tmod 16 = r ∧ (-15 ≤ r ∧ r ≤ 15) := ⟨_, rfl, tmod16 _⟩
            have v16 : IntKind.i64.wrap r16 = r16 := IntWalk.i64_in _ (by omega)
            obtain ⟨g1, n1, c1, z1, hb1, hE1⟩ := HQ1.out.eb
            have lx1 := hb1.lt
            have lp1 := HQ1.out.D.blk.lt
            have r0 := hb1.cell 0
            have r1 := hb1.cell 1
            have m4 := HQ1.out.D.blk.cell 4
            simp only [Mdl.cells, eArr, List.getElem?_toArray, List.getElem?_cons_succ, List.getElem?_cons_zero] at r0 r1 m4
            have HE1 := hid hE1
            clear hE1 hb1
            go_wp2_with fail
            refine (r10tree_any p mb M (k + 6 + c) _ (320) (0) 4 r16 true _ HQ1.out.D HE1.out (by omega) (by omega) (by omega) (by omega) (by omega) (by omega)).mono ?_
            rintro z w2 ⟨v2, rfl, hE, hD, hK⟩
            obtain ⟨g, n, cap, sz, rfl, y0, y1, f0, f1, hQ⟩ := HQ1.out.sety hE hD hK
            have HL := hid hQ
            have l0 := hQ.c0
            have l1 := hQ.c1
            clear hE hD hK hQ
            go_wp2_with fail
            refine bodyPost_ret (v := .agg (eArr g n cap sz)) (by simp [results, Tryz.results55, go_sem, l0, l1]) rfl ?_
            exact ⟨_, rfl, HL.out.E.mono (by omega), HL.out.D.mono (by omega), HL.out.S⟩
          · have d2 : decide (z ≥ 4) = true := by simp; omega
            have d2' : decide ((4 : Int) ≤ z) = true := by simp; omega
            obtain ⟨j, rfl⟩ : ∃ j : Nat, z = j := ⟨z.toNat, by omega⟩
            have hj2 : j ≤ 40 := by omega
            obtain ⟨P, hP⟩ : ∃ P, 2 ^ j = P := ⟨_, rfl⟩
            have HP := hid (fun w0 => HPw.out j w0 hj2)
            rw [hP] at HP
            have hP0 : 0 < P := by rw [← hP]; exact Nat.pow_pos (by decide)
            have t0 : ((P : Int) == 0) = false := by simp; omega
            have t0n : ¬ P = 0 := by omega
            obtain ⟨Y, hY⟩ : ∃ Y, IntKind.i64.wrap (R.tdiv (P : Int)) = Y := ⟨_, rfl⟩
            obtain ⟨X, hX⟩ : ∃ X, IntKind.i64.wrap (Y.tmod 2) = X := ⟨_, rfl⟩
            have HZ := hid (And.intro hz hzc)
            have vz : IntKind.i64.wrap ((j : Int) - 1) = (j : Int) - 1 := IntWalk.i64_in _ (by omega)
            have hmeas := hid (show ((j : Int) - 1 + 1).toNat < ((j : Int) + 1).toNat by omega)
            clear hP hz hzc
            go_upto_region 15 with fail
            obtain ⟨g1, n1, c1, z1, hb1, hE1⟩ := HQ1.out.eb
            have lx1 := hb1.lt
            have lp1 := HQ1.out.D.blk.lt
            have r0 := hb1.cell 0
            have r1 := hb1.cell 1
            have m4 := HQ1.out.D.blk.cell 4
            simp only [Mdl.cells, eArr, List.getElem?_toArray, List.getElem?_cons_succ, List.getElem?_cons_zero] at r0 r1 m4
            have HE1 := hid hE1
            clear hE1 hb1
            refine wp_region_S (S := (fun V => Keeps (fun b => b = mb) wr V)) 7 (by kernel_rfl) (by (try dsimp only); exact (Keeps.refl _ _).drew) (fun hHeld => ?_)
            refine wpAnyS_take (i := 0) (oi := ⟨some 52, _, _, _, _, _⟩) (v := ?v0z) rfl (by kernel_rfl) (by kernel_rfl) (by kernel_rfl) (by kernel_rfl) (fun _ _ _ h => h) (Or.inl ⟨by rfl, ?h0z⟩) (by assumption) ?r0z
            case h0z => intro w hSw; (try dsimp only at hSw); have q0 := (Keeps.cell hSw (p := ⟨x, 0, none⟩) lx1 nx).trans r0; have q1 := (Keeps.cell hSw (p := ⟨x, 1, none⟩) lx1 nx).trans r1; go_simp; (try with_reducible rfl)
            try simp only [Act.put, List.setIfInBounds_toArray, List.set_cons_zero, List.set_cons_succ]
            refine wpAnyS_take (i := 1) (oi := ⟨some 53, _, _, _, _, _⟩) (v := ?v1z) rfl (by kernel_rfl) (by kernel_rfl) (by kernel_rfl) (by kernel_rfl) (fun _ _ _ h => h) (Or.inl ⟨by rfl, ?h1z⟩) (by assumption) ?r1z
            case h1z => intro w hSw; (try dsimp only at hSw); go_simp; (try with_reducible rfl)
            try simp only [Act.put, List.setIfInBounds_toArray, List.set_cons_zero, List.set_cons_succ]
            refine wpAnyS_take (i := 2) (oi := ⟨some 54, _, _, _, _, _⟩) (v := ?v2z) rfl (by kernel_rfl) (by kernel_rfl) (by kernel_rfl) (by kernel_rfl) (fun _ _ _ h => h) (Or.inl ⟨by rfl, ?h2z⟩) (by assumption) ?r2z
            case h2z => intro w hSw; (try dsimp only at hSw); go_simp; (try with_reducible rfl)
            try simp only [Act.put, List.setIfInBounds_toArray, List.set_cons_zero, List.set_cons_succ]
            refine wpAnyS_one (i := 3) (o := ⟨some 55, _, _, _, _, _⟩) rfl (by kernel_rfl) (fun K hK => ?_)
            go_simp; refine (HP.out _).mono ?_; rintro z w2 ⟨rfl, rfl⟩; go_simp
            refine hK.out _ _ (fun _ => by (try dsimp only); exact (Keeps.refl _ _).drew) ?_
            clear hK K
            try simp only [Act.put, List.setIfInBounds_toArray, List.set_cons_zero, List.set_cons_succ]
            refine wpAnyS_take (i := 4) (oi := ⟨some 56, _, _, _, _, _⟩) (v := ?v4z) rfl (by kernel_rfl) (by kernel_rfl) (by kernel_rfl) (by kernel_rfl) (fun _ _ _ h => h) (Or.inl ⟨by rfl, ?h4z⟩) (by assumption) ?r4z
            case h4z => intro w hSw; (try dsimp only at hSw); go_simp; (try with_reducible rfl)
            try simp only [Act.put, List.setIfInBounds_toArray, List.set_cons_zero, List.set_cons_succ]
            refine wpAnyS_take (i := 5) (oi := ⟨some 57, _, _, _, _, _⟩) (v := ?v5z) rfl (by kernel_rfl) (by kernel_rfl) (by kernel_rfl) (by kernel_rfl) (fun _ _ _ h => h) (Or.inl ⟨by rfl, ?h5z⟩) (by assumption) ?r5z
            case h5z => intro w hSw; (try dsimp only at hSw); go_simp; (try with_reducible rfl)
            try simp only [Act.put, List.setIfInBounds_toArray, List.set_cons_zero, List.set_cons_succ]
            refine wpAnyS_one (i := 6) (o := ⟨some 58, _, _, _, _, _⟩) rfl (by kernel_rfl) (fun K hK => ?_)
            go_simp; refine (dirEN _ (k + 6 + c) _ _ (HE1.out.same (Same.drew1 _)) (by omega)).mono ?_; rintro z w3 ⟨v3, rfl, hE, hs⟩; have hs' := (Same.drew1 _).trans hs; obtain ⟨g, n, cap, sz, rfl, ⟨a0, a1, y0, y1⟩, f0, f1, hQ⟩ := HQ1.out.setx hE ((HQ1.out.D.keeps hs' (fun h => h) (fun h => h)).mono (by omega)) (Keeps.of_same hs'); have HQn := hid hQ; have KN := hid (Keeps.of_same (S := fun b => b = mb) hs'); clear hE hs hs' hQ; go_simp
            refine hK.out _ _ (fun _ => by (try dsimp only); exact KN.out) ?_
            clear hK K
            try simp only [Act.put, List.setIfInBounds_toArray, List.set_cons_zero, List.set_cons_succ]
            refine wpAnyS_one (i := 7) (o := ⟨none, _, _, _, _, _⟩) rfl (by kernel_rfl) (fun K hK => ?_)
            go_simp
            refine hK.out _ _ (fun h => absurd h (by decide)) ?_
            clear hK K
            try simp only [Act.put, List.setIfInBounds_toArray, List.set_cons_zero, List.set_cons_succ]
            refine wpAnyS_done (by kernel_rfl) ?_ _
            go_wp2_with fail
            exact ⟨⟨(j : Int) - 1, c + 1, rfl, by omega, by have := HZ.out.2; omega, HQn.out⟩, hmeas.out⟩
end Go.Proofs.YtalopgbkjgjppaaGreatDoor
