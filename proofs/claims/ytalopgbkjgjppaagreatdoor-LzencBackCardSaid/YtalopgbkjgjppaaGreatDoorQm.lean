/- The document's model: its bytes. -/
import Derived.Test.YtalopgbkjgjppaaGreatDoorQl
namespace Go.Proofs.YtalopgbkjgjppaaGreatDoor
open Go.RowKit Go.Cas Go.Maps Go.Cas.Enc

theorem tdivN (a b : Nat) : Int.tdiv (a : Int) (b : Int) = ((a / b : Nat) : Int) := rfl
theorem tmodN (a b : Nat) : Int.tmod (a : Int) (b : Int) = ((a % b : Nat) : Int) := rfl
theorem wrN {n : Nat} (h : n < 1000000000) : IntKind.i64.wrap (n : Int) = (n : Int) := IntWalk.i64_in _ (by omega)
theorem pow_le {i k : Nat} (h : i ≤ k) : 2 ^ i ≤ 2 ^ k := Nat.pow_le_pow_right (by decide) h

set_option maxHeartbeats 4000000 in
set_option maxRecDepth 100000 in
theorem r10byte_any (p mb : Nat) (M : Mdl) (k : Nat) (v : Value) (V : Nat) (w : World) (hD : D10 w p mb M k) (hE : EN w v k) (hk : k + 8 ≤ 200000) (hV : V < 256) (hlc : M.lc ≤ 4) (hlp : M.lp ≤ 4) (hT : M.T.length ≤ 1000000) (hst : M.st < 12)
    (hr0 : 7 ≤ M.st → 1 ≤ M.r0 ∧ M.r0 ≤ M.T.length) :
    Calls Tryz.prog 52 #[.pointer (some ⟨p, 0, none⟩), v, i6 V] w fun z w' => ∃ v', z = .returned v' ∧ EN w' v' (k + 8) ∧ D10 w' p mb M (k + 8) ∧ Keeps (fun b => b = mb) w w' := by
  obtain ⟨g, n, cap, sz, rfl, hQ⟩ := QT.start hD hE
  have HPw := hid (fun (n : Nat) (w0 : World) (hn : n ≤ 40) => r10power_any n w0 hn)
  have np : ¬ p = mb := fun e => hD.ne e.symm
  clear hD hE
  obtain ⟨nT, hnT⟩ : ∃ n, M.T.length = n := ⟨_, rfl⟩
  have hbs : (⟨M.T.toArray⟩ : ByteArray).size = nT := by rw [← hnT]; rfl
  obtain ⟨P1, hP1⟩ : ∃ P, 2 ^ M.lp = P := ⟨_, rfl⟩
  obtain ⟨P2, hP2⟩ : ∃ P, 2 ^ M.lc = P := ⟨_, rfl⟩
  obtain ⟨l8, hl8, hl8'⟩ : ∃ l : Nat, (8 : Int) - (M.lc : Int) = (l : Int) ∧ l ≤ 8 := ⟨8 - M.lc, by omega, by omega⟩
  obtain ⟨P3, hP3⟩ : ∃ P, 2 ^ l8 = P := ⟨_, rfl⟩
  have HP1 := hid (fun w0 => HPw.out M.lp w0 (by omega))
  have HP2 := hid (fun w0 => HPw.out M.lc w0 (by omega))
  have HP3 := hid (fun w0 => HPw.out l8 w0 (by omega))
  rw [hP1] at HP1
  rw [hP2] at HP2
  rw [hP3] at HP3
  have b1 : 0 < P1 ∧ P1 ≤ 16 := by rw [← hP1]; exact ⟨Nat.pow_pos (by decide), Nat.le_trans (pow_le hlp) (by decide)⟩
  have b2 : 0 < P2 ∧ P2 ≤ 16 := by rw [← hP2]; exact ⟨Nat.pow_pos (by decide), Nat.le_trans (pow_le hlc) (by decide)⟩
  have b3 : 0 < P3 := by rw [← hP3]; exact Nat.pow_pos (by decide)
  clear hP1 hP2 hP3
  obtain ⟨q1, hq1⟩ : ∃ q, nT % P1 = q := ⟨_, rfl⟩
  have hq1' : q1 < 16 := by rw [← hq1]; exact Nat.lt_of_lt_of_le (Nat.mod_lt _ b1.1) b1.2
  obtain ⟨q2, hq2⟩ : ∃ q, q1 * P2 = q := ⟨_, rfl⟩
  have hq2' : q2 ≤ 256 := by rw [← hq2]; exact Nat.le_trans (Nat.mul_le_mul (Nat.le_of_lt hq1') b2.2) (by decide)
  have e1 : Int.tmod (nT : Int) (P1 : Int) = (q1 : Int) := by rw [tmodN, hq1]
  have e2 : (q1 : Int) * (P2 : Int) = (q2 : Int) := by rw [← hq2]; push_cast; rfl
  have u1 := wrN (n := q1) (by omega)
  have u2 := wrN (n := q2) (by omega)
  have u3 := wrN (n := l8) (by omega)
  have t1 : ((P1 : Int) == 0) = false := by simp; omega
  have t3 : ((P3 : Int) == 0) = false := by simp; omega
  have t1' : ¬ P1 = 0 := by omega
  have t3' : ¬ P3 = 0 := by omega
  have i1 : IntKind.i64.wrap (nT : Int) = (nT : Int) := wrN (by omega)
  have HB := hid (And.intro hst hr0)
  have HT := hid (And.intro hT hnT)
  clear hq1 hq2 b1 b2 b3 hr0 hlc hlp hst hl8' hnT
  go_enter Tryz.func52, Tryz.ntmps52
  go_upto_region 1 with fail
  generalize (w.alloc (.cells (eArr g n cap sz) 56)).alloc (.cells #[.slice none 0 0, .int .u64 0] 56) = w1 at hQ ⊢
  obtain ⟨x, hx⟩ : ∃ x, w.heap.size = x := ⟨_, rfl⟩
  rw [hx] at hQ ⊢
  have nx : ¬ x = mb := by have := hQ.mx; omega
  have HQ0 := hid hQ
  have m0 := hQ.D.blk.cell 0
  have m1 := hQ.D.blk.cell 1
  have m9 := hQ.D.blk.cell 9
  have lp := hQ.D.blk.lt
  simp only [Mdl.cells, List.getElem?_toArray, List.getElem?_cons_succ, List.getElem?_cons_zero] at m0 m1 m9
  clear hQ hx
  go_upto_if 21 with fail
  go_cut [7] (fun s7 wx => ∃ L : Nat, s7 = i6 L ∧ L < 256 ∧ Same w1 wx)
  case first =>
    by_cases hn0 : nT = 0
    · have d0 : decide ((nT : Int) > 0) = false := by simp; omega
      have d0' : decide ((0 : Int) < (nT : Int)) = false := by simp; omega
      go_wp2_with fail
      go_meet
      exact ⟨0, rfl, by omega, Keeps.refl _ _⟩
    · have d0 : decide ((nT : Int) > 0) = true := by simp; omega
      have d0' : decide ((0 : Int) < (nT : Int)) = true := by simp; omega
      obtain ⟨n1, hn1, hn1'⟩ : ∃ t : Nat, (nT : Int) - 1 = (t : Int) ∧ t < nT := ⟨nT - 1, by omega, by omega⟩
      have i2 := wrN (n := n1) (by have := HT.out.1; have := HT.out.2; omega)
      have hlt1 : n1 < (⟨M.T.toArray⟩ : ByteArray).size := by rw [hbs]; exact hn1'
      obtain ⟨y, hy⟩ : ∃ y : UInt8, (⟨M.T.toArray⟩ : ByteArray)[n1] = y := ⟨_, rfl⟩
      have hyl := y.toNat_lt
      have i3 := wrN (n := y.toNat) (by omega)
      have i4 : wrap64 (y.toNat : Int) = (y.toNat : Int) := IntWalk.wrap64_in _ (by omega)
      go_wp2_with fail
      go_quiet (fail)
      go_wp2_with fail
      go_meet
      exact ⟨y.toNat, rfl, hyl, (Keeps.refl _ _).drewN _⟩
  case rest =>
    obtain ⟨L, rfl, hL, hs2⟩ := hcut
    obtain ⟨w2, rfl⟩ : ∃ w2 : World, w2 = wc := ⟨_, rfl⟩
    have hQ2 := HQ0.out.same hs2
    have m0 := hQ2.D.blk.cell 0
    have m1 := hQ2.D.blk.cell 1
    have m4 := hQ2.D.blk.cell 4
    have m5 := hQ2.D.blk.cell 5
    have m9 := hQ2.D.blk.cell 9
    have lp := hQ2.D.blk.lt
    simp only [Mdl.cells, List.getElem?_toArray, List.getElem?_cons_succ, List.getElem?_cons_zero] at m0 m1 m4 m5 m9
    obtain ⟨q3, hq3⟩ : ∃ q, L / P3 = q := ⟨_, rfl⟩
    have hq3' : q3 < 256 := by rw [← hq3]; exact Nat.lt_of_le_of_lt (Nat.div_le_self _ _) hL
    obtain ⟨t, ht⟩ : ∃ t, q2 + q3 = t := ⟨_, rfl⟩
    have ht' : t < 1000 := by omega
    have e3 : Int.tdiv (L : Int) (P3 : Int) = (q3 : Int) := by rw [tdivN, hq3]
    have e4 : (q2 : Int) + (q3 : Int) = (t : Int) := by omega
    have u4 := wrN (n := q3) (by omega)
    have u5 := wrN (n := t) (by omega)
    have HQ2 := hid hQ2
    clear hq3 ht hs2 hQ2 HQ0
    go_upto_region 4 with fail
    go_cut [8] (fun s8 wx => s8 = i6 t ∧ Same w2 wx)
    case first =>
      go_quiet ((go_at_call 79; first | (with_reducible exact Calls.quiet_of_same ((HP1.out _).mono fun e w' h => ⟨h.1, h.2⟩)) | (with_reducible exact Calls.quiet_of_same ((HP2.out _).mono fun e w' h => ⟨h.1, h.2⟩)) | (with_reducible exact Calls.quiet_of_same ((HP3.out _).mono fun e w' h => ⟨h.1, h.2⟩))))
      go_wp2_with fail
      go_meet
      exact ⟨rfl, (Keeps.refl _ _).drewN _⟩
    case rest =>
      obtain ⟨rfl, hs3⟩ := hcut
      obtain ⟨w3, rfl⟩ : ∃ w3 : World, w3 = wc := ⟨_, rfl⟩
      have hQ3 := HQ2.out.same hs3
      have m4 := hQ3.D.blk.cell 4
      have m5 := hQ3.D.blk.cell 5
      have m9 := hQ3.D.blk.cell 9
      have lp := hQ3.D.blk.lt
      simp only [Mdl.cells, List.getElem?_toArray, List.getElem?_cons_succ, List.getElem?_cons_zero] at m4 m5 m9
      have HQ0 := hid hQ3
      clear hs3 hQ3 HQ2 e1 e2 e3 e4 u1 u2 u3 u4 u5 t1 t3 t1' t3' HP1 HP2 HP3 m0 m1
      by_cases h7 : M.st < 7
      · have d0 : decide ((M.st : Int) < 7) = true := by simp; omega
        clear m5 m9
        obtain ⟨g0, n0, c0, z0, hb0, hE0⟩ := HQ0.out.eb
        have lx0 := hb0.lt
        have lp0 := HQ0.out.D.blk.lt
        have r0 := hb0.cell 0
        have r1 := hb0.cell 1
        have m4 := HQ0.out.D.blk.cell 4
        simp only [Mdl.cells, eArr, List.getElem?_toArray, List.getElem?_cons_succ, List.getElem?_cons_zero] at r0 r1 m4
        have HE0 := hid hE0
        clear hE0 hb0
        go_wp2_with fail
        refine (r10tree_any p mb M (k) _ (100) (t) 8 V false _ HQ0.out.D HE0.out (by omega) (by omega) (by omega) (by omega) (by omega) (by omega)).mono ?_
        rintro z w2 ⟨v2, rfl, hE, hD, hK⟩
        obtain ⟨g, n, cap, sz, rfl, y0, y1, f0, f1, hQ⟩ := HQ0.out.sety hE hD hK
        have HL := hid hQ
        have l0 := hQ.c0
        have l1 := hQ.c1
        clear hE hD hK hQ
        go_wp2_with fail
        refine bodyPost_ret (v := .agg (eArr g n cap sz)) (by simp [results, Tryz.results52, go_sem, l0, l1]) rfl ?_
        exact ⟨_, rfl, HL.out.E.mono (by omega), HL.out.D.mono (by omega), HL.out.S⟩
      · have d0 : decide ((M.st : Int) < 7) = false := by simp; omega
        obtain ⟨dd, hdd, hdd'⟩ : ∃ dd : Nat, (nT : Int) - M.r0 = (dd : Int) ∧ dd < nT := ⟨((nT : Int) - M.r0).toNat, by have := HB.out.2 (by omega); have := HT.out.2; omega, by have := HB.out.2 (by omega); have := HT.out.2; omega⟩
        have i2 := wrN (n := dd) (by have := HT.out.1; have := HT.out.2; omega)
        have hlt1 : dd < (⟨M.T.toArray⟩ : ByteArray).size := by rw [hbs]; exact hdd'
        obtain ⟨y, hy⟩ : ∃ y : UInt8, (⟨M.T.toArray⟩ : ByteArray)[dd] = y := ⟨_, rfl⟩
        have hyl := y.toNat_lt
        have i3 := wrN (n := y.toNat) (by omega)
        have i4 : wrap64 (y.toNat : Int) = (y.toNat : Int) := IntWalk.wrap64_in _ (by omega)
        go_upto_region 7 with fail
        go_cut [9] (fun s9 wx => s9 = i6 y.toNat ∧ Same w3 wx)
        case first =>
          go_quiet (fail)
          go_wp2_with fail
          go_meet
          exact ⟨rfl, (Keeps.refl _ _).drewN _⟩
        case rest =>
          obtain ⟨rfl, hs4⟩ := hcut
          obtain ⟨w4, rfl⟩ : ∃ w4 : World, w4 = wc := ⟨_, rfl⟩
          obtain ⟨O, hO⟩ : ∃ O, y.toNat = O := ⟨_, rfl⟩
          have HQA := hid (HQ0.out.same hs4)
          rw [hO] at hyl ⊢
          clear hO hy i3 i4 hs4 HQ0 m4 m5 m9 lp i2 hlt1 hdd hdd' d0
          go_wp2_with fail
          go_loopw [10, 11, 12] (fun s10 s11 s12 wr => ∃ (A : Nat) (li : Bool) (z : Int) (c : Nat), s10 = i6 A ∧ s11 = .bool li ∧ s12 = i6 z ∧ -1 ≤ z ∧ z + c = 7 ∧ 1 ≤ A ∧ A < 2 ^ (c + 1) ∧ QT w wr (fun b => b = mb) p mb x (x + 1) M (k + c)) (fun _ _ s12 _ => (intOf s12 + 1).toNat)
          case atStart => exact ⟨1, true, 7, 0, rfl, rfl, rfl, by omega, by omega, Nat.le_refl _, by decide, HQA.out⟩
          case round =>
            obtain ⟨A, li, z, c, rfl, rfl, rfl, hz, hzc, hA1, hA2, hQ⟩ := hrel
            have hc8 : c ≤ 8 := by omega
            have HQ0 := hid hQ
            clear hQ
            by_cases hz4 : z < 0
            · have d2 : decide (z ≥ 0) = false := by simp; omega
              have d2' : decide ((0 : Int) ≤ z) = false := by simp; omega
              obtain ⟨g0, n0, c0, z0, hb0, hE0⟩ := HQ0.out.eb
              have lx0 := hb0.lt
              have lp0 := HQ0.out.D.blk.lt
              have r0 := hb0.cell 0
              have r1 := hb0.cell 1
              have m4 := HQ0.out.D.blk.cell 4
              simp only [Mdl.cells, eArr, List.getElem?_toArray, List.getElem?_cons_succ, List.getElem?_cons_zero] at r0 r1 m4
              have HE0 := hid hE0
              clear hE0 hb0
              obtain ⟨g, n, cap, sz, e2, y0, y1, f0, f1, hQ⟩ := HQ0.out.sety HE0.out HQ0.out.D (Keeps.refl _ _)
              simp only [eArr, Value.agg.injEq, Array.mk.injEq, List.cons.injEq, Value.slice.injEq, Option.some.injEq, Addr.mk.injEq, Value.int.injEq, and_true, true_and, Int.natCast_inj] at e2
              obtain ⟨⟨rfl, rfl, rfl⟩, rfl⟩ := e2
              have HL := hid hQ
              have l0 := hQ.c0
              have l1 := hQ.c1
              clear hQ
              go_wp2_with fail
              refine bodyPost_ret (v := .agg (eArr g0 n0 c0 z0)) (by simp [results, Tryz.results52, go_sem, l0, l1]) rfl ?_
              exact ⟨_, rfl, HL.out.E.mono (by omega), HL.out.D.mono (by omega), HL.out.S⟩
            · have d2 : decide (z ≥ 0) = true := by simp; omega
              have d2' : decide ((0 : Int) ≤ z) = true := by simp; omega
              obtain ⟨j, rfl⟩ : ∃ j : Nat, z = j := ⟨z.toNat, by omega⟩
              have hj2 : j ≤ 40 := by omega
              obtain ⟨P, hP⟩ : ∃ P, 2 ^ j = P := ⟨_, rfl⟩
              have HP := hid (fun w0 => HPw.out j w0 hj2)
              rw [hP] at HP
              have hP0 : 0 < P := by rw [← hP]; exact Nat.pow_pos (by decide)
              have t0 : ((P : Int) == 0) = false := by simp; omega
              have t0n : ¬ P = 0 := by omega
              obtain ⟨a1, ha1⟩ : ∃ a, V / P = a := ⟨_, rfl⟩
              obtain ⟨a2, ha2⟩ : ∃ a, a1 % 2 = a := ⟨_, rfl⟩
              obtain ⟨a3, ha3⟩ : ∃ a, O / P = a := ⟨_, rfl⟩
              obtain ⟨a4, ha4⟩ : ∃ a, a3 % 2 = a := ⟨_, rfl⟩
              have ha1' : a1 < 256 := by rw [← ha1]; exact Nat.lt_of_le_of_lt (Nat.div_le_self _ _) hV
              have ha3' : a3 < 256 := by rw [← ha3]; exact Nat.lt_of_le_of_lt (Nat.div_le_self _ _) hyl
              have ha2' : a2 ≤ 1 := by omega
              have ha4' : a4 ≤ 1 := by omega
              have g1_ : Int.tdiv (V : Int) (P : Int) = (a1 : Int) := by rw [tdivN, ha1]
              have g2_ : Int.tmod (a1 : Int) 2 = (a2 : Int) := by rw [show (2 : Int) = ((2 : Nat) : Int) from rfl, tmodN, ha2]
              have g3_ : Int.tdiv (O : Int) (P : Int) = (a3 : Int) := by rw [tdivN, ha3]
              have g4_ : Int.tmod (a3 : Int) 2 = (a4 : Int) := by rw [show (2 : Int) = ((2 : Nat) : Int) from rfl, tmodN, ha4]
              have v1 := wrN (n := a1) (by omega)
              have v2 := wrN (n := a2) (by omega)
              have v3 := wrN (n := a3) (by omega)
              have v4 := wrN (n := a4) (by omega)
              have g2' : (a1 : Int) % 2 = (a2 : Int) := by omega
              have g4' : (a3 : Int) % 2 = (a4 : Int) := by omega
              have hA3 : A < 512 := by
                have := pow_le (show c + 1 ≤ 9 by omega)
                exact Nat.lt_of_lt_of_le hA2 (Nat.le_trans this (by decide))
              obtain ⟨A', hA'⟩ : ∃ A', 2 * A + a2 = A' := ⟨_, rfl⟩
              have hA'' : 2 * (A : Int) + (a2 : Int) = (A' : Int) := by omega
              have HA' := hid (show 1 ≤ A' ∧ A' < 2 ^ (c + 1 + 1) by rw [Nat.pow_succ]; omega)
              have HZ := hid (And.intro hz hzc)
              have vz : IntKind.i64.wrap ((j : Int) - 1) = (j : Int) - 1 := IntWalk.i64_in _ (by omega)
              have hmeas := hid (show ((j : Int) - 1 + 1).toNat < ((j : Int) + 1).toNat by omega)
              have v5 := wrN (n := A') (by omega)
              clear hP hz hzc ha1 ha2 ha3 ha4 hA2 hA'
              go_upto_region 12 with fail
              go_cut [13, 14] (fun s13 s14 wx => s13 = i6 a2 ∧ s14 = i6 a4 ∧ Same wr wx)
              case first =>
                go_quiet ((go_at_call 79; exact Calls.quiet_of_same ((HP.out _).mono fun e w' h => ⟨h.1, h.2⟩)))
                go_wp2_with fail
                go_meet
                exact ⟨rfl, rfl, (Keeps.refl _ _).drewN _⟩
              case rest =>
                obtain ⟨rfl, rfl, hs5⟩ := hcut
                obtain ⟨w5, rfl⟩ : ∃ w5 : World, w5 = wc := ⟨_, rfl⟩
                have HQB := hid (HQ0.out.same hs5)
                clear HQ0 hs5 g1_ g2_ g3_ g4_ v1 v2 v3 v4 g2' g4' t0 t0n
                go_upto_if 102 with fail
                go_cut [15] (fun s15 wx => ∃ q : Nat, s15 = i6 q ∧ q < 100000 ∧ wx = w5)
                case first =>
                  cases li
                  · go_wp2_with fail
                    go_meet
                    exact ⟨A, rfl, by omega, rfl⟩
                  · obtain ⟨b1, hb1⟩ : ∃ b, A + 256 = b := ⟨_, rfl⟩
                    obtain ⟨b2, hb2⟩ : ∃ b, 256 * a4 = b := ⟨_, rfl⟩
                    obtain ⟨b3, hb3⟩ : ∃ b, b1 + b2 = b := ⟨_, rfl⟩
                    have k1 : (A : Int) + 256 = (b1 : Int) := by omega
                    have k2 : 256 * (a4 : Int) = (b2 : Int) := by omega
                    have k3 : (b1 : Int) + (b2 : Int) = (b3 : Int) := by omega
                    have hb3' : b3 < 100000 := by omega
                    have j1 := wrN (n := b1) (by omega)
                    have j2 := wrN (n := b2) (by omega)
                    have j3 := wrN (n := b3) (by omega)
                    go_wp2_with fail
                    go_meet
                    exact ⟨b3, rfl, hb3', rfl⟩
                case rest =>
                  obtain ⟨q, rfl, hq, rfl⟩ := hcut
                  obtain ⟨w6, rfl⟩ : ∃ w6 : World, w6 = wc := ⟨_, rfl⟩
                  have HQ0 := HQB
                  obtain ⟨g0, n0, c0, z0, hb0, hE0⟩ := HQ0.out.eb
                  have lx0 := hb0.lt
                  have lp0 := HQ0.out.D.blk.lt
                  have r0 := hb0.cell 0
                  have r1 := hb0.cell 1
                  have m4 := HQ0.out.D.blk.cell 4
                  simp only [Mdl.cells, eArr, List.getElem?_toArray, List.getElem?_cons_succ, List.getElem?_cons_zero] at r0 r1 m4
                  have HE0 := hid hE0
                  clear hE0 hb0
                  go_wp2_with fail
                  refine (r10bit_any p mb M (k + c) _ (100) (t) (q) (0) a2 _ HQ0.out.D HE0.out (by omega) (by omega) (by omega) (by omega) (by omega)).mono ?_
                  rintro z w2 ⟨v2, rfl, hE, hD, hK⟩
                  obtain ⟨g, n, cap, sz, rfl, ⟨a0, a1, y0, y1⟩, f0, f1, hQ⟩ := HQ0.out.setx hE hD hK
                  have HQ1 := hid hQ
                  clear hE hD hK hQ r0 r1 m4 lx0 lp0
                  go_upto_region 17 with fail
                  clear y0 y1 f0 f1
                  generalize ((w2.setCell ⟨x, 0, none⟩ (.slice (some ⟨g, 0, none⟩) n cap)).setCell ⟨x, 1, none⟩ (v64 sz)) = wn at HQ1 ⊢
                  clear HE0 HQ0
                  cases li
                  · go_wp2_with fail
                    exact ⟨⟨A', false, (j : Int) - 1, c + 1, rfl, rfl, rfl, by omega, by have := HZ.out.2; omega, HA'.out.1, HA'.out.2, HQ1.out⟩, hmeas.out⟩
                  · by_cases hbc : a2 = a4
                    · subst hbc
                      go_wp2_with fail
                      exact ⟨⟨A', true, (j : Int) - 1, c + 1, rfl, by simp, rfl, by omega, by have := HZ.out.2; omega, HA'.out.1, HA'.out.2, HQ1.out⟩, hmeas.out⟩
                    · have tb : ((a2 : Int) == (a4 : Int)) = false := by simp; omega
                      go_wp2_with fail
                      exact ⟨⟨A', false, (j : Int) - 1, c + 1, rfl, by simp, rfl, by omega, by have := HZ.out.2; omega, HA'.out.1, HA'.out.2, HQ1.out⟩, hmeas.out⟩
end Go.Proofs.YtalopgbkjgjppaaGreatDoor
