/- The document's model: its lengths. -/
import Derived.Test.YtalopgbkjgjppaaGreatDoorGQi
import Derived.Test.YtalopgbkjgjppaaGreatDoorReg
namespace Go.Proofs.YtalopgbkjgjppaaGreatDoor
open Go.RowKit Go.Cas Go.Maps Go.Cas.Enc

theorem Same.drew1 (w : World) : Same w w.drew := (Keeps.refl _ _).drew

set_option maxHeartbeats 4000000 in
set_option maxRecDepth 100000 in
theorem r10length_any (p mb : Nat) (M : Mdl) (k : Nat) (v : Value) (wh N : Nat) (w : World) (hD : D10 w p mb M k) (hE : EN w v k) (hk : k + 10 ≤ 200000) (hwh : wh ≤ 1) (hN : 2 ≤ N ∧ N ≤ 300) (hpb : M.pb ≤ 4) (hT : M.T.length ≤ 1000000) :
    Calls Tryz.prog 54 #[.pointer (some ⟨p, 0, none⟩), v, i6 wh, i6 N] w fun z w' => ∃ v', z = .returned v' ∧ EN w' v' (k + 10) ∧ D10 w' p mb M (k + 10) ∧ Keeps (fun b => b = mb) w w' := by
  obtain ⟨g, n, cap, sz, rfl, hQ⟩ := QT.start hD hE
  have HPl := hid (fun (k : Nat) (w0 : World) (hD : D10 w0 p mb M k) => r10place_any p mb M k w0 hD hpb hT)
  clear hpb hT
  obtain ⟨a0_, ha0, hb0⟩ : ∃ a : Nat, (200 : Int) + (wh : Int) = (a : Int) ∧ a < 1000 := ⟨200 + wh, by omega, by omega⟩
  obtain ⟨a1_, ha1, hb1_⟩ : ∃ a : Nat, (210 : Int) + (wh : Int) = (a : Int) ∧ a < 1000 := ⟨210 + wh, by omega, by omega⟩
  obtain ⟨a2_, ha2, hb2_⟩ : ∃ a : Nat, (220 : Int) + (wh : Int) = (a : Int) ∧ a < 1000 := ⟨220 + wh, by omega, by omega⟩
  obtain ⟨a3_, ha3, hb3_⟩ : ∃ a : Nat, (230 : Int) + (wh : Int) = (a : Int) ∧ a < 1000 := ⟨230 + wh, by omega, by omega⟩
  obtain ⟨m, hm, hm2⟩ : ∃ m : Nat, (N : Int) - 2 = (m : Int) ∧ m ≤ 298 := ⟨N - 2, by omega, by omega⟩
  have np : ¬ p = mb := fun e => hD.ne e.symm
  have v0_ : IntKind.i64.wrap (a0_ : Int) = (a0_ : Int) := IntWalk.i64_in _ (by omega)
  have v1_ : IntKind.i64.wrap (a1_ : Int) = (a1_ : Int) := IntWalk.i64_in _ (by omega)
  have v2_ : IntKind.i64.wrap (a2_ : Int) = (a2_ : Int) := IntWalk.i64_in _ (by omega)
  have v3_ : IntKind.i64.wrap (a3_ : Int) = (a3_ : Int) := IntWalk.i64_in _ (by omega)
  have vm : IntKind.i64.wrap (m : Int) = (m : Int) := IntWalk.i64_in _ (by omega)
  clear hD hE hN
  go_enter Tryz.func54, Tryz.ntmps54
  go_upto_region 1 with fail
  generalize (w.alloc (.cells (eArr g n cap sz) 56)).alloc (.cells #[.slice none 0 0, .int .u64 0] 56) = w1 at hQ ⊢
  obtain ⟨x, hx⟩ : ∃ x, w.heap.size = x := ⟨_, rfl⟩
  rw [hx] at hQ ⊢
  have nx : ¬ x = mb := by have := hQ.mx; omega
  have HQ0 := hid hQ
  clear hQ hx
  by_cases h8 : m < 8
  · have d0 : decide ((m : Int) < 8) = true := by simp; omega
    obtain ⟨g0, n0, c0, z0, hb0, hE0⟩ := HQ0.out.eb
    have lx0 := hb0.lt
    have lp0 := HQ0.out.D.blk.lt
    have r0 := hb0.cell 0
    have r1 := hb0.cell 1
    have m4 := HQ0.out.D.blk.cell 4
    simp only [Mdl.cells, eArr, List.getElem?_toArray, List.getElem?_cons_succ, List.getElem?_cons_zero] at r0 r1 m4
    have HE0 := hid hE0
    clear hE0 hb0
    go_wp2_with fail
    refine (r10bit_any p mb M (k) _ (a0_) (0) (0) (0) _ _ HQ0.out.D HE0.out (by omega) (by omega) (by omega) (by omega) (by omega)).mono ?_
    rintro z w2 ⟨v2, rfl, hE, hD, hK⟩
    obtain ⟨g, n, cap, sz, rfl, ⟨a0, a1, y0, y1⟩, f0, f1, hQ⟩ := HQ0.out.setx hE hD hK
    have HQ1 := hid hQ
    clear hE hD hK hQ r0 r1 m4 lx0 lp0
    go_upto_region 4 with fail
    clear y0 y1 f0 f1
    generalize ((w2.setCell ⟨x, 0, none⟩ (.slice (some ⟨g, 0, none⟩) n cap)).setCell ⟨x, 1, none⟩ (v64 sz)) = wn at HQ1 ⊢
    clear HE0 HQ0
    obtain ⟨g1, n1, c1, z1, hb1, hE1⟩ := HQ1.out.eb
    have lx1 := hb1.lt
    have lp1 := HQ1.out.D.blk.lt
    have r0 := hb1.cell 0
    have r1 := hb1.cell 1
    have m4 := HQ1.out.D.blk.cell 4
    simp only [Mdl.cells, eArr, List.getElem?_toArray, List.getElem?_cons_succ, List.getElem?_cons_zero] at r0 r1 m4
    have HE1 := hid hE1
    clear hE1 hb1
    refine wp_region_S (S := (fun V => Keeps (fun b => b = mb) wn V)) 8 (by kernel_rfl) (by (try dsimp only); exact (Keeps.refl _ _).drew) (fun hHeld => ?_)
    refine wpAnyS_take (i := 0) (oi := ⟨some 19, _, _, _, _, _⟩) (v := ?v0r4q1) rfl (by kernel_rfl) (by kernel_rfl) (by kernel_rfl) (by kernel_rfl) (fun _ _ _ h => h) (Or.inl ⟨by rfl, ?h0r4q1⟩) (by assumption) ?r0r4q1
    case h0r4q1 => intro w hSw; (try dsimp only at hSw); go_simp; (try with_reducible rfl)
    try simp only [Act.put, List.setIfInBounds_toArray, List.set_cons_zero, List.set_cons_succ]
    refine wpAnyS_take (i := 1) (oi := ⟨some 20, _, _, _, _, _⟩) (v := ?v1r4q1) rfl (by kernel_rfl) (by kernel_rfl) (by kernel_rfl) (by kernel_rfl) (fun _ _ _ h => h) (Or.inl ⟨by rfl, ?h1r4q1⟩) (by assumption) ?r1r4q1
    case h1r4q1 => intro w hSw; (try dsimp only at hSw); have q0 := (Keeps.cell hSw (p := ⟨x, 0, none⟩) lx1 nx).trans r0; have q1 := (Keeps.cell hSw (p := ⟨x, 1, none⟩) lx1 nx).trans r1; go_simp; (try with_reducible rfl)
    try simp only [Act.put, List.setIfInBounds_toArray, List.set_cons_zero, List.set_cons_succ]
    refine wpAnyS_take (i := 2) (oi := ⟨some 21, _, _, _, _, _⟩) (v := ?v2r4q1) rfl (by kernel_rfl) (by kernel_rfl) (by kernel_rfl) (by kernel_rfl) (fun _ _ _ h => h) (Or.inl ⟨by rfl, ?h2r4q1⟩) (by assumption) ?r2r4q1
    case h2r4q1 => intro w hSw; (try dsimp only at hSw); go_simp; (try with_reducible rfl)
    try simp only [Act.put, List.setIfInBounds_toArray, List.set_cons_zero, List.set_cons_succ]
    refine wpAnyS_take (i := 3) (oi := ⟨some 22, _, _, _, _, _⟩) (v := ?v3r4q1) rfl (by kernel_rfl) (by kernel_rfl) (by kernel_rfl) (by kernel_rfl) (fun _ _ _ h => h) (Or.inl ⟨by rfl, ?h3r4q1⟩) (by assumption) ?r3r4q1
    case h3r4q1 => intro w hSw; (try dsimp only at hSw); go_simp; (try with_reducible rfl)
    try simp only [Act.put, List.setIfInBounds_toArray, List.set_cons_zero, List.set_cons_succ]
    refine wpAnyS_take (i := 4) (oi := ⟨some 23, _, _, _, _, _⟩) (v := ?v4r4q1) rfl (by kernel_rfl) (by kernel_rfl) (by kernel_rfl) (by kernel_rfl) (fun _ _ _ h => h) (Or.inl ⟨by rfl, ?h4r4q1⟩) (by assumption) ?r4r4q1
    case h4r4q1 => intro w hSw; (try dsimp only at hSw); go_simp; (try with_reducible rfl)
    try simp only [Act.put, List.setIfInBounds_toArray, List.set_cons_zero, List.set_cons_succ]
    refine wpAnyS_take (i := 6) (oi := ⟨some 25, _, _, _, _, _⟩) (v := ?v6r4q1) rfl (by kernel_rfl) (by kernel_rfl) (by kernel_rfl) (by kernel_rfl) (fun _ _ _ h => h) (Or.inl ⟨by rfl, ?h6r4q1⟩) (by assumption) ?r6r4q1
    case h6r4q1 => intro w hSw; (try dsimp only at hSw); go_simp; (try with_reducible rfl)
    try simp only [Act.put, List.setIfInBounds_toArray, List.set_cons_zero, List.set_cons_succ]
    refine wpAnyS_one (i := 5) (o := ⟨some 24, _, _, _, _, _⟩) rfl (by kernel_rfl) (fun K hK => ?_)
    go_simp; refine (HPl.out _ _ (HQ1.out.D.keeps (Same.drew1 _) (fun h => h) (fun h => h))).mono ?_; rintro z wp ⟨⟨pl, rfl, hpl⟩, hsp⟩; have hsp := (Same.drew1 _).trans hsp; have HQp := hid (HQ1.out.same hsp); have HEp := hid (HE1.out.same hsp); have KP := hid (Keeps.of_same (S := fun b => b = mb) hsp); clear hsp; go_simp
    refine hK.out _ _ (fun _ => by (try dsimp only); exact KP.out) ?_
    clear hK K
    try simp only [Act.put, List.setIfInBounds_toArray, List.set_cons_zero, List.set_cons_succ]
    refine wpAnyS_one (i := 7) (o := ⟨some 26, _, _, _, _, _⟩) rfl (by kernel_rfl) (fun K hK => ?_)
    go_simp; refine (r10tree_any p mb M (k + 1) _ (a1_) (pl) 3 m false _ HQp.out.D HEp.out (by omega) (by omega) (by omega) (by omega) (by omega) (by omega)).mono ?_; rintro z w2 ⟨v2, rfl, hE, hD, hK⟩; obtain ⟨g, n, cap, sz, rfl, y0, y1, f0, f1, hQ⟩ := HQp.out.sety hE hD hK; have HQn := hid hQ; have KN := hid (KP.out.trans' hK fun b _ e => e); clear hE hD hK hQ; go_simp
    refine hK.out _ _ (fun _ => by (try dsimp only); exact KN.out) ?_
    clear hK K
    try simp only [Act.put, List.setIfInBounds_toArray, List.set_cons_zero, List.set_cons_succ]
    refine wpAnyS_one (i := 8) (o := ⟨none, _, _, _, _, _⟩) rfl (by kernel_rfl) (fun K hK => ?_)
    go_simp
    refine hK.out _ _ (fun h => absurd h (by decide)) ?_
    clear hK K
    try simp only [Act.put, List.setIfInBounds_toArray, List.set_cons_zero, List.set_cons_succ]
    refine wpAnyS_done (by kernel_rfl) ?_ _
    have HL := HQn
    have l0 := HL.out.c0
    have l1 := HL.out.c1
    clear HQn KN KP HQp HEp
    go_wp2_with fail
    refine bodyPost_ret (v := .agg (eArr g n cap sz)) (by simp [results, Tryz.results54, go_sem, l0, l1]) rfl ?_
    exact ⟨_, rfl, HL.out.E.mono (by omega), HL.out.D.mono (by omega), HL.out.S⟩
  · have d0 : decide ((m : Int) < 8) = false := by simp; omega
    obtain ⟨g0, n0, c0, z0, hb0, hE0⟩ := HQ0.out.eb
    have lx0 := hb0.lt
    have lp0 := HQ0.out.D.blk.lt
    have r0 := hb0.cell 0
    have r1 := hb0.cell 1
    have m4 := HQ0.out.D.blk.cell 4
    simp only [Mdl.cells, eArr, List.getElem?_toArray, List.getElem?_cons_succ, List.getElem?_cons_zero] at r0 r1 m4
    have HE0 := hid hE0
    clear hE0 hb0
    go_wp2_with fail
    refine (r10bit_any p mb M (k) _ (a0_) (0) (0) (0) _ _ HQ0.out.D HE0.out (by omega) (by omega) (by omega) (by omega) (by omega)).mono ?_
    rintro z w2 ⟨v2, rfl, hE, hD, hK⟩
    obtain ⟨g, n, cap, sz, rfl, ⟨a0, a1, y0, y1⟩, f0, f1, hQ⟩ := HQ0.out.setx hE hD hK
    have HQ1 := hid hQ
    clear hE hD hK hQ r0 r1 m4 lx0 lp0
    go_upto_region 6 with fail
    clear y0 y1 f0 f1
    generalize ((w2.setCell ⟨x, 0, none⟩ (.slice (some ⟨g, 0, none⟩) n cap)).setCell ⟨x, 1, none⟩ (v64 sz)) = wn at HQ1 ⊢
    clear HE0 HQ0
    by_cases h16 : m < 16
    · have d1 : decide ((m : Int) < 16) = true := by simp; omega
      obtain ⟨m8, hm8⟩ : ∃ m8 : Nat, (m : Int) - 8 = m8 ∧ m8 < 8 := ⟨m - 8, by omega, by omega⟩
      obtain ⟨hm8, hm8'⟩ := hm8
      have vm8 : IntKind.i64.wrap (m8 : Int) = (m8 : Int) := IntWalk.i64_in _ (by omega)
      obtain ⟨g1, n1, c1, z1, hb1, hE1⟩ := HQ1.out.eb
      have lx1 := hb1.lt
      have lp1 := HQ1.out.D.blk.lt
      have r0 := hb1.cell 0
      have r1 := hb1.cell 1
      have m4 := HQ1.out.D.blk.cell 4
      simp only [Mdl.cells, eArr, List.getElem?_toArray, List.getElem?_cons_succ, List.getElem?_cons_zero] at r0 r1 m4
      have HE1 := hid hE1
      clear hE1 hb1
      go_wp2_with fail
      refine (r10bit_any p mb M (k + 1) _ (a0_) (1) (0) (0) _ _ HQ1.out.D HE1.out (by omega) (by omega) (by omega) (by omega) (by omega)).mono ?_
      rintro z w2 ⟨v2, rfl, hE, hD, hK⟩
      obtain ⟨g, n, cap, sz, rfl, ⟨a0, a1, y0, y1⟩, f0, f1, hQ⟩ := HQ1.out.setx hE hD hK
      have HQ2 := hid hQ
      clear hE hD hK hQ r0 r1 m4 lx1 lp1
      go_upto_region 8 with fail
      clear y0 y1 f0 f1
      generalize ((w2.setCell ⟨x, 0, none⟩ (.slice (some ⟨g, 0, none⟩) n cap)).setCell ⟨x, 1, none⟩ (v64 sz)) = wn at HQ2 ⊢
      clear HE1 HQ1
      obtain ⟨g2, n2, c2, z2, hb2, hE2⟩ := HQ2.out.eb
      have lx2 := hb2.lt
      have lp2 := HQ2.out.D.blk.lt
      have r0 := hb2.cell 0
      have r1 := hb2.cell 1
      have m4 := HQ2.out.D.blk.cell 4
      simp only [Mdl.cells, eArr, List.getElem?_toArray, List.getElem?_cons_succ, List.getElem?_cons_zero] at r0 r1 m4
      have HE2 := hid hE2
      clear hE2 hb2
      refine wp_region_S (S := (fun V => Keeps (fun b => b = mb) wn V)) 9 (by kernel_rfl) (by (try dsimp only); exact (Keeps.refl _ _).drew) (fun hHeld => ?_)
      refine wpAnyS_take (i := 0) (oi := ⟨some 41, _, _, _, _, _⟩) (v := ?v0r8q2) rfl (by kernel_rfl) (by kernel_rfl) (by kernel_rfl) (by kernel_rfl) (fun _ _ _ h => h) (Or.inl ⟨by rfl, ?h0r8q2⟩) (by assumption) ?r0r8q2
      case h0r8q2 => intro w hSw; (try dsimp only at hSw); go_simp; (try with_reducible rfl)
      try simp only [Act.put, List.setIfInBounds_toArray, List.set_cons_zero, List.set_cons_succ]
      refine wpAnyS_take (i := 1) (oi := ⟨some 42, _, _, _, _, _⟩) (v := ?v1r8q2) rfl (by kernel_rfl) (by kernel_rfl) (by kernel_rfl) (by kernel_rfl) (fun _ _ _ h => h) (Or.inl ⟨by rfl, ?h1r8q2⟩) (by assumption) ?r1r8q2
      case h1r8q2 => intro w hSw; (try dsimp only at hSw); have q0 := (Keeps.cell hSw (p := ⟨x, 0, none⟩) lx2 nx).trans r0; have q1 := (Keeps.cell hSw (p := ⟨x, 1, none⟩) lx2 nx).trans r1; go_simp; (try with_reducible rfl)
      try simp only [Act.put, List.setIfInBounds_toArray, List.set_cons_zero, List.set_cons_succ]
      refine wpAnyS_take (i := 2) (oi := ⟨some 43, _, _, _, _, _⟩) (v := ?v2r8q2) rfl (by kernel_rfl) (by kernel_rfl) (by kernel_rfl) (by kernel_rfl) (fun _ _ _ h => h) (Or.inl ⟨by rfl, ?h2r8q2⟩) (by assumption) ?r2r8q2
      case h2r8q2 => intro w hSw; (try dsimp only at hSw); go_simp; (try with_reducible rfl)
      try simp only [Act.put, List.setIfInBounds_toArray, List.set_cons_zero, List.set_cons_succ]
      refine wpAnyS_take (i := 3) (oi := ⟨some 44, _, _, _, _, _⟩) (v := ?v3r8q2) rfl (by kernel_rfl) (by kernel_rfl) (by kernel_rfl) (by kernel_rfl) (fun _ _ _ h => h) (Or.inl ⟨by rfl, ?h3r8q2⟩) (by assumption) ?r3r8q2
      case h3r8q2 => intro w hSw; (try dsimp only at hSw); go_simp; (try with_reducible rfl)
      try simp only [Act.put, List.setIfInBounds_toArray, List.set_cons_zero, List.set_cons_succ]
      refine wpAnyS_take (i := 4) (oi := ⟨some 45, _, _, _, _, _⟩) (v := ?v4r8q2) rfl (by kernel_rfl) (by kernel_rfl) (by kernel_rfl) (by kernel_rfl) (fun _ _ _ h => h) (Or.inl ⟨by rfl, ?h4r8q2⟩) (by assumption) ?r4r8q2
      case h4r8q2 => intro w hSw; (try dsimp only at hSw); go_simp; (try with_reducible rfl)
      try simp only [Act.put, List.setIfInBounds_toArray, List.set_cons_zero, List.set_cons_succ]
      refine wpAnyS_take (i := 6) (oi := ⟨some 47, _, _, _, _, _⟩) (v := ?v6r8q2) rfl (by kernel_rfl) (by kernel_rfl) (by kernel_rfl) (by kernel_rfl) (fun _ _ _ h => h) (Or.inl ⟨by rfl, ?h6r8q2⟩) (by assumption) ?r6r8q2
      case h6r8q2 => intro w hSw; (try dsimp only at hSw); go_simp; (try with_reducible rfl)
      try simp only [Act.put, List.setIfInBounds_toArray, List.set_cons_zero, List.set_cons_succ]
      refine wpAnyS_take (i := 7) (oi := ⟨some 48, _, _, _, _, _⟩) (v := ?v7r8q2) rfl (by kernel_rfl) (by kernel_rfl) (by kernel_rfl) (by kernel_rfl) (fun _ _ _ h => h) (Or.inl ⟨by rfl, ?h7r8q2⟩) (by assumption) ?r7r8q2
      case h7r8q2 => intro w hSw; (try dsimp only at hSw); go_simp; (try with_reducible rfl)
      try simp only [Act.put, List.setIfInBounds_toArray, List.set_cons_zero, List.set_cons_succ]
      refine wpAnyS_one (i := 5) (o := ⟨some 46, _, _, _, _, _⟩) rfl (by kernel_rfl) (fun K hK => ?_)
      go_simp; refine (HPl.out _ _ (HQ2.out.D.keeps (Same.drew1 _) (fun h => h) (fun h => h))).mono ?_; rintro z wp ⟨⟨pl, rfl, hpl⟩, hsp⟩; have hsp := (Same.drew1 _).trans hsp; have HQp := hid (HQ2.out.same hsp); have HEp := hid (HE2.out.same hsp); have KP := hid (Keeps.of_same (S := fun b => b = mb) hsp); clear hsp; go_simp
      refine hK.out _ _ (fun _ => by (try dsimp only); exact KP.out) ?_
      clear hK K
      try simp only [Act.put, List.setIfInBounds_toArray, List.set_cons_zero, List.set_cons_succ]
      refine wpAnyS_one (i := 8) (o := ⟨some 49, _, _, _, _, _⟩) rfl (by kernel_rfl) (fun K hK => ?_)
      go_simp; refine (r10tree_any p mb M (k + 2) _ (a2_) (pl) 3 m8 false _ HQp.out.D HEp.out (by omega) (by omega) (by omega) (by omega) (by omega) (by omega)).mono ?_; rintro z w2 ⟨v2, rfl, hE, hD, hK⟩; obtain ⟨g, n, cap, sz, rfl, y0, y1, f0, f1, hQ⟩ := HQp.out.sety hE hD hK; have HQn := hid hQ; have KN := hid (KP.out.trans' hK fun b _ e => e); clear hE hD hK hQ; go_simp
      refine hK.out _ _ (fun _ => by (try dsimp only); exact KN.out) ?_
      clear hK K
      try simp only [Act.put, List.setIfInBounds_toArray, List.set_cons_zero, List.set_cons_succ]
      refine wpAnyS_one (i := 9) (o := ⟨none, _, _, _, _, _⟩) rfl (by kernel_rfl) (fun K hK => ?_)
      go_simp
      refine hK.out _ _ (fun h => absurd h (by decide)) ?_
      clear hK K
      try simp only [Act.put, List.setIfInBounds_toArray, List.set_cons_zero, List.set_cons_succ]
      refine wpAnyS_done (by kernel_rfl) ?_ _
      have HL := HQn
      have l0 := HL.out.c0
      have l1 := HL.out.c1
      clear HQn KN KP HQp HEp
      go_wp2_with fail
      refine bodyPost_ret (v := .agg (eArr g n cap sz)) (by simp [results, Tryz.results54, go_sem, l0, l1]) rfl ?_
      exact ⟨_, rfl, HL.out.E.mono (by omega), HL.out.D.mono (by omega), HL.out.S⟩
    · have d1 : decide ((m : Int) < 16) = false := by simp; omega
      obtain ⟨m8, hm8⟩ : ∃ m8 : Nat, (m : Int) - 16 = m8 ∧ m8 < 300 := ⟨m - 16, by omega, by omega⟩
      obtain ⟨hm8, hm8'⟩ := hm8
      have vm8 : IntKind.i64.wrap (m8 : Int) = (m8 : Int) := IntWalk.i64_in _ (by omega)
      obtain ⟨g1, n1, c1, z1, hb1, hE1⟩ := HQ1.out.eb
      have lx1 := hb1.lt
      have lp1 := HQ1.out.D.blk.lt
      have r0 := hb1.cell 0
      have r1 := hb1.cell 1
      have m4 := HQ1.out.D.blk.cell 4
      simp only [Mdl.cells, eArr, List.getElem?_toArray, List.getElem?_cons_succ, List.getElem?_cons_zero] at r0 r1 m4
      have HE1 := hid hE1
      clear hE1 hb1
      go_wp2_with fail
      refine (r10bit_any p mb M (k + 1) _ (a0_) (1) (0) (0) _ _ HQ1.out.D HE1.out (by omega) (by omega) (by omega) (by omega) (by omega)).mono ?_
      rintro z w2 ⟨v2, rfl, hE, hD, hK⟩
      obtain ⟨g, n, cap, sz, rfl, ⟨a0, a1, y0, y1⟩, f0, f1, hQ⟩ := HQ1.out.setx hE hD hK
      have HQ2 := hid hQ
      clear hE hD hK hQ r0 r1 m4 lx1 lp1
      go_upto_region 10 with fail
      clear y0 y1 f0 f1
      generalize ((w2.setCell ⟨x, 0, none⟩ (.slice (some ⟨g, 0, none⟩) n cap)).setCell ⟨x, 1, none⟩ (v64 sz)) = wn at HQ2 ⊢
      clear HE1 HQ1
      obtain ⟨g2, n2, c2, z2, hb2, hE2⟩ := HQ2.out.eb
      have lx2 := hb2.lt
      have lp2 := HQ2.out.D.blk.lt
      have r0 := hb2.cell 0
      have r1 := hb2.cell 1
      have m4 := HQ2.out.D.blk.cell 4
      simp only [Mdl.cells, eArr, List.getElem?_toArray, List.getElem?_cons_succ, List.getElem?_cons_zero] at r0 r1 m4
      have HE2 := hid hE2
      clear hE2 hb2
      go_wp2_with fail
      refine (r10tree_any p mb M (k + 2) _ (a3_) (0) 8 m8 false _ HQ2.out.D HE2.out (by omega) (by omega) (by omega) (by omega) (by omega) (by omega)).mono ?_
      rintro z w2 ⟨v2, rfl, hE, hD, hK⟩
      obtain ⟨g, n, cap, sz, rfl, y0, y1, f0, f1, hQ⟩ := HQ2.out.sety hE hD hK
      have HL := hid hQ
      have l0 := hQ.c0
      have l1 := hQ.c1
      clear hE hD hK hQ
      go_wp2_with fail
      refine bodyPost_ret (v := .agg (eArr g n cap sz)) (by simp [results, Tryz.results54, go_sem, l0, l1]) rfl ?_
      exact ⟨_, rfl, HL.out.E.mono (by omega), HL.out.D.mono (by omega), HL.out.S⟩
end Go.Proofs.YtalopgbkjgjppaaGreatDoor
