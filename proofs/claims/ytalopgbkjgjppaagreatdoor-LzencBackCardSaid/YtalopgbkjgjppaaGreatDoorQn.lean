/- The document's model: made, and its end. -/
import Derived.Test.YtalopgbkjgjppaaGreatDoorQm
import Derived.Test.YtalopgbkjgjppaaGreatDoorQl
namespace Go.Proofs.YtalopgbkjgjppaaGreatDoor
open Go.RowKit Go.Cas Go.Maps Go.Cas.Enc

abbrev Mdl.first (lc lp pb : Nat) : Mdl := ⟨lc, lp, pb, 0, 1, 1, 1, 1, []⟩

set_option maxHeartbeats 1000000 in
theorem r10new_any (lc lp pb : Nat) (w : World) :
    Calls Tryz.prog 20 #[i6 lc, i6 lp, i6 pb] w fun z w' => ∃ p mb, z = .returned (.pointer (some ⟨p, 0, none⟩)) ∧ Same w w' ∧ D10 w' p mb (Mdl.first lc lp pb) 0 ∧ w.heap.size ≤ p ∧ w.heap.size ≤ mb := by
  have hmm := @run_makeMap Tryz.prog
  go_enter Tryz.func20, Tryz.ntmps20
  go_wp2
  go_ret
  refine ⟨_, w.heap.size, rfl, ((Keeps.refl _ _).alloc _).alloc _, ⟨Blk.new_at (by simp), ⟨_, MapOk.nil, ?_⟩, by simp⟩, by simp, by simp⟩
  exact (World.ownsMap_made w _ _ _).alloc _

set_option maxHeartbeats 4000000 in
set_option maxRecDepth 100000 in
theorem r10end_any (p mb : Nat) (M : Mdl) (k : Nat) (v : Value) (w : World) (hD : D10 w p mb M k) (hE : EN w v k) (hk : k + 100 ≤ 200000) (hpb : M.pb ≤ 4) (hT : M.T.length ≤ 1000000) (hst : M.st < 12) :
    Calls Tryz.prog 24 #[.pointer (some ⟨p, 0, none⟩), v] w fun z w' => ∃ v', z = .returned v' ∧ EN w' v' (k + 100) ∧ D10 w' p mb M (k + 100) ∧ Keeps (fun b => b = mb) w w' := by
  obtain ⟨g, n, cap, sz, rfl, hQ⟩ := QT.start hD hE
  have HPl := hid (fun (k : Nat) (w0 : World) (hD : D10 w0 p mb M k) => r10place_any p mb M k w0 hD hpb hT)
  have HB := hid (And.intro hpb (And.intro hT hst))
  have np : ¬ p = mb := fun e => hD.ne e.symm
  clear hD hE hpb hT
  go_enter Tryz.func24, Tryz.ntmps24
  go_upto_region 1 with fail
  generalize (w.alloc (.cells (eArr g n cap sz) 56)).alloc (.cells #[.slice none 0 0, .int .u64 0] 56) = w1 at hQ ⊢
  obtain ⟨x, hx⟩ : ∃ x, w.heap.size = x := ⟨_, rfl⟩
  rw [hx] at hQ ⊢
  have nx : ¬ x = mb := by have := hQ.mx; omega
  have HQ0 := hid hQ
  clear hQ hx
  obtain ⟨g0, n0, c0, z0, hb0, hE0⟩ := HQ0.out.eb
  have lx0 := hb0.lt
  have lp0 := HQ0.out.D.blk.lt
  have r0 := hb0.cell 0
  have r1 := hb0.cell 1
  have m4 := HQ0.out.D.blk.cell 4
  simp only [Mdl.cells, eArr, List.getElem?_toArray, List.getElem?_cons_succ, List.getElem?_cons_zero] at r0 r1 m4
  have HE0 := hid hE0
  clear hE0 hb0
  refine wp_region_S (S := (fun V => Keeps (fun b => b = mb) w1 V)) 10 (by kernel_rfl) (by (try dsimp only); exact (Keeps.refl _ _).drew) (fun hHeld => ?_)
  refine wpAnyS_take (i := 0) (oi := ⟨some 5, _, _, _, _, _⟩) (v := ?v00) rfl (by kernel_rfl) (by kernel_rfl) (by kernel_rfl) (by kernel_rfl) (fun _ _ _ h => h) (Or.inl ⟨by rfl, ?h00⟩) (by assumption) ?r00
  case h00 => intro w hSw; (try dsimp only at hSw); go_simp; (try with_reducible rfl)
  try simp only [Act.put, List.setIfInBounds_toArray, List.set_cons_zero, List.set_cons_succ]
  refine wpAnyS_take (i := 1) (oi := ⟨some 6, _, _, _, _, _⟩) (v := ?v10) rfl (by kernel_rfl) (by kernel_rfl) (by kernel_rfl) (by kernel_rfl) (fun _ _ _ h => h) (Or.inl ⟨by rfl, ?h10⟩) (by assumption) ?r10
  case h10 => intro w hSw; (try dsimp only at hSw); have q0 := (Keeps.cell hSw (p := ⟨x, 0, none⟩) lx0 nx).trans r0; have q1 := (Keeps.cell hSw (p := ⟨x, 1, none⟩) lx0 nx).trans r1; go_simp; (try with_reducible rfl)
  try simp only [Act.put, List.setIfInBounds_toArray, List.set_cons_zero, List.set_cons_succ]
  refine wpAnyS_take (i := 2) (oi := ⟨some 7, _, _, _, _, _⟩) (v := ?v20) rfl (by kernel_rfl) (by kernel_rfl) (by kernel_rfl) (by kernel_rfl) (fun _ _ _ h => h) (Or.inl ⟨by rfl, ?h20⟩) (by assumption) ?r20
  case h20 => intro w hSw; (try dsimp only at hSw); go_simp; (try with_reducible rfl)
  try simp only [Act.put, List.setIfInBounds_toArray, List.set_cons_zero, List.set_cons_succ]
  refine wpAnyS_take (i := 3) (oi := ⟨some 8, _, _, _, _, _⟩) (v := ?v30) rfl (by kernel_rfl) (by kernel_rfl) (by kernel_rfl) (by kernel_rfl) (fun _ _ _ h => h) (Or.inl ⟨by rfl, ?h30⟩) (by assumption) ?r30
  case h30 => intro w hSw; (try dsimp only at hSw); go_simp; (try with_reducible rfl)
  try simp only [Act.put, List.setIfInBounds_toArray, List.set_cons_zero, List.set_cons_succ]
  refine wpAnyS_take (i := 4) (oi := ⟨some 9, _, _, _, _, _⟩) (v := ?v40) rfl (by kernel_rfl) (by kernel_rfl) (by kernel_rfl) (by kernel_rfl) (fun _ _ _ h => h) (Or.inl ⟨by rfl, ?h40⟩) (by assumption) ?r40
  case h40 => intro w hSw; (try dsimp only at hSw); go_simp; (try with_reducible rfl)
  try simp only [Act.put, List.setIfInBounds_toArray, List.set_cons_zero, List.set_cons_succ]
  refine wpAnyS_take (i := 5) (oi := ⟨some 10, _, _, _, _, _⟩) (v := ?v50) rfl (by kernel_rfl) (by kernel_rfl) (by kernel_rfl) (by kernel_rfl) (fun _ _ _ h => h) (Or.inl ⟨by rfl, ?h50⟩) (by assumption) ?r50
  case h50 => intro w hSw; (try dsimp only at hSw); have q4 := (Keeps.cell hSw (p := ⟨p, 4, none⟩) lp0 np).trans m4; go_simp; (try with_reducible rfl)
  try simp only [Act.put, List.setIfInBounds_toArray, List.set_cons_zero, List.set_cons_succ]
  refine wpAnyS_take (i := 6) (oi := ⟨some 11, _, _, _, _, _⟩) (v := ?v60) rfl (by kernel_rfl) (by kernel_rfl) (by kernel_rfl) (by kernel_rfl) (fun _ _ _ h => h) (Or.inl ⟨by rfl, ?h60⟩) (by assumption) ?r60
  case h60 => intro w hSw; (try dsimp only at hSw); go_simp; (try with_reducible rfl)
  try simp only [Act.put, List.setIfInBounds_toArray, List.set_cons_zero, List.set_cons_succ]
  refine wpAnyS_one (i := 7) (o := ⟨some 12, _, _, _, _, _⟩) rfl (by kernel_rfl) (fun K hK => ?_)
  go_simp; refine (HPl.out _ _ (HQ0.out.D.keeps (Same.drew1 _) (fun h => h) (fun h => h))).mono ?_; rintro z wp ⟨⟨pl, rfl, hpl⟩, hsp⟩; have hsp := (Same.drew1 _).trans hsp; have HQp := hid (HQ0.out.same hsp); have HEp := hid (HE0.out.same hsp); have KP := hid (Keeps.of_same (S := fun b => b = mb) hsp); clear hsp; go_simp
  refine hK.out _ _ (fun _ => by (try dsimp only); exact KP.out) ?_
  clear hK K
  try simp only [Act.put, List.setIfInBounds_toArray, List.set_cons_zero, List.set_cons_succ]
  refine wpAnyS_take (i := 8) (oi := ⟨some 13, _, _, _, _, _⟩) (v := ?v80) rfl (by kernel_rfl) (by kernel_rfl) (by kernel_rfl) (by kernel_rfl) (fun _ _ _ h => h) (Or.inl ⟨by rfl, ?h80⟩) (by assumption) ?r80
  case h80 => intro w hSw; (try dsimp only at hSw); go_simp; (try with_reducible rfl)
  try simp only [Act.put, List.setIfInBounds_toArray, List.set_cons_zero, List.set_cons_succ]
  refine wpAnyS_one (i := 9) (o := ⟨some 14, _, _, _, _, _⟩) rfl (by kernel_rfl) (fun K hK => ?_)
  go_simp; refine (r10bit_any p mb M (k) _ (1) (M.st) (pl) (0) _ _ HQp.out.D HEp.out (by omega) (by omega) (by omega) (by omega) (by omega)).mono ?_; rintro z w2 ⟨v2, rfl, hE, hD, hK⟩; obtain ⟨g, n, cap, sz, rfl, ⟨a0, a1, y0, y1⟩, f0, f1, hQ⟩ := HQp.out.setx hE hD hK; have HQn := hid hQ; have KN := hid (KP.out.trans' hK fun b _ e => e); clear hE hD hK hQ; go_simp
  refine hK.out _ _ (fun _ => by (try dsimp only); exact KN.out) ?_
  clear hK K
  try simp only [Act.put, List.setIfInBounds_toArray, List.set_cons_zero, List.set_cons_succ]
  refine wpAnyS_one (i := 10) (o := ⟨none, _, _, _, _, _⟩) rfl (by kernel_rfl) (fun K hK => ?_)
  go_simp
  refine hK.out _ _ (fun h => absurd h (by decide)) ?_
  clear hK K
  try simp only [Act.put, List.setIfInBounds_toArray, List.set_cons_zero, List.set_cons_succ]
  refine wpAnyS_done (by kernel_rfl) ?_ _
  have HQ1 := HQn
  clear HQn KN KP HQp HEp r0 r1 m4 lx0 lp0
  go_upto_region 2 with fail
  clear y0 y1 f0 f1
  generalize ((w2.setCell ⟨x, 0, none⟩ (.slice (some ⟨g, 0, none⟩) n cap)).setCell ⟨x, 1, none⟩ (v64 sz)) = wn at HQ1 ⊢
  clear HE0 HQ0
  obtain ⟨g1, n1, c1, z1, hb1, hE1⟩ := HQ1.out.eb
  have lx1 := hb1.lt
  have lp1 := HQ1.out.D.blk.lt
  have r0 := hb1.cell 0
  have r1 := hb1.cell 1
  have m4 := HQ1.out.D.blk.cell 4
  simp only [Mdl.cells, eArr, List.getElem?_toArray, List.getElem?_cons_succ, List.getElem?_cons_zero] at r0 r1 m4
  have HE1 := hid hE1
  clear hE1 hb1
  refine wp_region_S (S := (fun V => Keeps (fun b => b = mb) wn V)) 8 (by kernel_rfl) (by (try dsimp only); exact (Keeps.refl _ _).drew) (fun hHeld => ?_)
  refine wpAnyS_take (i := 0) (oi := ⟨some 15, _, _, _, _, _⟩) (v := ?v01) rfl (by kernel_rfl) (by kernel_rfl) (by kernel_rfl) (by kernel_rfl) (fun _ _ _ h => h) (Or.inl ⟨by rfl, ?h01⟩) (by assumption) ?r01
  case h01 => intro w hSw; (try dsimp only at hSw); go_simp; (try with_reducible rfl)
  try simp only [Act.put, List.setIfInBounds_toArray, List.set_cons_zero, List.set_cons_succ]
  refine wpAnyS_take (i := 1) (oi := ⟨some 16, _, _, _, _, _⟩) (v := ?v11) rfl (by kernel_rfl) (by kernel_rfl) (by kernel_rfl) (by kernel_rfl) (fun _ _ _ h => h) (Or.inl ⟨by rfl, ?h11⟩) (by assumption) ?r11
  case h11 => intro w hSw; (try dsimp only at hSw); have q0 := (Keeps.cell hSw (p := ⟨x, 0, none⟩) lx1 nx).trans r0; have q1 := (Keeps.cell hSw (p := ⟨x, 1, none⟩) lx1 nx).trans r1; go_simp; (try with_reducible rfl)
  try simp only [Act.put, List.setIfInBounds_toArray, List.set_cons_zero, List.set_cons_succ]
  refine wpAnyS_take (i := 2) (oi := ⟨some 17, _, _, _, _, _⟩) (v := ?v21) rfl (by kernel_rfl) (by kernel_rfl) (by kernel_rfl) (by kernel_rfl) (fun _ _ _ h => h) (Or.inl ⟨by rfl, ?h21⟩) (by assumption) ?r21
  case h21 => intro w hSw; (try dsimp only at hSw); go_simp; (try with_reducible rfl)
  try simp only [Act.put, List.setIfInBounds_toArray, List.set_cons_zero, List.set_cons_succ]
  refine wpAnyS_take (i := 3) (oi := ⟨some 18, _, _, _, _, _⟩) (v := ?v31) rfl (by kernel_rfl) (by kernel_rfl) (by kernel_rfl) (by kernel_rfl) (fun _ _ _ h => h) (Or.inl ⟨by rfl, ?h31⟩) (by assumption) ?r31
  case h31 => intro w hSw; (try dsimp only at hSw); go_simp; (try with_reducible rfl)
  try simp only [Act.put, List.setIfInBounds_toArray, List.set_cons_zero, List.set_cons_succ]
  refine wpAnyS_take (i := 4) (oi := ⟨some 19, _, _, _, _, _⟩) (v := ?v41) rfl (by kernel_rfl) (by kernel_rfl) (by kernel_rfl) (by kernel_rfl) (fun _ _ _ h => h) (Or.inl ⟨by rfl, ?h41⟩) (by assumption) ?r41
  case h41 => intro w hSw; (try dsimp only at hSw); go_simp; (try with_reducible rfl)
  try simp only [Act.put, List.setIfInBounds_toArray, List.set_cons_zero, List.set_cons_succ]
  refine wpAnyS_take (i := 5) (oi := ⟨some 20, _, _, _, _, _⟩) (v := ?v51) rfl (by kernel_rfl) (by kernel_rfl) (by kernel_rfl) (by kernel_rfl) (fun _ _ _ h => h) (Or.inl ⟨by rfl, ?h51⟩) (by assumption) ?r51
  case h51 => intro w hSw; (try dsimp only at hSw); have q4 := (Keeps.cell hSw (p := ⟨p, 4, none⟩) lp1 np).trans m4; go_simp; (try with_reducible rfl)
  try simp only [Act.put, List.setIfInBounds_toArray, List.set_cons_zero, List.set_cons_succ]
  refine wpAnyS_take (i := 6) (oi := ⟨some 21, _, _, _, _, _⟩) (v := ?v61) rfl (by kernel_rfl) (by kernel_rfl) (by kernel_rfl) (by kernel_rfl) (fun _ _ _ h => h) (Or.inl ⟨by rfl, ?h61⟩) (by assumption) ?r61
  case h61 => intro w hSw; (try dsimp only at hSw); go_simp; (try with_reducible rfl)
  try simp only [Act.put, List.setIfInBounds_toArray, List.set_cons_zero, List.set_cons_succ]
  refine wpAnyS_one (i := 7) (o := ⟨some 22, _, _, _, _, _⟩) rfl (by kernel_rfl) (fun K hK => ?_)
  have HQp := hid (HQ1.out.same (Same.drew1 _)); have HEp := hid (HE1.out.same (Same.drew1 _)); have KP := hid (Keeps.of_same (S := fun b => b = mb) (Same.drew1 wn)); go_simp; refine (r10bit_any p mb M (k + 1) _ (2) (M.st) (0) (0) _ _ HQp.out.D HEp.out (by omega) (by omega) (by omega) (by omega) (by omega)).mono ?_; rintro z w2 ⟨v2, rfl, hE, hD, hK⟩; obtain ⟨g, n, cap, sz, rfl, ⟨a0, a1, y0, y1⟩, f0, f1, hQ⟩ := HQp.out.setx hE hD hK; have HQn := hid hQ; have KN := hid (KP.out.trans' hK fun b _ e => e); clear hE hD hK hQ; go_simp
  refine hK.out _ _ (fun _ => by (try dsimp only); exact KN.out) ?_
  clear hK K
  try simp only [Act.put, List.setIfInBounds_toArray, List.set_cons_zero, List.set_cons_succ]
  refine wpAnyS_one (i := 8) (o := ⟨none, _, _, _, _, _⟩) rfl (by kernel_rfl) (fun K hK => ?_)
  go_simp
  refine hK.out _ _ (fun h => absurd h (by decide)) ?_
  clear hK K
  try simp only [Act.put, List.setIfInBounds_toArray, List.set_cons_zero, List.set_cons_succ]
  refine wpAnyS_done (by kernel_rfl) ?_ _
  have HQ2 := HQn
  clear HQn KN KP HQp HEp r0 r1 m4 lx1 lp1
  go_upto_region 3 with fail
  clear y0 y1 f0 f1
  generalize ((w2.setCell ⟨x, 0, none⟩ (.slice (some ⟨g, 0, none⟩) n cap)).setCell ⟨x, 1, none⟩ (v64 sz)) = wn at HQ2 ⊢
  clear HE1 HQ1
  obtain ⟨g2, n2, c2, z2, hb2, hE2⟩ := HQ2.out.eb
  have lx2 := hb2.lt
  have lp2 := HQ2.out.D.blk.lt
  have r0 := hb2.cell 0
  have r1 := hb2.cell 1
  have m4 := HQ2.out.D.blk.cell 4
  simp only [Mdl.cells, eArr, List.getElem?_toArray, List.getElem?_cons_succ, List.getElem?_cons_zero] at r0 r1 m4
  have HE2 := hid hE2
  clear hE2 hb2
  go_wp2_with fail
  refine (r10length_any p mb M (k + 2) _ 0 2 _ HQ2.out.D HE2.out (by omega) (by omega) (by omega) HB.out.1 HB.out.2.1).mono ?_
  rintro z w2 ⟨v2, rfl, hE, hD, hK⟩
  obtain ⟨g, n, cap, sz, rfl, ⟨a0, a1, y0, y1⟩, f0, f1, hQ⟩ := HQ2.out.setx hE hD hK
  have HQ3 := hid hQ
  clear hE hD hK hQ r0 r1 m4 lx2 lp2
  go_upto_region 4 with fail
  clear y0 y1 f0 f1
  generalize ((w2.setCell ⟨x, 0, none⟩ (.slice (some ⟨g, 0, none⟩) n cap)).setCell ⟨x, 1, none⟩ (v64 sz)) = wn at HQ3 ⊢
  clear HE2 HQ2
  obtain ⟨g3, n3, c3, z3, hb3, hE3⟩ := HQ3.out.eb
  have lx3 := hb3.lt
  have lp3 := HQ3.out.D.blk.lt
  have r0 := hb3.cell 0
  have r1 := hb3.cell 1
  have m4 := HQ3.out.D.blk.cell 4
  simp only [Mdl.cells, eArr, List.getElem?_toArray, List.getElem?_cons_succ, List.getElem?_cons_zero] at r0 r1 m4
  have HE3 := hid hE3
  clear hE3 hb3
  go_wp2_with fail
  refine (r10dist_any p mb M (k + 2 + 10) _ 4294967295 2 _ HQ3.out.D HE3.out (by omega) (by decide) (by omega)).mono ?_
  rintro z w2 ⟨v2, rfl, hE, hD, hK⟩
  obtain ⟨g, n, cap, sz, rfl, y0, y1, f0, f1, hQ⟩ := HQ3.out.sety hE hD hK
  have HL := hid hQ
  have l0 := hQ.c0
  have l1 := hQ.c1
  clear hE hD hK hQ
  go_wp2_with fail
  refine bodyPost_ret (v := .agg (eArr g n cap sz)) (by simp [results, Tryz.results24, go_sem, l0, l1]) rfl ?_
  exact ⟨_, rfl, HL.out.E.mono (by omega), HL.out.D.mono (by omega), HL.out.S⟩
end Go.Proofs.YtalopgbkjgjppaaGreatDoor
