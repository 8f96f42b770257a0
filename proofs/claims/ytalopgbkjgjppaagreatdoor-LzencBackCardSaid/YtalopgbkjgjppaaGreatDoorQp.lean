/- The document's Put: a copy. -/
import Derived.Test.YtalopgbkjgjppaaGreatDoorQo
import Derived.Test.YtalopgbkjgjppaaGreatDoorGLawA
import Derived.Deep.CutBlock
namespace Go.Proofs.YtalopgbkjgjppaaGreatDoor
open Go.RowKit Go.Cas Go.Maps Go.Cas.Enc

theorem back_cases {kk d l h a b c e x0 x1 : Int} {r : Int × Int × Int × Int} (hb : backL kk d l 0 h a b c e = (x0, x1, r, true)) :
    (kk = 2 ∧ 1 ≤ d ∧ d ≤ 1048576 ∧ 2 ≤ l ∧ l ≤ 273) ∨ (kk = 3 ∧ 0 ≤ d ∧ d < 4 ∧ 2 ≤ l ∧ l ≤ 273) ∨ (kk = 4 ∧ d = 0 ∧ l = 0) := by
  unfold backL at hb
  rw [if_neg (by simp)] at hb
  by_cases h2 : kk = 2
  · rw [if_pos h2] at hb
    simp at hb
    omega
  · rw [if_neg h2] at hb
    by_cases h3 : kk = 3
    · rw [if_pos h3] at hb
      by_cases hd : 0 ≤ d ∧ d < 4
      · rw [if_pos hd] at hb
        simp only [Prod.mk.injEq, decide_eq_true_eq] at hb
        omega
      · rw [if_neg hd] at hb
        simp at hb
    · rw [if_neg h3] at hb
      by_cases h4 : kk = 4
      · rw [if_pos h4] at hb
        simp at hb
        omega
      · rw [if_neg h4] at hb
        simp at hb

theorem str_cut (t : List UInt8) (i : Nat) (h : i < t.length) : (⟨t.toArray⟩ : ByteArray) ++ (⟨t.toArray⟩ : ByteArray).extract i (i + 1) = ⟨(t ++ [t[i]?.getD 0]).toArray⟩ := by
  apply ByteArray.ext
  simp only [ByteArray.data_append, ByteArray.data_extract, List.extract_toArray, List.extract_eq_take_drop]
  rw [show i + 1 - i = 1 from by omega, List.getElem?_eq_getElem h]
  simp only [List.append_toArray, Option.getD_some]
  rw [List.drop_eq_getElem_cons h]
  rfl

set_option maxHeartbeats 16000000 in
set_option maxRecDepth 100000 in
theorem r10putc_any (p mb : Nat) (M : Mdl) (k : Nat) (v : Value) (kk d l : Int) (x0 x1 : Nat) (a b c e : Int) (w : World) (hD : D10 w p mb M k) (hE : EN w v k) (hk : k + 300 ≤ 200000) (hM : MOk M)
    (hbk : backL kk d l 0 M.T.length M.r0 M.r1 M.r2 M.r3 = ((x0 : Int), (x1 : Int), (a, b, c, e), true)) (hx0 : 1 ≤ x0 ∧ x0 ≤ M.T.length) (hx1 : x1 ≤ 273) :
    Calls Tryz.prog 23 #[.pointer (some ⟨p, 0, none⟩), v, pk kk d l 0] w fun z w' => ∃ v', z = .returned v' ∧ EN w' v' (k + 300) ∧
      D10 w' p mb { M with T := copyL M.T x0 x1, st := nextS M.st kk.toNat, r0 := a, r1 := b, r2 := c, r3 := e } (k + 300) ∧ Keeps (fun b => b = p ∨ b = mb) w w' := by
  obtain ⟨g, n, cap, sz, rfl, hQ⟩ := QP.start (k0 := kk) (d0 := d) (l0 := l) (y0 := 0) hD hE
  have HPl := hid (fun (k : Nat) (w0 : World) (hD : D10 w0 p mb M k) => r10place_any p mb M k w0 hD hM.2.2.1 (by have := hM.2.2.2.1; omega))
  have HBa := hid (fun w0 => back_any kk d l 0 M.T.length M.r0 M.r1 M.r2 M.r3 w0)
  rw [hbk] at HBa
  have HC := hid (back_cases hbk)
  have HB := hid hM
  have HX := hid (And.intro hx0 hx1)
  have np : ¬ p = mb := fun e => hD.ne e.symm
  have hst := hM.2.2.2.2.1
  have tk1 : (kk == 1) = false := by have := HC.out; simp; omega
  clear hD hE hM hbk hx0 hx1
  go_enter Tryz.func23, Tryz.ntmps23
  go_upto_region 1 with fail
  generalize ((w.alloc (.cells (eArr g n cap sz) 56)).alloc (.cells #[i6 kk, i6 d, i6 l, .int .u8 0] 58)).alloc (.cells #[.slice none 0 0, .int .u64 0] 56) = wn at hQ ⊢
  obtain ⟨x, hx⟩ : ∃ x, w.heap.size = x := ⟨_, rfl⟩
  rw [hx] at hQ ⊢
  have nx : ¬ x = mb := by have := hQ.mx; omega
  have HQ0 := hid hQ
  have m4 := hQ.D.blk.cell 4
  have lp := hQ.D.blk.lt
  simp only [Mdl.cells, List.getElem?_toArray, List.getElem?_cons_succ, List.getElem?_cons_zero] at m4
  have u0 := hQ.pk0
  have lu := hQ.pkb.lt
  clear hQ hx
  go_upto_region 8 with fail
  clear m4 lp u0 lu
  obtain ⟨g0, n0, c0, z0, hb0, hE0⟩ := HQ0.out.eb
  have lx0 := hb0.lt
  have lp0 := HQ0.out.D.blk.lt
  have r0 := hb0.cell 0
  have r1 := hb0.cell 1
  have m4 := HQ0.out.D.blk.cell 4
  simp only [Mdl.cells, eArr, List.getElem?_toArray, List.getElem?_cons_succ, List.getElem?_cons_zero] at r0 r1 m4
  have HE0 := hid hE0
  clear hE0 hb0
  have u0 := HQ0.out.pk0
  have u1 := HQ0.out.pk1
  have u2 := HQ0.out.pk2
  have u3 := HQ0.out.pk3
  have lu := HQ0.out.pkb.lt
  refine wp_region_S (S := (fun V => Keeps (fun b => b = mb) wn V)) 7 (by kernel_rfl) (by (try dsimp only); exact (Keeps.refl _ _).drew) (fun hHeld => ?_)
  refine wpAnyS_take (i := 0) (oi := ⟨some 50, _, _, _, _, _⟩) (v := ?v0r8q0) rfl (by kernel_rfl) (by kernel_rfl) (by kernel_rfl) (by kernel_rfl) (fun _ _ _ h => h) (Or.inl ⟨by rfl, ?h0r8q0⟩) (by assumption) ?r0r8q0
  case h0r8q0 => intro w hSw; (try dsimp only at hSw); go_simp; (try with_reducible rfl)
  try simp only [Act.put, List.setIfInBounds_toArray, List.set_cons_zero, List.set_cons_succ]
  refine wpAnyS_take (i := 1) (oi := ⟨some 51, _, _, _, _, _⟩) (v := ?v1r8q0) rfl (by kernel_rfl) (by kernel_rfl) (by kernel_rfl) (by kernel_rfl) (fun _ _ _ h => h) (Or.inl ⟨by rfl, ?h1r8q0⟩) (by assumption) ?r1r8q0
  case h1r8q0 => intro w hSw; (try dsimp only at hSw); have q0 := (Keeps.cell hSw (p := ⟨x, 0, none⟩) lx0 nx).trans r0; have q1 := (Keeps.cell hSw (p := ⟨x, 1, none⟩) lx0 nx).trans r1; go_simp; (try with_reducible rfl)
  try simp only [Act.put, List.setIfInBounds_toArray, List.set_cons_zero, List.set_cons_succ]
  refine wpAnyS_take (i := 2) (oi := ⟨some 52, _, _, _, _, _⟩) (v := ?v2r8q0) rfl (by kernel_rfl) (by kernel_rfl) (by kernel_rfl) (by kernel_rfl) (fun _ _ _ h => h) (Or.inl ⟨by rfl, ?h2r8q0⟩) (by assumption) ?r2r8q0
  case h2r8q0 => intro w hSw; (try dsimp only at hSw); go_simp; (try with_reducible rfl)
  try simp only [Act.put, List.setIfInBounds_toArray, List.set_cons_zero, List.set_cons_succ]
  refine wpAnyS_take (i := 3) (oi := ⟨some 53, _, _, _, _, _⟩) (v := ?v3r8q0) rfl (by kernel_rfl) (by kernel_rfl) (by kernel_rfl) (by kernel_rfl) (fun _ _ _ h => h) (Or.inl ⟨by rfl, ?h3r8q0⟩) (by assumption) ?r3r8q0
  case h3r8q0 => intro w hSw; (try dsimp only at hSw); go_simp; (try with_reducible rfl)
  try simp only [Act.put, List.setIfInBounds_toArray, List.set_cons_zero, List.set_cons_succ]
  refine wpAnyS_one (i := 4) (o := ⟨some 54, _, _, _, _, _⟩) rfl (by kernel_rfl) (fun K hK => ?_)
  go_simp; refine (HPl.out _ _ (HQ0.out.D.keeps (Same.drew1 _) (fun h => h) (fun h => h))).mono ?_; rintro z wp ⟨⟨pl, rfl, hpl⟩, hsp⟩; have hsp := (Same.drew1 _).trans hsp; have HQp := hid (HQ0.out.same hsp); have HEp := hid (HE0.out.same hsp); have KP := hid (Keeps.of_same (S := fun b => b = mb) hsp); clear hsp; go_simp
  refine hK.out _ _ (fun _ => by (try dsimp only); exact KP.out) ?_
  clear hK K
  try simp only [Act.put, List.setIfInBounds_toArray, List.set_cons_zero, List.set_cons_succ]
  refine wpAnyS_take (i := 5) (oi := ⟨some 55, _, _, _, _, _⟩) (v := ?v5r8q0) rfl (by kernel_rfl) (by kernel_rfl) (by kernel_rfl) (by kernel_rfl) (fun _ _ _ h => h) (Or.inl ⟨by rfl, ?h5r8q0⟩) (by assumption) ?r5r8q0
  case h5r8q0 => intro w hSw; (try dsimp only at hSw); go_simp; (try with_reducible rfl)
  try simp only [Act.put, List.setIfInBounds_toArray, List.set_cons_zero, List.set_cons_succ]
  refine wpAnyS_one (i := 6) (o := ⟨some 56, _, _, _, _, _⟩) rfl (by kernel_rfl) (fun K hK => ?_)
  go_simp; refine (r10bit_any p mb M (k) _ (1) (M.st) (pl) (0) _ _ HQp.out.D HEp.out (by omega) (by omega) (by omega) (by omega) (by omega)).mono ?_; rintro z w2 ⟨v2, rfl, hE, hD, hK⟩; obtain ⟨g, n, cap, sz, rfl, ⟨a0, a1, y0, y1⟩, f0, f1, hQ⟩ := HQp.out.setx hE hD hK; have HQn := hid hQ; have KN := hid (KP.out.trans' hK fun b _ e => e); clear hE hD hK hQ; go_simp
  refine hK.out _ _ (fun _ => by (try dsimp only); exact KN.out) ?_
  clear hK K
  try simp only [Act.put, List.setIfInBounds_toArray, List.set_cons_zero, List.set_cons_succ]
  refine wpAnyS_one (i := 7) (o := ⟨none, _, _, _, _, _⟩) rfl (by kernel_rfl) (fun K hK => ?_)
  go_simp
  refine hK.out _ _ (fun h => absurd h (by decide)) ?_
  clear hK K
  try simp only [Act.put, List.setIfInBounds_toArray, List.set_cons_zero, List.set_cons_succ]
  refine wpAnyS_done (by kernel_rfl) ?_ _
  have HQ1 := HQn
  clear HQn KN KP HQp HEp r0 r1 m4 u0 u1 u2 u3 lu lx0 lp0
  go_upto_block 0 with fail
  clear y0 y1 f0 f1
  generalize ((w2.setCell ⟨x, 0, none⟩ (.slice (some ⟨g, 0, none⟩) n cap)).setCell ⟨x, 1, none⟩ (v64 sz)) = wn at HQ1 ⊢
  clear HE0 HQ0
  go_cut [7] (fun s7 wx => s7 = i6 M.st ∧ QP w wx (fun b => b = p ∨ b = mb) p mb x (x + 2) (x + 1) M (k + 100) kk d l 0)
  case first =>
    have u0 := HQ1.out.pk0
    have u1 := HQ1.out.pk1
    have lu := HQ1.out.pkb.lt
    rcases HC.out with ⟨rfl, hd1, hd2, hl1, hl2⟩ | ⟨rfl, hd1, hd2, hl1, hl2⟩ | ⟨rfl, rfl, rfl⟩
    · obtain ⟨N, rfl⟩ : ∃ N : Nat, l = N := ⟨l.toNat, by omega⟩
      obtain ⟨D, hdD⟩ : ∃ D : Nat, d - 1 = D := ⟨(d - 1).toNat, by omega⟩
      have HN := hid (show 2 ≤ N ∧ N ≤ 300 by omega)
      have hD2 : D < 4294967296 := by omega
      have vD := wrN (n := D) (by omega)
      have vD2 : IntKind.u64.wrap (D : Int) = (D : Int) := by simp [IntKind.wrap, IntKind.bits, IntKind.signed]; omega
      clear hd1 hd2 hl1 hl2
      go_upto_region 17 with fail
      clear u0 u1 lu
      obtain ⟨g1, n1, c1, z1, hb1, hE1⟩ := HQ1.out.eb
      have lx1 := hb1.lt
      have lp1 := HQ1.out.D.blk.lt
      have r0 := hb1.cell 0
      have r1 := hb1.cell 1
      have m4 := HQ1.out.D.blk.cell 4
      simp only [Mdl.cells, eArr, List.getElem?_toArray, List.getElem?_cons_succ, List.getElem?_cons_zero] at r0 r1 m4
      have HE1 := hid hE1
      clear hE1 hb1
      have u0 := HQ1.out.pk0
      have u1 := HQ1.out.pk1
      have u2 := HQ1.out.pk2
      have u3 := HQ1.out.pk3
      have lu := HQ1.out.pkb.lt
      go_wp2_with fail
      refine (r10bit_any p mb M (k + 1) _ (2) (M.st) (0) (0) _ _ HQ1.out.D HE1.out (by omega) (by omega) (by omega) (by omega) (by omega)).mono ?_
      rintro z w2 ⟨v2, rfl, hE, hD, hK⟩
      obtain ⟨g, n, cap, sz, rfl, ⟨a0, a1, y0, y1⟩, f0, f1, hQ⟩ := HQ1.out.setx hE hD hK
      have HQ2 := hid hQ
      clear hE hD hK hQ r0 r1 m4 u0 u1 u2 u3 lu lx1 lp1
      go_upto_region 18 with fail
      clear y0 y1 f0 f1
      generalize ((w2.setCell ⟨x, 0, none⟩ (.slice (some ⟨g, 0, none⟩) n cap)).setCell ⟨x, 1, none⟩ (v64 sz)) = wn at HQ2 ⊢
      clear HE1 HQ1
      obtain ⟨g2, n2, c2, z2, hb2, hE2⟩ := HQ2.out.eb
      have lx2 := hb2.lt
      have lp2 := HQ2.out.D.blk.lt
      have r0 := hb2.cell 0
      have r1 := hb2.cell 1
      have m4 := HQ2.out.D.blk.cell 4
      simp only [Mdl.cells, eArr, List.getElem?_toArray, List.getElem?_cons_succ, List.getElem?_cons_zero] at r0 r1 m4
      have HE2 := hid hE2
      clear hE2 hb2
      have u0 := HQ2.out.pk0
      have u1 := HQ2.out.pk1
      have u2 := HQ2.out.pk2
      have u3 := HQ2.out.pk3
      have lu := HQ2.out.pkb.lt
      go_wp2_with fail
      refine (r10length_any p mb M (k + 2) _ 0 N _ HQ2.out.D HE2.out (by omega) (by omega) HN.out HB.out.2.2.1 (by have := HB.out.2.2.2.1; omega)).mono ?_
      rintro z w2 ⟨v2, rfl, hE, hD, hK⟩
      obtain ⟨g, n, cap, sz, rfl, ⟨a0, a1, y0, y1⟩, f0, f1, hQ⟩ := HQ2.out.setx hE hD hK
      have HQ3 := hid hQ
      clear hE hD hK hQ r0 r1 m4 u0 u1 u2 u3 lu lx2 lp2
      go_upto_region 19 with fail
      clear y0 y1 f0 f1
      generalize ((w2.setCell ⟨x, 0, none⟩ (.slice (some ⟨g, 0, none⟩) n cap)).setCell ⟨x, 1, none⟩ (v64 sz)) = wn at HQ3 ⊢
      clear HE2 HQ2
      obtain ⟨g3, n3, c3, z3, hb3, hE3⟩ := HQ3.out.eb
      have lx3 := hb3.lt
      have lp3 := HQ3.out.D.blk.lt
      have r0 := hb3.cell 0
      have r1 := hb3.cell 1
      have m4 := HQ3.out.D.blk.cell 4
      simp only [Mdl.cells, eArr, List.getElem?_toArray, List.getElem?_cons_succ, List.getElem?_cons_zero] at r0 r1 m4
      have HE3 := hid hE3
      clear hE3 hb3
      have u0 := HQ3.out.pk0
      have u1 := HQ3.out.pk1
      have u2 := HQ3.out.pk2
      have u3 := HQ3.out.pk3
      have lu := HQ3.out.pkb.lt
      go_wp2_with fail
      refine (r10dist_any p mb M (k + 2 + 10) _ D N _ HQ3.out.D HE3.out (by omega) hD2 HN.out).mono ?_
      rintro z w2 ⟨v2, rfl, hE, hD, hK⟩
      obtain ⟨g, n, cap, sz, rfl, ⟨a0, a1, y0, y1⟩, f0, f1, hQ⟩ := HQ3.out.setx hE hD hK
      have HQ4 := hid hQ
      clear hE hD hK hQ r0 r1 m4 u0 u1 u2 u3 lu lx3 lp3
      go_wp2_with fail
      go_meet
      exact ⟨rfl, HQ4.out.mono (by omega)⟩
    · obtain ⟨N, rfl⟩ : ∃ N : Nat, l = N := ⟨l.toNat, by omega⟩
      have HN := hid (show 2 ≤ N ∧ N ≤ 300 by omega)
      clear hl1 hl2
      by_cases hd0 : d = 0
      · subst hd0
        clear hd1 hd2
        go_upto_region 21 with fail
        clear u0 u1 lu
        obtain ⟨g1, n1, c1, z1, hb1, hE1⟩ := HQ1.out.eb
        have lx1 := hb1.lt
        have lp1 := HQ1.out.D.blk.lt
        have r0 := hb1.cell 0
        have r1 := hb1.cell 1
        have m4 := HQ1.out.D.blk.cell 4
        simp only [Mdl.cells, eArr, List.getElem?_toArray, List.getElem?_cons_succ, List.getElem?_cons_zero] at r0 r1 m4
        have HE1 := hid hE1
        clear hE1 hb1
        have u0 := HQ1.out.pk0
        have u1 := HQ1.out.pk1
        have u2 := HQ1.out.pk2
        have u3 := HQ1.out.pk3
        have lu := HQ1.out.pkb.lt
        go_wp2_with fail
        refine (r10bit_any p mb M (k + 1) _ (2) (M.st) (0) (0) _ _ HQ1.out.D HE1.out (by omega) (by omega) (by omega) (by omega) (by omega)).mono ?_
        rintro z w2 ⟨v2, rfl, hE, hD, hK⟩
        obtain ⟨g, n, cap, sz, rfl, ⟨a0, a1, y0, y1⟩, f0, f1, hQ⟩ := HQ1.out.setx hE hD hK
        have HQ2 := hid hQ
        clear hE hD hK hQ r0 r1 m4 u0 u1 u2 u3 lu lx1 lp1
        go_upto_region 22 with fail
        clear y0 y1 f0 f1
        generalize ((w2.setCell ⟨x, 0, none⟩ (.slice (some ⟨g, 0, none⟩) n cap)).setCell ⟨x, 1, none⟩ (v64 sz)) = wn at HQ2 ⊢
        clear HE1 HQ1
        obtain ⟨g2, n2, c2, z2, hb2, hE2⟩ := HQ2.out.eb
        have lx2 := hb2.lt
        have lp2 := HQ2.out.D.blk.lt
        have r0 := hb2.cell 0
        have r1 := hb2.cell 1
        have m4 := HQ2.out.D.blk.cell 4
        simp only [Mdl.cells, eArr, List.getElem?_toArray, List.getElem?_cons_succ, List.getElem?_cons_zero] at r0 r1 m4
        have HE2 := hid hE2
        clear hE2 hb2
        have u0 := HQ2.out.pk0
        have u1 := HQ2.out.pk1
        have u2 := HQ2.out.pk2
        have u3 := HQ2.out.pk3
        have lu := HQ2.out.pkb.lt
        go_wp2_with fail
        refine (r10bit_any p mb M (k + 2) _ (3) (M.st) (0) (0) _ _ HQ2.out.D HE2.out (by omega) (by omega) (by omega) (by omega) (by omega)).mono ?_
        rintro z w2 ⟨v2, rfl, hE, hD, hK⟩
        obtain ⟨g, n, cap, sz, rfl, ⟨a0, a1, y0, y1⟩, f0, f1, hQ⟩ := HQ2.out.setx hE hD hK
        have HQ3 := hid hQ
        clear hE hD hK hQ r0 r1 m4 u0 u1 u2 u3 lu lx2 lp2
        go_upto_region 23 with fail
        clear y0 y1 f0 f1
        generalize ((w2.setCell ⟨x, 0, none⟩ (.slice (some ⟨g, 0, none⟩) n cap)).setCell ⟨x, 1, none⟩ (v64 sz)) = wn at HQ3 ⊢
        clear HE2 HQ2
        have u0 := HQ3.out.pk0
        have lu := HQ3.out.pkb.lt
        go_upto_region 25 with fail
        clear u0 lu
        obtain ⟨g3, n3, c3, z3, hb3, hE3⟩ := HQ3.out.eb
        have lx3 := hb3.lt
        have lp3 := HQ3.out.D.blk.lt
        have r0 := hb3.cell 0
        have r1 := hb3.cell 1
        have m4 := HQ3.out.D.blk.cell 4
        simp only [Mdl.cells, eArr, List.getElem?_toArray, List.getElem?_cons_succ, List.getElem?_cons_zero] at r0 r1 m4
        have HE3 := hid hE3
        clear hE3 hb3
        have u0 := HQ3.out.pk0
        have u1 := HQ3.out.pk1
        have u2 := HQ3.out.pk2
        have u3 := HQ3.out.pk3
        have lu := HQ3.out.pkb.lt
        refine wp_region_S (S := (fun V => Keeps (fun b => b = mb) wn V)) 7 (by kernel_rfl) (by (try dsimp only); exact (Keeps.refl _ _).drew) (fun hHeld => ?_)
        refine wpAnyS_take (i := 0) (oi := ⟨some 145, _, _, _, _, _⟩) (v := ?v0r25q3) rfl (by kernel_rfl) (by kernel_rfl) (by kernel_rfl) (by kernel_rfl) (fun _ _ _ h => h) (Or.inl ⟨by rfl, ?h0r25q3⟩) (by assumption) ?r0r25q3
        case h0r25q3 => intro w hSw; (try dsimp only at hSw); go_simp; (try with_reducible rfl)
        try simp only [Act.put, List.setIfInBounds_toArray, List.set_cons_zero, List.set_cons_succ]
        refine wpAnyS_take (i := 1) (oi := ⟨some 146, _, _, _, _, _⟩) (v := ?v1r25q3) rfl (by kernel_rfl) (by kernel_rfl) (by kernel_rfl) (by kernel_rfl) (fun _ _ _ h => h) (Or.inl ⟨by rfl, ?h1r25q3⟩) (by assumption) ?r1r25q3
        case h1r25q3 => intro w hSw; (try dsimp only at hSw); have q0 := (Keeps.cell hSw (p := ⟨x, 0, none⟩) lx3 nx).trans r0; have q1 := (Keeps.cell hSw (p := ⟨x, 1, none⟩) lx3 nx).trans r1; go_simp; (try with_reducible rfl)
        try simp only [Act.put, List.setIfInBounds_toArray, List.set_cons_zero, List.set_cons_succ]
        refine wpAnyS_take (i := 2) (oi := ⟨some 147, _, _, _, _, _⟩) (v := ?v2r25q3) rfl (by kernel_rfl) (by kernel_rfl) (by kernel_rfl) (by kernel_rfl) (fun _ _ _ h => h) (Or.inl ⟨by rfl, ?h2r25q3⟩) (by assumption) ?r2r25q3
        case h2r25q3 => intro w hSw; (try dsimp only at hSw); go_simp; (try with_reducible rfl)
        try simp only [Act.put, List.setIfInBounds_toArray, List.set_cons_zero, List.set_cons_succ]
        refine wpAnyS_take (i := 3) (oi := ⟨some 148, _, _, _, _, _⟩) (v := ?v3r25q3) rfl (by kernel_rfl) (by kernel_rfl) (by kernel_rfl) (by kernel_rfl) (fun _ _ _ h => h) (Or.inl ⟨by rfl, ?h3r25q3⟩) (by assumption) ?r3r25q3
        case h3r25q3 => intro w hSw; (try dsimp only at hSw); go_simp; (try with_reducible rfl)
        try simp only [Act.put, List.setIfInBounds_toArray, List.set_cons_zero, List.set_cons_succ]
        refine wpAnyS_one (i := 4) (o := ⟨some 149, _, _, _, _, _⟩) rfl (by kernel_rfl) (fun K hK => ?_)
        go_simp; refine (HPl.out _ _ (HQ3.out.D.keeps (Same.drew1 _) (fun h => h) (fun h => h))).mono ?_; rintro z wp ⟨⟨pl, rfl, hpl⟩, hsp⟩; have hsp := (Same.drew1 _).trans hsp; have HQp := hid (HQ3.out.same hsp); have HEp := hid (HE3.out.same hsp); have KP := hid (Keeps.of_same (S := fun b => b = mb) hsp); clear hsp; go_simp
        refine hK.out _ _ (fun _ => by (try dsimp only); exact KP.out) ?_
        clear hK K
        try simp only [Act.put, List.setIfInBounds_toArray, List.set_cons_zero, List.set_cons_succ]
        refine wpAnyS_take (i := 5) (oi := ⟨some 150, _, _, _, _, _⟩) (v := ?v5r25q3) rfl (by kernel_rfl) (by kernel_rfl) (by kernel_rfl) (by kernel_rfl) (fun _ _ _ h => h) (Or.inl ⟨by rfl, ?h5r25q3⟩) (by assumption) ?r5r25q3
        case h5r25q3 => intro w hSw; (try dsimp only at hSw); go_simp; (try with_reducible rfl)
        try simp only [Act.put, List.setIfInBounds_toArray, List.set_cons_zero, List.set_cons_succ]
        refine wpAnyS_one (i := 6) (o := ⟨some 151, _, _, _, _, _⟩) rfl (by kernel_rfl) (fun K hK => ?_)
        go_simp; refine (r10bit_any p mb M (k + 3) _ (4) (M.st) (pl) (0) _ _ HQp.out.D HEp.out (by omega) (by omega) (by omega) (by omega) (by omega)).mono ?_; rintro z w2 ⟨v2, rfl, hE, hD, hK⟩; obtain ⟨g, n, cap, sz, rfl, ⟨a0, a1, y0, y1⟩, f0, f1, hQ⟩ := HQp.out.setx hE hD hK; have HQn := hid hQ; have KN := hid (KP.out.trans' hK fun b _ e => e); clear hE hD hK hQ; go_simp
        refine hK.out _ _ (fun _ => by (try dsimp only); exact KN.out) ?_
        clear hK K
        try simp only [Act.put, List.setIfInBounds_toArray, List.set_cons_zero, List.set_cons_succ]
        refine wpAnyS_one (i := 7) (o := ⟨none, _, _, _, _, _⟩) rfl (by kernel_rfl) (fun K hK => ?_)
        go_simp
        refine hK.out _ _ (fun h => absurd h (by decide)) ?_
        clear hK K
        try simp only [Act.put, List.setIfInBounds_toArray, List.set_cons_zero, List.set_cons_succ]
        refine wpAnyS_done (by kernel_rfl) ?_ _
        have HQ4 := HQn
        clear HQn KN KP HQp HEp r0 r1 m4 u0 u1 u2 u3 lu lx3 lp3
        go_upto_region 26 with fail
        clear y0 y1 f0 f1
        generalize ((w2.setCell ⟨x, 0, none⟩ (.slice (some ⟨g, 0, none⟩) n cap)).setCell ⟨x, 1, none⟩ (v64 sz)) = wn at HQ4 ⊢
        clear HE3 HQ3
        obtain ⟨g4, n4, c4, z4, hb4, hE4⟩ := HQ4.out.eb
        have lx4 := hb4.lt
        have lp4 := HQ4.out.D.blk.lt
        have r0 := hb4.cell 0
        have r1 := hb4.cell 1
        have m4 := HQ4.out.D.blk.cell 4
        simp only [Mdl.cells, eArr, List.getElem?_toArray, List.getElem?_cons_succ, List.getElem?_cons_zero] at r0 r1 m4
        have HE4 := hid hE4
        clear hE4 hb4
        have u0 := HQ4.out.pk0
        have u1 := HQ4.out.pk1
        have u2 := HQ4.out.pk2
        have u3 := HQ4.out.pk3
        have lu := HQ4.out.pkb.lt
        go_wp2_with fail
        refine (r10length_any p mb M (k + 4) _ 1 N _ HQ4.out.D HE4.out (by omega) (by omega) HN.out HB.out.2.2.1 (by have := HB.out.2.2.2.1; omega)).mono ?_
        rintro z w2 ⟨v2, rfl, hE, hD, hK⟩
        obtain ⟨g, n, cap, sz, rfl, ⟨a0, a1, y0, y1⟩, f0, f1, hQ⟩ := HQ4.out.setx hE hD hK
        have HQ5 := hid hQ
        clear hE hD hK hQ r0 r1 m4 u0 u1 u2 u3 lu lx4 lp4
        go_wp2_with fail
        go_meet
        exact ⟨rfl, HQ5.out.mono (by omega)⟩
      · have td0 : (d == 0) = false := by simpa using hd0
        by_cases hd1' : d = 1
        · subst hd1'
          clear hd1 hd2
          go_upto_region 9 with fail
          clear u0 u1 lu
          obtain ⟨g1, n1, c1, z1, hb1, hE1⟩ := HQ1.out.eb
          have lx1 := hb1.lt
          have lp1 := HQ1.out.D.blk.lt
          have r0 := hb1.cell 0
          have r1 := hb1.cell 1
          have m4 := HQ1.out.D.blk.cell 4
          simp only [Mdl.cells, eArr, List.getElem?_toArray, List.getElem?_cons_succ, List.getElem?_cons_zero] at r0 r1 m4
          have HE1 := hid hE1
          clear hE1 hb1
          have u0 := HQ1.out.pk0
          have u1 := HQ1.out.pk1
          have u2 := HQ1.out.pk2
          have u3 := HQ1.out.pk3
          have lu := HQ1.out.pkb.lt
          go_wp2_with fail
          refine (r10bit_any p mb M (k + 1) _ (2) (M.st) (0) (0) _ _ HQ1.out.D HE1.out (by omega) (by omega) (by omega) (by omega) (by omega)).mono ?_
          rintro z w2 ⟨v2, rfl, hE, hD, hK⟩
          obtain ⟨g, n, cap, sz, rfl, ⟨a0, a1, y0, y1⟩, f0, f1, hQ⟩ := HQ1.out.setx hE hD hK
          have HQ2 := hid hQ
          clear hE hD hK hQ r0 r1 m4 u0 u1 u2 u3 lu lx1 lp1
          go_upto_region 10 with fail
          clear y0 y1 f0 f1
          generalize ((w2.setCell ⟨x, 0, none⟩ (.slice (some ⟨g, 0, none⟩) n cap)).setCell ⟨x, 1, none⟩ (v64 sz)) = wn at HQ2 ⊢
          clear HE1 HQ1
          obtain ⟨g2, n2, c2, z2, hb2, hE2⟩ := HQ2.out.eb
          have lx2 := hb2.lt
          have lp2 := HQ2.out.D.blk.lt
          have r0 := hb2.cell 0
          have r1 := hb2.cell 1
          have m4 := HQ2.out.D.blk.cell 4
          simp only [Mdl.cells, eArr, List.getElem?_toArray, List.getElem?_cons_succ, List.getElem?_cons_zero] at r0 r1 m4
          have HE2 := hid hE2
          clear hE2 hb2
          have u0 := HQ2.out.pk0
          have u1 := HQ2.out.pk1
          have u2 := HQ2.out.pk2
          have u3 := HQ2.out.pk3
          have lu := HQ2.out.pkb.lt
          go_wp2_with fail
          refine (r10bit_any p mb M (k + 2) _ (3) (M.st) (0) (0) _ _ HQ2.out.D HE2.out (by omega) (by omega) (by omega) (by omega) (by omega)).mono ?_
          rintro z w2 ⟨v2, rfl, hE, hD, hK⟩
          obtain ⟨g, n, cap, sz, rfl, ⟨a0, a1, y0, y1⟩, f0, f1, hQ⟩ := HQ2.out.setx hE hD hK
          have HQ3 := hid hQ
          clear hE hD hK hQ r0 r1 m4 u0 u1 u2 u3 lu lx2 lp2
          go_upto_region 11 with fail
          clear y0 y1 f0 f1
          generalize ((w2.setCell ⟨x, 0, none⟩ (.slice (some ⟨g, 0, none⟩) n cap)).setCell ⟨x, 1, none⟩ (v64 sz)) = wn at HQ3 ⊢
          clear HE2 HQ2
          have u1 := HQ3.out.pk1
          have lu := HQ3.out.pkb.lt
          go_upto_region 12 with fail
          clear u1 lu
          obtain ⟨g3, n3, c3, z3, hb3, hE3⟩ := HQ3.out.eb
          have lx3 := hb3.lt
          have lp3 := HQ3.out.D.blk.lt
          have r0 := hb3.cell 0
          have r1 := hb3.cell 1
          have m4 := HQ3.out.D.blk.cell 4
          simp only [Mdl.cells, eArr, List.getElem?_toArray, List.getElem?_cons_succ, List.getElem?_cons_zero] at r0 r1 m4
          have HE3 := hid hE3
          clear hE3 hb3
          have u0 := HQ3.out.pk0
          have u1 := HQ3.out.pk1
          have u2 := HQ3.out.pk2
          have u3 := HQ3.out.pk3
          have lu := HQ3.out.pkb.lt
          go_wp2_with fail
          refine (r10bit_any p mb M (k + 3) _ (5) (M.st) (0) (0) _ _ HQ3.out.D HE3.out (by omega) (by omega) (by omega) (by omega) (by omega)).mono ?_
          rintro z w2 ⟨v2, rfl, hE, hD, hK⟩
          obtain ⟨g, n, cap, sz, rfl, ⟨a0, a1, y0, y1⟩, f0, f1, hQ⟩ := HQ3.out.setx hE hD hK
          have HQ4 := hid hQ
          clear hE hD hK hQ r0 r1 m4 u0 u1 u2 u3 lu lx3 lp3
          go_upto_region 15 with fail
          clear y0 y1 f0 f1
          generalize ((w2.setCell ⟨x, 0, none⟩ (.slice (some ⟨g, 0, none⟩) n cap)).setCell ⟨x, 1, none⟩ (v64 sz)) = wn at HQ4 ⊢
          clear HE3 HQ3
          obtain ⟨g4, n4, c4, z4, hb4, hE4⟩ := HQ4.out.eb
          have lx4 := hb4.lt
          have lp4 := HQ4.out.D.blk.lt
          have r0 := hb4.cell 0
          have r1 := hb4.cell 1
          have m4 := HQ4.out.D.blk.cell 4
          simp only [Mdl.cells, eArr, List.getElem?_toArray, List.getElem?_cons_succ, List.getElem?_cons_zero] at r0 r1 m4
          have HE4 := hid hE4
          clear hE4 hb4
          have u0 := HQ4.out.pk0
          have u1 := HQ4.out.pk1
          have u2 := HQ4.out.pk2
          have u3 := HQ4.out.pk3
          have lu := HQ4.out.pkb.lt
          go_wp2_with fail
          refine (r10length_any p mb M (k + 4) _ 1 N _ HQ4.out.D HE4.out (by omega) (by omega) HN.out HB.out.2.2.1 (by have := HB.out.2.2.2.1; omega)).mono ?_
          rintro z w2 ⟨v2, rfl, hE, hD, hK⟩
          obtain ⟨g, n, cap, sz, rfl, ⟨a0, a1, y0, y1⟩, f0, f1, hQ⟩ := HQ4.out.setx hE hD hK
          have HQ5 := hid hQ
          clear hE hD hK hQ r0 r1 m4 u0 u1 u2 u3 lu lx4 lp4
          go_wp2_with fail
          go_meet
          exact ⟨rfl, HQ5.out.mono (by omega)⟩
        · have td1 : (d == 1) = false := by simpa using hd1'
          clear hd1 hd2 hd0 hd1'
          go_upto_region 9 with fail
          clear u0 u1 lu
          obtain ⟨g1, n1, c1, z1, hb1, hE1⟩ := HQ1.out.eb
          have lx1 := hb1.lt
          have lp1 := HQ1.out.D.blk.lt
          have r0 := hb1.cell 0
          have r1 := hb1.cell 1
          have m4 := HQ1.out.D.blk.cell 4
          simp only [Mdl.cells, eArr, List.getElem?_toArray, List.getElem?_cons_succ, List.getElem?_cons_zero] at r0 r1 m4
          have HE1 := hid hE1
          clear hE1 hb1
          have u0 := HQ1.out.pk0
          have u1 := HQ1.out.pk1
          have u2 := HQ1.out.pk2
          have u3 := HQ1.out.pk3
          have lu := HQ1.out.pkb.lt
          go_wp2_with fail
          refine (r10bit_any p mb M (k + 1) _ (2) (M.st) (0) (0) _ _ HQ1.out.D HE1.out (by omega) (by omega) (by omega) (by omega) (by omega)).mono ?_
          rintro z w2 ⟨v2, rfl, hE, hD, hK⟩
          obtain ⟨g, n, cap, sz, rfl, ⟨a0, a1, y0, y1⟩, f0, f1, hQ⟩ := HQ1.out.setx hE hD hK
          have HQ2 := hid hQ
          clear hE hD hK hQ r0 r1 m4 u0 u1 u2 u3 lu lx1 lp1
          go_upto_region 10 with fail
          clear y0 y1 f0 f1
          generalize ((w2.setCell ⟨x, 0, none⟩ (.slice (some ⟨g, 0, none⟩) n cap)).setCell ⟨x, 1, none⟩ (v64 sz)) = wn at HQ2 ⊢
          clear HE1 HQ1
          obtain ⟨g2, n2, c2, z2, hb2, hE2⟩ := HQ2.out.eb
          have lx2 := hb2.lt
          have lp2 := HQ2.out.D.blk.lt
          have r0 := hb2.cell 0
          have r1 := hb2.cell 1
          have m4 := HQ2.out.D.blk.cell 4
          simp only [Mdl.cells, eArr, List.getElem?_toArray, List.getElem?_cons_succ, List.getElem?_cons_zero] at r0 r1 m4
          have HE2 := hid hE2
          clear hE2 hb2
          have u0 := HQ2.out.pk0
          have u1 := HQ2.out.pk1
          have u2 := HQ2.out.pk2
          have u3 := HQ2.out.pk3
          have lu := HQ2.out.pkb.lt
          go_wp2_with fail
          refine (r10bit_any p mb M (k + 2) _ (3) (M.st) (0) (0) _ _ HQ2.out.D HE2.out (by omega) (by omega) (by omega) (by omega) (by omega)).mono ?_
          rintro z w2 ⟨v2, rfl, hE, hD, hK⟩
          obtain ⟨g, n, cap, sz, rfl, ⟨a0, a1, y0, y1⟩, f0, f1, hQ⟩ := HQ2.out.setx hE hD hK
          have HQ3 := hid hQ
          clear hE hD hK hQ r0 r1 m4 u0 u1 u2 u3 lu lx2 lp2
          go_upto_region 11 with fail
          clear y0 y1 f0 f1
          generalize ((w2.setCell ⟨x, 0, none⟩ (.slice (some ⟨g, 0, none⟩) n cap)).setCell ⟨x, 1, none⟩ (v64 sz)) = wn at HQ3 ⊢
          clear HE2 HQ2
          have u1 := HQ3.out.pk1
          have lu := HQ3.out.pkb.lt
          go_upto_region 13 with fail
          clear u1 lu
          obtain ⟨g3, n3, c3, z3, hb3, hE3⟩ := HQ3.out.eb
          have lx3 := hb3.lt
          have lp3 := HQ3.out.D.blk.lt
          have r0 := hb3.cell 0
          have r1 := hb3.cell 1
          have m4 := HQ3.out.D.blk.cell 4
          simp only [Mdl.cells, eArr, List.getElem?_toArray, List.getElem?_cons_succ, List.getElem?_cons_zero] at r0 r1 m4
          have HE3 := hid hE3
          clear hE3 hb3
          have u0 := HQ3.out.pk0
          have u1 := HQ3.out.pk1
          have u2 := HQ3.out.pk2
          have u3 := HQ3.out.pk3
          have lu := HQ3.out.pkb.lt
          go_wp2_with fail
          refine (r10bit_any p mb M (k + 3) _ (5) (M.st) (0) (0) _ _ HQ3.out.D HE3.out (by omega) (by omega) (by omega) (by omega) (by omega)).mono ?_
          rintro z w2 ⟨v2, rfl, hE, hD, hK⟩
          obtain ⟨g, n, cap, sz, rfl, ⟨a0, a1, y0, y1⟩, f0, f1, hQ⟩ := HQ3.out.setx hE hD hK
          have HQ4 := hid hQ
          clear hE hD hK hQ r0 r1 m4 u0 u1 u2 u3 lu lx3 lp3
          go_upto_region 14 with fail
          clear y0 y1 f0 f1
          generalize ((w2.setCell ⟨x, 0, none⟩ (.slice (some ⟨g, 0, none⟩) n cap)).setCell ⟨x, 1, none⟩ (v64 sz)) = wn at HQ4 ⊢
          clear HE3 HQ3
          obtain ⟨g4, n4, c4, z4, hb4, hE4⟩ := HQ4.out.eb
          have lx4 := hb4.lt
          have lp4 := HQ4.out.D.blk.lt
          have r0 := hb4.cell 0
          have r1 := hb4.cell 1
          have m4 := HQ4.out.D.blk.cell 4
          simp only [Mdl.cells, eArr, List.getElem?_toArray, List.getElem?_cons_succ, List.getElem?_cons_zero] at r0 r1 m4
          have HE4 := hid hE4
          clear hE4 hb4
          have u0 := HQ4.out.pk0
          have u1 := HQ4.out.pk1
          have u2 := HQ4.out.pk2
          have u3 := HQ4.out.pk3
          have lu := HQ4.out.pkb.lt
          go_wp2_with fail
          refine (r10bit_any p mb M (k + 4) _ (6) (M.st) (0) (0) _ _ HQ4.out.D HE4.out (by omega) (by omega) (by omega) (by omega) (by omega)).mono ?_
          rintro z w2 ⟨v2, rfl, hE, hD, hK⟩
          obtain ⟨g, n, cap, sz, rfl, ⟨a0, a1, y0, y1⟩, f0, f1, hQ⟩ := HQ4.out.setx hE hD hK
          have HQ5 := hid hQ
          clear hE hD hK hQ r0 r1 m4 u0 u1 u2 u3 lu lx4 lp4
          go_upto_region 15 with fail
          clear y0 y1 f0 f1
          generalize ((w2.setCell ⟨x, 0, none⟩ (.slice (some ⟨g, 0, none⟩) n cap)).setCell ⟨x, 1, none⟩ (v64 sz)) = wn at HQ5 ⊢
          clear HE4 HQ4
          obtain ⟨g5, n5, c5, z5, hb5, hE5⟩ := HQ5.out.eb
          have lx5 := hb5.lt
          have lp5 := HQ5.out.D.blk.lt
          have r0 := hb5.cell 0
          have r1 := hb5.cell 1
          have m4 := HQ5.out.D.blk.cell 4
          simp only [Mdl.cells, eArr, List.getElem?_toArray, List.getElem?_cons_succ, List.getElem?_cons_zero] at r0 r1 m4
          have HE5 := hid hE5
          clear hE5 hb5
          have u0 := HQ5.out.pk0
          have u1 := HQ5.out.pk1
          have u2 := HQ5.out.pk2
          have u3 := HQ5.out.pk3
          have lu := HQ5.out.pkb.lt
          go_wp2_with fail
          refine (r10length_any p mb M (k + 5) _ 1 N _ HQ5.out.D HE5.out (by omega) (by omega) HN.out HB.out.2.2.1 (by have := HB.out.2.2.2.1; omega)).mono ?_
          rintro z w2 ⟨v2, rfl, hE, hD, hK⟩
          obtain ⟨g, n, cap, sz, rfl, ⟨a0, a1, y0, y1⟩, f0, f1, hQ⟩ := HQ5.out.setx hE hD hK
          have HQ6 := hid hQ
          clear hE hD hK hQ r0 r1 m4 u0 u1 u2 u3 lu lx5 lp5
          go_wp2_with fail
          go_meet
          exact ⟨rfl, HQ6.out.mono (by omega)⟩
    · go_upto_region 21 with fail
      clear u0 u1 lu
      obtain ⟨g1, n1, c1, z1, hb1, hE1⟩ := HQ1.out.eb
      have lx1 := hb1.lt
      have lp1 := HQ1.out.D.blk.lt
      have r0 := hb1.cell 0
      have r1 := hb1.cell 1
      have m4 := HQ1.out.D.blk.cell 4
      simp only [Mdl.cells, eArr, List.getElem?_toArray, List.getElem?_cons_succ, List.getElem?_cons_zero] at r0 r1 m4
      have HE1 := hid hE1
      clear hE1 hb1
      have u0 := HQ1.out.pk0
      have u1 := HQ1.out.pk1
      have u2 := HQ1.out.pk2
      have u3 := HQ1.out.pk3
      have lu := HQ1.out.pkb.lt
      go_wp2_with fail
      refine (r10bit_any p mb M (k + 1) _ (2) (M.st) (0) (0) _ _ HQ1.out.D HE1.out (by omega) (by omega) (by omega) (by omega) (by omega)).mono ?_
      rintro z w2 ⟨v2, rfl, hE, hD, hK⟩
      obtain ⟨g, n, cap, sz, rfl, ⟨a0, a1, y0, y1⟩, f0, f1, hQ⟩ := HQ1.out.setx hE hD hK
      have HQ2 := hid hQ
      clear hE hD hK hQ r0 r1 m4 u0 u1 u2 u3 lu lx1 lp1
      go_upto_region 22 with fail
      clear y0 y1 f0 f1
      generalize ((w2.setCell ⟨x, 0, none⟩ (.slice (some ⟨g, 0, none⟩) n cap)).setCell ⟨x, 1, none⟩ (v64 sz)) = wn at HQ2 ⊢
      clear HE1 HQ1
      obtain ⟨g2, n2, c2, z2, hb2, hE2⟩ := HQ2.out.eb
      have lx2 := hb2.lt
      have lp2 := HQ2.out.D.blk.lt
      have r0 := hb2.cell 0
      have r1 := hb2.cell 1
      have m4 := HQ2.out.D.blk.cell 4
      simp only [Mdl.cells, eArr, List.getElem?_toArray, List.getElem?_cons_succ, List.getElem?_cons_zero] at r0 r1 m4
      have HE2 := hid hE2
      clear hE2 hb2
      have u0 := HQ2.out.pk0
      have u1 := HQ2.out.pk1
      have u2 := HQ2.out.pk2
      have u3 := HQ2.out.pk3
      have lu := HQ2.out.pkb.lt
      go_wp2_with fail
      refine (r10bit_any p mb M (k + 2) _ (3) (M.st) (0) (0) _ _ HQ2.out.D HE2.out (by omega) (by omega) (by omega) (by omega) (by omega)).mono ?_
      rintro z w2 ⟨v2, rfl, hE, hD, hK⟩
      obtain ⟨g, n, cap, sz, rfl, ⟨a0, a1, y0, y1⟩, f0, f1, hQ⟩ := HQ2.out.setx hE hD hK
      have HQ3 := hid hQ
      clear hE hD hK hQ r0 r1 m4 u0 u1 u2 u3 lu lx2 lp2
      go_upto_region 23 with fail
      clear y0 y1 f0 f1
      generalize ((w2.setCell ⟨x, 0, none⟩ (.slice (some ⟨g, 0, none⟩) n cap)).setCell ⟨x, 1, none⟩ (v64 sz)) = wn at HQ3 ⊢
      clear HE2 HQ2
      have u0 := HQ3.out.pk0
      have lu := HQ3.out.pkb.lt
      go_upto_region 24 with fail
      clear u0 lu
      obtain ⟨g3, n3, c3, z3, hb3, hE3⟩ := HQ3.out.eb
      have lx3 := hb3.lt
      have lp3 := HQ3.out.D.blk.lt
      have r0 := hb3.cell 0
      have r1 := hb3.cell 1
      have m4 := HQ3.out.D.blk.cell 4
      simp only [Mdl.cells, eArr, List.getElem?_toArray, List.getElem?_cons_succ, List.getElem?_cons_zero] at r0 r1 m4
      have HE3 := hid hE3
      clear hE3 hb3
      have u0 := HQ3.out.pk0
      have u1 := HQ3.out.pk1
      have u2 := HQ3.out.pk2
      have u3 := HQ3.out.pk3
      have lu := HQ3.out.pkb.lt
      refine wp_region_S (S := (fun V => Keeps (fun b => b = mb) wn V)) 7 (by kernel_rfl) (by (try dsimp only); exact (Keeps.refl _ _).drew) (fun hHeld => ?_)
      refine wpAnyS_take (i := 0) (oi := ⟨some 138, _, _, _, _, _⟩) (v := ?v0r24q3) rfl (by kernel_rfl) (by kernel_rfl) (by kernel_rfl) (by kernel_rfl) (fun _ _ _ h => h) (Or.inl ⟨by rfl, ?h0r24q3⟩) (by assumption) ?r0r24q3
      case h0r24q3 => intro w hSw; (try dsimp only at hSw); go_simp; (try with_reducible rfl)
      try simp only [Act.put, List.setIfInBounds_toArray, List.set_cons_zero, List.set_cons_succ]
      refine wpAnyS_take (i := 1) (oi := ⟨some 139, _, _, _, _, _⟩) (v := ?v1r24q3) rfl (by kernel_rfl) (by kernel_rfl) (by kernel_rfl) (by kernel_rfl) (fun _ _ _ h => h) (Or.inl ⟨by rfl, ?h1r24q3⟩) (by assumption) ?r1r24q3
      case h1r24q3 => intro w hSw; (try dsimp only at hSw); have q0 := (Keeps.cell hSw (p := ⟨x, 0, none⟩) lx3 nx).trans r0; have q1 := (Keeps.cell hSw (p := ⟨x, 1, none⟩) lx3 nx).trans r1; go_simp; (try with_reducible rfl)
      try simp only [Act.put, List.setIfInBounds_toArray, List.set_cons_zero, List.set_cons_succ]
      refine wpAnyS_take (i := 2) (oi := ⟨some 140, _, _, _, _, _⟩) (v := ?v2r24q3) rfl (by kernel_rfl) (by kernel_rfl) (by kernel_rfl) (by kernel_rfl) (fun _ _ _ h => h) (Or.inl ⟨by rfl, ?h2r24q3⟩) (by assumption) ?r2r24q3
      case h2r24q3 => intro w hSw; (try dsimp only at hSw); go_simp; (try with_reducible rfl)
      try simp only [Act.put, List.setIfInBounds_toArray, List.set_cons_zero, List.set_cons_succ]
      refine wpAnyS_take (i := 3) (oi := ⟨some 141, _, _, _, _, _⟩) (v := ?v3r24q3) rfl (by kernel_rfl) (by kernel_rfl) (by kernel_rfl) (by kernel_rfl) (fun _ _ _ h => h) (Or.inl ⟨by rfl, ?h3r24q3⟩) (by assumption) ?r3r24q3
      case h3r24q3 => intro w hSw; (try dsimp only at hSw); go_simp; (try with_reducible rfl)
      try simp only [Act.put, List.setIfInBounds_toArray, List.set_cons_zero, List.set_cons_succ]
      refine wpAnyS_one (i := 4) (o := ⟨some 142, _, _, _, _, _⟩) rfl (by kernel_rfl) (fun K hK => ?_)
      go_simp; refine (HPl.out _ _ (HQ3.out.D.keeps (Same.drew1 _) (fun h => h) (fun h => h))).mono ?_; rintro z wp ⟨⟨pl, rfl, hpl⟩, hsp⟩; have hsp := (Same.drew1 _).trans hsp; have HQp := hid (HQ3.out.same hsp); have HEp := hid (HE3.out.same hsp); have KP := hid (Keeps.of_same (S := fun b => b = mb) hsp); clear hsp; go_simp
      refine hK.out _ _ (fun _ => by (try dsimp only); exact KP.out) ?_
      clear hK K
      try simp only [Act.put, List.setIfInBounds_toArray, List.set_cons_zero, List.set_cons_succ]
      refine wpAnyS_take (i := 5) (oi := ⟨some 143, _, _, _, _, _⟩) (v := ?v5r24q3) rfl (by kernel_rfl) (by kernel_rfl) (by kernel_rfl) (by kernel_rfl) (fun _ _ _ h => h) (Or.inl ⟨by rfl, ?h5r24q3⟩) (by assumption) ?r5r24q3
      case h5r24q3 => intro w hSw; (try dsimp only at hSw); go_simp; (try with_reducible rfl)
      try simp only [Act.put, List.setIfInBounds_toArray, List.set_cons_zero, List.set_cons_succ]
      refine wpAnyS_one (i := 6) (o := ⟨some 144, _, _, _, _, _⟩) rfl (by kernel_rfl) (fun K hK => ?_)
      go_simp; refine (r10bit_any p mb M (k + 3) _ (4) (M.st) (pl) (0) _ _ HQp.out.D HEp.out (by omega) (by omega) (by omega) (by omega) (by omega)).mono ?_; rintro z w2 ⟨v2, rfl, hE, hD, hK⟩; obtain ⟨g, n, cap, sz, rfl, ⟨a0, a1, y0, y1⟩, f0, f1, hQ⟩ := HQp.out.setx hE hD hK; have HQn := hid hQ; have KN := hid (KP.out.trans' hK fun b _ e => e); clear hE hD hK hQ; go_simp
      refine hK.out _ _ (fun _ => by (try dsimp only); exact KN.out) ?_
      clear hK K
      try simp only [Act.put, List.setIfInBounds_toArray, List.set_cons_zero, List.set_cons_succ]
      refine wpAnyS_one (i := 7) (o := ⟨none, _, _, _, _, _⟩) rfl (by kernel_rfl) (fun K hK => ?_)
      go_simp
      refine hK.out _ _ (fun h => absurd h (by decide)) ?_
      clear hK K
      try simp only [Act.put, List.setIfInBounds_toArray, List.set_cons_zero, List.set_cons_succ]
      refine wpAnyS_done (by kernel_rfl) ?_ _
      have HQ4 := HQn
      clear HQn KN KP HQp HEp r0 r1 m4 u0 u1 u2 u3 lu lx3 lp3
      go_wp2_with fail
      go_meet
      exact ⟨rfl, HQ4.out.mono (by omega)⟩
  case rest =>
    obtain ⟨rfl, hQ⟩ := hcut
    clear HQ1
    obtain ⟨wn, rfl⟩ : ∃ wn : World, wn = wc := ⟨_, rfl⟩
    go_upto_region 27 with fail
    have hbs : (⟨M.T.toArray⟩ : ByteArray).size = M.T.length := rfl
    have HQ1 := hid hQ
    have m5 := hQ.D.blk.cell 5
    have m6 := hQ.D.blk.cell 6
    have m7 := hQ.D.blk.cell 7
    have m8 := hQ.D.blk.cell 8
    have m9 := hQ.D.blk.cell 9
    have lp := hQ.D.blk.lt
    simp only [Mdl.cells, List.getElem?_toArray, List.getElem?_cons_succ, List.getElem?_cons_zero] at m5 m6 m7 m8 m9
    have u0 := hQ.pk0
    have u1 := hQ.pk1
    have u2 := hQ.pk2
    have u3 := hQ.pk3
    have lu := hQ.pkb.lt
    clear hQ
    go_cut [8, 9, 10, 11] (fun s8 s9 s10 s11 wx => ∃ b7 : Nat, s8 = i6 x0 ∧ s9 = i6 x1 ∧ s10 = .pointer (some ⟨b7, 0, none⟩) ∧ s11 = .bool true ∧ Blk wx b7 #[i6 a, i6 b, i6 c, i6 e] 60 ∧ wn.heap.size ≤ b7 ∧ Same wn wx)
    case first =>
      refine wp_region_held_drew (S := (fun W => Same wn W)) (by kernel_rfl) (by (try dsimp only); exact (Keeps.refl _ _).drew) (fun hHeld => ?_)
      refine wpAnyH_take (i := 0) (oi := ⟨some 158, _, _, _, _, _⟩) (v := ?v0x1) rfl (by kernel_rfl) (by kernel_rfl) (by kernel_rfl) (fun _ _ _ h => h) (Or.inl ⟨by rfl, ?h0x1⟩) (by assumption) ?r0x1
      case h0x1 => intro w hSw; (try dsimp only at hSw); have q0 := (Keeps.cell hSw (p := ⟨x + 1, 0, none⟩) lu (fun h => h)).trans u0; have q1 := (Keeps.cell hSw (p := ⟨x + 1, 1, none⟩) lu (fun h => h)).trans u1; have q2 := (Keeps.cell hSw (p := ⟨x + 1, 2, none⟩) lu (fun h => h)).trans u2; have q3 := (Keeps.cell hSw (p := ⟨x + 1, 3, none⟩) lu (fun h => h)).trans u3; go_simp; (try with_reducible rfl)
      try simp only [Act.put, List.setIfInBounds_toArray, List.set_cons_zero, List.set_cons_succ]
      refine wpAnyH_take (i := 1) (oi := ⟨some 159, _, _, _, _, _⟩) (v := ?v1x1) rfl (by kernel_rfl) (by kernel_rfl) (by kernel_rfl) (fun _ _ _ h => h) (Or.inl ⟨by rfl, ?h1x1⟩) (by assumption) ?r1x1
      case h1x1 => intro w hSw; (try dsimp only at hSw); go_simp; (try with_reducible rfl)
      try simp only [Act.put, List.setIfInBounds_toArray, List.set_cons_zero, List.set_cons_succ]
      refine wpAnyH_take (i := 2) (oi := ⟨some 160, _, _, _, _, _⟩) (v := ?v2x1) rfl (by kernel_rfl) (by kernel_rfl) (by kernel_rfl) (fun _ _ _ h => h) (Or.inl ⟨by rfl, ?h2x1⟩) (by assumption) ?r2x1
      case h2x1 => intro w hSw; (try dsimp only at hSw); go_simp; (try with_reducible rfl)
      try simp only [Act.put, List.setIfInBounds_toArray, List.set_cons_zero, List.set_cons_succ]
      refine wpAnyH_take (i := 3) (oi := ⟨some 161, _, _, _, _, _⟩) (v := ?v3x1) rfl (by kernel_rfl) (by kernel_rfl) (by kernel_rfl) (fun _ _ _ h => h) (Or.inl ⟨by rfl, ?h3x1⟩) (by assumption) ?r3x1
      case h3x1 => intro w hSw; (try dsimp only at hSw); go_simp; (try with_reducible rfl)
      try simp only [Act.put, List.setIfInBounds_toArray, List.set_cons_zero, List.set_cons_succ]
      refine wpAnyH_take (i := 4) (oi := ⟨some 162, _, _, _, _, _⟩) (v := ?v4x1) rfl (by kernel_rfl) (by kernel_rfl) (by kernel_rfl) (fun _ _ _ h => h) (Or.inl ⟨by rfl, ?h4x1⟩) (by assumption) ?r4x1
      case h4x1 => intro w hSw; (try dsimp only at hSw); have q9 := (Keeps.cell hSw (p := ⟨p, 9, none⟩) lp (fun h => h)).trans m9; go_simp; (try with_reducible rfl)
      try simp only [Act.put, List.setIfInBounds_toArray, List.set_cons_zero, List.set_cons_succ]
      refine wpAnyH_take (i := 5) (oi := ⟨some 163, _, _, _, _, _⟩) (v := ?v5x1) rfl (by kernel_rfl) (by kernel_rfl) (by kernel_rfl) (fun _ _ _ h => h) (Or.inl ⟨by rfl, ?h5x1⟩) (by assumption) ?r5x1
      case h5x1 => intro w hSw; (try dsimp only at hSw); go_simp; (try with_reducible rfl)
      try simp only [Act.put, List.setIfInBounds_toArray, List.set_cons_zero, List.set_cons_succ]
      refine wpAnyH_take (i := 6) (oi := ⟨some 164, _, _, _, _, _⟩) (v := ?v6x1) rfl (by kernel_rfl) (by kernel_rfl) (by kernel_rfl) (fun _ _ _ h => h) (Or.inl ⟨by rfl, ?h6x1⟩) (by assumption) ?r6x1
      case h6x1 => intro w hSw; (try dsimp only at hSw); go_simp; (try with_reducible rfl)
      try simp only [Act.put, List.setIfInBounds_toArray, List.set_cons_zero, List.set_cons_succ]
      refine wpAnyH_take (i := 7) (oi := ⟨some 165, _, _, _, _, _⟩) (v := ?v7x1) rfl (by kernel_rfl) (by kernel_rfl) (by kernel_rfl) (fun _ _ _ h => h) (Or.inl ⟨by rfl, ?h7x1⟩) (by assumption) ?r7x1
      case h7x1 => intro w hSw; (try dsimp only at hSw); go_simp; (try with_reducible rfl)
      try simp only [Act.put, List.setIfInBounds_toArray, List.set_cons_zero, List.set_cons_succ]
      refine wpAnyH_take (i := 8) (oi := ⟨some 166, _, _, _, _, _⟩) (v := ?v8x1) rfl (by kernel_rfl) (by kernel_rfl) (by kernel_rfl) (fun _ _ _ h => h) (Or.inl ⟨by rfl, ?h8x1⟩) (by assumption) ?r8x1
      case h8x1 => intro w hSw; (try dsimp only at hSw); go_simp; (try with_reducible rfl)
      try simp only [Act.put, List.setIfInBounds_toArray, List.set_cons_zero, List.set_cons_succ]
      refine wpAnyH_take (i := 9) (oi := ⟨some 167, _, _, _, _, _⟩) (v := ?v9x1) rfl (by kernel_rfl) (by kernel_rfl) (by kernel_rfl) (fun _ _ _ h => h) (Or.inl ⟨by rfl, ?h9x1⟩) (by assumption) ?r9x1
      case h9x1 => intro w hSw; (try dsimp only at hSw); have q5 := (Keeps.cell hSw (p := ⟨p, 5, none⟩) lp (fun h => h)).trans m5; have q6 := (Keeps.cell hSw (p := ⟨p, 6, none⟩) lp (fun h => h)).trans m6; have q7 := (Keeps.cell hSw (p := ⟨p, 7, none⟩) lp (fun h => h)).trans m7; have q8 := (Keeps.cell hSw (p := ⟨p, 8, none⟩) lp (fun h => h)).trans m8; go_simp; (try with_reducible rfl)
      try simp only [Act.put, List.setIfInBounds_toArray, List.set_cons_zero, List.set_cons_succ]
      refine wpAnyH_ready (rs := [10, 16]) (by kernel_rfl) (by simp) ?_
      refine AllReadyH.cons (o := ⟨some 168, _, _, _, _, _⟩) rfl (fun K hK => ?_) (AllReadyH.cons (o := ⟨some 10, _, _, _, _, _⟩) rfl (fun K hK => ?_) AllReadyH.nil)
      · go_simp; (go_at_call 22; refine (HBa.out _).mono ?_; rintro z w4 ⟨rfl, hs4⟩; dsimp only)
        refine hK.out _ _ (by (try dsimp only); repeat (first | exact Keeps.refl _ _ | refine Keeps.drew ?_ | refine Keeps.drewN ?_ _ | refine Keeps.alloc ?_ _ | refine Keeps.setCell ?_ (by simp; try omega) _ | exact Hid.out (by assumption) | refine Keeps.trans ?_ (by assumption))) (fun hHeld => ?_)
        clear hK K
        try simp only [Act.put, List.setIfInBounds_toArray, List.set_cons_zero, List.set_cons_succ]
        have hz4 := hs4.size
        simp at hz4
        refine wpAnyH_take (i := 11) (oi := ⟨some 157, _, _, _, _, _⟩) (v := ?v11x2) rfl (by kernel_rfl) (by kernel_rfl) (by kernel_rfl) (fun _ _ _ h => h) (Or.inl ⟨by rfl, ?h11x2⟩) (by assumption) ?r11x2
        case h11x2 => intro w hSw; (try dsimp only at hSw); go_simp; (try with_reducible rfl)
        try simp only [Act.put, List.setIfInBounds_toArray, List.set_cons_zero, List.set_cons_succ]
        refine wpAnyH_take (i := 12) (oi := ⟨some 169, _, _, _, _, _⟩) (v := ?v12x2) rfl (by kernel_rfl) (by kernel_rfl) (by kernel_rfl) (fun _ _ _ h => h) (Or.inl ⟨by rfl, ?h12x2⟩) (by assumption) ?r12x2
        case h12x2 => intro w hSw; (try dsimp only at hSw); go_simp; (try with_reducible rfl)
        try simp only [Act.put, List.setIfInBounds_toArray, List.set_cons_zero, List.set_cons_succ]
        refine wpAnyH_take (i := 13) (oi := ⟨some 170, _, _, _, _, _⟩) (v := ?v13x2) rfl (by kernel_rfl) (by kernel_rfl) (by kernel_rfl) (fun _ _ _ h => h) (Or.inl ⟨by rfl, ?h13x2⟩) (by assumption) ?r13x2
        case h13x2 => intro w hSw; (try dsimp only at hSw); go_simp; (try with_reducible rfl)
        try simp only [Act.put, List.setIfInBounds_toArray, List.set_cons_zero, List.set_cons_succ]
        refine wpAnyH_take (i := 14) (oi := ⟨some 171, _, _, _, _, _⟩) (v := ?v14x2) rfl (by kernel_rfl) (by kernel_rfl) (by kernel_rfl) (fun _ _ _ h => h) (Or.inl ⟨by rfl, ?h14x2⟩) (by assumption) ?r14x2
        case h14x2 => intro w hSw; (try dsimp only at hSw); go_simp; (try with_reducible rfl)
        try simp only [Act.put, List.setIfInBounds_toArray, List.set_cons_zero, List.set_cons_succ]
        refine wpAnyH_take (i := 15) (oi := ⟨some 172, _, _, _, _, _⟩) (v := ?v15x2) rfl (by kernel_rfl) (by kernel_rfl) (by kernel_rfl) (fun _ _ _ h => h) (Or.inl ⟨by rfl, ?h15x2⟩) (by assumption) ?r15x2
        case h15x2 => intro w hSw; (try dsimp only at hSw); go_simp; (try with_reducible rfl)
        try simp only [Act.put, List.setIfInBounds_toArray, List.set_cons_zero, List.set_cons_succ]
        refine wpAnyH_ready (rs := [16]) (by kernel_rfl) (by simp) ?_
        refine AllReadyH.cons (o := ⟨some 10, _, _, _, _, _⟩) rfl (fun K hK => ?_) AllReadyH.nil
        go_simp
        refine hK.out _ _ (by (try dsimp only); repeat (first | exact Keeps.refl _ _ | refine Keeps.drew ?_ | refine Keeps.drewN ?_ _ | refine Keeps.alloc ?_ _ | refine Keeps.setCell ?_ (by simp; try omega) _ | exact Hid.out (by assumption) | refine Keeps.trans ?_ (by assumption))) (fun hHeld => ?_)
        clear hK K
        try simp only [Act.put, List.setIfInBounds_toArray, List.set_cons_zero, List.set_cons_succ]
        refine wpAnyH_take (i := 17) (oi := ⟨some 8, _, _, _, _, _⟩) (v := ?v17x2) rfl (by kernel_rfl) (by kernel_rfl) (by kernel_rfl) (fun _ _ _ h => h) (Or.inl ⟨by rfl, ?h17x2⟩) (by assumption) ?r17x2
        case h17x2 => intro w hSw; (try dsimp only at hSw); go_simp; (try with_reducible rfl)
        try simp only [Act.put, List.setIfInBounds_toArray, List.set_cons_zero, List.set_cons_succ]
        refine wpAnyH_take (i := 18) (oi := ⟨some 9, _, _, _, _, _⟩) (v := ?v18x2) rfl (by kernel_rfl) (by kernel_rfl) (by kernel_rfl) (fun _ _ _ h => h) (Or.inl ⟨by rfl, ?h18x2⟩) (by assumption) ?r18x2
        case h18x2 => intro w hSw; (try dsimp only at hSw); go_simp; (try with_reducible rfl)
        try simp only [Act.put, List.setIfInBounds_toArray, List.set_cons_zero, List.set_cons_succ]
        refine wpAnyH_ready (rs := [19]) (by kernel_rfl) (by simp) ?_
        refine AllReadyH.cons (o := ⟨none, _, _, _, _, _⟩) rfl (fun K hK => ?_) AllReadyH.nil
        go_simp
        refine hK.out _ _ (by (try dsimp only); repeat (first | exact Keeps.refl _ _ | refine Keeps.drew ?_ | refine Keeps.drewN ?_ _ | refine Keeps.alloc ?_ _ | refine Keeps.setCell ?_ (by simp; try omega) _ | exact Hid.out (by assumption) | refine Keeps.trans ?_ (by assumption))) (fun hHeld => ?_)
        clear hK K
        try simp only [Act.put, List.setIfInBounds_toArray, List.set_cons_zero, List.set_cons_succ]
        refine wpAnyH_take (i := 20) (oi := ⟨some 11, _, _, _, _, _⟩) (v := ?v20x2) rfl (by kernel_rfl) (by kernel_rfl) (by kernel_rfl) (fun _ _ _ h => h) (Or.inl ⟨by rfl, ?h20x2⟩) (by assumption) ?r20x2
        case h20x2 => intro w hSw; (try dsimp only at hSw); go_simp; (try with_reducible rfl)
        try simp only [Act.put, List.setIfInBounds_toArray, List.set_cons_zero, List.set_cons_succ]
        refine wpAnyH_done (by kernel_rfl) ?_ _
        go_wp2_with fail
        go_meet
        refine ⟨_, rfl, rfl, rfl, rfl, Blk.new _ _ _, ?_, ?_⟩
        · first | omega | (simp; omega)
        · repeat (first | exact Keeps.refl _ _ | refine Keeps.drew ?_ | refine Keeps.drewN ?_ _ | refine Keeps.alloc ?_ _ | refine Keeps.setCell ?_ (by simp; try omega) _ | exact Hid.out (by assumption) | refine Keeps.trans ?_ (by assumption))
      · go_simp
        refine hK.out _ _ (by (try dsimp only); repeat (first | exact Keeps.refl _ _ | refine Keeps.drew ?_ | refine Keeps.drewN ?_ _ | refine Keeps.alloc ?_ _ | refine Keeps.setCell ?_ (by simp; try omega) _ | exact Hid.out (by assumption) | refine Keeps.trans ?_ (by assumption))) (fun hHeld => ?_)
        clear hK K
        try simp only [Act.put, List.setIfInBounds_toArray, List.set_cons_zero, List.set_cons_succ]
        refine wpAnyH_ready (rs := [10]) (by kernel_rfl) (by simp) ?_
        refine AllReadyH.cons (o := ⟨some 168, _, _, _, _, _⟩) rfl (fun K hK => ?_) AllReadyH.nil
        go_simp; (go_at_call 22; refine (HBa.out _).mono ?_; rintro z w4 ⟨rfl, hs4⟩; dsimp only)
        refine hK.out _ _ (by (try dsimp only); repeat (first | exact Keeps.refl _ _ | refine Keeps.drew ?_ | refine Keeps.drewN ?_ _ | refine Keeps.alloc ?_ _ | refine Keeps.setCell ?_ (by simp; try omega) _ | exact Hid.out (by assumption) | refine Keeps.trans ?_ (by assumption))) (fun hHeld => ?_)
        clear hK K
        try simp only [Act.put, List.setIfInBounds_toArray, List.set_cons_zero, List.set_cons_succ]
        have hzB := Blk.keeps (t := 60) (Blk.drew (Blk.new_at (n := wn.heap.size) (cs := #[i6 0, i6 0, i6 0, i6 0]) (by simp))) hs4 (fun h => h); have hzl := hzB.lt; have hzb := hzB.four
        refine wpAnyH_take (i := 11) (oi := ⟨some 157, _, _, _, _, _⟩) (v := ?v11x3) rfl (by kernel_rfl) (by kernel_rfl) (by kernel_rfl) (fun _ _ _ h => h) (Or.inl ⟨by rfl, ?h11x3⟩) (by assumption) ?r11x3
        case h11x3 => intro w hSw; (try dsimp only at hSw); go_simp; (try with_reducible rfl)
        try simp only [Act.put, List.setIfInBounds_toArray, List.set_cons_zero, List.set_cons_succ]
        refine wpAnyH_take (i := 12) (oi := ⟨some 169, _, _, _, _, _⟩) (v := ?v12x3) rfl (by kernel_rfl) (by kernel_rfl) (by kernel_rfl) (fun _ _ _ h => h) (Or.inl ⟨by rfl, ?h12x3⟩) (by assumption) ?r12x3
        case h12x3 => intro w hSw; (try dsimp only at hSw); go_simp; (try with_reducible rfl)
        try simp only [Act.put, List.setIfInBounds_toArray, List.set_cons_zero, List.set_cons_succ]
        refine wpAnyH_take (i := 13) (oi := ⟨some 170, _, _, _, _, _⟩) (v := ?v13x3) rfl (by kernel_rfl) (by kernel_rfl) (by kernel_rfl) (fun _ _ _ h => h) (Or.inl ⟨by rfl, ?h13x3⟩) (by assumption) ?r13x3
        case h13x3 => intro w hSw; (try dsimp only at hSw); go_simp; (try with_reducible rfl)
        try simp only [Act.put, List.setIfInBounds_toArray, List.set_cons_zero, List.set_cons_succ]
        refine wpAnyH_take (i := 14) (oi := ⟨some 171, _, _, _, _, _⟩) (v := ?v14x3) rfl (by kernel_rfl) (by kernel_rfl) (by kernel_rfl) (fun _ _ _ h => h) (Or.inl ⟨by rfl, ?h14x3⟩) (by assumption) ?r14x3
        case h14x3 => intro w hSw; (try dsimp only at hSw); go_simp; (try with_reducible rfl)
        try simp only [Act.put, List.setIfInBounds_toArray, List.set_cons_zero, List.set_cons_succ]
        refine wpAnyH_take (i := 15) (oi := ⟨some 172, _, _, _, _, _⟩) (v := ?v15x3) rfl (by kernel_rfl) (by kernel_rfl) (by kernel_rfl) (fun _ _ _ h => h) (Or.inl ⟨by rfl, ?h15x3⟩) (by assumption) ?r15x3
        case h15x3 => intro w hSw; (try dsimp only at hSw); go_simp; (try with_reducible rfl)
        try simp only [Act.put, List.setIfInBounds_toArray, List.set_cons_zero, List.set_cons_succ]
        refine wpAnyH_take (i := 17) (oi := ⟨some 8, _, _, _, _, _⟩) (v := ?v17x3) rfl (by kernel_rfl) (by kernel_rfl) (by kernel_rfl) (fun _ _ _ h => h) (Or.inl ⟨by rfl, ?h17x3⟩) (by assumption) ?r17x3
        case h17x3 => intro w hSw; (try dsimp only at hSw); go_simp; (try with_reducible rfl)
        try simp only [Act.put, List.setIfInBounds_toArray, List.set_cons_zero, List.set_cons_succ]
        refine wpAnyH_take (i := 18) (oi := ⟨some 9, _, _, _, _, _⟩) (v := ?v18x3) rfl (by kernel_rfl) (by kernel_rfl) (by kernel_rfl) (fun _ _ _ h => h) (Or.inl ⟨by rfl, ?h18x3⟩) (by assumption) ?r18x3
        case h18x3 => intro w hSw; (try dsimp only at hSw); go_simp; (try with_reducible rfl)
        try simp only [Act.put, List.setIfInBounds_toArray, List.set_cons_zero, List.set_cons_succ]
        refine wpAnyH_ready (rs := [19]) (by kernel_rfl) (by simp) ?_
        refine AllReadyH.cons (o := ⟨none, _, _, _, _, _⟩) rfl (fun K hK => ?_) AllReadyH.nil
        go_simp
        refine hK.out _ _ (by (try dsimp only); repeat (first | exact Keeps.refl _ _ | refine Keeps.drew ?_ | refine Keeps.drewN ?_ _ | refine Keeps.alloc ?_ _ | refine Keeps.setCell ?_ (by simp; try omega) _ | exact Hid.out (by assumption) | refine Keeps.trans ?_ (by assumption))) (fun hHeld => ?_)
        clear hK K
        try simp only [Act.put, List.setIfInBounds_toArray, List.set_cons_zero, List.set_cons_succ]
        refine wpAnyH_take (i := 20) (oi := ⟨some 11, _, _, _, _, _⟩) (v := ?v20x3) rfl (by kernel_rfl) (by kernel_rfl) (by kernel_rfl) (fun _ _ _ h => h) (Or.inl ⟨by rfl, ?h20x3⟩) (by assumption) ?r20x3
        case h20x3 => intro w hSw; (try dsimp only at hSw); go_simp; (try with_reducible rfl)
        try simp only [Act.put, List.setIfInBounds_toArray, List.set_cons_zero, List.set_cons_succ]
        refine wpAnyH_done (by kernel_rfl) ?_ _
        go_wp2_with fail
        go_meet
        refine ⟨_, rfl, rfl, rfl, rfl, hzB.set4 _ _ _ _, ?_, ?_⟩
        · first | omega | (simp; omega)
        · repeat (first | exact Keeps.refl _ _ | refine Keeps.drew ?_ | refine Keeps.drewN ?_ _ | refine Keeps.alloc ?_ _ | refine Keeps.setCell ?_ (by simp; try omega) _ | exact Hid.out (by assumption) | refine Keeps.trans ?_ (by assumption))
    case rest =>
      obtain ⟨b7, rfl, rfl, rfl, rfl, hb7, hge7, hs7⟩ := hcut
      obtain ⟨w7, rfl⟩ : ∃ w7 : World, w7 = wc := ⟨_, rfl⟩
      have hQ7 := HQ1.out.same hs7
      have hp7 : ¬ b7 = p := by have := HQ1.out.D.blk.lt; omega
      have HQ7 := hid hQ7
      have HG7 := hid hb7
      clear m5 m6 m7 m8 m9 lp u0 u1 u2 u3 lu hbs hb7 hs7 hQ7 hge7 HQ1
      go_wp2_with fail
      go_loopw [12] (fun s12 wr => ∃ i : Nat, s12 = i6 i ∧ i ≤ x1 ∧ QP w wr (fun b => b = p ∨ b = mb) p mb x (x + 2) (x + 1) { M with T := copyL M.T x0 i } (k + 100) kk d l 0 ∧ Blk wr b7 #[i6 a, i6 b, i6 c, i6 e] 60) (fun s12 _ => x1 - (intOf s12).toNat)
      case atStart => exact ⟨0, rfl, Nat.zero_le _, HQ7.out, HG7.out⟩
      case round =>
        obtain ⟨i, rfl, hi, hQ, hbr⟩ := hrel
        have HBR := hid hbr
        have HQ1 := hid hQ
        clear hQ hbr HQ7 HG7
        by_cases he : i < x1
        · have d0 : decide ((i : Int) < (x1 : Int)) = true := by simp; omega
          have vi : IntKind.i64.wrap ((i : Int) + 1) = (i : Int) + 1 := IntWalk.i64_in _ (by have := HX.out.2; omega)
          obtain ⟨t, ht⟩ : ∃ t, copyL M.T x0 i = t := ⟨_, rfl⟩
          obtain ⟨nt, hnt⟩ : ∃ nt, t.length = nt := ⟨_, rfl⟩
          have hnt2 : nt = M.T.length + i := by rw [← hnt, ← ht, copyL_length]
          have hbs : (⟨t.toArray⟩ : ByteArray).size = nt := by rw [← hnt]; rfl
          obtain ⟨j, hj, hj2⟩ : ∃ j : Nat, (nt : Int) - (x0 : Int) = j ∧ j < nt := ⟨nt - x0, by have := HX.out.1; omega, by have := HX.out.1; omega⟩
          have hj3 : nt - x0 = j := by omega
          have vj := wrN (n := j) (by have := HB.out.2.2.2.1; have := HX.out.2; omega)
          have vj1 : IntKind.i64.wrap ((j : Int) + 1) = (j : Int) + 1 := IntWalk.i64_in _ (by have := HB.out.2.2.2.1; have := HX.out.2; omega)
          obtain ⟨T2, hT2⟩ : ∃ T2, copyL M.T x0 (i + 1) = T2 := ⟨_, rfl⟩
          have hcutS : (⟨t.toArray⟩ : ByteArray) ++ (⟨t.toArray⟩ : ByteArray).extract j (j + 1) = ⟨T2.toArray⟩ := by
            rw [str_cut t j (by omega), ← hT2, ← hj3, ← hnt]
            show _ = (⟨(copyL M.T x0 i ++ [(copyL M.T x0 i)[(copyL M.T x0 i).length - x0]?.getD 0]).toArray⟩ : ByteArray)
            rw [ht]
          have hs9 := HQ1.out.setT T2
          rw [ht] at hs9
          dsimp only at hs9
          have m9 := hs9.1
          have f9 := hs9.2.1
          have HT9 := hid hs9.2.2
          have lp := HQ1.out.D.blk.lt
          have HT2 := hid hT2
          have hj1n : j + 1 ≤ nt := by omega
          have hq1 : (0 ≤ (j : Int) + 1 ∧ (j : Int) + 1 ≤ (nt : Int)) = True := eq_true (by omega)
          have hq2 : ((j : Int) ≤ (j : Int) + 1) = True := eq_true (by omega)
          have hexs : ((⟨t.toArray⟩ : ByteArray).extract j (j + 1)).size = 1 := by rw [ByteArray.size_extract, hbs]; omega
          have hlim : (9223372036854775807 < nt + 1) = False := eq_false (by have := HB.out.2.2.2.1; have := HX.out.2; omega)
          have hlim2 : (9223372036854775807 < t.length + 1) = False := eq_false (by have := HB.out.2.2.2.1; have := HX.out.2; omega)
          clear ht hnt hnt2 hT2 hs9 hj3
          go_upto_region 31 with fail
          refine wp_region_S (S := (fun V => Same wr V)) 25 (by kernel_rfl) (by (try dsimp only); exact (Keeps.refl _ _).drew) (fun hHeld => ?_)
          refine wpAnyS_take (i := 0) (oi := ⟨some 178, _, _, _, _, _⟩) (v := ?v0r31) rfl (by kernel_rfl) (by kernel_rfl) (by kernel_rfl) (by kernel_rfl) (fun _ _ _ h => h) (Or.inl ⟨by rfl, ?h0r31⟩) (by assumption) ?r0r31
          case h0r31 => intro w hSw; (try dsimp only at hSw); go_simp; (try with_reducible rfl)
          try simp only [Act.put, List.setIfInBounds_toArray, List.set_cons_zero, List.set_cons_succ]
          refine wpAnyS_take (i := 1) (oi := ⟨some 179, _, _, _, _, _⟩) (v := ?v1r31) rfl (by kernel_rfl) (by kernel_rfl) (by kernel_rfl) (by kernel_rfl) (fun _ _ _ h => h) (Or.inl ⟨by rfl, ?h1r31⟩) (by assumption) ?r1r31
          case h1r31 => intro w hSw; (try dsimp only at hSw); go_simp; (try with_reducible rfl)
          try simp only [Act.put, List.setIfInBounds_toArray, List.set_cons_zero, List.set_cons_succ]
          refine wpAnyS_take (i := 2) (oi := ⟨some 180, _, _, _, _, _⟩) (v := ?v2r31) rfl (by kernel_rfl) (by kernel_rfl) (by kernel_rfl) (by kernel_rfl) (fun _ _ _ h => h) (Or.inl ⟨by rfl, ?h2r31⟩) (by assumption) ?r2r31
          case h2r31 => intro w hSw; (try dsimp only at hSw); go_simp; (try with_reducible rfl)
          try simp only [Act.put, List.setIfInBounds_toArray, List.set_cons_zero, List.set_cons_succ]
          refine wpAnyS_take (i := 3) (oi := ⟨some 181, _, _, _, _, _⟩) (v := ?v3r31) rfl (by kernel_rfl) (by kernel_rfl) (by kernel_rfl) (by kernel_rfl) (fun _ _ _ h => h) (Or.inl ⟨by rfl, ?h3r31⟩) (by assumption) ?r3r31
          case h3r31 => intro w hSw; (try dsimp only at hSw); have q9 := (Keeps.cell hSw (p := ⟨p, 9, none⟩) lp (fun h => h)).trans m9; go_simp; (try with_reducible rfl)
          try simp only [Act.put, List.setIfInBounds_toArray, List.set_cons_zero, List.set_cons_succ]
          refine wpAnyS_take (i := 4) (oi := ⟨some 182, _, _, _, _, _⟩) (v := ?v4r31) rfl (by kernel_rfl) (by kernel_rfl) (by kernel_rfl) (by kernel_rfl) (fun _ _ _ h => h) (Or.inl ⟨by rfl, ?h4r31⟩) (by assumption) ?r4r31
          case h4r31 => intro w hSw; (try dsimp only at hSw); go_simp; (try with_reducible rfl)
          try simp only [Act.put, List.setIfInBounds_toArray, List.set_cons_zero, List.set_cons_succ]
          refine wpAnyS_take (i := 5) (oi := ⟨some 183, _, _, _, _, _⟩) (v := ?v5r31) rfl (by kernel_rfl) (by kernel_rfl) (by kernel_rfl) (by kernel_rfl) (fun _ _ _ h => h) (Or.inl ⟨by rfl, ?h5r31⟩) (by assumption) ?r5r31
          case h5r31 => intro w hSw; (try dsimp only at hSw); go_simp; (try with_reducible rfl)
          try simp only [Act.put, List.setIfInBounds_toArray, List.set_cons_zero, List.set_cons_succ]
          refine wpAnyS_take (i := 6) (oi := ⟨some 184, _, _, _, _, _⟩) (v := ?v6r31) rfl (by kernel_rfl) (by kernel_rfl) (by kernel_rfl) (by kernel_rfl) (fun _ _ _ h => h) (Or.inl ⟨by rfl, ?h6r31⟩) (by assumption) ?r6r31
          case h6r31 => intro w hSw; (try dsimp only at hSw); go_simp; (try with_reducible rfl)
          try simp only [Act.put, List.setIfInBounds_toArray, List.set_cons_zero, List.set_cons_succ]
          refine wpAnyS_take (i := 7) (oi := ⟨some 185, _, _, _, _, _⟩) (v := ?v7r31) rfl (by kernel_rfl) (by kernel_rfl) (by kernel_rfl) (by kernel_rfl) (fun _ _ _ h => h) (Or.inl ⟨by rfl, ?h7r31⟩) (by assumption) ?r7r31
          case h7r31 => intro w hSw; (try dsimp only at hSw); have q9 := (Keeps.cell hSw (p := ⟨p, 9, none⟩) lp (fun h => h)).trans m9; go_simp; (try with_reducible rfl)
          try simp only [Act.put, List.setIfInBounds_toArray, List.set_cons_zero, List.set_cons_succ]
          refine wpAnyS_take (i := 8) (oi := ⟨some 186, _, _, _, _, _⟩) (v := ?v8r31) rfl (by kernel_rfl) (by kernel_rfl) (by kernel_rfl) (by kernel_rfl) (fun _ _ _ h => h) (Or.inl ⟨by rfl, ?h8r31⟩) (by assumption) ?r8r31
          case h8r31 => intro w hSw; (try dsimp only at hSw); go_simp; (try with_reducible rfl)
          try simp only [Act.put, List.setIfInBounds_toArray, List.set_cons_zero, List.set_cons_succ]
          refine wpAnyS_take (i := 9) (oi := ⟨some 187, _, _, _, _, _⟩) (v := ?v9r31) rfl (by kernel_rfl) (by kernel_rfl) (by kernel_rfl) (by kernel_rfl) (fun _ _ _ h => h) (Or.inl ⟨by rfl, ?h9r31⟩) (by assumption) ?r9r31
          case h9r31 => intro w hSw; (try dsimp only at hSw); go_simp; (try with_reducible rfl)
          try simp only [Act.put, List.setIfInBounds_toArray, List.set_cons_zero, List.set_cons_succ]
          refine wpAnyS_take (i := 10) (oi := ⟨some 188, _, _, _, _, _⟩) (v := ?v10r31) rfl (by kernel_rfl) (by kernel_rfl) (by kernel_rfl) (by kernel_rfl) (fun _ _ _ h => h) (Or.inl ⟨by rfl, ?h10r31⟩) (by assumption) ?r10r31
          case h10r31 => intro w hSw; (try dsimp only at hSw); go_simp; (try with_reducible rfl)
          try simp only [Act.put, List.setIfInBounds_toArray, List.set_cons_zero, List.set_cons_succ]
          refine wpAnyS_take (i := 11) (oi := ⟨some 189, _, _, _, _, _⟩) (v := ?v11r31) rfl (by kernel_rfl) (by kernel_rfl) (by kernel_rfl) (by kernel_rfl) (fun _ _ _ h => h) (Or.inl ⟨by rfl, ?h11r31⟩) (by assumption) ?r11r31
          case h11r31 => intro w hSw; (try dsimp only at hSw); have q9 := (Keeps.cell hSw (p := ⟨p, 9, none⟩) lp (fun h => h)).trans m9; go_simp; (try with_reducible rfl)
          try simp only [Act.put, List.setIfInBounds_toArray, List.set_cons_zero, List.set_cons_succ]
          refine wpAnyS_take (i := 12) (oi := ⟨some 190, _, _, _, _, _⟩) (v := ?v12r31) rfl (by kernel_rfl) (by kernel_rfl) (by kernel_rfl) (by kernel_rfl) (fun _ _ _ h => h) (Or.inl ⟨by rfl, ?h12r31⟩) (by assumption) ?r12r31
          case h12r31 => intro w hSw; (try dsimp only at hSw); go_simp; (try with_reducible rfl)
          try simp only [Act.put, List.setIfInBounds_toArray, List.set_cons_zero, List.set_cons_succ]
          refine wpAnyS_take (i := 13) (oi := ⟨some 191, _, _, _, _, _⟩) (v := ?v13r31) rfl (by kernel_rfl) (by kernel_rfl) (by kernel_rfl) (by kernel_rfl) (fun _ _ _ h => h) (Or.inl ⟨by rfl, ?h13r31⟩) (by assumption) ?r13r31
          case h13r31 => intro w hSw; (try dsimp only at hSw); go_simp; (try with_reducible rfl)
          try simp only [Act.put, List.setIfInBounds_toArray, List.set_cons_zero, List.set_cons_succ]
          refine wpAnyS_take (i := 14) (oi := ⟨some 192, _, _, _, _, _⟩) (v := ?v14r31) rfl (by kernel_rfl) (by kernel_rfl) (by kernel_rfl) (by kernel_rfl) (fun _ _ _ h => h) (Or.inl ⟨by rfl, ?h14r31⟩) (by assumption) ?r14r31
          case h14r31 => intro w hSw; (try dsimp only at hSw); go_simp; (try with_reducible rfl)
          try simp only [Act.put, List.setIfInBounds_toArray, List.set_cons_zero, List.set_cons_succ]
          refine wpAnyS_take (i := 15) (oi := ⟨some 193, _, _, _, _, _⟩) (v := ?v15r31) rfl (by kernel_rfl) (by kernel_rfl) (by kernel_rfl) (by kernel_rfl) (fun _ _ _ h => h) (Or.inl ⟨by rfl, ?h15r31⟩) (by assumption) ?r15r31
          case h15r31 => intro w hSw; (try dsimp only at hSw); go_simp; (try with_reducible rfl)
          try simp only [Act.put, List.setIfInBounds_toArray, List.set_cons_zero, List.set_cons_succ]
          refine wpAnyS_take (i := 16) (oi := ⟨some 194, _, _, _, _, _⟩) (v := ?v16r31) rfl (by kernel_rfl) (by kernel_rfl) (by kernel_rfl) (by kernel_rfl) (fun _ _ _ h => h) (Or.inl ⟨by rfl, ?h16r31⟩) (by assumption) ?r16r31
          case h16r31 => intro w hSw; (try dsimp only at hSw); go_simp; (try with_reducible rfl)
          try simp only [Act.put, List.setIfInBounds_toArray, List.set_cons_zero, List.set_cons_succ]
          refine wpAnyS_take (i := 17) (oi := ⟨some 195, _, _, _, _, _⟩) (v := ?v17r31) rfl (by kernel_rfl) (by kernel_rfl) (by kernel_rfl) (by kernel_rfl) (fun _ _ _ h => h) (Or.inl ⟨by rfl, ?h17r31⟩) (by assumption) ?r17r31
          case h17r31 => intro w hSw; (try dsimp only at hSw); go_simp; (try with_reducible rfl)
          try simp only [Act.put, List.setIfInBounds_toArray, List.set_cons_zero, List.set_cons_succ]
          refine wpAnyS_take (i := 18) (oi := ⟨some 196, _, _, _, _, _⟩) (v := ?v18r31) rfl (by kernel_rfl) (by kernel_rfl) (by kernel_rfl) (by kernel_rfl) (fun _ _ _ h => h) (Or.inl ⟨by rfl, ?h18r31⟩) (by assumption) ?r18r31
          case h18r31 => intro w hSw; (try dsimp only at hSw); have q9 := (Keeps.cell hSw (p := ⟨p, 9, none⟩) lp (fun h => h)).trans m9; go_simp; (try with_reducible rfl)
          try simp only [Act.put, List.setIfInBounds_toArray, List.set_cons_zero, List.set_cons_succ]
          refine wpAnyS_take (i := 19) (oi := ⟨some 197, _, _, _, _, _⟩) (v := ?v19r31) rfl (by kernel_rfl) (by kernel_rfl) (by kernel_rfl) (by kernel_rfl) (fun _ _ _ h => h) (Or.inl ⟨by rfl, ?h19r31⟩) (by assumption) ?r19r31
          case h19r31 => intro w hSw; (try dsimp only at hSw); go_simp; (try with_reducible rfl)
          try simp only [Act.put, List.setIfInBounds_toArray, List.set_cons_zero, List.set_cons_succ]
          refine wpAnyS_take (i := 20) (oi := ⟨some 198, _, _, _, _, _⟩) (v := ?v20r31) rfl (by kernel_rfl) (by kernel_rfl) (by kernel_rfl) (by kernel_rfl) (fun _ _ _ h => h) (Or.inl ⟨by rfl, ?h20r31⟩) (by assumption) ?r20r31
          case h20r31 => intro w hSw; (try dsimp only at hSw); go_simp; (try with_reducible rfl)
          try simp only [Act.put, List.setIfInBounds_toArray, List.set_cons_zero, List.set_cons_succ]
          refine wpAnyS_take (i := 21) (oi := ⟨some 199, _, _, _, _, _⟩) (v := ?v21r31) rfl (by kernel_rfl) (by kernel_rfl) (by kernel_rfl) (by kernel_rfl) (fun _ _ _ h => h) (Or.inl ⟨by rfl, ?h21r31⟩) (by assumption) ?r21r31
          case h21r31 => intro w hSw; (try dsimp only at hSw); go_simp; (try with_reducible rfl)
          try simp only [Act.put, List.setIfInBounds_toArray, List.set_cons_zero, List.set_cons_succ]
          refine wpAnyS_take (i := 22) (oi := ⟨some 200, _, _, _, _, _⟩) (v := ?v22r31) rfl (by kernel_rfl) (by kernel_rfl) (by kernel_rfl) (by kernel_rfl) (fun _ _ _ h => h) (Or.inl ⟨by rfl, ?h22r31⟩) (by assumption) ?r22r31
          case h22r31 => intro w hSw; (try dsimp only at hSw); go_simp; (try with_reducible rfl)
          try simp only [Act.put, List.setIfInBounds_toArray, List.set_cons_zero, List.set_cons_succ]
          refine wpAnyS_take (i := 23) (oi := ⟨some 201, _, _, _, _, _⟩) (v := ?v23r31) rfl (by kernel_rfl) (by kernel_rfl) (by kernel_rfl) (by kernel_rfl) (fun _ _ _ h => h) (Or.inl ⟨by rfl, ?h23r31⟩) (by assumption) ?r23r31
          case h23r31 => intro w hSw; (try dsimp only at hSw); go_simp; (try with_reducible rfl)
          try simp only [Act.put, List.setIfInBounds_toArray, List.set_cons_zero, List.set_cons_succ]
          refine wpAnyS_take (i := 24) (oi := ⟨some 202, _, _, _, _, _⟩) (v := ?v24r31) rfl (by kernel_rfl) (by kernel_rfl) (by kernel_rfl) (by kernel_rfl) (fun _ _ _ h => h) (Or.inl ⟨by rfl, ?h24r31⟩) (by assumption) ?r24r31
          case h24r31 => intro w hSw; (try dsimp only at hSw); go_simp; (try with_reducible rfl)
          try simp only [Act.put, List.setIfInBounds_toArray, List.set_cons_zero, List.set_cons_succ]
          refine wpAnyS_one (i := 25) (o := ⟨some 203, _, _, _, _, _⟩) rfl (by kernel_rfl) (fun K hK => ?_)
          go_simp
          refine hK.out _ _ (fun h => absurd h (by decide)) ?_
          clear hK K
          try simp only [Act.put, List.setIfInBounds_toArray, List.set_cons_zero, List.set_cons_succ]
          refine wpAnyS_one (i := 26) (o := ⟨some 204, _, _, _, _, _⟩) rfl (by kernel_rfl) (fun K hK => ?_)
          go_simp
          refine hK.out _ _ (fun h => absurd h (by decide)) ?_
          clear hK K
          try simp only [Act.put, List.setIfInBounds_toArray, List.set_cons_zero, List.set_cons_succ]
          refine wpAnyS_one (i := 27) (o := ⟨none, _, _, _, _, _⟩) rfl (by kernel_rfl) (fun K hK => ?_)
          go_simp
          refine hK.out _ _ (fun h => absurd h (by decide)) ?_
          clear hK K
          try simp only [Act.put, List.setIfInBounds_toArray, List.set_cons_zero, List.set_cons_succ]
          refine wpAnyS_done (by kernel_rfl) ?_ _
          go_wp2_with fail
          go_roundw
          case rel => exact ⟨i + 1, by go_num, by omega, by rw [HT2.out]; exact HT9.out.same (Same.drew1 _), (HBR.out.keeps (Keeps.setCell (p := ⟨p, 9, none⟩) (Keeps.refl (fun b => b = p) _) (fun _ => rfl) _) hp7).drew⟩
          case measure => simp [intOf]; omega
        · have hie : i = x1 := by omega
          subst hie
          have d0 : decide ((i : Int) < (i : Int)) = false := by simp
          clear d0 he hi
          obtain ⟨kn, rfl⟩ : ∃ kn : Nat, kk = kn := ⟨kk.toNat, by have := HC.out; omega⟩
          have HN6 := hid (fun w0 => r9next_any M.st kn w0 hst (by have := HC.out; omega) (by have := HC.out; omega))
          have np1 : ¬ x + 1 = p := HQ1.out.up
          have u0 := HQ1.out.pk0
          have lu := HQ1.out.pkb.lt
          have lb := HBR.out.lt
          have s0 := HBR.out.four
          have lp := HQ1.out.D.blk.lt
          have m4 := HQ1.out.D.blk.cell 4
          have m5 := HQ1.out.D.blk.cell 5
          have m6 := HQ1.out.D.blk.cell 6
          have m7 := HQ1.out.D.blk.cell 7
          have m8 := HQ1.out.D.blk.cell 8
          have f4 := HQ1.out.D.blk.frozen 4
          have f5 := HQ1.out.D.blk.frozen 5
          have f6 := HQ1.out.D.blk.frozen 6
          have f7 := HQ1.out.D.blk.frozen 7
          have f8 := HQ1.out.D.blk.frozen 8
          simp only [Mdl.cells, List.getElem?_toArray, List.getElem?_cons_succ, List.getElem?_cons_zero] at m4 m5 m6 m7 m8
          have HS6 := hid (((HQ1.out.setR a b c e).setS (nextS M.st kn)).2.2.same (Same.drew1 _))
          go_upto_region 32 with fail
          refine wp_region_S (S := (fun V => Keeps (fun b => b = p) wr V)) 10 (by kernel_rfl) (by (try dsimp only); exact (Keeps.refl _ _).drew) (fun hHeld => ?_)
          refine wpAnyS_take (i := 0) (oi := ⟨some 205, _, _, _, _, _⟩) (v := ?v0r32) rfl (by kernel_rfl) (by kernel_rfl) (by kernel_rfl) (by kernel_rfl) (fun _ _ _ h => h) (Or.inl ⟨by rfl, ?h0r32⟩) (by assumption) ?r0r32
          case h0r32 => intro w hSw; (try dsimp only at hSw); go_simp; (try with_reducible rfl)
          try simp only [Act.put, List.setIfInBounds_toArray, List.set_cons_zero, List.set_cons_succ]
          refine wpAnyS_take (i := 1) (oi := ⟨some 206, _, _, _, _, _⟩) (v := ?v1r32) rfl (by kernel_rfl) (by kernel_rfl) (by kernel_rfl) (by kernel_rfl) (fun _ _ _ h => h) (Or.inl ⟨by rfl, ?h1r32⟩) (by assumption) ?r1r32
          case h1r32 => intro w hSw; (try dsimp only at hSw); go_simp; (try with_reducible rfl)
          try simp only [Act.put, List.setIfInBounds_toArray, List.set_cons_zero, List.set_cons_succ]
          refine wpAnyS_take (i := 2) (oi := ⟨some 207, _, _, _, _, _⟩) (v := ?v2r32) rfl (by kernel_rfl) (by kernel_rfl) (by kernel_rfl) (by kernel_rfl) (fun _ _ _ h => h) (Or.inl ⟨by rfl, ?h2r32⟩) (by assumption) ?r2r32
          case h2r32 => intro w hSw; (try dsimp only at hSw); have q0 := (Keeps.cell hSw (p := ⟨b7, 0, none⟩) lb hp7).trans s0.1; have q1 := (Keeps.cell hSw (p := ⟨b7, 1, none⟩) lb hp7).trans s0.2.1; have q2 := (Keeps.cell hSw (p := ⟨b7, 2, none⟩) lb hp7).trans s0.2.2.1; have q3 := (Keeps.cell hSw (p := ⟨b7, 3, none⟩) lb hp7).trans s0.2.2.2.1; go_simp; (try with_reducible rfl)
          try simp only [Act.put, List.setIfInBounds_toArray, List.set_cons_zero, List.set_cons_succ]
          refine wpAnyS_take (i := 3) (oi := ⟨some 208, _, _, _, _, _⟩) (v := ?v3r32) rfl (by kernel_rfl) (by kernel_rfl) (by kernel_rfl) (by kernel_rfl) (fun _ _ _ h => h) (Or.inl ⟨by rfl, ?h3r32⟩) (by assumption) ?r3r32
          case h3r32 => intro w hSw; (try dsimp only at hSw); go_simp; (try with_reducible rfl)
          try simp only [Act.put, List.setIfInBounds_toArray, List.set_cons_zero, List.set_cons_succ]
          refine wpAnyS_take (i := 4) (oi := ⟨some 209, _, _, _, _, _⟩) (v := ?v4r32) rfl (by kernel_rfl) (by kernel_rfl) (by kernel_rfl) (by kernel_rfl) (fun _ _ _ h => h) (Or.inl ⟨by rfl, ?h4r32⟩) (by assumption) ?r4r32
          case h4r32 => intro w hSw; (try dsimp only at hSw); go_simp; (try with_reducible rfl)
          try simp only [Act.put, List.setIfInBounds_toArray, List.set_cons_zero, List.set_cons_succ]
          refine wpAnyS_take (i := 5) (oi := ⟨some 210, _, _, _, _, _⟩) (v := ?v5r32) rfl (by kernel_rfl) (by kernel_rfl) (by kernel_rfl) (by kernel_rfl) (fun _ _ _ h => h) (Or.inl ⟨by rfl, ?h5r32⟩) (by assumption) ?r5r32
          case h5r32 => intro w hSw; (try dsimp only at hSw); have q0 := (Keeps.cell hSw (p := ⟨x + 1, 0, none⟩) lu np1).trans u0; go_simp; (try with_reducible rfl)
          try simp only [Act.put, List.setIfInBounds_toArray, List.set_cons_zero, List.set_cons_succ]
          refine wpAnyS_one (i := 6) (o := ⟨some 211, _, _, _, _, _⟩) rfl (by kernel_rfl) (fun K hK => ?_)
          go_simp; (go_at_call 53; refine (HN6.out _).mono ?_; rintro z w6 ⟨rfl, rfl⟩; go_simp)
          refine hK.out _ _ (fun _ => by (try dsimp only); exact (Keeps.refl _ _).drew) ?_
          clear hK K
          try simp only [Act.put, List.setIfInBounds_toArray, List.set_cons_zero, List.set_cons_succ]
          refine wpAnyS_take (i := 7) (oi := ⟨some 212, _, _, _, _, _⟩) (v := ?v7r32) rfl (by kernel_rfl) (by kernel_rfl) (by kernel_rfl) (by kernel_rfl) (fun _ _ _ h => h) (Or.inl ⟨by rfl, ?h7r32⟩) (by assumption) ?r7r32
          case h7r32 => intro w hSw; (try dsimp only at hSw); go_simp; (try with_reducible rfl)
          try simp only [Act.put, List.setIfInBounds_toArray, List.set_cons_zero, List.set_cons_succ]
          refine wpAnyS_take (i := 8) (oi := ⟨some 213, _, _, _, _, _⟩) (v := ?v8r32) rfl (by kernel_rfl) (by kernel_rfl) (by kernel_rfl) (by kernel_rfl) (fun _ _ _ h => h) (Or.inl ⟨by rfl, ?h8r32⟩) (by assumption) ?r8r32
          case h8r32 => intro w hSw; (try dsimp only at hSw); go_simp; (try with_reducible rfl)
          try simp only [Act.put, List.setIfInBounds_toArray, List.set_cons_zero, List.set_cons_succ]
          refine wpAnyS_one (i := 9) (o := ⟨none, _, _, _, _, _⟩) rfl (by kernel_rfl) (fun K hK => ?_)
          go_simp
          refine hK.out _ _ (fun _ => by (try dsimp only); repeat (first | exact Keeps.refl _ _ | refine Keeps.drew ?_ | refine Keeps.setCell ?_ (by simp) _)) ?_
          clear hK K
          try simp only [Act.put, List.setIfInBounds_toArray, List.set_cons_zero, List.set_cons_succ]
          refine wpAnyS_one (i := 10) (o := ⟨some 214, _, _, _, _, _⟩) rfl (by kernel_rfl) (fun K hK => ?_)
          go_simp
          refine hK.out _ _ (fun h => absurd h (by decide)) ?_
          clear hK K
          try simp only [Act.put, List.setIfInBounds_toArray, List.set_cons_zero, List.set_cons_succ]
          refine wpAnyS_one (i := 11) (o := ⟨some 215, _, _, _, _, _⟩) rfl (by kernel_rfl) (fun K hK => ?_)
          go_simp
          refine hK.out _ _ (fun h => absurd h (by decide)) ?_
          clear hK K
          try simp only [Act.put, List.setIfInBounds_toArray, List.set_cons_zero, List.set_cons_succ]
          refine wpAnyS_one (i := 12) (o := ⟨none, _, _, _, _, _⟩) rfl (by kernel_rfl) (fun K hK => ?_)
          go_simp
          refine hK.out _ _ (fun h => absurd h (by decide)) ?_
          clear hK K
          try simp only [Act.put, List.setIfInBounds_toArray, List.set_cons_zero, List.set_cons_succ]
          refine wpAnyS_done (by kernel_rfl) ?_ _
          go_upto_region 33 with fail
          clear m5 m6 m7 m8 f5 f6 f7 f8 u0 lu lb s0
          clear m4 f4 lp
          generalize ((((((wr.setCell ⟨p, 5, none⟩ (i6 a)).setCell ⟨p, 6, none⟩ (i6 b)).setCell ⟨p, 7, none⟩ (i6 c)).setCell ⟨p, 8, none⟩ (i6 e)).setCell ⟨p, 4, none⟩ (i6 (nextS M.st kn))).drew) = w7 at HS6 ⊢
          obtain ⟨g, n, cap, sz, hb9, hE9⟩ := HS6.out.eb
          have r0 := hb9.cell 0
          have r1 := hb9.cell 1
          simp only [eArr, List.getElem?_toArray, List.getElem?_cons_succ, List.getElem?_cons_zero] at r0 r1
          have lx := hb9.lt
          obtain ⟨y0, y1, f0, f1, hQ⟩ := HS6.out.ans hb9 hE9
          have HL := hid hQ
          have l0 := hQ.c0
          have l1 := hQ.c1
          clear hQ hb9 hE9
          go_wp2_with fail
          refine bodyPost_ret (v := .agg (eArr g n cap sz)) (by simp [results, Tryz.results23, go_sem, l0, l1]) rfl ?_
          exact ⟨_, rfl, HL.out.E.mono (by omega), HL.out.D.mono (by omega), HL.out.S⟩
end Go.Proofs.YtalopgbkjgjppaaGreatDoor
