/- The document's Put: what it holds in memory; a byte. -/
import Derived.Test.YtalopgbkjgjppaaGreatDoorQn
namespace Go.Proofs.YtalopgbkjgjppaaGreatDoor
open Go.RowKit Go.Cas Go.Maps Go.Cas.Enc

/-- In the midst of 'Put': the packet lies in block u. -/
structure QP (w V : World) (B : Nat → Prop) (p mb x y u : Nat) (M : Mdl) (k : Nat) (k0 d0 l0 y0 : Int) : Prop extends QT w V B p mb x y M k where
  pkb : Blk V u #[i6 k0, i6 d0, i6 l0, .int .u8 y0] 58
  hu : w.heap.size ≤ u
  ux : u ≠ x
  uy : u ≠ y
  hp : B p

section
variable {w V V' : World} {B : Nat → Prop} {p mb x y u : Nat} {M : Mdl} {k k' : Nat} {k0 d0 l0 y0 : Int}
theorem QP.pk0 (h : QP w V B p mb x y u M k k0 d0 l0 y0) : V.cell? ⟨u, 0, none⟩ = some (i6 k0) := h.pkb.cell 0
theorem QP.pk1 (h : QP w V B p mb x y u M k k0 d0 l0 y0) : V.cell? ⟨u, 1, none⟩ = some (i6 d0) := h.pkb.cell 1
theorem QP.pk2 (h : QP w V B p mb x y u M k k0 d0 l0 y0) : V.cell? ⟨u, 2, none⟩ = some (i6 l0) := h.pkb.cell 2
theorem QP.pk3 (h : QP w V B p mb x y u M k k0 d0 l0 y0) : V.cell? ⟨u, 3, none⟩ = some (.int .u8 y0) := h.pkb.cell 3
theorem QP.um (h : QP w V B p mb x y u M k k0 d0 l0 y0) : ¬ u = mb := by have := h.mx; have := h.hu; omega
theorem QP.up (h : QP w V B p mb x y u M k k0 d0 l0 y0) : ¬ u = p := by have := h.px; have := h.hu; omega
theorem QP.xp (h : QP w V B p mb x y u M k k0 d0 l0 y0) : ¬ x = p := by have := h.px; have := h.hx; omega
theorem QP.yp (h : QP w V B p mb x y u M k k0 d0 l0 y0) : ¬ y = p := by have := h.px; have := h.hy; omega

theorem QP.start {v : Value} (hD : D10 w p mb M k) (hE : EN w v k) : ∃ g n cap sz, v = .agg (eArr g n cap sz) ∧
    QP w (((w.alloc (.cells (eArr g n cap sz) 56)).alloc (.cells #[i6 k0, i6 d0, i6 l0, .int .u8 y0] 58)).alloc (.cells #[.slice none 0 0, .int .u64 0] 56)) (fun b => b = p ∨ b = mb) p mb w.heap.size (w.heap.size + 2) (w.heap.size + 1) M k k0 d0 l0 y0 := by
  have hE' := hE
  obtain ⟨n, sz, ⟨g, cap, bs, rfl, h1, h2⟩, h3⟩ := hE'
  have hs : Same w (((w.alloc (.cells (eArr g n cap sz) 56)).alloc (.cells #[i6 k0, i6 d0, i6 l0, .int .u8 y0] 58)).alloc (.cells #[.slice none 0 0, .int .u64 0] 56)) := (((Keeps.refl _ _).alloc _).alloc _).alloc _
  exact ⟨g, n, cap, sz, rfl, ⟨⟨g, n, cap, sz, ((Blk.new _ _ _).alloc _).alloc _, hE.same hs⟩, Blk.new_at (by simp), hD.keeps hs (fun h => h) (fun h => h), Keeps.of_same hs, Nat.le_refl _, by omega, by omega, hD.blk.lt, hD.lt, fun b h => h, .inr rfl⟩,
    (Blk.new_at (by simp)).alloc _, by omega, by omega, by omega, .inl rfl⟩

theorem QP.same (h : QP w V B p mb x y u M k k0 d0 l0 y0) (hs : Same V V') : QP w V' B p mb x y u M k k0 d0 l0 y0 :=
  ⟨h.toQT.same hs, h.pkb.keeps hs (fun h => h), h.hu, h.ux, h.uy, h.hp⟩

theorem QP.mono (h : QP w V B p mb x y u M k k0 d0 l0 y0) (hk : k ≤ k') : QP w V B p mb x y u M k' k0 d0 l0 y0 := by
  obtain ⟨g, n, cap, sz, e1, e2⟩ := h.eb
  exact ⟨⟨⟨g, n, cap, sz, e1, e2.mono hk⟩, h.br, h.D.mono hk, h.S, h.hx, h.hy, h.xy, h.px, h.mx, h.hB, h.hm⟩, h.pkb, h.hu, h.ux, h.uy, h.hp⟩

theorem QP.setx {v : Value} (h : QP w V B p mb x y u M k k0 d0 l0 y0) (hE : EN V' v k') (hD : D10 V' p mb M k') (hK : Keeps (fun b => b = mb) V V') :
    ∃ g n cap sz, v = .agg (eArr g n cap sz) ∧ (∃ a0 a1, V'.cell? ⟨x, 0, none⟩ = some a0 ∧ V'.cell? ⟨x, 1, none⟩ = some a1) ∧ V'.frozen? ⟨x, 0, none⟩ = false ∧ V'.frozen? ⟨x, 1, none⟩ = false ∧
      QP w ((V'.setCell ⟨x, 0, none⟩ (.slice (some ⟨g, 0, none⟩) n cap)).setCell ⟨x, 1, none⟩ (v64 sz)) B p mb x y u M k' k0 d0 l0 y0 := by
  obtain ⟨g, n, cap, sz, e, c, f0, f1, hq⟩ := h.toQT.setx hE hD hK
  have hK' : Keeps (fun b => b = x) V' ((V'.setCell ⟨x, 0, none⟩ (.slice (some ⟨g, 0, none⟩) n cap)).setCell ⟨x, 1, none⟩ (v64 sz)) := Keeps.setCell (p := ⟨x, 1, none⟩) (Keeps.setCell (p := ⟨x, 0, none⟩) (Keeps.refl (fun b => b = x) _) (fun _ => rfl) _) (fun _ => rfl) _
  exact ⟨g, n, cap, sz, e, c, f0, f1, hq, (h.pkb.keeps hK h.um).keeps hK' h.ux, h.hu, h.ux, h.uy, h.hp⟩

/-- A store into the model's own cells. -/
theorem QP.into {M' : Mdl} (h : QP w V B p mb x y u M k k0 d0 l0 y0) (hK : Keeps (fun b => b = p) V V') (hb : Blk V' p (M'.cells mb) 65) : QP w V' B p mb x y u M' k k0 d0 l0 y0 := by
  obtain ⟨g, n, cap, sz, e1, e2⟩ := h.eb
  obtain ⟨D, d1, d2⟩ := h.D.map
  exact ⟨⟨⟨g, n, cap, sz, e1.keeps hK h.xp, e2.keeps h.D hK (fun b e => .inl e)⟩, h.br.keeps hK h.yp, ⟨hb, ⟨D, d1, map_keeps d2 hK h.D.ne⟩, h.D.ne⟩,
    h.S.trans' hK (fun b _ e => by subst e; exact h.hp), h.hx, h.hy, h.xy, h.px, h.mx, h.hB, h.hm⟩, h.pkb.keeps hK h.up, h.hu, h.ux, h.uy, h.hp⟩

theorem QP.setT (t : List UInt8) (h : QP w V B p mb x y u M k k0 d0 l0 y0) :
    V.cell? ⟨p, 9, none⟩ = some (.string ⟨M.T.toArray⟩) ∧ V.frozen? ⟨p, 9, none⟩ = false ∧ QP w (V.setCell ⟨p, 9, none⟩ (.string ⟨t.toArray⟩)) B p mb x y u { M with T := t } k k0 d0 l0 y0 := by
  have hb := h.D.blk.set 9 (.string ⟨t.toArray⟩)
  simp only [Mdl.cells, List.setIfInBounds_toArray, List.set_cons_zero, List.set_cons_succ] at hb
  exact ⟨h.D.blk.cell 9, h.D.blk.frozen 9, h.into (Keeps.setCell (p := ⟨p, 9, none⟩) (Keeps.refl (fun b => b = p) _) (fun _ => rfl) _) hb⟩

theorem QP.setS (s : Nat) (h : QP w V B p mb x y u M k k0 d0 l0 y0) :
    V.cell? ⟨p, 4, none⟩ = some (i6 M.st) ∧ V.frozen? ⟨p, 4, none⟩ = false ∧ QP w (V.setCell ⟨p, 4, none⟩ (i6 s)) B p mb x y u { M with st := s } k k0 d0 l0 y0 := by
  have hb := h.D.blk.set 4 (i6 s)
  simp only [Mdl.cells, List.setIfInBounds_toArray, List.set_cons_zero, List.set_cons_succ] at hb
  exact ⟨h.D.blk.cell 4, h.D.blk.frozen 4, h.into (Keeps.setCell (p := ⟨p, 4, none⟩) (Keeps.refl (fun b => b = p) _) (fun _ => rfl) _) hb⟩

theorem QP.setR (a b c e : Int) (h : QP w V B p mb x y u M k k0 d0 l0 y0) :
    QP w ((((V.setCell ⟨p, 5, none⟩ (i6 a)).setCell ⟨p, 6, none⟩ (i6 b)).setCell ⟨p, 7, none⟩ (i6 c)).setCell ⟨p, 8, none⟩ (i6 e)) B p mb x y u { M with r0 := a, r1 := b, r2 := c, r3 := e } k k0 d0 l0 y0 := by
  have hb := (((h.D.blk.set 5 (i6 a)).set 6 (i6 b)).set 7 (i6 c)).set 8 (i6 e)
  simp only [Mdl.cells, List.setIfInBounds_toArray, List.set_cons_zero, List.set_cons_succ] at hb
  exact h.into (Keeps.setCell (p := ⟨p, 8, none⟩) (Keeps.setCell (p := ⟨p, 7, none⟩) (Keeps.setCell (p := ⟨p, 6, none⟩) (Keeps.setCell (p := ⟨p, 5, none⟩) (Keeps.refl (fun b => b = p) _) (fun _ => rfl) _) (fun _ => rfl) _) (fun _ => rfl) _) (fun _ => rfl) _) hb

/-- The answer is laid. -/
theorem QP.ans {g n cap sz : Nat} (h : QP w V B p mb x y u M k k0 d0 l0 y0) (hb : Blk V x (eArr g n cap sz) 56) (hE : EN V (.agg (eArr g n cap sz)) k) :
    V.cell? ⟨y, 0, none⟩ = some (.slice none 0 0) ∧ V.cell? ⟨y, 1, none⟩ = some (.int .u64 0) ∧ V.frozen? ⟨y, 0, none⟩ = false ∧ V.frozen? ⟨y, 1, none⟩ = false ∧
      QE w ((V.setCell ⟨y, 0, none⟩ (.slice (some ⟨g, 0, none⟩) n cap)).setCell ⟨y, 1, none⟩ (v64 sz)) B p mb y M k g n cap sz := by
  obtain ⟨g', n', cap', sz', e, h1, h2, h3, h4, h5⟩ := h.toQT.sety hE h.D (Keeps.refl _ _)
  simp only [Value.agg.injEq, Array.mk.injEq, List.cons.injEq, Value.slice.injEq, Option.some.injEq, Addr.mk.injEq, Value.int.injEq, Int.natCast_inj, true_and, and_true] at e
  obtain ⟨⟨rfl, rfl, rfl⟩, rfl⟩ := e
  exact ⟨h1, h2, h3, h4, h5⟩
end

/-- What the document's model keeps to. -/
def MOk (M : Mdl) : Prop := M.lc ≤ 4 ∧ M.lp ≤ 4 ∧ M.pb ≤ 4 ∧ M.T.length ≤ 10000 ∧ M.st < 12 ∧ (7 ≤ M.st → 1 ≤ M.r0 ∧ M.r0 ≤ M.T.length)

theorem str_app (a b : List UInt8) : (⟨a.toArray⟩ : ByteArray) ++ ⟨b.toArray⟩ = ⟨(a ++ b).toArray⟩ := by
  apply ByteArray.ext
  simp

set_option maxHeartbeats 8000000 in
set_option maxRecDepth 100000 in
theorem r10putb_any (p mb : Nat) (M : Mdl) (k : Nat) (v : Value) (yb : UInt8) (w : World) (hD : D10 w p mb M k) (hE : EN w v k) (hk : k + 300 ≤ 200000) (hM : MOk M) :
    Calls Tryz.prog 23 #[.pointer (some ⟨p, 0, none⟩), v, pk 1 0 0 yb.toNat] w fun z w' => ∃ v', z = .returned v' ∧ EN w' v' (k + 300) ∧ D10 w' p mb { M with T := M.T ++ [yb], st := nextS M.st 1 } (k + 300) ∧ Keeps (fun b => b = p ∨ b = mb) w w' := by
  obtain ⟨g, n, cap, sz, rfl, hQ⟩ := QP.start (k0 := 1) (d0 := 0) (l0 := 0) (y0 := (yb.toNat : Int)) hD hE
  have HPl := hid (fun (k : Nat) (w0 : World) (hD : D10 w0 p mb M k) => r10place_any p mb M k w0 hD hM.2.2.1 (by have := hM.2.2.2.1; omega))
  have HB := hid hM
  have np : ¬ p = mb := fun e => hD.ne e.symm
  have hst := hM.2.2.2.2.1
  have hyb := yb.toNat_lt
  have i3 := wrN (n := yb.toNat) (by omega)
  have i4 : wrap64 (yb.toNat : Int) = (yb.toNat : Int) := IntWalk.wrap64_in _ (by omega)
  clear hD hE hM
  go_enter Tryz.func23, Tryz.ntmps23
  go_upto_region 1 with fail
  generalize ((w.alloc (.cells (eArr g n cap sz) 56)).alloc (.cells #[i6 1, i6 0, i6 0, .int .u8 (yb.toNat : Int)] 58)).alloc (.cells #[.slice none 0 0, .int .u64 0] 56) = wn at hQ ⊢
  obtain ⟨x, hx⟩ : ∃ x, w.heap.size = x := ⟨_, rfl⟩
  rw [hx] at hQ ⊢
  have nx : ¬ x = mb := by have := hQ.mx; omega
  have HQ0 := hid hQ
  have m4 := hQ.D.blk.cell 4
  have lp := hQ.D.blk.lt
  simp only [Mdl.cells, List.getElem?_toArray, List.getElem?_cons_succ, List.getElem?_cons_zero] at m4
  have u0 := hQ.pk0
  have lu := hQ.pkb.lt
  clear hQ hx
  go_upto_region 3 with fail
  clear m4 lp u0 lu
  obtain ⟨g0, n0, c0, z0, hb0, hE0⟩ := HQ0.out.eb
  have lx0 := hb0.lt
  have lp0 := HQ0.out.D.blk.lt
  have r0 := hb0.cell 0
  have r1 := hb0.cell 1
  have m4 := HQ0.out.D.blk.cell 4
  simp only [Mdl.cells, eArr, List.getElem?_toArray, List.getElem?_cons_succ, List.getElem?_cons_zero] at r0 r1 m4
  have HE0 := hid hE0
  clear hE0 hb0
  have u0 := HQ0.out.pk0
  have u1 := HQ0.out.pk1
  have u2 := HQ0.out.pk2
  have u3 := HQ0.out.pk3
  have lu := HQ0.out.pkb.lt
  refine wp_region_S (S := (fun V => Keeps (fun b => b = mb) wn V)) 7 (by kernel_rfl) (by (try dsimp only); exact (Keeps.refl _ _).drew) (fun hHeld => ?_)
  refine wpAnyS_take (i := 0) (oi := ⟨some 20, _, _, _, _, _⟩) (v := ?v00) rfl (by kernel_rfl) (by kernel_rfl) (by kernel_rfl) (by kernel_rfl) (fun _ _ _ h => h) (Or.inl ⟨by rfl, ?h00⟩) (by assumption) ?r00
  case h00 => intro w hSw; (try dsimp only at hSw); go_simp; (try with_reducible rfl)
  try simp only [Act.put, List.setIfInBounds_toArray, List.set_cons_zero, List.set_cons_succ]
  refine wpAnyS_take (i := 1) (oi := ⟨some 21, _, _, _, _, _⟩) (v := ?v10) rfl (by kernel_rfl) (by kernel_rfl) (by kernel_rfl) (by kernel_rfl) (fun _ _ _ h => h) (Or.inl ⟨by rfl, ?h10⟩) (by assumption) ?r10
  case h10 => intro w hSw; (try dsimp only at hSw); have q0 := (Keeps.cell hSw (p := ⟨x, 0, none⟩) lx0 nx).trans r0; have q1 := (Keeps.cell hSw (p := ⟨x, 1, none⟩) lx0 nx).trans r1; go_simp; (try with_reducible rfl)
  try simp only [Act.put, List.setIfInBounds_toArray, List.set_cons_zero, List.set_cons_succ]
  refine wpAnyS_take (i := 2) (oi := ⟨some 22, _, _, _, _, _⟩) (v := ?v20) rfl (by kernel_rfl) (by kernel_rfl) (by kernel_rfl) (by kernel_rfl) (fun _ _ _ h => h) (Or.inl ⟨by rfl, ?h20⟩) (by assumption) ?r20
  case h20 => intro w hSw; (try dsimp only at hSw); go_simp; (try with_reducible rfl)
  try simp only [Act.put, List.setIfInBounds_toArray, List.set_cons_zero, List.set_cons_succ]
  refine wpAnyS_take (i := 3) (oi := ⟨some 23, _, _, _, _, _⟩) (v := ?v30) rfl (by kernel_rfl) (by kernel_rfl) (by kernel_rfl) (by kernel_rfl) (fun _ _ _ h => h) (Or.inl ⟨by rfl, ?h30⟩) (by assumption) ?r30
  case h30 => intro w hSw; (try dsimp only at hSw); go_simp; (try with_reducible rfl)
  try simp only [Act.put, List.setIfInBounds_toArray, List.set_cons_zero, List.set_cons_succ]
  refine wpAnyS_one (i := 4) (o := ⟨some 24, _, _, _, _, _⟩) rfl (by kernel_rfl) (fun K hK => ?_)
  go_simp; refine (HPl.out _ _ (HQ0.out.D.keeps (Same.drew1 _) (fun h => h) (fun h => h))).mono ?_; rintro z wp ⟨⟨pl, rfl, hpl⟩, hsp⟩; have hsp := (Same.drew1 _).trans hsp; have HQp := hid (HQ0.out.same hsp); have HEp := hid (HE0.out.same hsp); have KP := hid (Keeps.of_same (S := fun b => b = mb) hsp); clear hsp; go_simp
  refine hK.out _ _ (fun _ => by (try dsimp only); exact KP.out) ?_
  clear hK K
  try simp only [Act.put, List.setIfInBounds_toArray, List.set_cons_zero, List.set_cons_succ]
  refine wpAnyS_take (i := 5) (oi := ⟨some 25, _, _, _, _, _⟩) (v := ?v50) rfl (by kernel_rfl) (by kernel_rfl) (by kernel_rfl) (by kernel_rfl) (fun _ _ _ h => h) (Or.inl ⟨by rfl, ?h50⟩) (by assumption) ?r50
  case h50 => intro w hSw; (try dsimp only at hSw); go_simp; (try with_reducible rfl)
  try simp only [Act.put, List.setIfInBounds_toArray, List.set_cons_zero, List.set_cons_succ]
  refine wpAnyS_one (i := 6) (o := ⟨some 26, _, _, _, _, _⟩) rfl (by kernel_rfl) (fun K hK => ?_)
  go_simp; refine (r10bit_any p mb M (k) _ (1) (M.st) (pl) (0) _ _ HQp.out.D HEp.out (by omega) (by omega) (by omega) (by omega) (by omega)).mono ?_; rintro z w2 ⟨v2, rfl, hE, hD, hK⟩; obtain ⟨g, n, cap, sz, rfl, ⟨a0, a1, y0, y1⟩, f0, f1, hQ⟩ := HQp.out.setx hE hD hK; have HQn := hid hQ; have KN := hid (KP.out.trans' hK fun b _ e => e); clear hE hD hK hQ; go_simp
  refine hK.out _ _ (fun _ => by (try dsimp only); exact KN.out) ?_
  clear hK K
  try simp only [Act.put, List.setIfInBounds_toArray, List.set_cons_zero, List.set_cons_succ]
  refine wpAnyS_one (i := 7) (o := ⟨none, _, _, _, _, _⟩) rfl (by kernel_rfl) (fun K hK => ?_)
  go_simp
  refine hK.out _ _ (fun h => absurd h (by decide)) ?_
  clear hK K
  try simp only [Act.put, List.setIfInBounds_toArray, List.set_cons_zero, List.set_cons_succ]
  refine wpAnyS_done (by kernel_rfl) ?_ _
  have HQ1 := HQn
  clear HQn KN KP HQp HEp r0 r1 m4 u0 u1 u2 u3 lu lx0 lp0
  go_upto_region 4 with fail
  clear y0 y1 f0 f1
  generalize ((w2.setCell ⟨x, 0, none⟩ (.slice (some ⟨g, 0, none⟩) n cap)).setCell ⟨x, 1, none⟩ (v64 sz)) = wn at HQ1 ⊢
  clear HE0 HQ0
  obtain ⟨g1, n1, c1, z1, hb1, hE1⟩ := HQ1.out.eb
  have lx1 := hb1.lt
  have lp1 := HQ1.out.D.blk.lt
  have r0 := hb1.cell 0
  have r1 := hb1.cell 1
  have m4 := HQ1.out.D.blk.cell 4
  simp only [Mdl.cells, eArr, List.getElem?_toArray, List.getElem?_cons_succ, List.getElem?_cons_zero] at r0 r1 m4
  have HE1 := hid hE1
  clear hE1 hb1
  have u0 := HQ1.out.pk0
  have u1 := HQ1.out.pk1
  have u2 := HQ1.out.pk2
  have u3 := HQ1.out.pk3
  have lu := HQ1.out.pkb.lt
  go_wp2_with fail
  refine (r10byte_any p mb M (k + 1) _ yb.toNat _ HQ1.out.D HE1.out (by omega) hyb HB.out.1 HB.out.2.1 (by have := HB.out.2.2.2.1; omega) HB.out.2.2.2.2.1 HB.out.2.2.2.2.2).mono ?_
  rintro z w2 ⟨v2, rfl, hE, hD, hK⟩
  obtain ⟨g, n, cap, sz, rfl, ⟨a0, a1, y0, y1⟩, f0, f1, hQ⟩ := HQ1.out.setx hE hD hK
  have HQ2 := hid hQ
  clear hE hD hK hQ r0 r1 m4 u0 u1 u2 u3 lu lx1 lp1
  go_upto_region 5 with fail
  clear y0 y1 f0 f1
  generalize ((w2.setCell ⟨x, 0, none⟩ (.slice (some ⟨g, 0, none⟩) n cap)).setCell ⟨x, 1, none⟩ (v64 sz)) = wn at HQ2 ⊢
  clear HE1 HQ1
  have hs5 : Same wn (wn.alloc (.cells #[.int .u8 (yb.toNat : Int)] 5)).drew := ((Keeps.refl _ _).alloc _).drew
  have hT5 := HQ2.out.setT (M.T ++ [yb])
  have m9 := hT5.1
  have f9 := hT5.2.1
  have lp := HQ2.out.D.blk.lt
  have u3 := HQ2.out.pk3
  have lu := HQ2.out.pkb.lt
  have HT5 := hid (hT5.2.2.same (((Keeps.refl (fun _ => False) (wn.setCell ⟨p, 9, none⟩ (.string ⟨(M.T ++ [yb]).toArray⟩))).alloc (.cells #[.int .u8 (yb.toNat : Int)] 5)).drew))
  have HS5 := hid hs5
  have hcv : (convert 53 9 (.slice (some ⟨wn.heap.size, 0, none⟩) 1 1)).run Tryz.prog (wn.alloc (.cells #[.int .u8 (yb.toNat : Int)] 5)).drew = .ok (.string ⟨#[yb]⟩) (wn.alloc (.cells #[.int .u8 (yb.toNat : Int)] 5)).drew := run_convert_bytes_back (wn.alloc (.cells #[.int .u8 (yb.toNat : Int)] 5)).drew 53 9 5 ⟨wn.heap.size, 0, none⟩ 1 [yb] Tryz.underlying53 Tryz.underlying5 Tryz.underlying9 fun j hj => by
    have h0 : j = 0 := by simp at hj; omega
    subst h0
    simp [Addr.add]
  have hadd : (⟨M.T.toArray⟩ : ByteArray) ++ ⟨#[yb]⟩ = ⟨(M.T ++ [yb]).toArray⟩ := str_app M.T [yb]
  have hlim : (9223372036854775807 < M.T.length + 1) = False := eq_false (by have := HB.out.2.2.2.1; omega)
  clear hT5 hs5
  refine wp_region_S (S := (fun V => Same wn V)) 9 (by kernel_rfl) (by (try dsimp only); exact (Keeps.refl _ _).drew) (fun hHeld => ?_)
  refine wpAnyS_take (i := 0) (oi := ⟨some 33, _, _, _, _, _⟩) (v := ?v0t) rfl (by kernel_rfl) (by kernel_rfl) (by kernel_rfl) (by kernel_rfl) (fun _ _ _ h => h) (Or.inl ⟨by rfl, ?h0t⟩) (by assumption) ?r0t
  case h0t => intro w hSw; (try dsimp only at hSw); go_simp; (try with_reducible rfl)
  try simp only [Act.put, List.setIfInBounds_toArray, List.set_cons_zero, List.set_cons_succ]
  refine wpAnyS_take (i := 1) (oi := ⟨some 34, _, _, _, _, _⟩) (v := ?v1t) rfl (by kernel_rfl) (by kernel_rfl) (by kernel_rfl) (by kernel_rfl) (fun _ _ _ h => h) (Or.inl ⟨by rfl, ?h1t⟩) (by assumption) ?r1t
  case h1t => intro w hSw; (try dsimp only at hSw); go_simp; (try with_reducible rfl)
  try simp only [Act.put, List.setIfInBounds_toArray, List.set_cons_zero, List.set_cons_succ]
  refine wpAnyS_take (i := 2) (oi := ⟨some 35, _, _, _, _, _⟩) (v := ?v2t) rfl (by kernel_rfl) (by kernel_rfl) (by kernel_rfl) (by kernel_rfl) (fun _ _ _ h => h) (Or.inl ⟨by rfl, ?h2t⟩) (by assumption) ?r2t
  case h2t => intro w hSw; (try dsimp only at hSw); go_simp; (try with_reducible rfl)
  try simp only [Act.put, List.setIfInBounds_toArray, List.set_cons_zero, List.set_cons_succ]
  refine wpAnyS_take (i := 3) (oi := ⟨some 36, _, _, _, _, _⟩) (v := ?v3t) rfl (by kernel_rfl) (by kernel_rfl) (by kernel_rfl) (by kernel_rfl) (fun _ _ _ h => h) (Or.inl ⟨by rfl, ?h3t⟩) (by assumption) ?r3t
  case h3t => intro w hSw; (try dsimp only at hSw); have q9 := (Keeps.cell hSw (p := ⟨p, 9, none⟩) lp (fun h => h)).trans m9; go_simp; (try with_reducible rfl)
  try simp only [Act.put, List.setIfInBounds_toArray, List.set_cons_zero, List.set_cons_succ]
  refine wpAnyS_take (i := 4) (oi := ⟨some 37, _, _, _, _, _⟩) (v := ?v4t) rfl (by kernel_rfl) (by kernel_rfl) (by kernel_rfl) (by kernel_rfl) (fun _ _ _ h => h) (Or.inl ⟨by rfl, ?h4t⟩) (by assumption) ?r4t
  case h4t => intro w hSw; (try dsimp only at hSw); go_simp; (try with_reducible rfl)
  try simp only [Act.put, List.setIfInBounds_toArray, List.set_cons_zero, List.set_cons_succ]
  refine wpAnyS_take (i := 5) (oi := ⟨some 38, _, _, _, _, _⟩) (v := ?v5t) rfl (by kernel_rfl) (by kernel_rfl) (by kernel_rfl) (by kernel_rfl) (fun _ _ _ h => h) (Or.inl ⟨by rfl, ?h5t⟩) (by assumption) ?r5t
  case h5t => intro w hSw; (try dsimp only at hSw); have q3 := (Keeps.cell hSw (p := ⟨x + 1, 3, none⟩) lu (fun h => h)).trans u3; go_simp; (try with_reducible rfl)
  try simp only [Act.put, List.setIfInBounds_toArray, List.set_cons_zero, List.set_cons_succ]
  refine wpAnyS_one (i := 6) (o := ⟨some 39, _, _, _, _, _⟩) rfl (by kernel_rfl) (fun K hK => ?_)
  go_simp
  refine hK.out _ _ (fun _ => by (try dsimp only); exact HS5.out) ?_
  clear hK K
  try simp only [Act.put, List.setIfInBounds_toArray, List.set_cons_zero, List.set_cons_succ]
  refine wpAnyS_one (i := 7) (o := ⟨some 40, _, _, _, _, _⟩) rfl (by kernel_rfl) (fun K hK => ?_)
  go_simp
  refine hK.out _ _ (fun _ => by (try dsimp only); exact HS5.out) ?_
  clear hK K
  try simp only [Act.put, List.setIfInBounds_toArray, List.set_cons_zero, List.set_cons_succ]
  refine wpAnyS_take (i := 8) (oi := ⟨some 41, _, _, _, _, _⟩) (v := ?v8t) rfl (by kernel_rfl) (by kernel_rfl) (by kernel_rfl) (by kernel_rfl) (fun _ _ _ h => h) (Or.inl ⟨by rfl, ?h8t⟩) (by assumption) ?r8t
  case h8t => intro w hSw; (try dsimp only at hSw); go_simp; (try with_reducible rfl)
  try simp only [Act.put, List.setIfInBounds_toArray, List.set_cons_zero, List.set_cons_succ]
  refine wpAnyS_one (i := 9) (o := ⟨some 42, _, _, _, _, _⟩) rfl (by kernel_rfl) (fun K hK => ?_)
  go_simp
  refine hK.out _ _ (fun h => absurd h (by decide)) ?_
  clear hK K
  try simp only [Act.put, List.setIfInBounds_toArray, List.set_cons_zero, List.set_cons_succ]
  refine wpAnyS_one (i := 10) (o := ⟨some 43, _, _, _, _, _⟩) rfl (by kernel_rfl) (fun K hK => ?_)
  go_simp
  refine hK.out _ _ (fun h => absurd h (by decide)) ?_
  clear hK K
  try simp only [Act.put, List.setIfInBounds_toArray, List.set_cons_zero, List.set_cons_succ]
  refine wpAnyS_one (i := 11) (o := ⟨none, _, _, _, _, _⟩) rfl (by kernel_rfl) (fun K hK => ?_)
  go_simp
  refine hK.out _ _ (fun h => absurd h (by decide)) ?_
  clear hK K
  try simp only [Act.put, List.setIfInBounds_toArray, List.set_cons_zero, List.set_cons_succ]
  refine wpAnyS_done (by kernel_rfl) ?_ _
  go_upto_region 6 with fail
  clear m9 f9 lp u3 lu hcv hadd HS5 hlim
  generalize ((wn.setCell ⟨p, 9, none⟩ (.string ⟨(M.T ++ [yb]).toArray⟩)).alloc (.cells #[.int .u8 (yb.toNat : Int)] 5)).drew = w5 at HT5 ⊢
  have HN6 := hid (fun w0 => r9next_any M.st 1 w0 hst (by decide) (by decide))
  have hs6 := HT5.out.setS (nextS M.st 1)
  have m4 := hs6.1
  have f4 := hs6.2.1
  have lp := HT5.out.D.blk.lt
  have HS6 := hid hs6.2.2
  clear hs6
  dsimp only at m4
  go_upto_region 7 with (go_at_call 53; refine (HN6.out _).mono ?_; rintro z w6 ⟨rfl, rfl⟩)
  clear m4 f4 lp
  generalize w6.setCell ⟨p, 4, none⟩ (i6 (nextS M.st 1)) = w7 at HS6 ⊢
  obtain ⟨g, n, cap, sz, hb9, hE9⟩ := HS6.out.eb
  have r0 := hb9.cell 0
  have r1 := hb9.cell 1
  simp only [eArr, List.getElem?_toArray, List.getElem?_cons_succ, List.getElem?_cons_zero] at r0 r1
  have lx := hb9.lt
  obtain ⟨y0, y1, f0, f1, hQ⟩ := HS6.out.ans hb9 hE9
  have HL := hid hQ
  have l0 := hQ.c0
  have l1 := hQ.c1
  clear hQ hb9 hE9
  go_wp2_with fail
  refine bodyPost_ret (v := .agg (eArr g n cap sz)) (by simp [results, Tryz.results23, go_sem, l0, l1]) rfl ?_
  exact ⟨_, rfl, HL.out.E.mono (by omega), HL.out.D.mono (by omega), HL.out.S⟩
end Go.Proofs.YtalopgbkjgjppaaGreatDoor
