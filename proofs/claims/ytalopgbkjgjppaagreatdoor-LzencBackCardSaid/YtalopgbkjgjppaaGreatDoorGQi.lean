/- Part of a proof: Qi, Qj. -/
import Derived.Test.YtalopgbkjgjppaaGreatDoorGQg
import Derived.Test.YtalopgbkjgjppaaGreatDoorGQe
/- The document's model: what its functions hold in memory; its trees, its places. -/
namespace Go.Proofs.YtalopgbkjgjppaaGreatDoor
open Go.RowKit Go.Cas Go.Maps Go.Cas.Enc

abbrev eArr (g n cap sz : Nat) : Array Value := #[.slice (some ⟨g, 0, none⟩) n cap, v64 sz]

/-- In the midst of a function of the model: its encoder lies in block x, its answer will lie in block y. -/
structure QT (w V : World) (B : Nat → Prop) (p mb x y : Nat) (M : Mdl) (k : Nat) : Prop where
  eb : ∃ g n cap sz, Blk V x (eArr g n cap sz) 56 ∧ EN V (.agg (eArr g n cap sz)) k
  br : Blk V y #[.slice none 0 0, .int .u64 0] 56
  D : D10 V p mb M k
  S : Keeps B w V
  hx : w.heap.size ≤ x
  hy : w.heap.size ≤ y
  xy : x ≠ y
  px : p < w.heap.size
  mx : mb < w.heap.size
  hB : ∀ b, B b → b = p ∨ b = mb
  hm : B mb

theorem QT.start {w : World} {v : Value} {p mb : Nat} {M : Mdl} {k : Nat} (hD : D10 w p mb M k) (hE : EN w v k) : ∃ g n cap sz, v = .agg (eArr g n cap sz) ∧
    QT w ((w.alloc (.cells (eArr g n cap sz) 56)).alloc (.cells #[.slice none 0 0, .int .u64 0] 56)) (fun b => b = mb) p mb w.heap.size (w.heap.size + 1) M k := by
  have hE' := hE
  obtain ⟨n, sz, ⟨g, cap, bs, rfl, h1, h2⟩, h3⟩ := hE'
  have hs : Same w ((w.alloc (.cells (eArr g n cap sz) 56)).alloc (.cells #[.slice none 0 0, .int .u64 0] 56)) := ((Keeps.refl _ _).alloc _).alloc _
  exact ⟨g, n, cap, sz, rfl, ⟨g, n, cap, sz, (Blk.new _ _ _).alloc _, hE.same hs⟩, Blk.new_at (by simp), hD.keeps hs (fun h => h) (fun h => h), Keeps.of_same hs, Nat.le_refl _, by omega, by omega, hD.blk.lt, hD.lt, fun b h => .inr h, rfl⟩

theorem QT.same {w V V' : World} {B : Nat → Prop} {p mb x y : Nat} {M : Mdl} {k : Nat} (h : QT w V B p mb x y M k) (hs : Same V V') : QT w V' B p mb x y M k := by
  obtain ⟨g, n, cap, sz, e1, e2⟩ := h.eb
  exact ⟨⟨g, n, cap, sz, e1.keeps hs (fun h => h), e2.same hs⟩, h.br.keeps hs (fun h => h), h.D.keeps hs (fun h => h) (fun h => h), h.S.trans' hs (fun _ _ h => h.elim), h.hx, h.hy, h.xy, h.px, h.mx, h.hB, h.hm⟩

theorem QT.setx {w V V' : World} {B : Nat → Prop} {p mb x y : Nat} {M : Mdl} {k k' : Nat} {v : Value} (h : QT w V B p mb x y M k) (hE : EN V' v k') (hD : D10 V' p mb M k') (hK : Keeps (fun b => b = mb) V V') :
    ∃ g n cap sz, v = .agg (eArr g n cap sz) ∧ (∃ a0 a1, V'.cell? ⟨x, 0, none⟩ = some a0 ∧ V'.cell? ⟨x, 1, none⟩ = some a1) ∧ V'.frozen? ⟨x, 0, none⟩ = false ∧ V'.frozen? ⟨x, 1, none⟩ = false ∧
      QT w ((V'.setCell ⟨x, 0, none⟩ (.slice (some ⟨g, 0, none⟩) n cap)).setCell ⟨x, 1, none⟩ (v64 sz)) B p mb x y M k' := by
  have hE' := hE
  obtain ⟨n, sz, ⟨g, cap, bs, rfl, h1, h2, h3⟩, h4⟩ := hE'
  obtain ⟨g0, n0, cap0, sz0, e1, e2⟩ := h.eb
  have hx := h.hx
  have hy := h.hy
  have xy := h.xy
  have px := h.px
  have mx := h.mx
  have b1 := e1.keeps hK (by omega)
  have b2 := h.br.keeps hK (by omega)
  have hb' := (b1.set 0 (.slice (some ⟨g, 0, none⟩) n cap)).set 1 (v64 sz)
  simp only [List.setIfInBounds_toArray, List.set_cons_zero, List.set_cons_succ] at hb'
  have hK' : Keeps (fun b => b = x) V' ((V'.setCell ⟨x, 0, none⟩ (.slice (some ⟨g, 0, none⟩) n cap)).setCell ⟨x, 1, none⟩ (v64 sz)) := Keeps.setCell (p := ⟨x, 1, none⟩) (Keeps.setCell (p := ⟨x, 0, none⟩) (Keeps.refl (fun b => b = x) _) (fun _ => rfl) _) (fun _ => rfl) _
  have hg : g ≠ x := bys_ne h2 b1 (by decide)
  refine ⟨g, n, cap, sz, rfl, ⟨_, _, b1.cell 0, b1.cell 1⟩, b1.frozen 0, b1.frozen 1, ⟨g, n, cap, sz, hb', ?_⟩, b2.keeps hK' (by omega), hD.keeps hK' (by omega) (by omega), (h.S.trans' hK fun b _ e => by subst e; exact h.hm).trans' hK' (fun b hb e => by omega), hx, hy, xy, px, mx, h.hB, h.hm⟩
  exact ⟨n, sz, ⟨g, cap, bs, rfl, h1, h2.keeps hK' (fun b hb e => by simp [sblk] at hb; omega), h3⟩, h4⟩

/-- What a function of the model leaves. -/
structure QE (w V : World) (B : Nat → Prop) (p mb y : Nat) (M : Mdl) (k g n cap sz : Nat) : Prop where
  c0 : V.cell? ⟨y, 0, none⟩ = some (.slice (some ⟨g, 0, none⟩) n cap)
  c1 : V.cell? ⟨y, 1, none⟩ = some (v64 sz)
  E : EN V (.agg (eArr g n cap sz)) k
  D : D10 V p mb M k
  S : Keeps B w V

theorem QT.sety {w V V' : World} {B : Nat → Prop} {p mb x y : Nat} {M : Mdl} {k k' : Nat} {v : Value} (h : QT w V B p mb x y M k) (hE : EN V' v k') (hD : D10 V' p mb M k') (hK : Keeps (fun b => b = mb) V V') :
    ∃ g n cap sz, v = .agg (eArr g n cap sz) ∧ V'.cell? ⟨y, 0, none⟩ = some (.slice none 0 0) ∧ V'.cell? ⟨y, 1, none⟩ = some (.int .u64 0) ∧ V'.frozen? ⟨y, 0, none⟩ = false ∧ V'.frozen? ⟨y, 1, none⟩ = false ∧
      QE w ((V'.setCell ⟨y, 0, none⟩ (.slice (some ⟨g, 0, none⟩) n cap)).setCell ⟨y, 1, none⟩ (v64 sz)) B p mb y M k' g n cap sz := by
  have hE' := hE
  obtain ⟨n, sz, ⟨g, cap, bs, rfl, h1, h2, h3⟩, h4⟩ := hE'
  have hx := h.hx
  have hy := h.hy
  have xy := h.xy
  have px := h.px
  have mx := h.mx
  have b2 := h.br.keeps hK (by omega)
  have hb' := (b2.set 0 (.slice (some ⟨g, 0, none⟩) n cap)).set 1 (v64 sz)
  simp only [List.setIfInBounds_toArray, List.set_cons_zero, List.set_cons_succ] at hb'
  have hK' : Keeps (fun b => b = y) V' ((V'.setCell ⟨y, 0, none⟩ (.slice (some ⟨g, 0, none⟩) n cap)).setCell ⟨y, 1, none⟩ (v64 sz)) := Keeps.setCell (p := ⟨y, 1, none⟩) (Keeps.setCell (p := ⟨y, 0, none⟩) (Keeps.refl (fun b => b = y) _) (fun _ => rfl) _) (fun _ => rfl) _
  have hg : g ≠ y := bys_ne h2 b2 (by decide)
  refine ⟨g, n, cap, sz, rfl, b2.cell 0, b2.cell 1, b2.frozen 0, b2.frozen 1, by simpa using hb'.cell 0, by simpa using hb'.cell 1, ⟨n, sz, ⟨g, cap, bs, rfl, h1, h2.keeps hK' (fun b hb e => by simp [sblk] at hb; omega), h3⟩, h4⟩, hD.keeps hK' (by omega) (by omega), (h.S.trans' hK fun b _ e => by subst e; exact h.hm).trans' hK' (fun b hb e => by omega)⟩

set_option maxHeartbeats 2000000 in
set_option maxRecDepth 100000 in
theorem r10place_any (p mb : Nat) (M : Mdl) (k : Nat) (w : World) (hD : D10 w p mb M k) (hpb : M.pb ≤ 4) (hT : M.T.length ≤ 1000000) :
    Calls Tryz.prog 51 #[.pointer (some ⟨p, 0, none⟩)] w fun z w' => (∃ r : Nat, z = .returned (i6 r) ∧ r < 16) ∧ Same w w' := by
  have c2 := hD.blk.cell 2
  have c9 := hD.blk.cell 9
  have hl := hD.blk.lt
  simp only [Mdl.cells, List.getElem?_toArray, List.getElem?_cons_succ, List.getElem?_cons_zero] at c2 c9
  obtain ⟨n, hn⟩ : ∃ n, M.T.length = n := ⟨_, rfl⟩
  obtain ⟨P, hP⟩ : ∃ P, 2 ^ M.pb = P := ⟨_, rfl⟩
  have HPw := hid (fun w0 => r10power_any M.pb w0 (by omega))
  rw [hP] at HPw
  have hP2 : P ≤ 16 := by rw [← hP]; exact Nat.le_trans (Nat.pow_le_pow_right (by decide) hpb) (by decide)
  have hP0 : 0 < P := by rw [← hP]; exact Nat.pow_pos (by decide)
  have hbs : (⟨M.T.toArray⟩ : ByteArray).size = n := by rw [← hn]; rfl
  obtain ⟨r, hr⟩ : ∃ r, n % P = r := ⟨_, rfl⟩
  have hr2 : r < 16 := by rw [← hr]; exact Nat.lt_of_lt_of_le (Nat.mod_lt _ hP0) hP2
  have t0 : ((P : Int) == 0) = false := by simp; omega
  have f1 : (n : Int) % (P : Int) = (r : Int) := by rw [← hr]; rfl
  have f1' : Int.tmod (n : Int) (P : Int) = (r : Int) := by rw [Int.tmod_eq_emod_of_nonneg (by omega)]; exact f1
  have f2 : IntKind.i64.wrap (r : Int) = (r : Int) := IntWalk.i64_in _ (by omega)
  have f3 : wrap64 (r : Int) = (r : Int) := IntWalk.wrap64_in _ (by omega)
  clear hP hn hr hP2 hpb hT hD
  go_enter Tryz.func51, Tryz.ntmps51
  go_wp2_with fail
  go_quiet ((go_at_call 79; exact Calls.quiet_of_same ((HPw.out _).mono fun e w' h => ⟨h.1, h.2⟩)))
  go_wp2_with fail
  go_ret
  exact ⟨⟨r, rfl, hr2⟩, (Keeps.refl _ _).drewN _⟩
end Go.Proofs.YtalopgbkjgjppaaGreatDoor

/- The document's model: its trees. -/
namespace Go.Proofs.YtalopgbkjgjppaaGreatDoor
open Go.RowKit Go.Cas Go.Maps Go.Cas.Enc

theorem tmod2 (y : Int) : -1 ≤ y.tmod 2 ∧ y.tmod 2 ≤ 1 := by
  rcases Int.le_total 0 y with h | h
  · rw [Int.tmod_eq_emod_of_nonneg h]; omega
  · have := Int.neg_tmod y 2
    rw [Int.tmod_eq_emod_of_nonneg (by omega : 0 ≤ -y)] at this
    omega

set_option maxHeartbeats 4000000 in
set_option maxRecDepth 100000 in
theorem r10tree_any (p mb : Nat) (M : Mdl) (k : Nat) (v : Value) (a b bits : Nat) (V : Int) (back : Bool) (w : World) (hD : D10 w p mb M k) (hE : EN w v k) (hk : k + bits ≤ 200000) (ha : a < 1000000000) (hb : b < 1000000000) (hbits : bits ≤ 20)
    (hV0 : -9223372036854775808 ≤ V) (hV1 : V < 9223372036854775808) :
    Calls Tryz.prog 80 #[.pointer (some ⟨p, 0, none⟩), v, i6 a, i6 b, i6 bits, i6 V, .bool back] w fun z w' => ∃ v', z = .returned v' ∧ EN w' v' (k + bits) ∧ D10 w' p mb M (k + bits) ∧ Keeps (fun b => b = mb) w w' := by
  obtain ⟨g, n, cap, sz, rfl, hQ⟩ := QT.start hD hE
  have HPw := hid (fun (n : Nat) (w0 : World) (hn : n ≤ 40) => r10power_any n w0 hn)
  have HBi := hid (fun (k : Nat) (v : Value) (c : Nat) (x1 : Int) (w : World) (hD : D10 w p mb M k) (hE : EN w v k) (hk : k ≤ 200000) (hc : c < 1000000000) => r10bit_any p mb M k v a b c 0 x1 w hD hE hk ha hb hc (by decide))
  clear hD hE ha hb
  go_enter Tryz.func80, Tryz.ntmps80
  go_upto_region 1 with fail
  generalize (w.alloc (.cells (eArr g n cap sz) 56)).alloc (.cells #[.slice none 0 0, .int .u64 0] 56) = w1 at hQ ⊢
  obtain ⟨x, hx⟩ : ∃ x, w.heap.size = x := ⟨_, rfl⟩
  rw [hx] at hQ ⊢
  have HQ := hid hQ
  clear hQ hx
  go_wp2_with fail
  go_loopw [15, 16] (fun s15 s16 wr => ∃ (A i : Nat), s15 = i6 A ∧ s16 = i6 i ∧ i ≤ bits ∧ 1 ≤ A ∧ A < 2 ^ (i + 1) ∧ QT w wr (fun b => b = mb) p mb x (x + 1) M (k + i)) (fun _ s16 _ => bits - (intOf s16).toNat)
  case atStart => exact ⟨1, 0, rfl, rfl, Nat.zero_le _, Nat.le_refl _, by decide, HQ.out⟩
  case round =>
    obtain ⟨A, i, rfl, rfl, hi, hA1, hA2, hQ⟩ := hrel
    by_cases he : i = bits
    · subst he
      have d0 : decide ((i : Int) < (i : Int)) = false := by simp
      obtain ⟨g1, n1, c1, z1, hb1, hE1⟩ := hQ.eb
      have r0 := hb1.cell 0
      have r1 := hb1.cell 1
      simp only [List.getElem?_toArray, List.getElem?_cons_succ, List.getElem?_cons_zero] at r0 r1
      obtain ⟨g2, n2, c2, z2, e2, y0, y1, f0, f1, hQE⟩ := hQ.sety hE1 hQ.D (Keeps.refl _ _)
      simp only [eArr, Value.agg.injEq, Array.mk.injEq, List.cons.injEq, Value.slice.injEq, Option.some.injEq, Addr.mk.injEq, Value.int.injEq, and_true, true_and, Int.natCast_inj] at e2
      obtain ⟨⟨rfl, rfl, rfl⟩, rfl⟩ := e2
      have HE := hid hQE
      have l0 := hQE.c0
      have l1 := hQE.c1
      clear hQE hQ hA2 hE1 hb1
      go_wp2_with fail
      refine bodyPost_ret (v := .agg (eArr g1 n1 c1 z1)) (by simp [results, Tryz.results80, go_sem, l0, l1]) rfl ?_
      exact ⟨_, rfl, HE.out.E, HE.out.D, HE.out.S⟩
    · have hlt : i < bits := by omega
      have d0 : decide ((i : Int) < (bits : Int)) = true := by simpa using hlt
      obtain ⟨j, hj, hj', hj2⟩ : ∃ j : Nat, (back = false → (bits : Int) - 1 - i = j) ∧ (back = true → i = j) ∧ j ≤ 40 := by
        cases back
        · exact ⟨bits - 1 - i, by omega, by simp, by omega⟩
        · exact ⟨i, by simp, by simp, by omega⟩
      have hb1 : (bits : Int) - 1 ≤ 20 := by omega
      obtain ⟨P, hP⟩ : ∃ P, 2 ^ j = P := ⟨_, rfl⟩
      have HP := hid (fun w0 => HPw.out j w0 hj2)
      rw [hP] at HP
      have hP0 : 0 < P := by rw [← hP]; exact Nat.pow_pos (by decide)
      have t0 : ((P : Int) == 0) = false := by simp; omega
      obtain ⟨X, hX⟩ : ∃ X, (V.tdiv P).tmod 2 = X := ⟨_, rfl⟩
      have hX2 : -1 ≤ X ∧ X ≤ 1 := hX ▸ tmod2 _
      have hA3 : A < 2097152 := by
        have h21 : i + 1 ≤ 21 := by omega
        have := Nat.pow_le_pow_right (n := 2) (by decide) h21
        exact Nat.lt_of_lt_of_le hA2 (Nat.le_trans this (by decide))
      obtain ⟨A', hA'⟩ : ∃ A' : Nat, 2 * (A : Int) + X = A' := ⟨(2 * (A : Int) + X).toNat, by omega⟩
      have HA' := hid (show 1 ≤ A' ∧ A' < 2 ^ (i + 1 + 1) by rw [Nat.pow_succ]; omega)
      have hX3 := hX2.1
      have hX4 := hX2.2
      have hA4 : A' < 5000000 := by omega
      have w1_ : IntKind.i64.wrap (2 * (A : Int)) = 2 * (A : Int) := IntWalk.i64_in _ (by omega)
      have w2_ : IntKind.i64.wrap (A' : Int) = (A' : Int) := IntWalk.i64_in _ (by omega)
      have w3_ : IntKind.i64.wrap ((i : Int) + 1) = (i : Int) + 1 := IntWalk.i64_in _ (by omega)
      have HK := hid (show k + i ≤ 200000 by omega)
      have HA3 := hid (show A < 1000000000 by omega)
      clear hP hA2 hX2
      obtain ⟨g1, n1, c1, z1, hb1', hE1⟩ := hQ.eb
      have r0 := hb1'.cell 0
      have r1 := hb1'.cell 1
      simp only [List.getElem?_toArray, List.getElem?_cons_succ, List.getElem?_cons_zero] at r0 r1
      have HE1 := hid (And.intro hE1 hQ)
      clear hE1 hQ hb1'
      cases back
      · have hj1 := hj rfl
        clear hj hj'
        go_wp2_with fail
        refine (HP.out _).mono ?_
        rintro z w2 ⟨rfl, rfl⟩
        go_wp2_with fail
        refine (HBi.out (k + i) _ A X _ HE1.out.2.D HE1.out.1 HK.out HA3.out).mono ?_
        rintro z w3 ⟨v3, rfl, hE3, hD3, hK3⟩
        obtain ⟨g3, n3, c3, z3, rfl, ⟨a0, a1, y0, y1⟩, f0, f1, hQ3⟩ := HE1.out.2.setx hE3 hD3 hK3
        have HQ3 := hid hQ3
        clear hQ3 hE3 hD3 hK3 r0 r1
        go_wp2_with fail
        exact ⟨⟨A', i + 1, rfl, by go_num, Nat.succ_le_of_lt hlt, HA'.out.1, HA'.out.2, HQ3.out⟩, meas_step hlt⟩
      · have hj1 := hj' rfl
        clear hj hj'
        subst hj1
        go_wp2_with fail
        refine (HP.out _).mono ?_
        rintro z w2 ⟨rfl, rfl⟩
        go_wp2_with fail
        refine (HBi.out (k + i) _ A X _ HE1.out.2.D HE1.out.1 HK.out HA3.out).mono ?_
        rintro z w3 ⟨v3, rfl, hE3, hD3, hK3⟩
        obtain ⟨g3, n3, c3, z3, rfl, ⟨a0, a1, y0, y1⟩, f0, f1, hQ3⟩ := HE1.out.2.setx hE3 hD3 hK3
        have HQ3 := hid hQ3
        clear hQ3 hE3 hD3 hK3 r0 r1
        go_wp2_with fail
        exact ⟨⟨A', i + 1, rfl, by go_num, Nat.succ_le_of_lt hlt, HA'.out.1, HA'.out.2, HQ3.out⟩, meas_step hlt⟩
end Go.Proofs.YtalopgbkjgjppaaGreatDoor
