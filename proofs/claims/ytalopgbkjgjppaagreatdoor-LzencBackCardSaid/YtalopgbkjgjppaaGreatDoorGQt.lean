/- Part of a proof: Qt, Qu. -/
import Derived.Test.YtalopgbkjgjppaaGreatDoorQm
import Derived.Test.YtalopgbkjgjppaaGreatDoorEn
import Derived.Test.YtalopgbkjgjppaaGreatDoorGSy
import Derived.Test.YtalopgbkjgjppaaGreatDoorGGt
/- Law 11's Params; law 12's speaks. -/
namespace Go.Proofs.YtalopgbkjgjppaaGreatDoor
open Go.RowKit Go.Cas Go.Cas.Enc

set_option maxHeartbeats 4000000 in
set_option maxRecDepth 100000 in
theorem r11params_any (x0 x1 x2 : UInt8) (w : World) :
    ∃ lc lp pb : Nat, lc + lp ≤ 4 ∧ pb ≤ 4 ∧ Calls Tryz.prog 6 #[.agg #[b8 x0, b8 x1, b8 x2]] w fun z w' => z = .returned (.agg #[i6 lc, i6 lp, i6 pb]) ∧ Same w w' := by
  obtain ⟨n0, hn0⟩ : ∃ n, x0.toNat = n := ⟨_, rfl⟩
  obtain ⟨n1, hn1⟩ : ∃ n, x1.toNat = n := ⟨_, rfl⟩
  obtain ⟨n2, hn2⟩ : ∃ n, x2.toNat = n := ⟨_, rfl⟩
  have l0 : n0 < 256 := by rw [← hn0]; exact x0.toNat_lt
  have l1 : n1 < 256 := by rw [← hn1]; exact x1.toNat_lt
  have l2 : n2 < 256 := by rw [← hn2]; exact x2.toNat_lt
  obtain ⟨lc, hlc⟩ : ∃ n, n0 % 5 = n := ⟨_, rfl⟩
  obtain ⟨pb, hpb⟩ : ∃ n, n2 % 5 = n := ⟨_, rfl⟩
  have c4 : lc < 5 := by omega
  have p4 : pb < 5 := by omega
  obtain ⟨m, hm, hm0⟩ : ∃ m : Nat, (5 : Int) - (lc : Int) = (m : Int) ∧ m = 5 - lc := ⟨5 - lc, by omega, rfl⟩
  obtain ⟨lp, hlp⟩ : ∃ n, n1 % m = n := ⟨_, rfl⟩
  have b4 : lp < m := by rw [← hlp]; exact Nat.mod_lt _ (by omega)
  have b5 : lc + lp ≤ 4 := by omega
  refine ⟨lc, lp, pb, b5, by omega, ?_⟩
  have e0 : Int.tmod (n0 : Int) 5 = (lc : Int) := by rw [show (5 : Int) = ((5 : Nat) : Int) from rfl, tmodN, hlc]
  have e0' : (n0 : Int) % 5 = (lc : Int) := by omega
  have e2 : Int.tmod (n2 : Int) 5 = (pb : Int) := by rw [show (5 : Int) = ((5 : Nat) : Int) from rfl, tmodN, hpb]
  have e2' : (n2 : Int) % 5 = (pb : Int) := by omega
  have e1 : Int.tmod (n1 : Int) (m : Int) = (lp : Int) := by rw [tmodN, hlp]
  have w0 : IntKind.i64.wrap (lc : Int) = (lc : Int) := wrN (by omega)
  have w1 : IntKind.i64.wrap (lp : Int) = (lp : Int) := wrN (by omega)
  have w2 : IntKind.i64.wrap (pb : Int) = (pb : Int) := wrN (by omega)
  have w3 : IntKind.i64.wrap (n1 : Int) = (n1 : Int) := wrN (by omega)
  have w4 : IntKind.i64.wrap (m : Int) = (m : Int) := wrN (by omega)
  have v0 : IntKind.u8.wrap (lc : Int) = (lc : Int) := by simp [IntKind.wrap, IntKind.bits, IntKind.signed]; omega
  have v2 : IntKind.u8.wrap (pb : Int) = (pb : Int) := by simp [IntKind.wrap, IntKind.bits, IntKind.signed]; omega
  have t1 : ((m : Int) == 0) = false := by simp; omega
  have t1' : ¬ m = 0 := by omega
  have g0 : b8 x0 = .int .u8 (n0 : Int) := by rw [← hn0]
  have g1 : b8 x1 = .int .u8 (n1 : Int) := by rw [← hn1]
  have g2 : b8 x2 = .int .u8 (n2 : Int) := by rw [← hn2]
  rw [g0, g1, g2]
  clear hlc hpb hlp b4 b5 hm0 g0 g1 g2 hn0 hn1 hn2 c4 p4
  go_enter Tryz.func6, Tryz.ntmps6
  go_upto_region 1 with fail
  have hb0 : Blk ((w.alloc (.cells #[.int .u8 (n0 : Int), .int .u8 (n1 : Int), .int .u8 (n2 : Int)] 22)).alloc (.cells #[i6 0, i6 0, i6 0] 26)) w.heap.size #[.int .u8 (n0 : Int), .int .u8 (n1 : Int), .int .u8 (n2 : Int)] 22 := (Blk.new _ _ _).alloc _
  have hb1 : Blk ((w.alloc (.cells #[.int .u8 (n0 : Int), .int .u8 (n1 : Int), .int .u8 (n2 : Int)] 22)).alloc (.cells #[i6 0, i6 0, i6 0] 26)) (w.heap.size + 1) #[i6 0, i6 0, i6 0] 26 := Blk.new_at (by simp)
  have hs : Same w ((w.alloc (.cells #[.int .u8 (n0 : Int), .int .u8 (n1 : Int), .int .u8 (n2 : Int)] 22)).alloc (.cells #[i6 0, i6 0, i6 0] 26)) := ((Keeps.refl _ _).alloc _).alloc _
  generalize (w.alloc (.cells #[.int .u8 (n0 : Int), .int .u8 (n1 : Int), .int .u8 (n2 : Int)] 22)).alloc (.cells #[i6 0, i6 0, i6 0] 26) = wa at hb0 hb1 hs ⊢
  obtain ⟨x, hx⟩ : ∃ x, w.heap.size = x := ⟨_, rfl⟩
  rw [hx] at hb0 hb1 ⊢
  have y0 := hb0.cell 0
  have y1 := hb0.cell 1
  have y2 := hb0.cell 2
  have z0 := hb1.cell 0
  have z1 := hb1.cell 1
  have z2 := hb1.cell 2
  have f0 := hb1.frozen 0
  have f1 := hb1.frozen 1
  have f2 := hb1.frozen 2
  simp only [List.getElem?_toArray, List.getElem?_cons_succ, List.getElem?_cons_zero] at y0 y1 y2 z0 z1 z2
  have lx := hb0.lt
  have ly := hb1.lt
  have HB := hid (And.intro hb1 (And.intro hs hx))
  clear hb0 hb1 hs hx
  go_upto_region 2 with fail
  refine wp_region_S (S := (fun V => Same wa V)) 12 (by kernel_rfl) (by (try dsimp only); exact (Keeps.refl _ _).drew) (fun hHeld => ?_)
  refine wpAnyS_take (i := 0) (oi := ⟨some 8, _, _, _, _, _⟩) (v := ?v0r2) rfl (by kernel_rfl) (by kernel_rfl) (by kernel_rfl) (by kernel_rfl) (fun _ _ _ h => h) (Or.inl ⟨by rfl, ?h0r2⟩) (by assumption) ?r0r2
  case h0r2 => intro w hSw; (try dsimp only at hSw); go_simp; (try with_reducible rfl)
  try simp only [Act.put, List.setIfInBounds_toArray, List.set_cons_zero, List.set_cons_succ]
  refine wpAnyS_take (i := 1) (oi := ⟨some 9, _, _, _, _, _⟩) (v := ?v1r2) rfl (by kernel_rfl) (by kernel_rfl) (by kernel_rfl) (by kernel_rfl) (fun _ _ _ h => h) (Or.inl ⟨by rfl, ?h1r2⟩) (by assumption) ?r1r2
  case h1r2 => intro w hSw; (try dsimp only at hSw); go_simp; (try with_reducible rfl)
  try simp only [Act.put, List.setIfInBounds_toArray, List.set_cons_zero, List.set_cons_succ]
  refine wpAnyS_take (i := 2) (oi := ⟨some 10, _, _, _, _, _⟩) (v := ?v2r2) rfl (by kernel_rfl) (by kernel_rfl) (by kernel_rfl) (by kernel_rfl) (fun _ _ _ h => h) (Or.inl ⟨by rfl, ?h2r2⟩) (by assumption) ?r2r2
  case h2r2 => intro w hSw; (try dsimp only at hSw); have q1 := (Keeps.cell hSw (p := ⟨x, 1, none⟩) lx (fun h => h)).trans y1; go_simp; (try with_reducible rfl)
  try simp only [Act.put, List.setIfInBounds_toArray, List.set_cons_zero, List.set_cons_succ]
  refine wpAnyS_take (i := 3) (oi := ⟨some 11, _, _, _, _, _⟩) (v := ?v3r2) rfl (by kernel_rfl) (by kernel_rfl) (by kernel_rfl) (by kernel_rfl) (fun _ _ _ h => h) (Or.inl ⟨by rfl, ?h3r2⟩) (by assumption) ?r3r2
  case h3r2 => intro w hSw; (try dsimp only at hSw); go_simp; (try with_reducible rfl)
  try simp only [Act.put, List.setIfInBounds_toArray, List.set_cons_zero, List.set_cons_succ]
  refine wpAnyS_take (i := 4) (oi := ⟨some 12, _, _, _, _, _⟩) (v := ?v4r2) rfl (by kernel_rfl) (by kernel_rfl) (by kernel_rfl) (by kernel_rfl) (fun _ _ _ h => h) (Or.inl ⟨by rfl, ?h4r2⟩) (by assumption) ?r4r2
  case h4r2 => intro w hSw; (try dsimp only at hSw); go_simp; (try with_reducible rfl)
  try simp only [Act.put, List.setIfInBounds_toArray, List.set_cons_zero, List.set_cons_succ]
  refine wpAnyS_take (i := 5) (oi := ⟨some 13, _, _, _, _, _⟩) (v := ?v5r2) rfl (by kernel_rfl) (by kernel_rfl) (by kernel_rfl) (by kernel_rfl) (fun _ _ _ h => h) (Or.inl ⟨by rfl, ?h5r2⟩) (by assumption) ?r5r2
  case h5r2 => intro w hSw; (try dsimp only at hSw); go_simp; (try with_reducible rfl)
  try simp only [Act.put, List.setIfInBounds_toArray, List.set_cons_zero, List.set_cons_succ]
  refine wpAnyS_take (i := 6) (oi := ⟨some 14, _, _, _, _, _⟩) (v := ?v6r2) rfl (by kernel_rfl) (by kernel_rfl) (by kernel_rfl) (by kernel_rfl) (fun _ _ _ h => h) (Or.inl ⟨by rfl, ?h6r2⟩) (by assumption) ?r6r2
  case h6r2 => intro w hSw; (try dsimp only at hSw); go_simp; (try with_reducible rfl)
  try simp only [Act.put, List.setIfInBounds_toArray, List.set_cons_zero, List.set_cons_succ]
  refine wpAnyS_take (i := 7) (oi := ⟨some 15, _, _, _, _, _⟩) (v := ?v7r2) rfl (by kernel_rfl) (by kernel_rfl) (by kernel_rfl) (by kernel_rfl) (fun _ _ _ h => h) (Or.inl ⟨by rfl, ?h7r2⟩) (by assumption) ?r7r2
  case h7r2 => intro w hSw; (try dsimp only at hSw); go_simp; (try with_reducible rfl)
  try simp only [Act.put, List.setIfInBounds_toArray, List.set_cons_zero, List.set_cons_succ]
  refine wpAnyS_take (i := 8) (oi := ⟨some 16, _, _, _, _, _⟩) (v := ?v8r2) rfl (by kernel_rfl) (by kernel_rfl) (by kernel_rfl) (by kernel_rfl) (fun _ _ _ h => h) (Or.inl ⟨by rfl, ?h8r2⟩) (by assumption) ?r8r2
  case h8r2 => intro w hSw; (try dsimp only at hSw); have q2 := (Keeps.cell hSw (p := ⟨x, 2, none⟩) lx (fun h => h)).trans y2; go_simp; (try with_reducible rfl)
  try simp only [Act.put, List.setIfInBounds_toArray, List.set_cons_zero, List.set_cons_succ]
  refine wpAnyS_take (i := 9) (oi := ⟨some 17, _, _, _, _, _⟩) (v := ?v9r2) rfl (by kernel_rfl) (by kernel_rfl) (by kernel_rfl) (by kernel_rfl) (fun _ _ _ h => h) (Or.inl ⟨by rfl, ?h9r2⟩) (by assumption) ?r9r2
  case h9r2 => intro w hSw; (try dsimp only at hSw); go_simp; (try with_reducible rfl)
  try simp only [Act.put, List.setIfInBounds_toArray, List.set_cons_zero, List.set_cons_succ]
  refine wpAnyS_take (i := 10) (oi := ⟨some 18, _, _, _, _, _⟩) (v := ?v10r2) rfl (by kernel_rfl) (by kernel_rfl) (by kernel_rfl) (by kernel_rfl) (fun _ _ _ h => h) (Or.inl ⟨by rfl, ?h10r2⟩) (by assumption) ?r10r2
  case h10r2 => intro w hSw; (try dsimp only at hSw); go_simp; (try with_reducible rfl)
  try simp only [Act.put, List.setIfInBounds_toArray, List.set_cons_zero, List.set_cons_succ]
  refine wpAnyS_take (i := 11) (oi := ⟨some 19, _, _, _, _, _⟩) (v := ?v11r2) rfl (by kernel_rfl) (by kernel_rfl) (by kernel_rfl) (by kernel_rfl) (fun _ _ _ h => h) (Or.inl ⟨by rfl, ?h11r2⟩) (by assumption) ?r11r2
  case h11r2 => intro w hSw; (try dsimp only at hSw); go_simp; (try with_reducible rfl)
  try simp only [Act.put, List.setIfInBounds_toArray, List.set_cons_zero, List.set_cons_succ]
  refine wpAnyS_one (i := 12) (o := ⟨none, _, _, _, _, _⟩) rfl (by kernel_rfl) (fun K hK => ?_)
  go_simp
  refine hK.out _ _ (fun h => absurd h (by decide)) ?_
  clear hK K
  try simp only [Act.put, List.setIfInBounds_toArray, List.set_cons_zero, List.set_cons_succ]
  refine wpAnyS_done (by kernel_rfl) ?_ _
  have hbE := ((HB.out.1.set 0 (i6 lc)).set 1 (i6 lp)).set 2 (i6 pb)
  simp only [List.setIfInBounds_toArray, List.set_cons_zero, List.set_cons_succ] at hbE
  have k0 := hbE.cell 0
  have k1 := hbE.cell 1
  have k2 := hbE.cell 2
  simp only [List.getElem?_toArray, List.getElem?_cons_succ, List.getElem?_cons_zero] at k0 k1 k2
  have hKE : Keeps (fun b => b = x + 1) wa (((wa.setCell ⟨x + 1, 0, none⟩ (i6 lc)).setCell ⟨x + 1, 1, none⟩ (i6 lp)).setCell ⟨x + 1, 2, none⟩ (i6 pb)) := Keeps.setCell (p := ⟨x + 1, 2, none⟩) (Keeps.setCell (p := ⟨x + 1, 1, none⟩) (Keeps.setCell (p := ⟨x + 1, 0, none⟩) (Keeps.refl (fun b => b = x + 1) _) (fun _ => rfl) _) (fun _ => rfl) _) (fun _ => rfl) _
  have HE := hid (HB.out.2.1.trans' hKE (fun b hb e => by have := HB.out.2.2; omega))
  clear hbE hKE
  go_wp2_with fail
  refine bodyPost_ret (v := .agg #[i6 lc, i6 lp, i6 pb]) (by simp [results, Tryz.results6, go_sem, k0, k1, k2]) rfl ?_
  exact ⟨rfl, HE.out.trans (by first | exact Keeps.refl _ _ | exact (Keeps.refl _ _).drew)⟩
end Go.Proofs.YtalopgbkjgjppaaGreatDoor

/- Law 12's speaks. -/
namespace Go.Proofs.YtalopgbkjgjppaaGreatDoor
open Go.RowKit Go.Cas Go.Cas.Enc

set_option maxHeartbeats 2000000 in
set_option maxRecDepth 100000 in
theorem good_bad (w : World) : Calls Tryz.prog 29 #[.agg #[i6 3, i6 2, i6 0]] w fun z w' => z = .returned (.bool false) ∧ Same w w' := by
  have hs : Same w (w.alloc (.cells #[i6 3, i6 2, i6 0] 26)) := (Keeps.refl _ _).alloc _
  have HS := hid hs
  clear hs
  go_enter Tryz.func29, Tryz.ntmps29
  go_wp2_with fail
  go_ret
  exact ⟨rfl, HS.out⟩

set_option maxHeartbeats 2000000 in
set_option maxRecDepth 100000 in
theorem encode_bad (w : World) : Calls Tryz.prog 9 #[.slice none 0 0, .agg #[i6 3, i6 2, i6 0], .bool false] w fun z w' => z = .returned (.tuple #[.string ⟨#[]⟩, i6 1]) ∧ Same w w' := by
  go_enter Tryz.func9, Tryz.ntmps9
  go_upto_region 1 with fail
  have hs : Same w (w.alloc (.cells #[i6 3, i6 2, i6 0] 26)) := (Keeps.refl _ _).alloc _
  have hb : Blk (w.alloc (.cells #[i6 3, i6 2, i6 0] 26)) w.heap.size #[i6 3, i6 2, i6 0] 26 := Blk.new _ _ _
  generalize w.alloc (.cells #[i6 3, i6 2, i6 0] 26) = wa at hs hb ⊢
  generalize w.heap.size = B at hb ⊢
  have a0 := hb.cell 0
  have a1 := hb.cell 1
  have a2 := hb.cell 2
  simp only [List.getElem?_toArray, List.getElem?_cons_zero, List.getElem?_cons_succ] at a0 a1 a2
  have HS := hid hs
  clear hs hb
  go_wp2_with fail
  refine (good_bad _).mono ?_
  rintro z w1 ⟨rfl, hs1⟩
  go_wp2_with fail
  go_ret2
  exact ⟨rfl, HS.out.trans hs1⟩

theorem bytes_zero (lc : Nat) : bytesL (Lay.of lc 0 0 16777216) [] false = [0, 0, 0, 0, 0] := by kernel_rfl

theorem encode_zero (lc : Nat) (w : World) (hb : Behind w) (h : lc ≤ 4) : Calls Tryz.prog 9 #[.slice none 0 0, .agg #[i6 lc, i6 0, i6 0], .bool false] w fun z w' => z = .returned (.tuple #[.string ⟨#[0, 0, 0, 0, 0]⟩, i6 0]) ∧ Same w w' := by
  have := encode_any none 0 [] lc 0 0 false w ⟨World.ownsRow_nil _ _ _ _⟩ hb (by omega) (by omega) trivial (by simp)
  rw [bytes_zero] at this
  exact this

set_option maxHeartbeats 2000000 in
set_option maxRecDepth 100000 in
theorem upto_zero (w : World) (hb : Behind w) : Calls Tryz.prog 19 #[.slice none 0 0, .agg #[i6 0, i6 0, i6 0], i6 6] w fun z w' => z = .returned (.tuple #[.string ⟨#[0, 0, 0, 0, 0]⟩, .bool true]) ∧ Same w w' := by
  have HEn := hid (fun w0 (h : Behind w0) => encode_zero 0 w0 h (by decide))
  have HBh := hid hb
  clear hb
  go_enter Tryz.func19, Tryz.ntmps19
  go_upto_region 1 with fail
  have hs : Same w (w.alloc (.cells #[i6 0, i6 0, i6 0] 26)) := (Keeps.refl _ _).alloc _
  have hb : Blk (w.alloc (.cells #[i6 0, i6 0, i6 0] 26)) w.heap.size #[i6 0, i6 0, i6 0] 26 := Blk.new _ _ _
  generalize w.alloc (.cells #[i6 0, i6 0, i6 0] 26) = wa at hs hb ⊢
  generalize w.heap.size = B at hb ⊢
  have a0 := hb.cell 0
  have a1 := hb.cell 1
  have a2 := hb.cell 2
  simp only [List.getElem?_toArray, List.getElem?_cons_zero, List.getElem?_cons_succ] at a0 a1 a2
  have HS := hid hs
  clear hs hb
  go_wp2_with fail
  refine (HEn.out _ (HBh.out.keeps HS.out (fun h => h))).mono ?_
  rintro z w1 ⟨rfl, hs1⟩
  go_wp2_with fail
  go_ret2
  exact ⟨rfl, HS.out.trans hs1⟩

set_option maxHeartbeats 4000000 in
set_option maxRecDepth 100000 in
theorem speaks12_any (w : World) (hb : Behind w) : Calls Tryz.prog 5 #[] w fun z w' => z = .returned (.bool true) ∧ Same w w' := by
  have HEn := hid (fun w0 (h : Behind w0) => encode_zero 3 w0 h (by decide))
  have HUp := hid (fun w0 (h : Behind w0) => upto_zero w0 h)
  have HBh := hid hb
  clear hb
  go_enter Tryz.func5, Tryz.ntmps5
  go_wp2_with fail
  refine (HEn.out _ HBh.out).mono ?_
  rintro z w1 ⟨rfl, hs1⟩
  have HS1 := hid hs1
  clear hs1
  go_wp2_with fail
  refine (encode_bad _).mono ?_
  rintro z w2 ⟨rfl, hs2⟩
  have HS2 := hid (HS1.out.trans hs2)
  clear hs2
  go_wp2_with fail
  refine (HUp.out _ (HBh.out.keeps HS2.out (fun h => h))).mono ?_
  rintro z w3 ⟨rfl, hs3⟩
  have HS3 := hid (HS2.out.trans hs3)
  clear hs3
  go_wp2_with fail
  go_ret
  exact ⟨rfl, HS3.out⟩
end Go.Proofs.YtalopgbkjgjppaaGreatDoor
