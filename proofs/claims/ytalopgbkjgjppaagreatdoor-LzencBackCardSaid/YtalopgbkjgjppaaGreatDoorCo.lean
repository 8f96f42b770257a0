/- The walk of model's code. -/
import Derived.Test.YtalopgbkjgjppaaGreatDoorAg
namespace Go.Proofs.YtalopgbkjgjppaaGreatDoor
open Go.RowKit Go.Cas Go.Cas.Enc

theorem Coded.turn {w w0 w' : World} {L : Lay} {S : MSt} {P : Prb} {q : Option Addr} {cap x b : Nat} {C : Cdr} {F : Nat → Prop} {s : CSt} {cs : Array Value} {t : TypeId} (h : MC w L S P q cap x C F) (hc : Coded w0 w' L S q cap x F s) (h0 : Blk w0 b cs t) (hge : w.heap.size ≤ b) (i : Nat) (v : Value) :
    Coded (w0.setCell ⟨b, i, none⟩ v) (w'.setCell ⟨b, i, none⟩ v) L S q cap x F s := by
  have h8 := hc.blk h h0 hge
  obtain ⟨F', hM, hK, hG⟩ := hc
  have k1 : Keeps (fun k => k = b) w0 (w0.setCell ⟨b, i, none⟩ v) := Keeps.setCell (p := ⟨b, i, none⟩) (Keeps.refl (fun k => k = b) w0) (fun _ => by simp) v
  have k2 : Keeps (fun k => k = b) w' (w'.setCell ⟨b, i, none⟩ v) := Keeps.setCell (p := ⟨b, i, none⟩) (Keeps.refl (fun k => k = b) w') (fun _ => by simp) v
  have e1 : (w0.setCell ⟨b, i, none⟩ v).heap.size = w0.heap.size := by simp
  refine ⟨F', hM.keeps k2 fun k hk e => ?_, ⟨by rw [k2.os, hK.os, k1.os], by rw [k2.tape, hK.tape, k1.tape], by rw [k2.output, hK.output, k1.output], by rw [e1]; exact Nat.le_trans hK.size k2.size, fun j hj hn => ?_⟩, fun k hk => by rw [e1]; exact hG k hk⟩
  · subst e
    rcases hk with hk | hk | rfl
    · have := h.mm.lt k hk; omega
    · rcases hG k hk with hf | hf
      · have := h.cm.lt k hf; omega
      · have := h0.lt; omega
    · have := h.mm.beh.1; omega
  · rw [e1] at hj
    by_cases e : j = b
    · subst e
      exact ((h8.set i v)).trans ((h0.set i v)).symm
    · exact (k2.block j (Nat.lt_of_lt_of_le hj hK.size) e).trans ((hK.block j hj hn).trans (k1.block j hj e).symm)

theorem treeR_lt (v : Nat) : ∀ n m C f, (treeR v n m C f).1 + 1 ≤ (m + 1) * 2 ^ n
  | 0, m, C, f => by show m + 1 ≤ (m + 1) * 1; omega
  | n + 1, m, C, f => by
    rw [treeR]
    have hb := C.bit_le (f m) v (2 ^ n)
    refine Nat.le_trans (treeR_lt v n _ _ _) ?_
    have e : (m + 1) * 2 ^ (n + 1) = (2 * m + 2) * 2 ^ n := by rw [Nat.pow_succ, Nat.mul_comm (2 ^ n) 2, ← Nat.mul_assoc]; congr 1; omega
    rw [e]; exact Nat.mul_le_mul_right _ (by omega)
theorem backR_lt (v : Nat) : ∀ j i m acc C f, acc < 2 ^ i → (backR v j i m acc C f).1 < 2 ^ (i + j)
  | 0, i, m, acc, C, f, ha => ha
  | j + 1, i, m, acc, C, f, ha => by
    rw [backR]
    have hb := C.bit_le (f m) v (2 ^ i)
    have := backR_lt v j (i + 1) (2 * m + (C.bit (f m) (v / 2 ^ i % 2)).1) _ (C.bit (f m) (v / 2 ^ i % 2)).2 (updF f m (learnP (f m) (C.bit (f m) (v / 2 ^ i % 2)).1)) (back_acc hb ha)
    rw [show i + 1 + j = i + (j + 1) from by omega] at this
    exact this
theorem treeP_lt (i n h : Nat) (s : CSt) : (treeP i n h s).1 < 2 ^ n := by
  have := treeR_lt h n 1 s.1 (s.2 i)
  have hp : 0 < 2 ^ n := Nat.pow_pos (by decide)
  show (treeR h n 1 s.1 (s.2 i)).1 - 2 ^ n < 2 ^ n
  omega
theorem backP_lt (i n h : Nat) (s : CSt) : (backP i n h s).1 < 2 ^ n := by
  have := backR_lt h n 0 1 0 s.1 (s.2 i) (by decide)
  rw [Nat.zero_add] at this
  exact this
theorem dirP_lt (n h : Nat) (s : CSt) : (dirP n h s).1 < 2 ^ n := by
  have := dir_lt h n 0 s.1
  rw [show (0 + 1) * 2 ^ n = 2 ^ n from by omega] at this
  exact this
set_option maxRecDepth 100000 in
theorem lengthP_le (t pl n : Nat) (s : CSt) : (lengthP t pl n s).1 ≤ 273 := by
  have key : ∀ (i m h c : Nat) (s : CSt), 2 ^ m + c ≤ 274 → c + (treeP i m h s).1 ≤ 273 := fun i m h c s hc => by
    have := treeP_lt i m h s
    omega
  unfold lengthP
  dsimp only
  split
  · exact key _ _ _ _ _ (by decide)
  · split
    · exact key _ _ _ _ _ (by decide)
    · exact key _ _ _ _ _ (by decide)
set_option maxRecDepth 100000 in
theorem distP_lt (cl d : Nat) (s : CSt) : (distP cl d s).1 < 4294967296 := by
  unfold distP
  dsimp only
  have ha := treeP_lt (3 + cl) 6 (slotN d) s
  generalize (treeP (3 + cl) 6 (slotN d) s).1 = a at *
  generalize (treeP (3 + cl) 6 (slotN d) s).2 = s1 at *
  obtain ⟨h1, h2, h3, h4⟩ := base_bound (s := a) (by omega)
  have hp : 0 < 2 ^ (baseN a).2 := Nat.pow_pos (by decide)
  generalize (baseN a).1 = b1 at *
  generalize (baseN a).2 = b2 at *
  split
  · show b1 < _; omega
  · split
    · have := backP_lt (7 + a) b2 (d - b1) s1
      show b1 + _ < _
      omega
    · have hb2 : 6 ≤ b2 := h3 (by omega)
      have g1 := dirP_lt (b2 - 4) ((d - b1) / 16) s1
      have g2 := backP_lt 21 4 ((d - b1) % 16) (dirP (b2 - 4) ((d - b1) / 16) s1).2
      have e4 : 2 ^ b2 = 2 ^ (b2 - 4) * 16 := by rw [show b2 = (b2 - 4) + 4 from by omega, Nat.pow_add]; simp
      show b1 + (dirP (b2 - 4) ((d - b1) / 16) s1).1 * 16 + _ < _
      omega
theorem farP_lt (pl d n : Nat) (s : CSt) : (farP pl d n s).1.1 < 4294967296 := distP_lt _ _ _

def codeP (L : Lay) (S : MSt) (kd ds n d y : Nat) (s : CSt) : (Nat × Nat × Nat × Nat × Bool) × CSt :=
  let a := bitP 0 (10 + 16 * S.st + placeN L S) (if kd = 1 then 0 else 1) s
  if a.1 = 0 then let b := byteP L S y a.2; ((1, 0, 0, b.1, false), b.2)
  else
    let r := bitP 0 (202 + S.st) (if kd = 2 then 0 else 1) a.2
    if r.1 = 1 then let g := againP S.st (placeN L S) kd ds n r.2; ((g.1.1, g.1.2.1, g.1.2.2, 0, false), g.2)
    else
      let f := farP (placeN L S) d n r.2
      if f.1.1 = 4294967295 then ((0, 0, 0, 0, true), f.2) else ((2, f.1.1 + 1, f.1.2, 0, false), f.2)

set_option maxHeartbeats 16000000 in
set_option maxRecDepth 100000 in
theorem mcode_any (w : World) (L : Lay) (S : MSt) (P : Prb) (q : Option Addr) (cap x : Nat) (C : Cdr) (F : Nat → Prop) (kd ds n d k : Nat) (nI : Int) (y : UInt8) (e : Bool) (h : MC w L S P q cap x C F) (hk : C.n ≤ k) (hk2 : k ≤ 60000000)
    (hds : ds ≤ 100000000) (hkd : kd ≤ 4) (hI : -10 ≤ nI ∧ nI ≤ 10000) (hd : e = false → IntKind.u32.wrap ((ds : Int) - 1) = (d : Int)) (hd2 : d < 4294967296)
    (hD : C.isEnc = false → ds = 0 ∧ e = false) (hE : C.isEnc = true → 1 ≤ kd ∧ (kd = 3 → ds ≤ 3 ∧ nI = n + 2 ∧ n < 272) ∧ (kd = 4 → ds = 0) ∧ (kd = 2 → e = false → nI = n + 2 ∧ n < 272) ∧ (e = true → kd = 2 ∧ d = 4294967295 ∧ n = 0)) :
    Calls Tryz.prog 66 #[.pointer (some ⟨L.φ 0, 0, none⟩), ifV C x, pk kd ds nI (y.toNat : Int), .bool e] w fun z w' =>
      MCall w w' z (.tuple #[pk (codeP L S kd ds n d y.toNat (C, P)).1.1 (codeP L S kd ds n d y.toNat (C, P)).1.2.1 (codeP L S kd ds n d y.toNat (C, P)).1.2.2.1 ((UInt8.ofNat (codeP L S kd ds n d y.toNat (C, P)).1.2.2.2.1).toNat : Int), .bool (codeP L S kd ds n d y.toNat (C, P)).1.2.2.2.2]) L S q cap x F (k + 300) (codeP L S kd ds n d y.toNat (C, P)).2 := by
  have hst := h.mm.par.2.2.1
  have hpl := placeN_lt L S h.mm.par.2.1
  have HPl : Hid (∀ (w0 : World) (P0 : Prb) (hw : MM w0 L S P0 q cap), Calls Tryz.prog 85 #[.pointer (some ⟨L.φ 0, 0, none⟩)] w0 fun e w' => e = .returned (i6 (placeN L S)) ∧ Same w0 w') := hid (fun w0 P0 hw => mplace_any w0 L S P0 q cap hw)
  have HBy := hid (fun (w0 : World) (C0 : Cdr) (P0 : Prb) (F0 : Nat → Prop) (hm : MC w0 L S P0 q cap x C0 F0) (k0 : Nat) (hk0 : C0.n ≤ k0) (hk02 : k0 ≤ 80000000) => mbyte_any w0 L S P0 q cap x C0 F0 y k0 hm hk0 hk02)
  have HAg := hid (fun (w0 : World) (C0 : Cdr) (P0 : Prb) (F0 : Nat → Prop) (hm : MC w0 L S P0 q cap x C0 F0) (k0 : Nat) (hk0 : C0.n ≤ k0) (hk02 : k0 ≤ 70000000) (hds0 : ds ≤ 10000) (hh0 : C0.isEnc = true → (kd = 3 → nI = n + 2 ∧ n < 272) ∧ (kd ≠ 3 → ds = 0)) => magain_any w0 L S P0 q cap x C0 F0 kd ds n k0 nI 
    (y.toNat : Int) hm hk0 hk02 hds0 hkd hI hh0)
  obtain ⟨nF, hnF⟩ : ∃ nF : Int, (if e = true then 2 else nI) = nF := ⟨_, rfl⟩
  have hnF2 : -10 ≤ nF ∧ nF ≤ 10000 := by rw [← hnF]; split <;> omega
  have HFar := hid (fun (w0 : World) (C0 : Cdr) (P0 : Prb) (F0 : Nat → Prop) (hm : MC w0 L S P0 q cap x C0 F0) (k0 : Nat) (hk0 : C0.n ≤ k0) (hk02 : k0 ≤ 70000000) (hh0 : C0.isEnc = true → nF = n + 2 ∧ n < 272) => mfar_any w0 L S P0 q cap x C0 F0 d n k0 nF hm hk0 hk02 hd2 hh0 hnF2 (Nat.le_trans (lengthP_le _ _ _ _) (by decide)))
  obtain ⟨R, hR⟩ : ∃ R, codeP L S kd ds n d y.toNat (C, P) = R := ⟨_, rfl⟩
  rw [hR]
  unfold codeP at hR
  obtain ⟨pl, hple⟩ : ∃ pl, placeN L S = pl := ⟨_, rfl⟩
  obtain ⟨st, hste⟩ : ∃ st, S.st = st := ⟨_, rfl⟩
  rw [hple] at hpl HPl HAg HFar hR
  rw [hste] at hst HAg hR
  unfold ifV at HBy HAg HFar ⊢
  obtain ⟨T, hT⟩ : ∃ T, ifT C = T := ⟨_, rfl⟩
  have hna := nil_bit C x
  have hme := met_bit C x
  have hcf := cf_bit C
  rw [hT] at hna hme ⊢
  obtain ⟨e1, he1⟩ : ∃ e1, ((kd : Int) != 1) = e1 := ⟨_, rfl⟩
  have he1n : (!((kd : Int) == 1)) = e1 := he1
  have he1m : (!decide (kd = 1)) = e1 := by rw [← he1]; by_cases h0 : kd = 1 <;> simp [h0] <;> omega
  obtain ⟨v1, hv1⟩ : ∃ v1 : Nat, (if kd = 1 then 0 else 1) = v1 := ⟨_, rfl⟩
  have hv1e : v1 = if e1 then 1 else 0 := by
    rw [← hv1, ← he1]
    by_cases h0 : kd = 1
    · subst h0; rfl
    · rw [if_neg h0, if_pos (by simp; omega)]
  obtain ⟨e2, he2⟩ : ∃ e2, ((kd : Int) != 2) = e2 := ⟨_, rfl⟩
  have he2n : (!((kd : Int) == 2)) = e2 := he2
  have he2m : (!decide (kd = 2)) = e2 := by rw [← he2]; by_cases h0 : kd = 2 <;> simp [h0] <;> omega
  obtain ⟨v2, hv2⟩ : ∃ v2 : Nat, (if kd = 2 then 0 else 1) = v2 := ⟨_, rfl⟩
  have hv2e : v2 = if e2 then 1 else 0 := by
    rw [← hv2, ← he2]
    by_cases h0 : kd = 2
    · subst h0; rfl
    · rw [if_neg h0, if_pos (by simp; omega)]
  have HO1 := hid (mone_is e1 v1 hv1e)
  have HO2 := hid (mone_is e2 v2 hv2e)
  rw [hv1] at hR
  simp only [hv2] at hR
  have hv1l : v1 < 2 := by rw [← hv1]; split <;> omega
  have hv2l : v2 < 2 := by rw [← hv2]; split <;> omega
  obtain ⟨ix, hix⟩ : ∃ ix, 10 + 16 * st + pl = ix := ⟨_, rfl⟩
  have hix2 : 10 + st * 16 + pl = ix := by omega
  have hixb : 10 ≤ ix ∧ ix < 442 := by omega
  rw [hix] at hR
  have HIx := hid hixb
  have HRR := hid hR
  have HV := hid (And.intro hv1 hv2)
  have HT := hid hT
  have HM := hid h
  have HST := hid hste
  have HE := hid hE
  have HD := hid hD
  have HDd := hid hd
  have HNF := hid hnF
  have HVl := hid (And.intro hv1l hv2l)
  have HKd := hid hkd
  have s0 : (0 : Int) ≤ (st : Int) := by omega
  have s1 : (st : Int) < 12 := by omega
  have p0 : (0 : Int) ≤ (pl : Int) := by omega
  have p1 : (pl : Int) < 16 := by omega
  clear hR hple hste hv1 hv2 hv1e hv2e hT h hE hD hd hv1l hv2l hI hkd hix hixb hnF hnF2
  go_enter Tryz.func66, Tryz.ntmps66
  go_upto_region 1 with fail
  have hb0 : Blk ((w.alloc (.cells #[i6 kd, i6 ds, i6 nI, b8 y] PkT)).alloc (.cells #[i6 0, i6 0, i6 0, .int .u8 0] PkT)) w.heap.size #[i6 kd, i6 ds, i6 nI, b8 y] PkT := (Blk.new _ _ _).alloc _
  have hb1 : Blk ((w.alloc (.cells #[i6 kd, i6 ds, i6 nI, b8 y] PkT)).alloc (.cells #[i6 0, i6 0, i6 0, .int .u8 0] PkT)) (w.heap.size + 1) #[i6 0, i6 0, i6 0, .int .u8 0] PkT := Blk.new_at (by simp)
  have hs0 : Same w ((w.alloc (.cells #[i6 kd, i6 ds, i6 nI, b8 y] PkT)).alloc (.cells #[i6 0, i6 0, i6 0, .int .u8 0] PkT)) := ((Keeps.refl _ _).alloc _).alloc _
  generalize (w.alloc (.cells #[i6 kd, i6 ds, i6 nI, b8 y] PkT)).alloc (.cells #[i6 0, i6 0, i6 0, .int .u8 0] PkT) = w0 at hb0 hb1 hs0 ⊢
  obtain ⟨B, hB⟩ : ∃ B, w.heap.size = B := ⟨_, rfl⟩
  rw [hB] at hb0 hb1 ⊢
  have HM0 := hid (HM.out.same hs0)
  have c5 := (HM0.out.mm.mcell 5 (by decide)).trans (by rw [mcell_st, HST.out] : _ = some (i6 (st : Int)))
  have cB0 : w0.cell? ⟨B, 0, none⟩ = some (i6 (kd : Int)) := hb0.cell 0
  have HB := hid (And.intro hB (And.intro hb0 (And.intro hb1 hs0)))
  clear hB hb0 hb1 hs0
  refine wp_region_held_drew (S := (fun V => V.cell? ⟨L.φ 0, 5, none⟩ = some (i6 st) ∧ V.cell? ⟨B, 0, none⟩ = some (i6 kd))) (by kernel_rfl) (by (try dsimp only); exact ⟨c5, cB0⟩) (fun hHeld => ?_)
  refine wpAnyH_take (i := 0) (oi := ⟨some 12, _, _, _, _, _⟩) (v := ?v0a) rfl (by kernel_rfl) (by kernel_rfl) (by kernel_rfl) (fun _ _ _ h => h) (Or.inl ⟨by rfl, ?h0a⟩) (by assumption) ?r0a
  case h0a => intro w hSw; (try dsimp only at hSw); go_simp; (try with_reducible rfl)
  try simp only [Act.put, List.setIfInBounds_toArray, List.set_cons_zero, List.set_cons_succ]
  refine wpAnyH_take (i := 1) (oi := ⟨some 13, _, _, _, _, _⟩) (v := ?v1a) rfl (by kernel_rfl) (by kernel_rfl) (by kernel_rfl) (fun _ _ _ h => h) (Or.inl ⟨by rfl, ?h1a⟩) (by assumption) ?r1a
  case h1a => intro w hSw; (try dsimp only at hSw); go_simp; (try with_reducible rfl)
  try simp only [Act.put, List.setIfInBounds_toArray, List.set_cons_zero, List.set_cons_succ]
  refine wpAnyH_take (i := 2) (oi := ⟨some 14, _, _, _, _, _⟩) (v := ?v2a) rfl (by kernel_rfl) (by kernel_rfl) (by kernel_rfl) (fun _ _ _ h => h) (Or.inl ⟨by rfl, ?h2a⟩) (by assumption) ?r2a
  case h2a => intro w hSw; (try dsimp only at hSw); go_simp; (try with_reducible rfl)
  try simp only [Act.put, List.setIfInBounds_toArray, List.set_cons_zero, List.set_cons_succ]
  refine wpAnyH_take (i := 3) (oi := ⟨some 15, _, _, _, _, _⟩) (v := ?v3a) rfl (by kernel_rfl) (by kernel_rfl) (by kernel_rfl) (fun _ _ _ h => h) (Or.inl ⟨by rfl, ?h3a⟩) (by assumption) ?r3a
  case h3a => intro w hSw; (try dsimp only at hSw); go_simp; (try with_reducible rfl)
  try simp only [Act.put, List.setIfInBounds_toArray, List.set_cons_zero, List.set_cons_succ]
  refine wpAnyH_take (i := 4) (oi := ⟨some 16, _, _, _, _, _⟩) (v := ?v4a) rfl (by kernel_rfl) (by kernel_rfl) (by kernel_rfl) (fun _ _ _ h => h) (Or.inl ⟨by rfl, ?h4a⟩) (by assumption) ?r4a
  case h4a => intro w hSw; (try dsimp only at hSw); go_simp; (try with_reducible rfl)
  try simp only [Act.put, List.setIfInBounds_toArray, List.set_cons_zero, List.set_cons_succ]
  refine wpAnyH_take (i := 5) (oi := ⟨some 17, _, _, _, _, _⟩) (v := ?v5a) rfl (by kernel_rfl) (by kernel_rfl) (by kernel_rfl) (fun _ _ _ h => h) (Or.inl ⟨by rfl, ?h5a⟩) (by assumption) ?r5a
  case h5a => intro w hSw; (try dsimp only at hSw); obtain ⟨hSw, hSw2⟩ := hSw; go_simp; (try with_reducible rfl)
  try simp only [Act.put, List.setIfInBounds_toArray, List.set_cons_zero, List.set_cons_succ]
  refine wpAnyH_take (i := 6) (oi := ⟨some 18, _, _, _, _, _⟩) (v := ?v6a) rfl (by kernel_rfl) (by kernel_rfl) (by kernel_rfl) (fun _ _ _ h => h) (Or.inl ⟨by rfl, ?h6a⟩) (by assumption) ?r6a
  case h6a => intro w hSw; (try dsimp only at hSw); go_simp; (try with_reducible rfl)
  try simp only [Act.put, List.setIfInBounds_toArray, List.set_cons_zero, List.set_cons_succ]
  refine wpAnyH_take (i := 8) (oi := ⟨some 20, _, _, _, _, _⟩) (v := ?v8a) rfl (by kernel_rfl) (by kernel_rfl) (by kernel_rfl) (fun _ _ _ h => h) (Or.inl ⟨by rfl, ?h8a⟩) (by assumption) ?r8a
  case h8a => intro w hSw; (try dsimp only at hSw); go_simp; (try with_reducible rfl)
  try simp only [Act.put, List.setIfInBounds_toArray, List.set_cons_zero, List.set_cons_succ]
  refine wpAnyH_take (i := 9) (oi := ⟨some 21, _, _, _, _, _⟩) (v := ?v9a) rfl (by kernel_rfl) (by kernel_rfl) (by kernel_rfl) (fun _ _ _ h => h) (Or.inl ⟨by rfl, ?h9a⟩) (by assumption) ?r9a
  case h9a => intro w hSw; (try dsimp only at hSw); go_simp; (try with_reducible rfl)
  try simp only [Act.put, List.setIfInBounds_toArray, List.set_cons_zero, List.set_cons_succ]
  refine wpAnyH_take (i := 10) (oi := ⟨some 22, _, _, _, _, _⟩) (v := ?v10a) rfl (by kernel_rfl) (by kernel_rfl) (by kernel_rfl) (fun _ _ _ h => h) (Or.inl ⟨by rfl, ?h10a⟩) (by assumption) ?r10a
  case h10a => intro w hSw; (try dsimp only at hSw); go_simp; (try with_reducible rfl)
  try simp only [Act.put, List.setIfInBounds_toArray, List.set_cons_zero, List.set_cons_succ]
  refine wpAnyH_take (i := 12) (oi := ⟨some 24, _, _, _, _, _⟩) (v := ?v12a) rfl (by kernel_rfl) (by kernel_rfl) (by kernel_rfl) (fun _ _ _ h => h) (Or.inl ⟨by rfl, ?h12a⟩) (by assumption) ?r12a
  case h12a => intro w hSw; (try dsimp only at hSw); go_simp; (try with_reducible rfl)
  try simp only [Act.put, List.setIfInBounds_toArray, List.set_cons_zero, List.set_cons_succ]
  refine wpAnyH_take (i := 13) (oi := ⟨some 25, _, _, _, _, _⟩) (v := ?v13a) rfl (by kernel_rfl) (by kernel_rfl) (by kernel_rfl) (fun _ _ _ h => h) (Or.inl ⟨by rfl, ?h13a⟩) (by assumption) ?r13a
  case h13a => intro w hSw; (try dsimp only at hSw); obtain ⟨hSw, hSw2⟩ := hSw; go_simp; (try with_reducible rfl)
  try simp only [Act.put, List.setIfInBounds_toArray, List.set_cons_zero, List.set_cons_succ]
  refine wpAnyH_take (i := 14) (oi := ⟨some 26, _, _, _, _, _⟩) (v := ?v14a) rfl (by kernel_rfl) (by kernel_rfl) (by kernel_rfl) (fun _ _ _ h => h) (Or.inl ⟨by rfl, ?h14a⟩) (by assumption) ?r14a
  case h14a => intro w hSw; (try dsimp only at hSw); go_simp; (try with_reducible rfl)
  try simp only [Act.put, List.setIfInBounds_toArray, List.set_cons_zero, List.set_cons_succ]
  refine wpAnyH_take (i := 16) (oi := ⟨some 28, _, _, _, _, _⟩) (v := ?v16a) rfl (by kernel_rfl) (by kernel_rfl) (by kernel_rfl) (fun _ _ _ h => h) (Or.inl ⟨by rfl, ?h16a⟩) (by assumption) ?r16a
  case h16a => intro w hSw; (try dsimp only at hSw); go_simp; (try with_reducible rfl)
  try simp only [Act.put, List.setIfInBounds_toArray, List.set_cons_zero, List.set_cons_succ]
  refine wpAnyH_take (i := 17) (oi := ⟨some 29, _, _, _, _, _⟩) (v := ?v17a) rfl (by kernel_rfl) (by kernel_rfl) (by kernel_rfl) (fun _ _ _ h => h) (Or.inl ⟨by rfl, ?h17a⟩) (by assumption) ?r17a
  case h17a => intro w hSw; (try dsimp only at hSw); go_simp; (try with_reducible rfl)
  try simp only [Act.put, List.setIfInBounds_toArray, List.set_cons_zero, List.set_cons_succ]
  refine wpAnyH_take (i := 18) (oi := ⟨some 30, _, _, _, _, _⟩) (v := ?v18a) rfl (by kernel_rfl) (by kernel_rfl) (by kernel_rfl) (fun _ _ _ h => h) (Or.inl ⟨by rfl, ?h18a⟩) (by assumption) ?r18a
  case h18a => intro w hSw; (try dsimp only at hSw); go_simp; (try with_reducible rfl)
  try simp only [Act.put, List.setIfInBounds_toArray, List.set_cons_zero, List.set_cons_succ]
  refine wpAnyH_ready (rs := [7]) (by kernel_rfl) (by simp) ?_
  refine AllReadyH.cons (o := ⟨some 19, _, _, _, _, _⟩) rfl (fun K hK => ?_) AllReadyH.nil
  go_simp; (go_at_call 85; refine (HPl.out _ _ (HM0.out.same ((Keeps.refl _ _).drew)).mm).mono ?_; rintro z w7 ⟨rfl, hs7⟩; have m0 := (hs7.cell (p := ⟨L.φ 0, 5, none⟩) ((HM0.out.same ((Keeps.refl _ _).drew)).mm.blk 0 (used_small (by decide) (by decide))).lt (fun h => h)).trans hHeld.1; have m1 := (hs7.cell (p := ⟨B, 0, none⟩) HB.out.2.1.drew.lt (fun h => h)).trans hHeld.2)
  refine hK.out _ _ (by (try dsimp only); exact ⟨m0, m1⟩) (fun hHeld => ?_)
  clear hK K
  try simp only [Act.put, List.setIfInBounds_toArray, List.set_cons_zero, List.set_cons_succ]
  refine wpAnyH_take (i := 11) (oi := ⟨some 23, _, _, _, _, _⟩) (v := ?v11a) rfl (by kernel_rfl) (by kernel_rfl) (by kernel_rfl) (fun _ _ _ h => h) (Or.inl ⟨by rfl, ?h11a⟩) (by assumption) ?r11a
  case h11a => intro w hSw; (try dsimp only at hSw); go_simp; (try with_reducible rfl)
  try simp only [Act.put, List.setIfInBounds_toArray, List.set_cons_zero, List.set_cons_succ]
  refine wpAnyH_ready (rs := [15]) (by kernel_rfl) (by simp) ?_
  refine AllReadyH.cons (o := ⟨some 27, _, _, _, _, _⟩) rfl (fun K hK => ?_) AllReadyH.nil
  go_simp; (go_at_call 86; refine (HO1.out _).mono ?_; rintro z w5 ⟨rfl, hw5⟩; obtain rfl := hw5.symm)
  refine hK.out _ _ (by (try dsimp only); exact ⟨m0, m1⟩) (fun hHeld => ?_)
  clear hK K
  try simp only [Act.put, List.setIfInBounds_toArray, List.set_cons_zero, List.set_cons_succ]
  refine wpAnyH_ready (rs := [19]) (by kernel_rfl) (by simp) ?_
  refine AllReadyH.cons (o := ⟨some 31, _, _, _, _, _⟩) rfl (fun K hK => ?_) AllReadyH.nil
  go_simp; refine ((HM0.out.same (hs7.drew_left)).bit (i := 0) (o := ix) (h := v1) hk (by omega) (.inl ⟨rfl, HIx.out.1, HIx.out.2⟩) (fun hc => ⟨rfl, HVl.out.1⟩)).mono ?_; rintro z w6 ⟨rfl, h6b⟩; have hl6 := (Coded.blk HM.out (Coded.trans (Keeps.of_same (hs7.drew_left)) (fun b hb => .inl hb) h6b.1) HB.out.2.1 (Nat.le_of_eq HB.out.1)).cell 0; have hl7 : w6.cell? ⟨L.φ 0, 5, none⟩ = some (i6 (st : Int)) := (by (obtain ⟨F7, hM7, _⟩ := h6b.1; rw [hM7.mm.mcell 5 (by decide), mcell_st, HST.out]))
  refine hK.out _ _ (by (try dsimp only); exact ⟨hl7, hl6⟩) (fun hHeld => ?_)
  clear hK K
  try simp only [Act.put, List.setIfInBounds_toArray, List.set_cons_zero, List.set_cons_succ]
  refine wpAnyH_take (i := 20) (oi := ⟨some 32, _, _, _, _, _⟩) (v := ?v20a) rfl (by kernel_rfl) (by kernel_rfl) (by kernel_rfl) (fun _ _ _ h => h) (Or.inl ⟨by rfl, ?h20a⟩) (by assumption) ?r20a
  case h20a => intro w hSw; (try dsimp only at hSw); go_simp; (try with_reducible rfl)
  try simp only [Act.put, List.setIfInBounds_toArray, List.set_cons_zero, List.set_cons_succ]
  refine wpAnyH_done (by kernel_rfl) ?_ _
  clear hHeld
  have hc1 := Coded.trans (Keeps.of_same (hs7.drew_left)) (fun b hb => .inl hb) h6b.1
  have hk1 := h6b.2
  have hE1 := bitP_enc 0 ix v1 (C, P)
  have hval1 := bitP_val 0 ix v1 (C, P)
  have hrr := HRR.out
  generalize (bitP 0 ix v1 (C, P)).1 = b1 at *
  generalize (bitP 0 ix v1 (C, P)).2 = s1 at *
  obtain ⟨C1, P1⟩ := s1
  have hT1 : ifT C1 = T := by rw [← HT.out]; unfold ifT; rw [hE1]
  have HC1 := hid (And.intro hc1 (And.intro hk1 (And.intro hE1 (And.intro hval1 (And.intro hrr hT1)))))
  have hbl0 := hc1.blk HM.out HB.out.2.1 (Nat.le_of_eq HB.out.1)
  have hbl1 := hc1.blk HM.out HB.out.2.2.1 (by have := HB.out.1; omega)
  have HBl := hid (And.intro hbl0 hbl1)
  clear hc1 hk1 hE1 hval1 hrr hT1 HRR h6b c5 cB0 hl6 hl7 hna hme hcf hs7 m0 m1
  by_cases hb : b1 = 0
  · have d0 : ((b1 : Int) == 0) = true := by simp; omega
    have HBt := hid hb
    have cB3 : w6.cell? ⟨B, 3, none⟩ = some (b8 y) := hbl0.cell 3
    clear hb hbl0 hbl1
    go_wp2_with fail
    obtain ⟨F6, hM6, hK6, hG6⟩ := HC1.out.1
    have hw := HBy.out w6 C1 P1 F6 hM6 (k + 4) HC1.out.2.1 (by omega)
    rw [HC1.out.2.2.2.2.2] at hw
    refine hw.mono ?_
    rintro z w7 ⟨rfl, h7⟩
    have hc2 := Coded.trans hK6 hG6 h7.1
    have hk2' := h7.2
    have hrr := HC1.out.2.2.2.2.1
    rw [if_pos HBt.out] at hrr
    generalize (byteP L S y.toNat (C1, P1)).1 = bb at *
    generalize (byteP L S y.toNat (C1, P1)).2 = s2 at *
    have hbl1 := hc2.blk HM.out HB.out.2.2.1 (by have := HB.out.1; omega)
    have q0 : w7.cell? ⟨B + 1, 0, none⟩ = some (i6 0) := hbl1.cell 0
    have q1 : w7.cell? ⟨B + 1, 1, none⟩ = some (i6 0) := hbl1.cell 1
    have q2 : w7.cell? ⟨B + 1, 2, none⟩ = some (i6 0) := hbl1.cell 2
    have q3 : w7.cell? ⟨B + 1, 3, none⟩ = some (.int .u8 0) := hbl1.cell 3
    have z0 := hbl1.frozen 0
    have z1 := hbl1.frozen 1
    have z2 := hbl1.frozen 2
    have z3 := hbl1.frozen 3
    have HC2 := hid (And.intro hc2 (And.intro hk2' hrr))
    obtain ⟨yy, hyy⟩ : ∃ yy, UInt8.ofNat bb = yy := ⟨_, rfl⟩
    rw [hyy]
    have HYY := hid hyy
    clear hc2 hk2' hrr hbl1 hM6 hK6 hG6 h7 cB3 hw hyy
    go_wp2_with fail
    refine bodyPost_ret (v := .tuple #[pk 1 0 0 (yy.toNat : Int), .bool false]) (by simp [results, Tryz.results66, go_sem, q0, q1, q2, q3, z0, z1, z2, z3]) rfl ?_
    have hr := HC2.out.2.2
    rw [← hr]
    refine ⟨by dsimp only; rw [HYY.out]; rfl, ?_, Nat.le_trans HC2.out.2.1 (by omega)⟩
    exact Coded.around HM.out HB.out.2.2.2 HC2.out.1 (by (repeat (first | exact Keeps.refl _ _ | refine Keeps.setCell ?_ (fun _ => by simp) _)) : Keeps (fun b => b = B + 1) w7 _) (fun b hb => by subst hb; have := HB.out.1; have := HB.out.2.2.1.lt; omega)
  · have d0 : ((b1 : Int) == 0) = false := by simp; omega
    have HBt := hid hb
    have hna := nil_bit C1 x
    have hme := met_bit C1 x
    have hcf := cf_bit C1
    rw [HC1.out.2.2.2.2.2] at hna hme
    obtain ⟨F6, hM6, hK6, hG6⟩ := HC1.out.1
    have c5 := (hM6.mm.mcell 5 (by decide)).trans (by rw [mcell_st, HST.out] : _ = some (i6 (st : Int)))
    have cB0 : w6.cell? ⟨B, 0, none⟩ = some (i6 (kd : Int)) := hbl0.cell 0
    have HM6 := hid hM6
    have HK6 := hid (And.intro hK6 hG6)
    clear hb hbl0 hbl1 hM6 hK6 hG6
    go_upto_region 3 with fail
    refine wp_region_held_drew (S := (fun V => V.cell? ⟨L.φ 0, 5, none⟩ = some (i6 st) ∧ V.cell? ⟨B, 0, none⟩ = some (i6 kd))) (by kernel_rfl) (by (try dsimp only); exact ⟨c5, cB0⟩) (fun hHeld => ?_)
    refine wpAnyH_take (i := 0) (oi := ⟨some 39, _, _, _, _, _⟩) (v := ?v0b) rfl (by kernel_rfl) (by kernel_rfl) (by kernel_rfl) (fun _ _ _ h => h) (Or.inl ⟨by rfl, ?h0b⟩) (by assumption) ?r0b
    case h0b => intro w hSw; (try dsimp only at hSw); go_simp; (try with_reducible rfl)
    try simp only [Act.put, List.setIfInBounds_toArray, List.set_cons_zero, List.set_cons_succ]
    refine wpAnyH_take (i := 1) (oi := ⟨some 40, _, _, _, _, _⟩) (v := ?v1b) rfl (by kernel_rfl) (by kernel_rfl) (by kernel_rfl) (fun _ _ _ h => h) (Or.inl ⟨by rfl, ?h1b⟩) (by assumption) ?r1b
    case h1b => intro w hSw; (try dsimp only at hSw); go_simp; (try with_reducible rfl)
    try simp only [Act.put, List.setIfInBounds_toArray, List.set_cons_zero, List.set_cons_succ]
    refine wpAnyH_take (i := 2) (oi := ⟨some 41, _, _, _, _, _⟩) (v := ?v2b) rfl (by kernel_rfl) (by kernel_rfl) (by kernel_rfl) (fun _ _ _ h => h) (Or.inl ⟨by rfl, ?h2b⟩) (by assumption) ?r2b
    case h2b => intro w hSw; (try dsimp only at hSw); go_simp; (try with_reducible rfl)
    try simp only [Act.put, List.setIfInBounds_toArray, List.set_cons_zero, List.set_cons_succ]
    refine wpAnyH_take (i := 3) (oi := ⟨some 42, _, _, _, _, _⟩) (v := ?v3b) rfl (by kernel_rfl) (by kernel_rfl) (by kernel_rfl) (fun _ _ _ h => h) (Or.inl ⟨by rfl, ?h3b⟩) (by assumption) ?r3b
    case h3b => intro w hSw; (try dsimp only at hSw); go_simp; (try with_reducible rfl)
    try simp only [Act.put, List.setIfInBounds_toArray, List.set_cons_zero, List.set_cons_succ]
    refine wpAnyH_take (i := 4) (oi := ⟨some 43, _, _, _, _, _⟩) (v := ?v4b) rfl (by kernel_rfl) (by kernel_rfl) (by kernel_rfl) (fun _ _ _ h => h) (Or.inl ⟨by rfl, ?h4b⟩) (by assumption) ?r4b
    case h4b => intro w hSw; (try dsimp only at hSw); go_simp; (try with_reducible rfl)
    try simp only [Act.put, List.setIfInBounds_toArray, List.set_cons_zero, List.set_cons_succ]
    refine wpAnyH_take (i := 5) (oi := ⟨some 44, _, _, _, _, _⟩) (v := ?v5b) rfl (by kernel_rfl) (by kernel_rfl) (by kernel_rfl) (fun _ _ _ h => h) (Or.inl ⟨by rfl, ?h5b⟩) (by assumption) ?r5b
    case h5b => intro w hSw; (try dsimp only at hSw); obtain ⟨hSw, hSw2⟩ := hSw; go_simp; (try with_reducible rfl)
    try simp only [Act.put, List.setIfInBounds_toArray, List.set_cons_zero, List.set_cons_succ]
    refine wpAnyH_take (i := 6) (oi := ⟨some 45, _, _, _, _, _⟩) (v := ?v6b) rfl (by kernel_rfl) (by kernel_rfl) (by kernel_rfl) (fun _ _ _ h => h) (Or.inl ⟨by rfl, ?h6b⟩) (by assumption) ?r6b
    case h6b => intro w hSw; (try dsimp only at hSw); go_simp; (try with_reducible rfl)
    try simp only [Act.put, List.setIfInBounds_toArray, List.set_cons_zero, List.set_cons_succ]
    refine wpAnyH_take (i := 7) (oi := ⟨some 46, _, _, _, _, _⟩) (v := ?v7b) rfl (by kernel_rfl) (by kernel_rfl) (by kernel_rfl) (fun _ _ _ h => h) (Or.inl ⟨by rfl, ?h7b⟩) (by assumption) ?r7b
    case h7b => intro w hSw; (try dsimp only at hSw); go_simp; (try with_reducible rfl)
    try simp only [Act.put, List.setIfInBounds_toArray, List.set_cons_zero, List.set_cons_succ]
    refine wpAnyH_take (i := 8) (oi := ⟨some 47, _, _, _, _, _⟩) (v := ?v8b) rfl (by kernel_rfl) (by kernel_rfl) (by kernel_rfl) (fun _ _ _ h => h) (Or.inl ⟨by rfl, ?h8b⟩) (by assumption) ?r8b
    case h8b => intro w hSw; (try dsimp only at hSw); go_simp; (try with_reducible rfl)
    try simp only [Act.put, List.setIfInBounds_toArray, List.set_cons_zero, List.set_cons_succ]
    refine wpAnyH_take (i := 9) (oi := ⟨some 48, _, _, _, _, _⟩) (v := ?v9b) rfl (by kernel_rfl) (by kernel_rfl) (by kernel_rfl) (fun _ _ _ h => h) (Or.inl ⟨by rfl, ?h9b⟩) (by assumption) ?r9b
    case h9b => intro w hSw; (try dsimp only at hSw); go_simp; (try with_reducible rfl)
    try simp only [Act.put, List.setIfInBounds_toArray, List.set_cons_zero, List.set_cons_succ]
    refine wpAnyH_take (i := 10) (oi := ⟨some 49, _, _, _, _, _⟩) (v := ?v10b) rfl (by kernel_rfl) (by kernel_rfl) (by kernel_rfl) (fun _ _ _ h => h) (Or.inl ⟨by rfl, ?h10b⟩) (by assumption) ?r10b
    case h10b => intro w hSw; (try dsimp only at hSw); obtain ⟨hSw, hSw2⟩ := hSw; go_simp; (try with_reducible rfl)
    try simp only [Act.put, List.setIfInBounds_toArray, List.set_cons_zero, List.set_cons_succ]
    refine wpAnyH_take (i := 11) (oi := ⟨some 50, _, _, _, _, _⟩) (v := ?v11b) rfl (by kernel_rfl) (by kernel_rfl) (by kernel_rfl) (fun _ _ _ h => h) (Or.inl ⟨by rfl, ?h11b⟩) (by assumption) ?r11b
    case h11b => intro w hSw; (try dsimp only at hSw); go_simp; (try with_reducible rfl)
    try simp only [Act.put, List.setIfInBounds_toArray, List.set_cons_zero, List.set_cons_succ]
    refine wpAnyH_take (i := 13) (oi := ⟨some 52, _, _, _, _, _⟩) (v := ?v13b) rfl (by kernel_rfl) (by kernel_rfl) (by kernel_rfl) (fun _ _ _ h => h) (Or.inl ⟨by rfl, ?h13b⟩) (by assumption) ?r13b
    case h13b => intro w hSw; (try dsimp only at hSw); go_simp; (try with_reducible rfl)
    try simp only [Act.put, List.setIfInBounds_toArray, List.set_cons_zero, List.set_cons_succ]
    refine wpAnyH_take (i := 14) (oi := ⟨some 53, _, _, _, _, _⟩) (v := ?v14b) rfl (by kernel_rfl) (by kernel_rfl) (by kernel_rfl) (fun _ _ _ h => h) (Or.inl ⟨by rfl, ?h14b⟩) (by assumption) ?r14b
    case h14b => intro w hSw; (try dsimp only at hSw); go_simp; (try with_reducible rfl)
    try simp only [Act.put, List.setIfInBounds_toArray, List.set_cons_zero, List.set_cons_succ]
    refine wpAnyH_take (i := 15) (oi := ⟨some 54, _, _, _, _, _⟩) (v := ?v15b) rfl (by kernel_rfl) (by kernel_rfl) (by kernel_rfl) (fun _ _ _ h => h) (Or.inl ⟨by rfl, ?h15b⟩) (by assumption) ?r15b
    case h15b => intro w hSw; (try dsimp only at hSw); go_simp; (try with_reducible rfl)
    try simp only [Act.put, List.setIfInBounds_toArray, List.set_cons_zero, List.set_cons_succ]
    refine wpAnyH_ready (rs := [12]) (by kernel_rfl) (by simp) ?_
    refine AllReadyH.cons (o := ⟨some 51, _, _, _, _, _⟩) rfl (fun K hK => ?_) AllReadyH.nil
    go_simp; (go_at_call 86; refine (HO2.out _).mono ?_; rintro z w5 ⟨rfl, hw5⟩; obtain rfl := hw5.symm)
    refine hK.out _ _ (by (try dsimp only); exact hHeld) (fun hHeld => ?_)
    clear hK K
    try simp only [Act.put, List.setIfInBounds_toArray, List.set_cons_zero, List.set_cons_succ]
    refine wpAnyH_ready (rs := [16]) (by kernel_rfl) (by simp) ?_
    refine AllReadyH.cons (o := ⟨some 55, _, _, _, _, _⟩) rfl (fun K hK => ?_) AllReadyH.nil
    go_simp; refine ((HM6.out.same ((Keeps.refl _ _).drew)).bit (i := 0) (o := 202 + st) (h := v2) HC1.out.2.1 (by omega) (.inl ⟨rfl, by omega, by omega⟩) (fun hc => ⟨rfl, HVl.out.2⟩)).mono ?_; rintro z w8 ⟨rfl, h8⟩; have hl6 := (Coded.blk HM.out (Coded.trans HK6.out.1 HK6.out.2 (Coded.trans (Keeps.of_same ((Keeps.refl _ w6).drew)) (fun b hb => .inl hb) h8.1)) HB.out.2.1 (Nat.le_of_eq HB.out.1)).cell 0; have hl7 : w8.cell? ⟨L.φ 0, 5, none⟩ = some (i6 (st : Int)) := (by (obtain ⟨F7, hM7, _⟩ := h8.1; rw [hM7.mm.mcell 5 (by decide), mcell_st, HST.out]))
    refine hK.out _ _ (by (try dsimp only); exact ⟨hl7, hl6⟩) (fun hHeld => ?_)
    clear hK K
    try simp only [Act.put, List.setIfInBounds_toArray, List.set_cons_zero, List.set_cons_succ]
    refine wpAnyH_take (i := 17) (oi := ⟨some 56, _, _, _, _, _⟩) (v := ?v17b) rfl (by kernel_rfl) (by kernel_rfl) (by kernel_rfl) (fun _ _ _ h => h) (Or.inl ⟨by rfl, ?h17b⟩) (by assumption) ?r17b
    case h17b => intro w hSw; (try dsimp only at hSw); go_simp; (try with_reducible rfl)
    try simp only [Act.put, List.setIfInBounds_toArray, List.set_cons_zero, List.set_cons_succ]
    refine wpAnyH_done (by kernel_rfl) ?_ _
    clear hHeld
    have hc2 := Coded.trans HK6.out.1 HK6.out.2 (Coded.trans (Keeps.of_same ((Keeps.refl _ w6).drew)) (fun b hb => .inl hb) h8.1)
    have hk2' := h8.2
    have hE2 : (bitP 0 (202 + st) v2 (C1, P1)).2.1.isEnc = C.isEnc := (bitP_enc _ _ _ _).trans HC1.out.2.2.1
    have hval2 := bitP_val 0 (202 + st) v2 (C1, P1)
    have hrr := HC1.out.2.2.2.2.1
    rw [if_neg HBt.out] at hrr
    generalize (bitP 0 (202 + st) v2 (C1, P1)).1 = b2 at *
    generalize (bitP 0 (202 + st) v2 (C1, P1)).2 = s2 at *
    obtain ⟨C2, P2⟩ := s2
    have hT2 : ifT C2 = T := by rw [← HT.out]; unfold ifT; rw [hE2]
    have hbl0 := hc2.blk HM.out HB.out.2.1 (Nat.le_of_eq HB.out.1)
    have hbl1 := hc2.blk HM.out HB.out.2.2.1 (by have := HB.out.1; omega)
    have HC2 := hid (And.intro hc2 (And.intro hk2' (And.intro hE2 (And.intro hval2 (And.intro hrr hT2)))))
    have HBl2 := hid (And.intro hbl0 hbl1)
    have cB0 : w8.cell? ⟨B, 0, none⟩ = some (i6 (kd : Int)) := hbl0.cell 0
    have cB1 : w8.cell? ⟨B, 1, none⟩ = some (i6 (ds : Int)) := hbl0.cell 1
    have cB2 : w8.cell? ⟨B, 2, none⟩ = some (i6 nI) := hbl0.cell 2
    have cB3 : w8.cell? ⟨B, 3, none⟩ = some (b8 y) := hbl0.cell 3
    clear hc2 hk2' hE2 hval2 hrr hT2 hbl0 hbl1 h8 c5 hme hna hcf hl6 hl7
    by_cases hb2 : b2 = 1
    · have d1 : ((b2 : Int) == 1) = true := by simp; omega
      have HB2 := hid hb2
      clear hb2
      go_wp2_with fail
      obtain ⟨F9, hM9, hK9, hG9⟩ := HC2.out.1
      have hh : C.isEnc = true → kd ≠ 1 ∧ kd ≠ 2 := fun hc => by
        have h1 := HC1.out.2.2.2.1 hc
        have h2 := HC2.out.2.2.2.1 (HC1.out.2.2.1.trans hc)
        have h3 := HBt.out
        have h4 := HB2.out
        obtain ⟨h5, h6⟩ := HV.out
        refine ⟨fun e0 => ?_, fun e0 => ?_⟩
        · rw [if_pos e0] at h5; omega
        · rw [if_pos e0] at h6; omega
      have hds3 : ds ≤ 10000 := by
        by_cases hc : C.isEnc = true
        · obtain ⟨g1, g2⟩ := hh hc
          obtain ⟨g3, g4, g5, g6⟩ := HE.out hc
          by_cases h3 : kd = 3
          · have := (g4 h3).1; omega
          · have := g5 (by have := HKd.out; omega); omega
        · have := (HD.out (by simpa using hc)).1; omega
      have hag := HAg.out _ C2 P2 F9 hM9 (k + 4 + 4) HC2.out.2.1 (by omega) hds3 (fun hc => by
        have hc0 := HC2.out.2.2.1.symm.trans hc
        obtain ⟨g1, g2⟩ := hh hc0
        obtain ⟨g3, g4, g5, g6⟩ := HE.out hc0
        exact ⟨fun h3 => (g4 h3).2, fun h3 => g5 (by have := HKd.out; omega)⟩)
      rw [HC2.out.2.2.2.2.2] at hag
      refine hag.mono ?_
      rintro z w9 ⟨rfl, h9⟩
      have hc3 := Coded.trans hK9 hG9 h9.1
      have hbl1 := hc3.blk HM.out HB.out.2.2.1 (by have := HB.out.1; omega)
      have q0 : w9.cell? ⟨B + 1, 0, none⟩ = some (i6 0) := hbl1.cell 0
      have q1 : w9.cell? ⟨B + 1, 1, none⟩ = some (i6 0) := hbl1.cell 1
      have q2 : w9.cell? ⟨B + 1, 2, none⟩ = some (i6 0) := hbl1.cell 2
      have q3 : w9.cell? ⟨B + 1, 3, none⟩ = some (.int .u8 0) := hbl1.cell 3
      have z0 := hbl1.frozen 0
      have z1 := hbl1.frozen 1
      have z2 := hbl1.frozen 2
      have z3 := hbl1.frozen 3
      have hrr := HC2.out.2.2.2.2.1
      rw [if_pos HB2.out] at hrr
      generalize (againP st pl kd ds n (C2, P2)).1.1 = g1 at *
      generalize (againP st pl kd ds n (C2, P2)).1.2.1 = g2 at *
      generalize (againP st pl kd ds n (C2, P2)).1.2.2 = g3 at *
      have HC3 := hid (And.intro hc3 (And.intro h9.2 hrr))
      clear hc3 h9 hM9 hK9 hG9 hbl1 hag hrr hh
      go_wp2_with fail
      refine bodyPost_ret (v := .tuple #[pk g1 g2 g3 0, .bool false]) (by simp [results, Tryz.results66, go_sem, q0, q1, q2, q3, z0, z1, z2, z3]) rfl ?_
      have hr := HC3.out.2.2
      rw [← hr]
      refine ⟨rfl, ?_, Nat.le_trans HC3.out.2.1 (by omega)⟩
      exact Coded.around HM.out HB.out.2.2.2 HC3.out.1 (by (repeat (first | exact Keeps.refl _ _ | refine Keeps.setCell ?_ (fun _ => by simp) _)) : Keeps (fun b => b = B + 1) w9 _) (fun b hb => by subst hb; have := HB.out.1; have := HB.out.2.2.1.lt; omega)
    · have d1 : ((b2 : Int) == 1) = false := by simp; omega
      have HB2 := hid hb2
      have hkd2 : C.isEnc = true → nF = n + 2 ∧ n < 272 := fun hc => by
        have h2 := HC2.out.2.2.2.1 (HC1.out.2.2.1.trans hc)
        have h6 := HV.out.2
        have hk : kd = 2 := by
          by_cases e0 : kd = 2
          · exact e0
          · rw [if_neg e0] at h6; omega
        obtain ⟨g3, g4, g5, g6, g7⟩ := HE.out hc
        rw [← HNF.out]
        by_cases e0 : e = true
        · rw [if_pos e0]; have := (g7 e0).2.2; omega
        · rw [if_neg e0]; exact g6 hk (by simpa using e0)
      have HFh := hid hkd2
      clear hb2 hkd2
      obtain ⟨dm, hdm⟩ : ∃ dm : Int, (ds : Int) - 1 = dm := ⟨_, rfl⟩
      have fdm : IntKind.i64.wrap dm = dm := IntWalk.i64_in _ (by omega)
      cases e with
      | false =>
        have fd := HDd.out rfl
        rw [hdm] at fd
        obtain rfl : nI = nF := by have := HNF.out; simpa using this
        go_wp2_with fail
        obtain ⟨F9, hM9, hK9, hG9⟩ := HC2.out.1
        have hfr := HFar.out _ C2 P2 F9 hM9 (k + 4 + 4) HC2.out.2.1 (by omega) (fun hc => HFh.out (HC2.out.2.2.1.symm.trans hc))
        rw [HC2.out.2.2.2.2.2] at hfr
        refine hfr.mono ?_
        rintro z w9 ⟨rfl, h9⟩
        have hc3 := Coded.trans hK9 hG9 h9.1
        have hbl1 := hc3.blk HM.out HB.out.2.2.1 (by have := HB.out.1; omega)
        have q0 : w9.cell? ⟨B + 1, 0, none⟩ = some (i6 0) := hbl1.cell 0
        have q1 : w9.cell? ⟨B + 1, 1, none⟩ = some (i6 0) := hbl1.cell 1
        have q2 : w9.cell? ⟨B + 1, 2, none⟩ = some (i6 0) := hbl1.cell 2
        have q3 : w9.cell? ⟨B + 1, 3, none⟩ = some (.int .u8 0) := hbl1.cell 3
        have z0 := hbl1.frozen 0
        have z1 := hbl1.frozen 1
        have z2 := hbl1.frozen 2
        have z3 := hbl1.frozen 3
        have hflt := farP_lt pl d n (C2, P2)
        have hrr := HC2.out.2.2.2.2.1
        rw [if_neg HB2.out] at hrr
        generalize (farP pl d n (C2, P2)).1.1 = fd at *
        generalize (farP pl d n (C2, P2)).1.2 = fl at *
        have HC3 := hid (And.intro hc3 (And.intro h9.2 hrr))
        clear hc3 h9 hM9 hK9 hG9 hbl1 hfr hrr
        by_cases hend : fd = 4294967295
        · have d5 : ((fd : Int) == 4294967295) = true := by simp; omega
          have HEnd := hid hend
          clear hend
          go_wp2_with fail
          refine bodyPost_ret (v := .tuple #[pk 0 0 0 0, .bool true]) (by simp [results, Tryz.results66, go_sem, q0, q1, q2, q3, z0, z1, z2, z3]) rfl ?_
          have hr := HC3.out.2.2
          rw [if_pos HEnd.out] at hr
          rw [← hr]
          refine ⟨rfl, ?_, Nat.le_trans HC3.out.2.1 (by omega)⟩
          exact Coded.around HM.out HB.out.2.2.2 HC3.out.1 (by (repeat (first | exact Keeps.refl _ _ | refine Keeps.setCell ?_ (fun _ => by simp) _)) : Keeps (fun b => b = B + 1) w9 _) (fun b hb => by subst hb; have := HB.out.1; have := HB.out.2.2.1.lt; omega)
        · have d5 : ((fd : Int) == 4294967295) = false := by simp; omega
          have HEnd := hid hend
          have fw1 : IntKind.i64.wrap (fd : Int) = (fd : Int) := IntWalk.i64_in _ (by omega)
          obtain ⟨fd1, hfd1⟩ : ∃ fd1, fd + 1 = fd1 := ⟨_, rfl⟩
          have fw2 : IntKind.i64.wrap ((fd : Int) + 1) = (fd1 : Int) := by rw [IntWalk.i64_in _ (by omega)]; omega
          have HFd := hid hfd1
          clear hend hfd1
          go_wp2_with fail
          refine bodyPost_ret (v := .tuple #[pk 2 fd1 fl 0, .bool false]) (by simp [results, Tryz.results66, go_sem, q0, q1, q2, q3, z0, z1, z2, z3]) rfl ?_
          have hr := HC3.out.2.2
          rw [if_neg HEnd.out, HFd.out] at hr
          rw [← hr]
          refine ⟨rfl, ?_, Nat.le_trans HC3.out.2.1 (by omega)⟩
          exact Coded.around HM.out HB.out.2.2.2 HC3.out.1 (by (repeat (first | exact Keeps.refl _ _ | refine Keeps.setCell ?_ (fun _ => by simp) _)) : Keeps (fun b => b = B + 1) w9 _) (fun b hb => by subst hb; have := HB.out.1; have := HB.out.2.2.1.lt; omega)
      | true =>
        obtain ⟨du, hdu⟩ : ∃ du, IntKind.u32.wrap dm = du := ⟨_, rfl⟩
        have hc : C.isEnc = true := by
          cases hq : C.isEnc with
          | true => rfl
          | false => have := (HD.out hq).2; cases this
        obtain ⟨g3, g4, g5, g6, g7⟩ := HE.out hc
        obtain ⟨g8, g9, g10⟩ := g7 rfl
        subst g9
        obtain rfl : 2 = nF := by have := HNF.out; simpa using this
        have zz2 := HBl2.out.1.frozen 2
        have HCF2 := hid (Coded.turn HM.out HC2.out.1 HB.out.2.1 (Nat.le_of_eq HB.out.1) 2 (i6 2))
        have hbt := HB.out.2.1.set 2 (i6 2)
        simp only [List.setIfInBounds_toArray, List.set_cons_zero, List.set_cons_succ] at hbt
        have hbo := HB.out.2.2.1.setOther (p := ⟨B, 2, none⟩) (by simp) (i6 2)
        have hsw : Same w (w0.setCell ⟨B, 2, none⟩ (i6 2)) := HB.out.2.2.2.setCell (fun hb => absurd HB.out.1 (by have : B < w.heap.size := hb; omega)) _
        have HB := hid (And.intro HB.out.1 (And.intro hbt (And.intro hbo hsw)))
        generalize w0.setCell ⟨B, 2, none⟩ (i6 2) = w1 at *
        clear g3 g4 g5 g6 g7 hbt hbo hsw hc
        go_wp2_with fail
        obtain ⟨F9, hM9, hK9, hG9⟩ := HCF2.out
        have hfr := HFar.out _ C2 P2 F9 hM9 (k + 4 + 4) HC2.out.2.1 (by omega) (fun hc => HFh.out (HC2.out.2.2.1.symm.trans hc))
        rw [HC2.out.2.2.2.2.2] at hfr
        refine hfr.mono ?_
        rintro z w9 ⟨rfl, h9⟩
        have hc3 := Coded.trans hK9 hG9 h9.1
        have hbl1 := hc3.blk HM.out HB.out.2.2.1 (by have := HB.out.1; omega)
        have q0 : w9.cell? ⟨B + 1, 0, none⟩ = some (i6 0) := hbl1.cell 0
        have q1 : w9.cell? ⟨B + 1, 1, none⟩ = some (i6 0) := hbl1.cell 1
        have q2 : w9.cell? ⟨B + 1, 2, none⟩ = some (i6 0) := hbl1.cell 2
        have q3 : w9.cell? ⟨B + 1, 3, none⟩ = some (.int .u8 0) := hbl1.cell 3
        have z0 := hbl1.frozen 0
        have z1 := hbl1.frozen 1
        have z2 := hbl1.frozen 2
        have z3 := hbl1.frozen 3
        have hflt := farP_lt pl 4294967295 n (C2, P2)
        have hrr := HC2.out.2.2.2.2.1
        rw [if_neg HB2.out] at hrr
        generalize (farP pl 4294967295 n (C2, P2)).1.1 = fd at *
        generalize (farP pl 4294967295 n (C2, P2)).1.2 = fl at *
        have HC3 := hid (And.intro hc3 (And.intro h9.2 hrr))
        clear hc3 h9 hM9 hK9 hG9 hbl1 hfr hrr
        by_cases hend : fd = 4294967295
        · have d5 : ((fd : Int) == 4294967295) = true := by simp; omega
          have HEnd := hid hend
          clear hend
          go_wp2_with fail
          refine bodyPost_ret (v := .tuple #[pk 0 0 0 0, .bool true]) (by simp [results, Tryz.results66, go_sem, q0, q1, q2, q3, z0, z1, z2, z3]) rfl ?_
          have hr := HC3.out.2.2
          rw [if_pos HEnd.out] at hr
          rw [← hr]
          refine ⟨rfl, ?_, Nat.le_trans HC3.out.2.1 (by omega)⟩
          exact Coded.around HM.out HB.out.2.2.2 HC3.out.1 (by (repeat (first | exact Keeps.refl _ _ | refine Keeps.setCell ?_ (fun _ => by simp) _)) : Keeps (fun b => b = B + 1) w9 _) (fun b hb => by subst hb; have := HB.out.1; have := HB.out.2.2.1.lt; omega)
        · have d5 : ((fd : Int) == 4294967295) = false := by simp; omega
          have HEnd := hid hend
          have fw1 : IntKind.i64.wrap (fd : Int) = (fd : Int) := IntWalk.i64_in _ (by omega)
          obtain ⟨fd1, hfd1⟩ : ∃ fd1, fd + 1 = fd1 := ⟨_, rfl⟩
          have fw2 : IntKind.i64.wrap ((fd : Int) + 1) = (fd1 : Int) := by rw [IntWalk.i64_in _ (by omega)]; omega
          have HFd := hid hfd1
          clear hend hfd1
          go_wp2_with fail
          refine bodyPost_ret (v := .tuple #[pk 2 fd1 fl 0, .bool false]) (by simp [results, Tryz.results66, go_sem, q0, q1, q2, q3, z0, z1, z2, z3]) rfl ?_
          have hr := HC3.out.2.2
          rw [if_neg HEnd.out, HFd.out] at hr
          rw [← hr]
          refine ⟨rfl, ?_, Nat.le_trans HC3.out.2.1 (by omega)⟩
          exact Coded.around HM.out HB.out.2.2.2 HC3.out.1 (by (repeat (first | exact Keeps.refl _ _ | refine Keeps.setCell ?_ (fun _ => by simp) _)) : Keeps (fun b => b = B + 1) w9 _) (fun b hb => by subst hb; have := HB.out.1; have := HB.out.2.2.1.lt; omega)
end Go.Proofs.YtalopgbkjgjppaaGreatDoor
