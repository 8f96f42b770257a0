/- The walk of model's again. -/
import Derived.Test.YtalopgbkjgjppaaGreatDoorGWh
namespace Go.Proofs.YtalopgbkjgjppaaGreatDoor
open Go.RowKit Go.Cas Go.Cas.Enc

section
variable {w w0 w' w'' : World} {L : Lay} {S : MSt} {P : Prb} {q : Option Addr} {cap x : Nat} {C : Cdr} {F G : Nat → Prop} {s : CSt}
theorem Coded.blk {b : Nat} {cs : Array Value} {t : TypeId} (h : MC w L S P q cap x C F) (hc : Coded w0 w' L S q cap x F s) (hb : Blk w0 b cs t) (hge : w.heap.size ≤ b) : Blk w' b cs t := by
  obtain ⟨F', hM, hK, hG⟩ := hc
  refine hb.keeps hK fun e => ?_
  rcases e with ⟨i, hi, e⟩ | hf
  · have := (h.mm.blk i hi).lt; omega
  · have := h.cm.lt b hf; omega

theorem Coded.around (h : MC w L S P q cap x C F) (hs : Same w w0) (hc : Coded w0 w' L S q cap x F s) (hk : Keeps G w' w'') (hg : ∀ b, G b → w.heap.size ≤ b ∧ b < w0.heap.size) : Coded w w'' L S q cap x F s := by
  obtain ⟨F', hM, hK, hG⟩ := hc
  refine ⟨F', hM.keeps hk fun b hb hgb => ?_, ((Keeps.of_same hs).trans hK).trans' hk fun b hb hgb => ?_, fun b hb => (hG b hb).imp id fun h => Nat.le_trans hs.size h⟩
  · obtain ⟨h1, h2⟩ := hg b hgb
    rcases hb with hb | hb | rfl
    · have := h.mm.lt b hb; omega
    · rcases hG b hb with hf | hf
      · have := h.cm.lt b hf; omega
      · omega
    · have := h.mm.beh.1; omega
  · have := (hg b hgb).1; omega

theorem Coded.two {w1 w2 : World} {F1 : Nat → Prop} {s1 : CSt} (h : Coded w0 w1 L S q cap x F s) (h2 : ∀ F1, MC w1 L S s.2 q cap x s.1 F1 → Coded w1 w2 L S q cap x F1 s1) : Coded w0 w2 L S q cap x F s1 := by
  obtain ⟨F1, hM, hK, hG⟩ := h
  exact Coded.trans hK hG (h2 F1 hM)
end

theorem whichGo_enc (st i : Nat) : ∀ n k s, (whichGo st i n k s).2.1.isEnc = s.1.isEnc
  | 0, k, s => rfl
  | n + 1, k, s => by
    rw [whichGo]
    split
    · exact bitP_enc _ _ _ _
    · rw [whichGo_enc st i n, bitP_enc]

def againP (st pl kd ds n : Nat) (s : CSt) : (Nat × Nat × Nat) × CSt :=
  let a := bitP 0 (214 + st) (if 0 < ds then 1 else 0) s
  if a.1 = 1 then
    let u := whichP st ds a.2
    let l := lengthP 1 pl n u.2
    ((3, u.1, l.1), l.2)
  else
    let b := bitP 0 (226 + 16 * st + pl) (if kd = 3 then 1 else 0) a.2
    if b.1 = 0 then ((4, 0, 0), b.2)
    else let l := lengthP 1 pl n b.2; ((3, 0, l.1), l.2)

abbrev PkT : TypeId := 39

theorem mone_is (b : Bool) (v : Nat) (hv : v = if b then 1 else 0) (w : World) : Calls Tryz.prog 86 #[.bool b] w fun e w' => e = .returned (i6 v) ∧ w' = w := by
  subst hv
  refine (mone_any b w).mono fun e w' h => ⟨h.1.trans ?_, h.2⟩
  cases b <;> rfl

set_option maxHeartbeats 16000000 in
set_option maxRecDepth 100000 in
theorem magain_any (w : World) (L : Lay) (S : MSt) (P : Prb) (q : Option Addr) (cap x : Nat) (C : Cdr) (F : Nat → Prop) (kd ds n k : Nat) (nI y : Int) (h : MC w L S P q cap x C F) (hk : C.n ≤ k) (hk2 : k ≤ 70000000)
    (hds : ds ≤ 10000) (hkd : kd ≤ 4) (hI : -10 ≤ nI ∧ nI ≤ 10000) (hh : C.isEnc = true → (kd = 3 → nI = n + 2 ∧ n < 272) ∧ (kd ≠ 3 → ds = 0)) :
    Calls Tryz.prog 88 #[.pointer (some ⟨L.φ 0, 0, none⟩), ifV C x, pk kd ds nI y] w fun z w' =>
      MCall w w' z (pk (againP S.st (placeN L S) kd ds n (C, P)).1.1 (againP S.st (placeN L S) kd ds n (C, P)).1.2.1 (againP S.st (placeN L S) kd ds n (C, P)).1.2.2 0) L S q cap x F (k + 100) (againP S.st (placeN L S) kd ds n (C, P)).2 := by
  have hst := h.mm.par.2.2.1
  have hpl := placeN_lt L S h.mm.par.2.1
  have HPl : Hid (∀ (w0 : World) (P0 : Prb) (hw : MM w0 L S P0 q cap), Calls Tryz.prog 85 #[.pointer (some ⟨L.φ 0, 0, none⟩)] w0 fun e w' => e = .returned (i6 (placeN L S)) ∧ Same w0 w') := hid (fun w0 P0 hw => mplace_any w0 L S P0 q cap hw)
  have HLen := hid (fun (w0 : World) (C0 : Cdr) (P0 : Prb) (F0 : Nat → Prop) (hm : MC w0 L S P0 q cap x C0 F0) (k0 : Nat) (hk0 : C0.n ≤ k0) (hk02 : k0 ≤ 80000000) (hh0 : C0.isEnc = true → nI = n + 2 ∧ n < 272) => mlength_any w0 L S P0 q cap x C0 F0 1 n k0 nI hm (by decide) hk0 hk02 hh0 hI)
  have HWh := hid (fun (w0 : World) (C0 : Cdr) (P0 : Prb) (F0 : Nat → Prop) (hm : MC w0 L S P0 q cap x C0 F0) (k0 : Nat) (hk0 : C0.n ≤ k0) (hk02 : k0 ≤ 80000000) => mwhich_any w0 L S P0 q cap x C0 F0 ds k0 hm hk0 hk02 hds)
  obtain ⟨R, hR⟩ : ∃ R, againP S.st (placeN L S) kd ds n (C, P) = R := ⟨_, rfl⟩
  rw [hR]
  obtain ⟨pl, hple⟩ : ∃ pl, placeN L S = pl := ⟨_, rfl⟩
  obtain ⟨st, hste⟩ : ∃ st, S.st = st := ⟨_, rfl⟩
  rw [hple] at hpl HPl HLen hR
  rw [hste] at hst HWh hR
  simp only [Nat.reduceAdd] at HLen
  unfold ifV at HLen HWh ⊢
  obtain ⟨T, hT⟩ : ∃ T, ifT C = T := ⟨_, rfl⟩
  have hna := nil_bit C x
  have hme := met_bit C x
  have hcf := cf_bit C
  rw [hT] at hna hme ⊢
  have c5w := h.mm.mcell 5 (by decide)
  rw [mcell_st, hste] at c5w
  obtain ⟨e1, he1⟩ : ∃ e1, decide ((ds : Int) > 0) = e1 := ⟨_, rfl⟩
  have he1' : decide ((0 : Int) < (ds : Int)) = e1 := he1
  have he1n : decide (0 < ds) = e1 := by rw [← he1]; by_cases h0 : 0 < ds <;> simp [h0] <;> omega
  obtain ⟨v1, hv1⟩ : ∃ v1 : Nat, (if 0 < ds then 1 else 0) = v1 := ⟨_, rfl⟩
  have hv1e : v1 = if e1 then 1 else 0 := by
    rw [← hv1, ← he1]
    by_cases h0 : 0 < ds
    · rw [if_pos h0, if_pos (by simpa using h0)]
    · rw [if_neg h0, if_neg (by simpa using h0)]
  obtain ⟨e2, he2⟩ : ∃ e2, ((kd : Int) == 3) = e2 := ⟨_, rfl⟩
  obtain ⟨v2, hv2⟩ : ∃ v2 : Nat, (if kd = 3 then 1 else 0) = v2 := ⟨_, rfl⟩
  have hv2e : v2 = if e2 then 1 else 0 := by
    rw [← hv2, ← he2]
    by_cases h0 : kd = 3
    · rw [if_pos h0, if_pos (by simp; omega)]
    · rw [if_neg h0, if_neg (by simp; omega)]
  have HO1 := hid (mone_is e1 v1 hv1e)
  have HO2 := hid (mone_is e2 v2 hv2e)
  unfold againP at hR
  rw [hv1] at hR
  simp only [hv2] at hR
  have hv1l : v1 < 2 := by rw [← hv1]; split <;> omega
  have hv2l : v2 < 2 := by rw [← hv2]; split <;> omega
  have HRR := hid hR
  have HV := hid (And.intro hv1 hv2)
  have HT := hid hT
  have HM := hid h
  have HST := hid hste
  have HH := hid hh
  have HVl := hid (And.intro hv1l hv2l)
  have s0 : (0 : Int) ≤ (st : Int) := by omega
  have s1 : (st : Int) < 12 := by omega
  have p0 : (0 : Int) ≤ (pl : Int) := by omega
  have p1 : (pl : Int) < 16 := by omega
  clear hR hple hste hv1 hv2 hv1e hv2e hT h hh hv1l hv2l hI hkd
  go_enter Tryz.func88, Tryz.ntmps88
  go_upto_region 1 with fail
  have hb0 : Blk ((w.alloc (.cells #[i6 kd, i6 ds, i6 nI, .int .u8 y] PkT)).alloc (.cells #[i6 0, i6 0, i6 0, .int .u8 0] PkT)) w.heap.size #[i6 kd, i6 ds, i6 nI, .int .u8 y] PkT := (Blk.new _ _ _).alloc _
  have hb1 : Blk ((w.alloc (.cells #[i6 kd, i6 ds, i6 nI, .int .u8 y] PkT)).alloc (.cells #[i6 0, i6 0, i6 0, .int .u8 0] PkT)) (w.heap.size + 1) #[i6 0, i6 0, i6 0, .int .u8 0] PkT := Blk.new_at (by simp)
  have hs0 : Same w ((w.alloc (.cells #[i6 kd, i6 ds, i6 nI, .int .u8 y] PkT)).alloc (.cells #[i6 0, i6 0, i6 0, .int .u8 0] PkT)) := ((Keeps.refl _ _).alloc _).alloc _
  generalize (w.alloc (.cells #[i6 kd, i6 ds, i6 nI, .int .u8 y] PkT)).alloc (.cells #[i6 0, i6 0, i6 0, .int .u8 0] PkT) = w0 at hb0 hb1 hs0 ⊢
  obtain ⟨B, hB⟩ : ∃ B, w.heap.size = B := ⟨_, rfl⟩
  rw [hB] at hb0 hb1 ⊢
  have HM0 := hid (HM.out.same hs0)
  have c5 := (HM0.out.mm.mcell 5 (by decide)).trans (by rw [mcell_st, HST.out] : _ = some (i6 (st : Int)))
  have cB1 : w0.cell? ⟨B, 1, none⟩ = some (i6 (ds : Int)) := hb0.cell 1
  have HB := hid (And.intro hB (And.intro hb0 (And.intro hb1 hs0)))
  clear hB hb0 hb1 hs0 c5w
  refine wp_region_held_drew (S := (fun V => V.cell? ⟨L.φ 0, 5, none⟩ = some (i6 st) ∧ V.cell? ⟨B, 1, none⟩ = some (i6 ds))) (by kernel_rfl) (by (try dsimp only); exact ⟨c5, cB1⟩) (fun hHeld => ?_)
  refine wpAnyH_take (i := 0) (oi := ⟨some 8, _, _, _, _, _⟩) (v := ?v0a) rfl (by kernel_rfl) (by kernel_rfl) (by kernel_rfl) (fun _ _ _ h => h) (Or.inl ⟨by rfl, ?h0a⟩) (by assumption) ?r0a
  case h0a => intro w hSw; (try dsimp only at hSw); go_simp; (try with_reducible rfl)
  try simp only [Act.put, List.setIfInBounds_toArray, List.set_cons_zero, List.set_cons_succ]
  refine wpAnyH_take (i := 1) (oi := ⟨some 9, _, _, _, _, _⟩) (v := ?v1a) rfl (by kernel_rfl) (by kernel_rfl) (by kernel_rfl) (fun _ _ _ h => h) (Or.inl ⟨by rfl, ?h1a⟩) (by assumption) ?r1a
  case h1a => intro w hSw; (try dsimp only at hSw); go_simp; (try with_reducible rfl)
  try simp only [Act.put, List.setIfInBounds_toArray, List.set_cons_zero, List.set_cons_succ]
  refine wpAnyH_take (i := 2) (oi := ⟨some 10, _, _, _, _, _⟩) (v := ?v2a) rfl (by kernel_rfl) (by kernel_rfl) (by kernel_rfl) (fun _ _ _ h => h) (Or.inl ⟨by rfl, ?h2a⟩) (by assumption) ?r2a
  case h2a => intro w hSw; (try dsimp only at hSw); go_simp; (try with_reducible rfl)
  try simp only [Act.put, List.setIfInBounds_toArray, List.set_cons_zero, List.set_cons_succ]
  refine wpAnyH_take (i := 3) (oi := ⟨some 11, _, _, _, _, _⟩) (v := ?v3a) rfl (by kernel_rfl) (by kernel_rfl) (by kernel_rfl) (fun _ _ _ h => h) (Or.inl ⟨by rfl, ?h3a⟩) (by assumption) ?r3a
  case h3a => intro w hSw; (try dsimp only at hSw); go_simp; (try with_reducible rfl)
  try simp only [Act.put, List.setIfInBounds_toArray, List.set_cons_zero, List.set_cons_succ]
  refine wpAnyH_take (i := 4) (oi := ⟨some 12, _, _, _, _, _⟩) (v := ?v4a) rfl (by kernel_rfl) (by kernel_rfl) (by kernel_rfl) (fun _ _ _ h => h) (Or.inl ⟨by rfl, ?h4a⟩) (by assumption) ?r4a
  case h4a => intro w hSw; (try dsimp only at hSw); go_simp; (try with_reducible rfl)
  try simp only [Act.put, List.setIfInBounds_toArray, List.set_cons_zero, List.set_cons_succ]
  refine wpAnyH_take (i := 5) (oi := ⟨some 13, _, _, _, _, _⟩) (v := ?v5a) rfl (by kernel_rfl) (by kernel_rfl) (by kernel_rfl) (fun _ _ _ h => h) (Or.inl ⟨by rfl, ?h5a⟩) (by assumption) ?r5a
  case h5a => intro w hSw; (try dsimp only at hSw); obtain ⟨hSw, hSw2⟩ := hSw; go_simp; (try with_reducible rfl)
  try simp only [Act.put, List.setIfInBounds_toArray, List.set_cons_zero, List.set_cons_succ]
  refine wpAnyH_take (i := 6) (oi := ⟨some 14, _, _, _, _, _⟩) (v := ?v6a) rfl (by kernel_rfl) (by kernel_rfl) (by kernel_rfl) (fun _ _ _ h => h) (Or.inl ⟨by rfl, ?h6a⟩) (by assumption) ?r6a
  case h6a => intro w hSw; (try dsimp only at hSw); go_simp; (try with_reducible rfl)
  try simp only [Act.put, List.setIfInBounds_toArray, List.set_cons_zero, List.set_cons_succ]
  refine wpAnyH_take (i := 7) (oi := ⟨some 15, _, _, _, _, _⟩) (v := ?v7a) rfl (by kernel_rfl) (by kernel_rfl) (by kernel_rfl) (fun _ _ _ h => h) (Or.inl ⟨by rfl, ?h7a⟩) (by assumption) ?r7a
  case h7a => intro w hSw; (try dsimp only at hSw); go_simp; (try with_reducible rfl)
  try simp only [Act.put, List.setIfInBounds_toArray, List.set_cons_zero, List.set_cons_succ]
  refine wpAnyH_take (i := 8) (oi := ⟨some 16, _, _, _, _, _⟩) (v := ?v8a) rfl (by kernel_rfl) (by kernel_rfl) (by kernel_rfl) (fun _ _ _ h => h) (Or.inl ⟨by rfl, ?h8a⟩) (by assumption) ?r8a
  case h8a => intro w hSw; (try dsimp only at hSw); go_simp; (try with_reducible rfl)
  try simp only [Act.put, List.setIfInBounds_toArray, List.set_cons_zero, List.set_cons_succ]
  refine wpAnyH_take (i := 9) (oi := ⟨some 17, _, _, _, _, _⟩) (v := ?v9a) rfl (by kernel_rfl) (by kernel_rfl) (by kernel_rfl) (fun _ _ _ h => h) (Or.inl ⟨by rfl, ?h9a⟩) (by assumption) ?r9a
  case h9a => intro w hSw; (try dsimp only at hSw); go_simp; (try with_reducible rfl)
  try simp only [Act.put, List.setIfInBounds_toArray, List.set_cons_zero, List.set_cons_succ]
  refine wpAnyH_take (i := 10) (oi := ⟨some 18, _, _, _, _, _⟩) (v := ?v10a) rfl (by kernel_rfl) (by kernel_rfl) (by kernel_rfl) (fun _ _ _ h => h) (Or.inl ⟨by rfl, ?h10a⟩) (by assumption) ?r10a
  case h10a => intro w hSw; (try dsimp only at hSw); obtain ⟨hSw, hSw2⟩ := hSw; go_simp; (try with_reducible rfl)
  try simp only [Act.put, List.setIfInBounds_toArray, List.set_cons_zero, List.set_cons_succ]
  refine wpAnyH_take (i := 11) (oi := ⟨some 19, _, _, _, _, _⟩) (v := ?v11a) rfl (by kernel_rfl) (by kernel_rfl) (by kernel_rfl) (fun _ _ _ h => h) (Or.inl ⟨by rfl, ?h11a⟩) (by assumption) ?r11a
  case h11a => intro w hSw; (try dsimp only at hSw); go_simp; (try with_reducible rfl)
  try simp only [Act.put, List.setIfInBounds_toArray, List.set_cons_zero, List.set_cons_succ]
  refine wpAnyH_take (i := 13) (oi := ⟨some 21, _, _, _, _, _⟩) (v := ?v13a) rfl (by kernel_rfl) (by kernel_rfl) (by kernel_rfl) (fun _ _ _ h => h) (Or.inl ⟨by rfl, ?h13a⟩) (by assumption) ?r13a
  case h13a => intro w hSw; (try dsimp only at hSw); go_simp; (try with_reducible rfl)
  try simp only [Act.put, List.setIfInBounds_toArray, List.set_cons_zero, List.set_cons_succ]
  refine wpAnyH_take (i := 14) (oi := ⟨some 22, _, _, _, _, _⟩) (v := ?v14a) rfl (by kernel_rfl) (by kernel_rfl) (by kernel_rfl) (fun _ _ _ h => h) (Or.inl ⟨by rfl, ?h14a⟩) (by assumption) ?r14a
  case h14a => intro w hSw; (try dsimp only at hSw); go_simp; (try with_reducible rfl)
  try simp only [Act.put, List.setIfInBounds_toArray, List.set_cons_zero, List.set_cons_succ]
  refine wpAnyH_take (i := 15) (oi := ⟨some 23, _, _, _, _, _⟩) (v := ?v15a) rfl (by kernel_rfl) (by kernel_rfl) (by kernel_rfl) (fun _ _ _ h => h) (Or.inl ⟨by rfl, ?h15a⟩) (by assumption) ?r15a
  case h15a => intro w hSw; (try dsimp only at hSw); go_simp; (try with_reducible rfl)
  try simp only [Act.put, List.setIfInBounds_toArray, List.set_cons_zero, List.set_cons_succ]
  refine wpAnyH_ready (rs := [12]) (by kernel_rfl) (by simp) ?_
  refine AllReadyH.cons (o := ⟨some 20, _, _, _, _, _⟩) rfl (fun K hK => ?_) AllReadyH.nil
  go_simp; (go_at_call 86; refine (HO1.out _).mono ?_; rintro z w5 ⟨rfl, rfl⟩)
  refine hK.out _ _ (by (try dsimp only); exact hHeld) (fun hHeld => ?_)
  clear hK K
  try simp only [Act.put, List.setIfInBounds_toArray, List.set_cons_zero, List.set_cons_succ]
  refine wpAnyH_ready (rs := [16]) (by kernel_rfl) (by simp) ?_
  refine AllReadyH.cons (o := ⟨some 24, _, _, _, _, _⟩) rfl (fun K hK => ?_) AllReadyH.nil
  go_simp; refine ((HM0.out.same ((Keeps.refl _ _).drew)).bit (i := 0) (o := 214 + st) (h := v1) hk (by omega) (.inl ⟨rfl, by omega, by omega⟩) (fun hc => ⟨rfl, HVl.out.1⟩)).mono ?_; rintro z w6 ⟨rfl, h6b⟩; have hl6 := (Coded.blk HM.out h6b.1 HB.out.2.1.drew (Nat.le_of_eq HB.out.1)).cell 1; have hl7 : w6.cell? ⟨L.φ 0, 5, none⟩ = some (i6 (st : Int)) := (by (obtain ⟨F7, hM7, _⟩ := h6b.1; rw [hM7.mm.mcell 5 (by decide), mcell_st, HST.out]))
  refine hK.out _ _ (by (try dsimp only); exact ⟨hl7, hl6⟩) (fun hHeld => ?_)
  clear hK K
  try simp only [Act.put, List.setIfInBounds_toArray, List.set_cons_zero, List.set_cons_succ]
  refine wpAnyH_take (i := 17) (oi := ⟨some 25, _, _, _, _, _⟩) (v := ?v17a) rfl (by kernel_rfl) (by kernel_rfl) (by kernel_rfl) (fun _ _ _ h => h) (Or.inl ⟨by rfl, ?h17a⟩) (by assumption) ?r17a
  case h17a => intro w hSw; (try dsimp only at hSw); go_simp; (try with_reducible rfl)
  try simp only [Act.put, List.setIfInBounds_toArray, List.set_cons_zero, List.set_cons_succ]
  refine wpAnyH_done (by kernel_rfl) ?_ _
  clear hHeld
  have hc1 := Coded.trans (Keeps.of_same ((Keeps.refl _ w0).drew)) (fun _ h => .inl h) h6b.1
  have hk1 := h6b.2
  have hE1 := bitP_enc 0 (214 + st) v1 (C, P)
  have hval1 := bitP_val 0 (214 + st) v1 (C, P)
  have hrr := HRR.out
  generalize hx1 : (bitP 0 (214 + st) v1 (C, P)).1 = b1 at *
  generalize hs1 : (bitP 0 (214 + st) v1 (C, P)).2 = s1 at *
  obtain ⟨C1, P1⟩ := s1
  have hT1 : ifT C1 = T := by rw [← HT.out]; unfold ifT; rw [hE1]
  have HC1 := hid (And.intro hc1 (And.intro hk1 (And.intro hE1 (And.intro hval1 (And.intro hrr hT1)))))
  have hbl0 := hc1.blk HM.out HB.out.2.1 (Nat.le_of_eq HB.out.1)
  have hbl1 := hc1.blk HM.out HB.out.2.2.1 (by have := HB.out.1; omega)
  have HBl := hid (And.intro hbl0 hbl1)
  clear hc1 hk1 hE1 hval1 hrr hT1 hx1 hs1 HRR h6b c5 cB1 hl6 hl7
  by_cases hb : b1 = 1
  · have d0 : ((b1 : Int) == 1) = true := by simp; omega
    have HBt := hid hb
    have cB1 : w6.cell? ⟨B, 1, none⟩ = some (i6 (ds : Int)) := hbl0.cell 1
    clear hb hbl0 hbl1 hna hme hcf
    go_wp2_with fail
    obtain ⟨F6, hM6, hK6, hG6⟩ := HC1.out.1
    have hw := HWh.out w6 C1 P1 F6 hM6 (k + 4) HC1.out.2.1 (by omega)
    rw [HC1.out.2.2.2.2.2] at hw
    refine hw.mono ?_
    rintro z w7 ⟨rfl, h7⟩
    have hc2 := Coded.trans hK6 hG6 h7.1
    have hk2 := h7.2
    have hE2 : (whichP st ds (C1, P1)).2.1.isEnc = C.isEnc := (whichGo_enc _ _ _ _ _).trans HC1.out.2.2.1
    have hrr : ((3, (whichP st ds (C1, P1)).1, (lengthP 1 pl n (whichP st ds (C1, P1)).2).1), (lengthP 1 pl n (whichP st ds (C1, P1)).2).2) = R := by
      have := HC1.out.2.2.2.2.1
      rw [if_pos HBt.out] at this
      exact this
    generalize (whichP st ds (C1, P1)).1 = wi at *
    generalize (whichP st ds (C1, P1)).2 = s2 at *
    obtain ⟨C2, P2⟩ := s2
    have hT2 : ifT C2 = T := by rw [← HT.out]; unfold ifT; rw [hE2]
    have hbl0 := hc2.blk HM.out HB.out.2.1 (Nat.le_of_eq HB.out.1)
    have hbl1 := hc2.blk HM.out HB.out.2.2.1 (by have := HB.out.1; omega)
    have HC2 := hid (And.intro hc2 (And.intro hk2 (And.intro hE2 (And.intro hrr hT2))))
    have cB2 : w7.cell? ⟨B, 2, none⟩ = some (i6 nI) := hbl0.cell 2
    have clc : w7.cell? ⟨L.φ 0, 463, none⟩ = some (.pointer (some ⟨L.φ 2, 0, none⟩)) := by
      obtain ⟨F7, hM7, _⟩ := hc2
      rw [hM7.mm.mcell 463 (by decide), show (463 : Nat) = 462 + 1 from rfl, mcell_lens L S _ 1 (by decide)]
    clear hc2 hk2 hE2 hrr hT2 hbl0 hbl1 hM6 hK6 hG6 h7 cB1 hw
    go_upto_region 3 with fail
    refine wp_region_S (S := (fun V => V.cell? ⟨L.φ 0, 463, none⟩ = some (.pointer (some ⟨L.φ 2, 0, none⟩)) ∧ V.cell? ⟨B, 2, none⟩ = some (i6 nI))) 12 (by kernel_rfl) (by (try dsimp only); exact ⟨clc, cB2⟩) (fun hHeld => ?_)
    refine wpAnyS_take (i := 0) (oi := ⟨some 31, _, _, _, _, _⟩) (v := ?v0b) rfl (by kernel_rfl) (by kernel_rfl) (by kernel_rfl) (by kernel_rfl) (fun _ _ _ h => h) (Or.inl ⟨by rfl, ?h0b⟩) (by assumption) ?r0b
    case h0b => intro w hSw; (try dsimp only at hSw); go_simp; (try with_reducible rfl)
    try simp only [Act.put, List.setIfInBounds_toArray, List.set_cons_zero, List.set_cons_succ]
    refine wpAnyS_take (i := 1) (oi := ⟨some 32, _, _, _, _, _⟩) (v := ?v1b) rfl (by kernel_rfl) (by kernel_rfl) (by kernel_rfl) (by kernel_rfl) (fun _ _ _ h => h) (Or.inl ⟨by rfl, ?h1b⟩) (by assumption) ?r1b
    case h1b => intro w hSw; (try dsimp only at hSw); go_simp; (try with_reducible rfl)
    try simp only [Act.put, List.setIfInBounds_toArray, List.set_cons_zero, List.set_cons_succ]
    refine wpAnyS_take (i := 2) (oi := ⟨some 33, _, _, _, _, _⟩) (v := ?v2b) rfl (by kernel_rfl) (by kernel_rfl) (by kernel_rfl) (by kernel_rfl) (fun _ _ _ h => h) (Or.inl ⟨by rfl, ?h2b⟩) (by assumption) ?r2b
    case h2b => intro w hSw; (try dsimp only at hSw); go_simp; (try with_reducible rfl)
    try simp only [Act.put, List.setIfInBounds_toArray, List.set_cons_zero, List.set_cons_succ]
    refine wpAnyS_take (i := 3) (oi := ⟨some 34, _, _, _, _, _⟩) (v := ?v3b) rfl (by kernel_rfl) (by kernel_rfl) (by kernel_rfl) (by kernel_rfl) (fun _ _ _ h => h) (Or.inl ⟨by rfl, ?h3b⟩) (by assumption) ?r3b
    case h3b => intro w hSw; (try dsimp only at hSw); go_simp; (try with_reducible rfl)
    try simp only [Act.put, List.setIfInBounds_toArray, List.set_cons_zero, List.set_cons_succ]
    refine wpAnyS_take (i := 4) (oi := ⟨some 35, _, _, _, _, _⟩) (v := ?v4b) rfl (by kernel_rfl) (by kernel_rfl) (by kernel_rfl) (by kernel_rfl) (fun _ _ _ h => h) (Or.inl ⟨by rfl, ?h4b⟩) (by assumption) ?r4b
    case h4b => intro w hSw; (try dsimp only at hSw); go_simp; (try with_reducible rfl)
    try simp only [Act.put, List.setIfInBounds_toArray, List.set_cons_zero, List.set_cons_succ]
    refine wpAnyS_take (i := 5) (oi := ⟨some 36, _, _, _, _, _⟩) (v := ?v5b) rfl (by kernel_rfl) (by kernel_rfl) (by kernel_rfl) (by kernel_rfl) (fun _ _ _ h => h) (Or.inl ⟨by rfl, ?h5b⟩) (by assumption) ?r5b
    case h5b => intro w hSw; (try dsimp only at hSw); go_simp; (try with_reducible rfl)
    try simp only [Act.put, List.setIfInBounds_toArray, List.set_cons_zero, List.set_cons_succ]
    refine wpAnyS_take (i := 6) (oi := ⟨some 37, _, _, _, _, _⟩) (v := ?v6b) rfl (by kernel_rfl) (by kernel_rfl) (by kernel_rfl) (by kernel_rfl) (fun _ _ _ h => h) (Or.inl ⟨by rfl, ?h6b⟩) (by assumption) ?r6b
    case h6b => intro w hSw; (try dsimp only at hSw); go_simp; (try with_reducible rfl)
    try simp only [Act.put, List.setIfInBounds_toArray, List.set_cons_zero, List.set_cons_succ]
    refine wpAnyS_take (i := 7) (oi := ⟨some 38, _, _, _, _, _⟩) (v := ?v7b) rfl (by kernel_rfl) (by kernel_rfl) (by kernel_rfl) (by kernel_rfl) (fun _ _ _ h => h) (Or.inl ⟨by rfl, ?h7b⟩) (by assumption) ?r7b
    case h7b => intro w hSw; (try dsimp only at hSw); obtain ⟨hSw, hSw2⟩ := hSw; go_simp; (try with_reducible rfl)
    try simp only [Act.put, List.setIfInBounds_toArray, List.set_cons_zero, List.set_cons_succ]
    refine wpAnyS_take (i := 8) (oi := ⟨some 39, _, _, _, _, _⟩) (v := ?v8b) rfl (by kernel_rfl) (by kernel_rfl) (by kernel_rfl) (by kernel_rfl) (fun _ _ _ h => h) (Or.inl ⟨by rfl, ?h8b⟩) (by assumption) ?r8b
    case h8b => intro w hSw; (try dsimp only at hSw); go_simp; (try with_reducible rfl)
    try simp only [Act.put, List.setIfInBounds_toArray, List.set_cons_zero, List.set_cons_succ]
    refine wpAnyS_take (i := 9) (oi := ⟨some 40, _, _, _, _, _⟩) (v := ?v9b) rfl (by kernel_rfl) (by kernel_rfl) (by kernel_rfl) (by kernel_rfl) (fun _ _ _ h => h) (Or.inl ⟨by rfl, ?h9b⟩) (by assumption) ?r9b
    case h9b => intro w hSw; (try dsimp only at hSw); obtain ⟨hSw, hSw2⟩ := hSw; go_simp; (try with_reducible rfl)
    try simp only [Act.put, List.setIfInBounds_toArray, List.set_cons_zero, List.set_cons_succ]
    refine wpAnyS_one (i := 10) (o := ⟨some 41, _, _, _, _, _⟩) rfl (by kernel_rfl) (fun K hK => ?_)
    go_simp
    obtain ⟨F7, hM7, hK7, hG7⟩ := HC2.out.1
    have hln := HLen.out _ C2 P2 F7 (hM7.same ((Keeps.refl _ _).drew)) (k + 4 + 8) HC2.out.2.1 (by omega) (fun hc => by (have hc0 := HC2.out.2.2.1.symm.trans hc; have h1 := HC1.out.2.2.2.1 hc0; rw [HBt.out] at h1; have h2 := HV.out.1; by_cases h3 : kd = 3; exact (HH.out hc0).1 h3; have := (HH.out hc0).2 h3; subst this; simp at h2; omega))
    rw [HC2.out.2.2.2.2] at hln
    refine hln.mono ?_
    rintro z w8 ⟨rfl, h8⟩
    have hc3 := Coded.trans hK7 hG7 (Coded.trans (Keeps.of_same ((Keeps.refl _ w7).drew)) (fun _ h => .inl h) h8.1)
    have hbl1 := hc3.blk HM.out HB.out.2.2.1 (by have := HB.out.1; omega)
    have lB2 : w8.cell? ⟨B, 2, none⟩ = some (i6 nI) := (hc3.blk HM.out HB.out.2.1 (Nat.le_of_eq HB.out.1)).cell 2
    have l463 : w8.cell? ⟨L.φ 0, 463, none⟩ = some (.pointer (some ⟨L.φ 2, 0, none⟩)) := by
      obtain ⟨F8, hM8, _⟩ := hc3
      rw [hM8.mm.mcell 463 (by decide), show (463 : Nat) = 462 + 1 from rfl, mcell_lens L S _ 1 (by decide)]
    have hS8 := And.intro l463 lB2
    have q0 : w8.cell? ⟨B + 1, 0, none⟩ = some (i6 0) := hbl1.cell 0
    have q1 : w8.cell? ⟨B + 1, 1, none⟩ = some (i6 0) := hbl1.cell 1
    have q2 : w8.cell? ⟨B + 1, 2, none⟩ = some (i6 0) := hbl1.cell 2
    have q3 : w8.cell? ⟨B + 1, 3, none⟩ = some (.int .u8 0) := hbl1.cell 3
    have z0 := hbl1.frozen 0
    have z1 := hbl1.frozen 1
    have z2 := hbl1.frozen 2
    have z3 := hbl1.frozen 3
    have HC3 := hid (And.intro hc3 h8.2)
    clear hc3 h8 hM7 hK7 hG7 hbl1 hln
    refine hK.out _ _ (fun _ => by (try dsimp only); exact ⟨l463, lB2⟩) ?_
    clear hK K
    try simp only [Act.put, List.setIfInBounds_toArray, List.set_cons_zero, List.set_cons_succ]
    refine wpAnyS_take (i := 11) (oi := ⟨some 42, _, _, _, _, _⟩) (v := ?v11b) rfl (by kernel_rfl) (by kernel_rfl) (by kernel_rfl) (by kernel_rfl) (fun _ _ _ h => h) (Or.inl ⟨by rfl, ?h11b⟩) (by assumption) ?r11b
    case h11b => intro w hSw; (try dsimp only at hSw); go_simp; (try with_reducible rfl)
    try simp only [Act.put, List.setIfInBounds_toArray, List.set_cons_zero, List.set_cons_succ]
    refine wpAnyS_one (i := 12) (o := ⟨none, _, _, _, _, _⟩) rfl (by kernel_rfl) (fun K hK => ?_)
    go_simp
    refine hK.out _ _ (fun h => absurd h (by decide)) ?_
    clear hK K
    try simp only [Act.put, List.setIfInBounds_toArray, List.set_cons_zero, List.set_cons_succ]
    refine wpAnyS_done (by kernel_rfl) ?_ _
    go_wp2_with fail
    refine bodyPost_ret (v := pk 3 wi (lengthP 1 pl n (C2, P2)).1 0) (by simp [results, Tryz.results88, go_sem, q0, q1, q2, q3, z0, z1, z2, z3]) rfl ?_
    have hr := HC2.out.2.2.2.1
    rw [← hr]
    refine ⟨rfl, ?_, Nat.le_trans HC3.out.2 (by omega)⟩
    exact Coded.around HM.out HB.out.2.2.2 HC3.out.1 (by (repeat (first | exact Keeps.refl _ _ | refine Keeps.setCell ?_ (fun _ => by simp) _)) : Keeps (fun b => b = B + 1) w8 _) (fun b hb => by subst hb; have := HB.out.1; have := HB.out.2.2.1.lt; omega)
  · have d0 : ((b1 : Int) == 1) = false := by simp; omega
    have HBt := hid hb
    clear hna hme hcf
    have hna := nil_bit C1 x
    have hme := met_bit C1 x
    have hcf := cf_bit C1
    rw [HC1.out.2.2.2.2.2] at hna hme
    obtain ⟨F6, hM6, hK6, hG6⟩ := HC1.out.1
    have c5 := (hM6.mm.mcell 5 (by decide)).trans (by rw [mcell_st, HST.out] : _ = some (i6 (st : Int)))
    have cB0 : w6.cell? ⟨B, 0, none⟩ = some (i6 (kd : Int)) := hbl0.cell 0
    have HM6 := hid hM6
    have HK6 := hid (And.intro hK6 hG6)
    obtain ⟨ix, hix⟩ : ∃ ix, 226 + 16 * st + pl = ix := ⟨_, rfl⟩
    have hix2 : 226 + st * 16 + pl = ix := by omega
    have hixb : 10 ≤ ix ∧ ix < 442 := by omega
    have HIx := hid (And.intro hix hixb)
    clear hb hbl0 hbl1 hM6 hK6 hG6 hix hixb
    go_upto_region 4 with fail
    refine wp_region_held_drew (S := (fun V => V.cell? ⟨L.φ 0, 5, none⟩ = some (i6 st) ∧ V.cell? ⟨B, 0, none⟩ = some (i6 kd))) (by kernel_rfl) (by (try dsimp only); exact ⟨c5, cB0⟩) (fun hHeld => ?_)
    refine wpAnyH_take (i := 0) (oi := ⟨some 43, _, _, _, _, _⟩) (v := ?v0c) rfl (by kernel_rfl) (by kernel_rfl) (by kernel_rfl) (fun _ _ _ h => h) (Or.inl ⟨by rfl, ?h0c⟩) (by assumption) ?r0c
    case h0c => intro w hSw; (try dsimp only at hSw); go_simp; (try with_reducible rfl)
    try simp only [Act.put, List.setIfInBounds_toArray, List.set_cons_zero, List.set_cons_succ]
    refine wpAnyH_take (i := 1) (oi := ⟨some 44, _, _, _, _, _⟩) (v := ?v1c) rfl (by kernel_rfl) (by kernel_rfl) (by kernel_rfl) (fun _ _ _ h => h) (Or.inl ⟨by rfl, ?h1c⟩) (by assumption) ?r1c
    case h1c => intro w hSw; (try dsimp only at hSw); go_simp; (try with_reducible rfl)
    try simp only [Act.put, List.setIfInBounds_toArray, List.set_cons_zero, List.set_cons_succ]
    refine wpAnyH_take (i := 2) (oi := ⟨some 45, _, _, _, _, _⟩) (v := ?v2c) rfl (by kernel_rfl) (by kernel_rfl) (by kernel_rfl) (fun _ _ _ h => h) (Or.inl ⟨by rfl, ?h2c⟩) (by assumption) ?r2c
    case h2c => intro w hSw; (try dsimp only at hSw); go_simp; (try with_reducible rfl)
    try simp only [Act.put, List.setIfInBounds_toArray, List.set_cons_zero, List.set_cons_succ]
    refine wpAnyH_take (i := 3) (oi := ⟨some 46, _, _, _, _, _⟩) (v := ?v3c) rfl (by kernel_rfl) (by kernel_rfl) (by kernel_rfl) (fun _ _ _ h => h) (Or.inl ⟨by rfl, ?h3c⟩) (by assumption) ?r3c
    case h3c => intro w hSw; (try dsimp only at hSw); go_simp; (try with_reducible rfl)
    try simp only [Act.put, List.setIfInBounds_toArray, List.set_cons_zero, List.set_cons_succ]
    refine wpAnyH_take (i := 4) (oi := ⟨some 47, _, _, _, _, _⟩) (v := ?v4c) rfl (by kernel_rfl) (by kernel_rfl) (by kernel_rfl) (fun _ _ _ h => h) (Or.inl ⟨by rfl, ?h4c⟩) (by assumption) ?r4c
    case h4c => intro w hSw; (try dsimp only at hSw); go_simp; (try with_reducible rfl)
    try simp only [Act.put, List.setIfInBounds_toArray, List.set_cons_zero, List.set_cons_succ]
    refine wpAnyH_take (i := 5) (oi := ⟨some 48, _, _, _, _, _⟩) (v := ?v5c) rfl (by kernel_rfl) (by kernel_rfl) (by kernel_rfl) (fun _ _ _ h => h) (Or.inl ⟨by rfl, ?h5c⟩) (by assumption) ?r5c
    case h5c => intro w hSw; (try dsimp only at hSw); obtain ⟨hSw, hSw2⟩ := hSw; go_simp; (try with_reducible rfl)
    try simp only [Act.put, List.setIfInBounds_toArray, List.set_cons_zero, List.set_cons_succ]
    refine wpAnyH_take (i := 6) (oi := ⟨some 49, _, _, _, _, _⟩) (v := ?v6c) rfl (by kernel_rfl) (by kernel_rfl) (by kernel_rfl) (fun _ _ _ h => h) (Or.inl ⟨by rfl, ?h6c⟩) (by assumption) ?r6c
    case h6c => intro w hSw; (try dsimp only at hSw); go_simp; (try with_reducible rfl)
    try simp only [Act.put, List.setIfInBounds_toArray, List.set_cons_zero, List.set_cons_succ]
    refine wpAnyH_take (i := 8) (oi := ⟨some 51, _, _, _, _, _⟩) (v := ?v8c) rfl (by kernel_rfl) (by kernel_rfl) (by kernel_rfl) (fun _ _ _ h => h) (Or.inl ⟨by rfl, ?h8c⟩) (by assumption) ?r8c
    case h8c => intro w hSw; (try dsimp only at hSw); go_simp; (try with_reducible rfl)
    try simp only [Act.put, List.setIfInBounds_toArray, List.set_cons_zero, List.set_cons_succ]
    refine wpAnyH_take (i := 9) (oi := ⟨some 52, _, _, _, _, _⟩) (v := ?v9c) rfl (by kernel_rfl) (by kernel_rfl) (by kernel_rfl) (fun _ _ _ h => h) (Or.inl ⟨by rfl, ?h9c⟩) (by assumption) ?r9c
    case h9c => intro w hSw; (try dsimp only at hSw); go_simp; (try with_reducible rfl)
    try simp only [Act.put, List.setIfInBounds_toArray, List.set_cons_zero, List.set_cons_succ]
    refine wpAnyH_take (i := 10) (oi := ⟨some 53, _, _, _, _, _⟩) (v := ?v10c) rfl (by kernel_rfl) (by kernel_rfl) (by kernel_rfl) (fun _ _ _ h => h) (Or.inl ⟨by rfl, ?h10c⟩) (by assumption) ?r10c
    case h10c => intro w hSw; (try dsimp only at hSw); go_simp; (try with_reducible rfl)
    try simp only [Act.put, List.setIfInBounds_toArray, List.set_cons_zero, List.set_cons_succ]
    refine wpAnyH_take (i := 12) (oi := ⟨some 55, _, _, _, _, _⟩) (v := ?v12c) rfl (by kernel_rfl) (by kernel_rfl) (by kernel_rfl) (fun _ _ _ h => h) (Or.inl ⟨by rfl, ?h12c⟩) (by assumption) ?r12c
    case h12c => intro w hSw; (try dsimp only at hSw); go_simp; (try with_reducible rfl)
    try simp only [Act.put, List.setIfInBounds_toArray, List.set_cons_zero, List.set_cons_succ]
    refine wpAnyH_take (i := 13) (oi := ⟨some 56, _, _, _, _, _⟩) (v := ?v13c) rfl (by kernel_rfl) (by kernel_rfl) (by kernel_rfl) (fun _ _ _ h => h) (Or.inl ⟨by rfl, ?h13c⟩) (by assumption) ?r13c
    case h13c => intro w hSw; (try dsimp only at hSw); obtain ⟨hSw, hSw2⟩ := hSw; go_simp; (try with_reducible rfl)
    try simp only [Act.put, List.setIfInBounds_toArray, List.set_cons_zero, List.set_cons_succ]
    refine wpAnyH_take (i := 14) (oi := ⟨some 57, _, _, _, _, _⟩) (v := ?v14c) rfl (by kernel_rfl) (by kernel_rfl) (by kernel_rfl) (fun _ _ _ h => h) (Or.inl ⟨by rfl, ?h14c⟩) (by assumption) ?r14c
    case h14c => intro w hSw; (try dsimp only at hSw); go_simp; (try with_reducible rfl)
    try simp only [Act.put, List.setIfInBounds_toArray, List.set_cons_zero, List.set_cons_succ]
    refine wpAnyH_take (i := 16) (oi := ⟨some 59, _, _, _, _, _⟩) (v := ?v16c) rfl (by kernel_rfl) (by kernel_rfl) (by kernel_rfl) (fun _ _ _ h => h) (Or.inl ⟨by rfl, ?h16c⟩) (by assumption) ?r16c
    case h16c => intro w hSw; (try dsimp only at hSw); go_simp; (try with_reducible rfl)
    try simp only [Act.put, List.setIfInBounds_toArray, List.set_cons_zero, List.set_cons_succ]
    refine wpAnyH_take (i := 17) (oi := ⟨some 60, _, _, _, _, _⟩) (v := ?v17c) rfl (by kernel_rfl) (by kernel_rfl) (by kernel_rfl) (fun _ _ _ h => h) (Or.inl ⟨by rfl, ?h17c⟩) (by assumption) ?r17c
    case h17c => intro w hSw; (try dsimp only at hSw); go_simp; (try with_reducible rfl)
    try simp only [Act.put, List.setIfInBounds_toArray, List.set_cons_zero, List.set_cons_succ]
    refine wpAnyH_take (i := 18) (oi := ⟨some 61, _, _, _, _, _⟩) (v := ?v18c) rfl (by kernel_rfl) (by kernel_rfl) (by kernel_rfl) (fun _ _ _ h => h) (Or.inl ⟨by rfl, ?h18c⟩) (by assumption) ?r18c
    case h18c => intro w hSw; (try dsimp only at hSw); go_simp; (try with_reducible rfl)
    try simp only [Act.put, List.setIfInBounds_toArray, List.set_cons_zero, List.set_cons_succ]
    refine wpAnyH_ready (rs := [7]) (by kernel_rfl) (by simp) ?_
    refine AllReadyH.cons (o := ⟨some 50, _, _, _, _, _⟩) rfl (fun K hK => ?_) AllReadyH.nil
    go_simp; (go_at_call 85; refine (HPl.out _ _ (HM6.out.same ((Keeps.refl _ _).drew)).mm).mono ?_; rintro z w7 ⟨rfl, hs7⟩; have m0 := (hs7.cell (p := ⟨L.φ 0, 5, none⟩) ((HM6.out.same ((Keeps.refl _ _).drew)).mm.blk 0 (used_small (by decide) (by decide))).lt (fun h => h)).trans hHeld.1; have m1 := (hs7.cell (p := ⟨B, 0, none⟩) HBl.out.1.drew.lt (fun h => h)).trans hHeld.2)
    refine hK.out _ _ (by (try dsimp only); exact ⟨m0, m1⟩) (fun hHeld => ?_)
    clear hK K
    try simp only [Act.put, List.setIfInBounds_toArray, List.set_cons_zero, List.set_cons_succ]
    refine wpAnyH_take (i := 11) (oi := ⟨some 54, _, _, _, _, _⟩) (v := ?v11c) rfl (by kernel_rfl) (by kernel_rfl) (by kernel_rfl) (fun _ _ _ h => h) (Or.inl ⟨by rfl, ?h11c⟩) (by assumption) ?r11c
    case h11c => intro w hSw; (try dsimp only at hSw); go_simp; (try with_reducible rfl)
    try simp only [Act.put, List.setIfInBounds_toArray, List.set_cons_zero, List.set_cons_succ]
    refine wpAnyH_ready (rs := [15]) (by kernel_rfl) (by simp) ?_
    refine AllReadyH.cons (o := ⟨some 58, _, _, _, _, _⟩) rfl (fun K hK => ?_) AllReadyH.nil
    go_simp; (go_at_call 86; refine (HO2.out _).mono ?_; rintro z w5 ⟨rfl, hw5⟩; obtain rfl := hw5.symm)
    refine hK.out _ _ (by (try dsimp only); exact ⟨m0, m1⟩) (fun hHeld => ?_)
    clear hK K
    try simp only [Act.put, List.setIfInBounds_toArray, List.set_cons_zero, List.set_cons_succ]
    refine wpAnyH_ready (rs := [19]) (by kernel_rfl) (by simp) ?_
    refine AllReadyH.cons (o := ⟨some 62, _, _, _, _, _⟩) rfl (fun K hK => ?_) AllReadyH.nil
    go_simp; refine ((HM6.out.same (hs7.drew_left)).bit (i := 0) (o := ix) (h := v2) HC1.out.2.1 (by omega) (.inl ⟨rfl, HIx.out.2.1, HIx.out.2.2⟩) (fun hc => ⟨rfl, HVl.out.2⟩)).mono ?_; rintro z w8 ⟨rfl, h8⟩; have hl6 := (Coded.blk HM.out (Coded.trans HK6.out.1 HK6.out.2 (Coded.trans (Keeps.of_same (hs7.drew_left)) (fun b hb => .inl hb) h8.1)) HB.out.2.1 (Nat.le_of_eq HB.out.1)).cell 0; have hl7 : w8.cell? ⟨L.φ 0, 5, none⟩ = some (i6 (st : Int)) := (by (obtain ⟨F7, hM7, _⟩ := h8.1; rw [hM7.mm.mcell 5 (by decide), mcell_st, HST.out]))
    refine hK.out _ _ (by (try dsimp only); exact ⟨hl7, hl6⟩) (fun hHeld => ?_)
    clear hK K
    try simp only [Act.put, List.setIfInBounds_toArray, List.set_cons_zero, List.set_cons_succ]
    refine wpAnyH_take (i := 20) (oi := ⟨some 63, _, _, _, _, _⟩) (v := ?v20c) rfl (by kernel_rfl) (by kernel_rfl) (by kernel_rfl) (fun _ _ _ h => h) (Or.inl ⟨by rfl, ?h20c⟩) (by assumption) ?r20c
    case h20c => intro w hSw; (try dsimp only at hSw); go_simp; (try with_reducible rfl)
    try simp only [Act.put, List.setIfInBounds_toArray, List.set_cons_zero, List.set_cons_succ]
    refine wpAnyH_done (by kernel_rfl) ?_ _
    clear hHeld
    have hc2 := Coded.trans HK6.out.1 HK6.out.2 (Coded.trans (Keeps.of_same (hs7.drew_left)) (fun b hb => .inl hb) h8.1)
    have hk2 := h8.2
    have hE2 : (bitP 0 ix v2 (C1, P1)).2.1.isEnc = C.isEnc := (bitP_enc _ _ _ _).trans HC1.out.2.2.1
    have hval2 := bitP_val 0 ix v2 (C1, P1)
    have hrr := HC1.out.2.2.2.2.1
    rw [if_neg HBt.out, HIx.out.1] at hrr
    generalize (bitP 0 ix v2 (C1, P1)).1 = b2 at *
    generalize (bitP 0 ix v2 (C1, P1)).2 = s2 at *
    obtain ⟨C2, P2⟩ := s2
    have hT2 : ifT C2 = T := by rw [← HT.out]; unfold ifT; rw [hE2]
    have hbl0 := hc2.blk HM.out HB.out.2.1 (Nat.le_of_eq HB.out.1)
    have hbl1 := hc2.blk HM.out HB.out.2.2.1 (by have := HB.out.1; omega)
    have HC2 := hid (And.intro hc2 (And.intro hk2 (And.intro hE2 (And.intro hval2 (And.intro hrr hT2)))))
    have HBl2 := hid (And.intro hbl0 hbl1)
    clear hc2 hk2 hE2 hval2 hrr hT2 hbl0 hbl1 h8 c5 cB0 hme hna hcf
    by_cases hb2 : b2 = 0
    · have d1 : ((b2 : Int) == 0) = true := by simp; omega
      have HB2 := hid hb2
      have q0 : w8.cell? ⟨B + 1, 0, none⟩ = some (i6 0) := HBl2.out.2.cell 0
      have q1 : w8.cell? ⟨B + 1, 1, none⟩ = some (i6 0) := HBl2.out.2.cell 1
      have q2 : w8.cell? ⟨B + 1, 2, none⟩ = some (i6 0) := HBl2.out.2.cell 2
      have q3 : w8.cell? ⟨B + 1, 3, none⟩ = some (.int .u8 0) := HBl2.out.2.cell 3
      have z0 := HBl2.out.2.frozen 0
      have z1 := HBl2.out.2.frozen 1
      have z2 := HBl2.out.2.frozen 2
      have z3 := HBl2.out.2.frozen 3
      clear hb2
      go_wp2_with fail
      refine bodyPost_ret (v := pk 4 0 0 0) (by simp [results, Tryz.results88, go_sem, q0, q1, q2, q3, z0, z1, z2, z3]) rfl ?_
      have hr := HC2.out.2.2.2.2.1
      rw [if_pos HB2.out] at hr
      rw [← hr]
      refine ⟨rfl, ?_, Nat.le_trans HC2.out.2.1 (by omega)⟩
      exact Coded.around HM.out HB.out.2.2.2 HC2.out.1 (by (repeat (first | exact Keeps.refl _ _ | refine Keeps.setCell ?_ (fun _ => by simp) _)) : Keeps (fun b => b = B + 1) w8 _) (fun b hb => by subst hb; have := HB.out.1; have := HB.out.2.2.1.lt; omega)
    · have d1 : ((b2 : Int) == 0) = false := by simp; omega
      have HB2 := hid hb2
      have cB2 : w8.cell? ⟨B, 2, none⟩ = some (i6 nI) := HBl2.out.1.cell 2
      have clc : w8.cell? ⟨L.φ 0, 463, none⟩ = some (.pointer (some ⟨L.φ 2, 0, none⟩)) := by
        obtain ⟨F7, hM7, _⟩ := HC2.out.1
        rw [hM7.mm.mcell 463 (by decide), show (463 : Nat) = 462 + 1 from rfl, mcell_lens L S _ 1 (by decide)]
      clear hb2
      go_upto_region 6 with fail
      refine wp_region_S (S := (fun V => V.cell? ⟨L.φ 0, 463, none⟩ = some (.pointer (some ⟨L.φ 2, 0, none⟩)) ∧ V.cell? ⟨B, 2, none⟩ = some (i6 nI))) 11 (by kernel_rfl) (by (try dsimp only); exact ⟨clc, cB2⟩) (fun hHeld => ?_)
      refine wpAnyS_take (i := 0) (oi := ⟨some 65, _, _, _, _, _⟩) (v := ?v0d) rfl (by kernel_rfl) (by kernel_rfl) (by kernel_rfl) (by kernel_rfl) (fun _ _ _ h => h) (Or.inl ⟨by rfl, ?h0d⟩) (by assumption) ?r0d
      case h0d => intro w hSw; (try dsimp only at hSw); go_simp; (try with_reducible rfl)
      try simp only [Act.put, List.setIfInBounds_toArray, List.set_cons_zero, List.set_cons_succ]
      refine wpAnyS_take (i := 1) (oi := ⟨some 66, _, _, _, _, _⟩) (v := ?v1d) rfl (by kernel_rfl) (by kernel_rfl) (by kernel_rfl) (by kernel_rfl) (fun _ _ _ h => h) (Or.inl ⟨by rfl, ?h1d⟩) (by assumption) ?r1d
      case h1d => intro w hSw; (try dsimp only at hSw); go_simp; (try with_reducible rfl)
      try simp only [Act.put, List.setIfInBounds_toArray, List.set_cons_zero, List.set_cons_succ]
      refine wpAnyS_take (i := 2) (oi := ⟨some 67, _, _, _, _, _⟩) (v := ?v2d) rfl (by kernel_rfl) (by kernel_rfl) (by kernel_rfl) (by kernel_rfl) (fun _ _ _ h => h) (Or.inl ⟨by rfl, ?h2d⟩) (by assumption) ?r2d
      case h2d => intro w hSw; (try dsimp only at hSw); go_simp; (try with_reducible rfl)
      try simp only [Act.put, List.setIfInBounds_toArray, List.set_cons_zero, List.set_cons_succ]
      refine wpAnyS_take (i := 3) (oi := ⟨some 68, _, _, _, _, _⟩) (v := ?v3d) rfl (by kernel_rfl) (by kernel_rfl) (by kernel_rfl) (by kernel_rfl) (fun _ _ _ h => h) (Or.inl ⟨by rfl, ?h3d⟩) (by assumption) ?r3d
      case h3d => intro w hSw; (try dsimp only at hSw); go_simp; (try with_reducible rfl)
      try simp only [Act.put, List.setIfInBounds_toArray, List.set_cons_zero, List.set_cons_succ]
      refine wpAnyS_take (i := 4) (oi := ⟨some 69, _, _, _, _, _⟩) (v := ?v4d) rfl (by kernel_rfl) (by kernel_rfl) (by kernel_rfl) (by kernel_rfl) (fun _ _ _ h => h) (Or.inl ⟨by rfl, ?h4d⟩) (by assumption) ?r4d
      case h4d => intro w hSw; (try dsimp only at hSw); go_simp; (try with_reducible rfl)
      try simp only [Act.put, List.setIfInBounds_toArray, List.set_cons_zero, List.set_cons_succ]
      refine wpAnyS_take (i := 5) (oi := ⟨some 70, _, _, _, _, _⟩) (v := ?v5d) rfl (by kernel_rfl) (by kernel_rfl) (by kernel_rfl) (by kernel_rfl) (fun _ _ _ h => h) (Or.inl ⟨by rfl, ?h5d⟩) (by assumption) ?r5d
      case h5d => intro w hSw; (try dsimp only at hSw); go_simp; (try with_reducible rfl)
      try simp only [Act.put, List.setIfInBounds_toArray, List.set_cons_zero, List.set_cons_succ]
      refine wpAnyS_take (i := 6) (oi := ⟨some 71, _, _, _, _, _⟩) (v := ?v6d) rfl (by kernel_rfl) (by kernel_rfl) (by kernel_rfl) (by kernel_rfl) (fun _ _ _ h => h) (Or.inl ⟨by rfl, ?h6d⟩) (by assumption) ?r6d
      case h6d => intro w hSw; (try dsimp only at hSw); obtain ⟨hSw, hSw2⟩ := hSw; go_simp; (try with_reducible rfl)
      try simp only [Act.put, List.setIfInBounds_toArray, List.set_cons_zero, List.set_cons_succ]
      refine wpAnyS_take (i := 7) (oi := ⟨some 72, _, _, _, _, _⟩) (v := ?v7d) rfl (by kernel_rfl) (by kernel_rfl) (by kernel_rfl) (by kernel_rfl) (fun _ _ _ h => h) (Or.inl ⟨by rfl, ?h7d⟩) (by assumption) ?r7d
      case h7d => intro w hSw; (try dsimp only at hSw); go_simp; (try with_reducible rfl)
      try simp only [Act.put, List.setIfInBounds_toArray, List.set_cons_zero, List.set_cons_succ]
      refine wpAnyS_take (i := 8) (oi := ⟨some 73, _, _, _, _, _⟩) (v := ?v8d) rfl (by kernel_rfl) (by kernel_rfl) (by kernel_rfl) (by kernel_rfl) (fun _ _ _ h => h) (Or.inl ⟨by rfl, ?h8d⟩) (by assumption) ?r8d
      case h8d => intro w hSw; (try dsimp only at hSw); obtain ⟨hSw, hSw2⟩ := hSw; go_simp; (try with_reducible rfl)
      try simp only [Act.put, List.setIfInBounds_toArray, List.set_cons_zero, List.set_cons_succ]
      refine wpAnyS_one (i := 9) (o := ⟨some 74, _, _, _, _, _⟩) rfl (by kernel_rfl) (fun K hK => ?_)
      go_simp
      obtain ⟨F7, hM7, hK7, hG7⟩ := HC2.out.1
      have hln := HLen.out _ C2 P2 F7 (hM7.same ((Keeps.refl _ _).drew)) (k + 4 + 4) HC2.out.2.1 (by omega) (fun hc => by (have hc0 := HC2.out.2.2.1.symm.trans hc; have h1 := HC2.out.2.2.2.1 (HC1.out.2.2.1.trans hc0); have h2 := HV.out.2; have h5 := HB2.out; by_cases h3 : kd = 3; exact (HH.out hc0).1 h3; rw [if_neg h3] at h2; omega))
      rw [HC2.out.2.2.2.2.2] at hln
      refine hln.mono ?_
      rintro z w9 ⟨rfl, h9⟩
      have hc3 := Coded.trans hK7 hG7 (Coded.trans (Keeps.of_same ((Keeps.refl _ w8).drew)) (fun _ h => .inl h) h9.1)
      have hbl1 := hc3.blk HM.out HB.out.2.2.1 (by have := HB.out.1; omega)
      have lB2 : w9.cell? ⟨B, 2, none⟩ = some (i6 nI) := (hc3.blk HM.out HB.out.2.1 (Nat.le_of_eq HB.out.1)).cell 2
      have l463 : w9.cell? ⟨L.φ 0, 463, none⟩ = some (.pointer (some ⟨L.φ 2, 0, none⟩)) := by
        obtain ⟨F8, hM8, _⟩ := hc3
        rw [hM8.mm.mcell 463 (by decide), show (463 : Nat) = 462 + 1 from rfl, mcell_lens L S _ 1 (by decide)]
      have hS8 := And.intro l463 lB2
      have q0 : w9.cell? ⟨B + 1, 0, none⟩ = some (i6 0) := hbl1.cell 0
      have q1 : w9.cell? ⟨B + 1, 1, none⟩ = some (i6 0) := hbl1.cell 1
      have q2 : w9.cell? ⟨B + 1, 2, none⟩ = some (i6 0) := hbl1.cell 2
      have q3 : w9.cell? ⟨B + 1, 3, none⟩ = some (.int .u8 0) := hbl1.cell 3
      have z0 := hbl1.frozen 0
      have z1 := hbl1.frozen 1
      have z2 := hbl1.frozen 2
      have z3 := hbl1.frozen 3
      have HC3 := hid (And.intro hc3 h9.2)
      clear hc3 h9 hM7 hK7 hG7 hbl1 hln
      refine hK.out _ _ (fun _ => by (try dsimp only); exact ⟨l463, lB2⟩) ?_
      clear hK K
      try simp only [Act.put, List.setIfInBounds_toArray, List.set_cons_zero, List.set_cons_succ]
      refine wpAnyS_take (i := 10) (oi := ⟨some 75, _, _, _, _, _⟩) (v := ?v10d) rfl (by kernel_rfl) (by kernel_rfl) (by kernel_rfl) (by kernel_rfl) (fun _ _ _ h => h) (Or.inl ⟨by rfl, ?h10d⟩) (by assumption) ?r10d
      case h10d => intro w hSw; (try dsimp only at hSw); go_simp; (try with_reducible rfl)
      try simp only [Act.put, List.setIfInBounds_toArray, List.set_cons_zero, List.set_cons_succ]
      refine wpAnyS_one (i := 11) (o := ⟨none, _, _, _, _, _⟩) rfl (by kernel_rfl) (fun K hK => ?_)
      go_simp
      refine hK.out _ _ (fun h => absurd h (by decide)) ?_
      clear hK K
      try simp only [Act.put, List.setIfInBounds_toArray, List.set_cons_zero, List.set_cons_succ]
      refine wpAnyS_done (by kernel_rfl) ?_ _
      go_wp2_with fail
      refine bodyPost_ret (v := pk 3 0 (lengthP 1 pl n (C2, P2)).1 0) (by simp [results, Tryz.results88, go_sem, q0, q1, q2, q3, z0, z1, z2, z3]) rfl ?_
      have hr := HC2.out.2.2.2.2.1
      rw [if_neg HB2.out] at hr
      rw [← hr]
      refine ⟨rfl, ?_, Nat.le_trans HC3.out.2 (by omega)⟩
      exact Coded.around HM.out HB.out.2.2.2 HC3.out.1 (by (repeat (first | exact Keeps.refl _ _ | refine Keeps.setCell ?_ (fun _ => by simp) _)) : Keeps (fun b => b = B + 1) w9 _) (fun b hb => by subst hb; have := HB.out.1; have := HB.out.2.2.1.lt; omega)
end Go.Proofs.YtalopgbkjgjppaaGreatDoor
