/- The walk of model's dist. -/
import Derived.Test.YtalopgbkjgjppaaGreatDoorLe
namespace Go.Proofs.YtalopgbkjgjppaaGreatDoor
open Go.RowKit Go.Cas Go.Cas.Enc

def distP (cl d : Nat) (s : CSt) : Nat × CSt :=
  let a := treeP (3 + cl) 6 (slotN d) s
  if a.1 < 4 then ((baseN a.1).1, a.2)
  else if a.1 < 14 then let b := backP (7 + a.1) (baseN a.1).2 (d - (baseN a.1).1) a.2; ((baseN a.1).1 + b.1, b.2)
  else
    let h := dirP ((baseN a.1).2 - 4) ((d - (baseN a.1).1) / 16) a.2
    let b := backP 21 4 ((d - (baseN a.1).1) % 16) h.2
    ((baseN a.1).1 + h.1 * 16 + b.1, b.2)

theorem mcell_slot (L : Lay) (S : MSt) (f : Nat → Nat) (c : Nat) (hc : c < 4) : mcell L S f (443 + c) = L.tree (3 + c) := by
  unfold mcell
  rw [if_neg (by omega), if_neg (by omega), if_neg (by omega), if_neg (by omega), if_neg (by omega), if_neg (by omega), if_neg (by omega), if_neg (by omega), if_neg (by omega), if_neg (by omega), if_neg (by omega), if_neg (by omega), if_pos (by omega), show 443 + c - 440 = 3 + c from by omega]
theorem mcell_special (L : Lay) (S : MSt) (f : Nat → Nat) (c : Nat) (h4 : 4 ≤ c) (hc : c < 14) : mcell L S f (447 + c) = L.tree (7 + c) := by
  unfold mcell
  rw [if_neg (by omega), if_neg (by omega), if_neg (by omega), if_neg (by omega), if_neg (by omega), if_neg (by omega), if_neg (by omega), if_neg (by omega), if_neg (by omega), if_neg (by omega), if_neg (by omega), if_neg (by omega), if_neg (by omega), if_neg (by omega), if_pos (by omega), show 447 + c - 440 = 7 + c from by omega]
theorem mcell_align (L : Lay) (S : MSt) (f : Nat → Nat) : mcell L S f 461 = L.tree 21 := rfl

theorem tsz_slot (c : Nat) (hc : c < 4) : tsz (3 + c) = 2 ^ 6 := by unfold tsz; rw [if_pos (by omega)]
theorem tsz_special (c : Nat) (h4 : 4 ≤ c) (hc : c < 14) : tsz (7 + c) = 2 ^ (baseN c).2 := by
  unfold tsz baseN
  rw [if_neg (by omega), if_pos (by omega), if_neg (by omega), if_neg (by omega), show 7 + c - 7 = c from by omega]

theorem base_bound {s : Nat} (h : s < 64) : (baseN s).1 + 2 ^ (baseN s).2 ≤ 4294967296 ∧ (baseN s).2 ≤ 30 ∧ (14 ≤ s → 6 ≤ (baseN s).2) ∧ (s < 14 → (baseN s).2 ≤ 5 ∧ (baseN s).1 ≤ 1000) := by
  unfold baseN
  rw [if_neg (by omega)]
  by_cases h4 : s < 4
  · rw [if_pos h4]; dsimp only; omega
  · rw [if_neg h4]
    dsimp only
    have hp : 2 ^ (s / 2 - 1) ≤ 2 ^ 30 := Nat.pow_le_pow_right (by decide) (by omega)
    have hm : (2 + s % 2) * 2 ^ (s / 2 - 1) ≤ 3 * 2 ^ (s / 2 - 1) := Nat.mul_le_mul_right _ (by omega)
    refine ⟨by omega, by omega, by omega, fun h => ⟨by omega, ?_⟩⟩
    have hp2 : 2 ^ (s / 2 - 1) ≤ 2 ^ 5 := Nat.pow_le_pow_right (by decide) (by omega)
    omega

theorem treeP_enc (i n h : Nat) (s : CSt) : (treeP i n h s).2.1.isEnc = s.1.isEnc := by
  obtain ⟨C, P⟩ := s
  have key : ∀ n m C f, (treeR h n m C f).2.1.isEnc = C.isEnc := by
    intro n
    induction n with
    | zero => intro m C f; rfl
    | succ n ih => intro m C f; rw [treeR, ih]; cases C <;> rfl
  exact key n 1 C _
theorem dirP_enc (n h : Nat) (s : CSt) : (dirP n h s).2.1.isEnc = s.1.isEnc := by
  obtain ⟨C, P⟩ := s
  have key : ∀ n acc C, (Cdr.dir h n acc C).2.isEnc = C.isEnc := by
    intro n
    induction n with
    | zero => intro acc C; rfl
    | succ n ih => intro acc C; rw [Cdr.dir, ih]; cases C <;> rfl
  exact key n 0 C
theorem treeP_val {i n h : Nat} {s : CSt} (he : s.1.isEnc = true) (hh : h < 2 ^ n) : (treeP i n h s).1 = h := by
  obtain ⟨C, P⟩ := s
  cases C with
  | enc E => exact tree_enc hh E _
  | dec D => cases he

set_option maxHeartbeats 16000000 in
set_option maxRecDepth 100000 in
theorem mdist_any (w : World) (L : Lay) (S : MSt) (P : Prb) (q : Option Addr) (cap x : Nat) (C : Cdr) (F : Nat → Prop) (cl d k : Nat) (h : MC w L S P q cap x C F) (hcl : cl < 4) (hk : C.n ≤ k) (hk2 : k ≤ 80000000) (hd : d < 4294967296) :
    Calls Tryz.prog 109 #[.pointer (some ⟨L.φ 0, 0, none⟩), ifV C x, i6 cl, v32 d] w fun z w' =>
      MCall w w' z (v32 (distP cl d (C, P)).1) L S q cap x F (k + 160) (distP cl d (C, P)).2 := by
  unfold ifV
  have hna := nil_tree C x
  have hme := met_tree C x
  have hcf := cf_tree C
  obtain ⟨T, hT⟩ : ∃ T, ifT C = T := ⟨_, rfl⟩
  have HT := hid hT
  rw [hT] at hna hme ⊢
  have HM := hid h
  have hlc := h.mm.mcell (443 + cl) (by omega)
  rw [mcell_slot L S _ cl hcl] at hlc
  have hsl := slot_base hd
  have HSl := hid (fun w0 => slot_any d w0 hd)
  obtain ⟨sd, hsd⟩ : ∃ sd, slotN d = sd := ⟨_, rfl⟩
  rw [hsd] at HSl hsl
  have HSD := hid hsd
  obtain ⟨R, hR⟩ : ∃ R, distP cl d (C, P) = R := ⟨_, rfl⟩
  rw [hR]
  have HRR := hid hR
  have HSL := hid hsl
  have hc0 : (0 : Int) ≤ (cl : Int) := by omega
  have hc1 : (cl : Int) < 4 := by omega
  clear h hT hsl hsd hR
  go_enter Tryz.func109, Tryz.ntmps109
  go_upto_region 1 with fail
  refine wp_region_held_drew (S := (fun V => V.cell? ⟨L.φ 0, 443 + cl, none⟩ = some (L.tree (3 + cl)))) (by kernel_rfl) (by (try dsimp only); exact hlc) (fun hHeld => ?_)
  refine wpAnyH_take (i := 0) (oi := ⟨some 14, _, _, _, _, _⟩) (v := ?v0a) rfl (by kernel_rfl) (by kernel_rfl) (by kernel_rfl) (fun _ _ _ h => h) (Or.inl ⟨by rfl, ?h0a⟩) (by assumption) ?r0a
  case h0a => intro w hSw; (try dsimp only at hSw); go_simp; (try with_reducible rfl)
  try simp only [Act.put, List.setIfInBounds_toArray, List.set_cons_zero, List.set_cons_succ]
  refine wpAnyH_take (i := 1) (oi := ⟨some 15, _, _, _, _, _⟩) (v := ?v1a) rfl (by kernel_rfl) (by kernel_rfl) (by kernel_rfl) (fun _ _ _ h => h) (Or.inl ⟨by rfl, ?h1a⟩) (by assumption) ?r1a
  case h1a => intro w hSw; (try dsimp only at hSw); go_simp; (try with_reducible rfl)
  try simp only [Act.put, List.setIfInBounds_toArray, List.set_cons_zero, List.set_cons_succ]
  refine wpAnyH_take (i := 2) (oi := ⟨some 16, _, _, _, _, _⟩) (v := ?v2a) rfl (by kernel_rfl) (by kernel_rfl) (by kernel_rfl) (fun _ _ _ h => h) (Or.inl ⟨by rfl, ?h2a⟩) (by assumption) ?r2a
  case h2a => intro w hSw; (try dsimp only at hSw); go_simp; (try with_reducible rfl)
  try simp only [Act.put, List.setIfInBounds_toArray, List.set_cons_zero, List.set_cons_succ]
  refine wpAnyH_take (i := 3) (oi := ⟨some 17, _, _, _, _, _⟩) (v := ?v3a) rfl (by kernel_rfl) (by kernel_rfl) (by kernel_rfl) (fun _ _ _ h => h) (Or.inl ⟨by rfl, ?h3a⟩) (by assumption) ?r3a
  case h3a => intro w hSw; (try dsimp only at hSw); go_simp; (try with_reducible rfl)
  try simp only [Act.put, List.setIfInBounds_toArray, List.set_cons_zero, List.set_cons_succ]
  refine wpAnyH_take (i := 4) (oi := ⟨some 18, _, _, _, _, _⟩) (v := ?v4a) rfl (by kernel_rfl) (by kernel_rfl) (by kernel_rfl) (fun _ _ _ h => h) (Or.inl ⟨by rfl, ?h4a⟩) (by assumption) ?r4a
  case h4a => intro w hSw; (try dsimp only at hSw); go_simp; (try with_reducible rfl)
  try simp only [Act.put, List.setIfInBounds_toArray, List.set_cons_zero, List.set_cons_succ]
  refine wpAnyH_take (i := 5) (oi := ⟨some 19, _, _, _, _, _⟩) (v := ?v5a) rfl (by kernel_rfl) (by kernel_rfl) (by kernel_rfl) (fun _ _ _ h => h) (Or.inl ⟨by rfl, ?h5a⟩) (by assumption) ?r5a
  case h5a => intro w hSw; (try dsimp only at hSw); go_simp; (try with_reducible rfl)
  try simp only [Act.put, List.setIfInBounds_toArray, List.set_cons_zero, List.set_cons_succ]
  refine wpAnyH_take (i := 6) (oi := ⟨some 20, _, _, _, _, _⟩) (v := ?v6a) rfl (by kernel_rfl) (by kernel_rfl) (by kernel_rfl) (fun _ _ _ h => h) (Or.inl ⟨by rfl, ?h6a⟩) (by assumption) ?r6a
  case h6a => intro w hSw; (try dsimp only at hSw); go_simp; (try with_reducible rfl)
  try simp only [Act.put, List.setIfInBounds_toArray, List.set_cons_zero, List.set_cons_succ]
  refine wpAnyH_take (i := 7) (oi := ⟨some 21, _, _, _, _, _⟩) (v := ?v7a) rfl (by kernel_rfl) (by kernel_rfl) (by kernel_rfl) (fun _ _ _ h => h) (Or.inl ⟨by rfl, ?h7a⟩) (by assumption) ?r7a
  case h7a => intro w hSw; (try dsimp only at hSw); go_simp; (try with_reducible rfl)
  try simp only [Act.put, List.setIfInBounds_toArray, List.set_cons_zero, List.set_cons_succ]
  refine wpAnyH_take (i := 9) (oi := ⟨some 23, _, _, _, _, _⟩) (v := ?v9a) rfl (by kernel_rfl) (by kernel_rfl) (by kernel_rfl) (fun _ _ _ h => h) (Or.inl ⟨by rfl, ?h9a⟩) (by assumption) ?r9a
  case h9a => intro w hSw; (try dsimp only at hSw); go_simp; (try with_reducible rfl)
  try simp only [Act.put, List.setIfInBounds_toArray, List.set_cons_zero, List.set_cons_succ]
  refine wpAnyH_take (i := 10) (oi := ⟨some 24, _, _, _, _, _⟩) (v := ?v10a) rfl (by kernel_rfl) (by kernel_rfl) (by kernel_rfl) (fun _ _ _ h => h) (Or.inl ⟨by rfl, ?h10a⟩) (by assumption) ?r10a
  case h10a => intro w hSw; (try dsimp only at hSw); go_simp; (try with_reducible rfl)
  try simp only [Act.put, List.setIfInBounds_toArray, List.set_cons_zero, List.set_cons_succ]
  refine wpAnyH_take (i := 11) (oi := ⟨some 25, _, _, _, _, _⟩) (v := ?v11a) rfl (by kernel_rfl) (by kernel_rfl) (by kernel_rfl) (fun _ _ _ h => h) (Or.inl ⟨by rfl, ?h11a⟩) (by assumption) ?r11a
  case h11a => intro w hSw; (try dsimp only at hSw); go_simp; (try with_reducible rfl)
  try simp only [Act.put, List.setIfInBounds_toArray, List.set_cons_zero, List.set_cons_succ]
  refine wpAnyH_ready (rs := [8]) (by kernel_rfl) (by simp) ?_
  refine AllReadyH.cons (o := ⟨some 22, _, _, _, _, _⟩) rfl (fun K hK => ?_) AllReadyH.nil
  go_simp; (go_at_call 111; refine (HSl.out _).mono ?_; rintro z w5 ⟨rfl, rfl⟩)
  refine hK.out _ _ (by (try dsimp only); exact hHeld) (fun hHeld => ?_)
  clear hK K
  try simp only [Act.put, List.setIfInBounds_toArray, List.set_cons_zero, List.set_cons_succ]
  refine wpAnyH_ready (rs := [12]) (by kernel_rfl) (by simp) ?_
  refine AllReadyH.cons (o := ⟨some 26, _, _, _, _, _⟩) rfl (fun K hK => ?_) AllReadyH.nil
  go_simp; refine ((HM.out.same ((Keeps.refl _ _).drew)).tree (i := 3 + cl) (n := 6) (h := sd) hk (by omega) (used_small (by omega) (by omega)) (by omega) (tsz_slot cl hcl) (by decide) (fun hc => ⟨rfl, HSL.out.1⟩)).mono ?_; intro z w6 h6; obtain ⟨rfl, F6, hM6, hK6, hG6, hk6⟩ := Coded.at h6; have hl6 := hM6.mm.mcell (443 + cl) (by omega); rw [mcell_slot L S _ cl hcl] at hl6
  refine hK.out _ _ (by (try dsimp only); exact hl6) (fun hHeld => ?_)
  clear hK K
  try simp only [Act.put, List.setIfInBounds_toArray, List.set_cons_zero, List.set_cons_succ]
  refine wpAnyH_take (i := 13) (oi := ⟨some 9, _, _, _, _, _⟩) (v := ?v13a) rfl (by kernel_rfl) (by kernel_rfl) (by kernel_rfl) (fun _ _ _ h => h) (Or.inl ⟨by rfl, ?h13a⟩) (by assumption) ?r13a
  case h13a => intro w hSw; (try dsimp only at hSw); go_simp; (try with_reducible rfl)
  try simp only [Act.put, List.setIfInBounds_toArray, List.set_cons_zero, List.set_cons_succ]
  refine wpAnyH_done (by kernel_rfl) ?_ _
  clear hHeld
  generalize ha1 : (treeP (3 + cl) 6 sd (C, P)).1 = a1 at *
  generalize hs1 : (treeP (3 + cl) 6 sd (C, P)).2 = s1 at *
  have hal : a1 < 64 := by
    rw [← ha1]
    exact (HM.out.same ((Keeps.refl _ w).drew)).tree_lt (used_small (by omega) (by omega)) (by omega) (tsz_slot cl hcl)
  have HB1 := hid (And.intro ha1 hs1)
  obtain ⟨C1, P1⟩ := s1
  dsimp only at hM6 hk6
  have he1 : C1.isEnc = C.isEnc := by
    have e : (treeP (3 + cl) 6 sd (C, P)).2.1 = C1 := by rw [hs1]
    rw [← e]
    exact treeP_enc _ _ _ _
  have hval : C.isEnc = true → a1 = sd := fun hc => by rw [← ha1]; exact treeP_val hc (by have := HSL.out.1; omega)
  have HVal := hid hval
  have HE1 := hid he1
  have hT1 : ifT C1 = T := by rw [← HT.out]; unfold ifT; rw [he1]
  have HX6 := hid (And.intro hM6 (And.intro hK6 (And.intro hG6 hk6)))
  have HT1 := hid hT1
  have HBs := hid (fun w0 => base_any a1 w0 hal)
  obtain ⟨bs, hbs⟩ : ∃ bs, (baseN a1).1 = bs := ⟨_, rfl⟩
  obtain ⟨bn, hbn⟩ : ∃ bn, (baseN a1).2 = bn := ⟨_, rfl⟩
  have hbb := base_bound hal
  rw [hbs, hbn] at HBs hbb
  obtain ⟨hb1, hb2, hb3, hb4⟩ := hbb
  have HBB := hid (And.intro hbs hbn)
  have hp30 : 0 < 2 ^ bn := Nat.pow_pos (by decide)
  have hbsl : bs < 4294967296 := by omega
  have hrest : ∃ rest : Nat, rest < 4294967296 ∧ IntKind.u32.wrap ((d : Int) - (bs : Int)) = (rest : Int) ∧ (bs ≤ d → rest = d - bs) := by
    by_cases hle : bs ≤ d
    · exact ⟨d - bs, by omega, by rw [wr_u32 _ (by omega) (by omega)]; omega, fun _ => rfl⟩
    · refine ⟨d + 4294967296 - bs, by omega, ?_, fun h => absurd h hle⟩
      simp [IntKind.wrap, IntKind.bits, IntKind.signed]
      omega
  obtain ⟨rest, hr1, hr2, hr3⟩ := hrest
  have hr4 : ((d : Int) - (bs : Int)) % 4294967296 = (rest : Int) := by rw [← hr2]; simp [IntKind.wrap, IntKind.bits, IntKind.signed]
  have hrv : C.isEnc = true → bs ≤ d ∧ rest = d - bs ∧ rest < 2 ^ bn := fun hc => by
    obtain ⟨g1, g2, g3, g4, g5⟩ := HSL.out
    have e := hval hc
    rw [← e, hbs] at g2
    rw [← e, hbs, hbn] at g3
    have := hr3 g2
    omega
  have HRV := hid hrv
  have HP30 := hid (And.intro hb1 hp30)
  have HB34 := hid (And.intro hb3 hb4)
  clear ha1 hs1 he1 hM6 hK6 hG6 hk6 hT1 h6 hval hrv hr3 hbs hbn hme hna hcf hl6 hlc hb1 hp30 hb3 hb4
  have hres : R = (if a1 < 4 then (bs, (C1, P1)) else if a1 < 14 then (bs + (backP (7 + a1) bn (d - bs) (C1, P1)).1, (backP (7 + a1) bn (d - bs) (C1, P1)).2)
      else (bs + (dirP (bn - 4) ((d - bs) / 16) (C1, P1)).1 * 16 + (backP 21 4 ((d - bs) % 16) (dirP (bn - 4) ((d - bs) / 16) (C1, P1)).2).1, (backP 21 4 ((d - bs) % 16) (dirP (bn - 4) ((d - bs) / 16) (C1, P1)).2).2)) := by
    rw [← HRR.out]
    unfold distP
    simp only [HSD.out, HB1.out.1, HB1.out.2, HBB.out.1, HBB.out.2]
  have HRes := hid hres
  clear hres
  by_cases h4 : a1 < 4
  · have d0 : decide ((a1 : Int) < 4) = true := by simp; omega
    have H4 := hid h4
    clear h4
    go_wp2_with (go_at_call 62; refine (HBs.out _).mono ?_; rintro z w7 ⟨rfl, hw7⟩; obtain rfl := hw7.symm)
    go_ret
    have hr := HRes.out
    rw [if_pos H4.out] at hr
    rw [hr]
    have hX := HX6.out
    exact ⟨rfl, MCall.pre ((Keeps.refl _ w).drew) (z := .returned (v32 bs)) (v := v32 bs) (k := k + 160) ⟨rfl, ⟨F6, hX.1, hX.2.1, hX.2.2.1⟩, Nat.le_trans hX.2.2.2 (by omega)⟩ |>.2⟩
  · have d0 : decide ((a1 : Int) < 4) = false := by simp; omega
    by_cases h14 : a1 < 14
    · have d1 : decide ((a1 : Int) < 14) = true := by simp; omega
      have hlc := HX6.out.1.mm.mcell (447 + a1) (by omega)
      rw [mcell_special L S _ a1 (by omega) h14] at hlc
      have hme := met_back C1 x
      have hna := nil_back C1 x
      have hcf := cf_back C1
      rw [HT1.out] at hme hna
      obtain ⟨hbn5, hbs1⟩ := HB34.out.2 h14
      have i0 : (0 : Int) ≤ (a1 : Int) := by omega
      have i1 : (a1 : Int) < 14 := by omega
      have i2 : IntKind.i64.wrap (rest : Int) = (rest : Int) := IntWalk.i64_in _ (by omega)
      have H4 := hid (And.intro h4 h14)
      clear h4 h14
      go_upto_region 7 with (go_at_call 62; refine (HBs.out _).mono ?_; rintro z w7 ⟨rfl, hw7⟩; obtain rfl := hw7.symm)
      refine wp_region_held_drew (S := (fun V => V.cell? ⟨L.φ 0, 447 + a1, none⟩ = some (L.tree (7 + a1)))) (by kernel_rfl) (by (try dsimp only); exact hlc) (fun hHeld => ?_)
      refine wpAnyH_take (i := 0) (oi := ⟨some 42, _, _, _, _, _⟩) (v := ?v0b) rfl (by kernel_rfl) (by kernel_rfl) (by kernel_rfl) (fun _ _ _ h => h) (Or.inl ⟨by rfl, ?h0b⟩) (by assumption) ?r0b
      case h0b => intro w hSw; (try dsimp only at hSw); go_simp; (try with_reducible rfl)
      try simp only [Act.put, List.setIfInBounds_toArray, List.set_cons_zero, List.set_cons_succ]
      refine wpAnyH_take (i := 1) (oi := ⟨some 43, _, _, _, _, _⟩) (v := ?v1b) rfl (by kernel_rfl) (by kernel_rfl) (by kernel_rfl) (fun _ _ _ h => h) (Or.inl ⟨by rfl, ?h1b⟩) (by assumption) ?r1b
      case h1b => intro w hSw; (try dsimp only at hSw); go_simp; (try with_reducible rfl)
      try simp only [Act.put, List.setIfInBounds_toArray, List.set_cons_zero, List.set_cons_succ]
      refine wpAnyH_take (i := 2) (oi := ⟨some 44, _, _, _, _, _⟩) (v := ?v2b) rfl (by kernel_rfl) (by kernel_rfl) (by kernel_rfl) (fun _ _ _ h => h) (Or.inl ⟨by rfl, ?h2b⟩) (by assumption) ?r2b
      case h2b => intro w hSw; (try dsimp only at hSw); go_simp; (try with_reducible rfl)
      try simp only [Act.put, List.setIfInBounds_toArray, List.set_cons_zero, List.set_cons_succ]
      refine wpAnyH_take (i := 3) (oi := ⟨some 45, _, _, _, _, _⟩) (v := ?v3b) rfl (by kernel_rfl) (by kernel_rfl) (by kernel_rfl) (fun _ _ _ h => h) (Or.inl ⟨by rfl, ?h3b⟩) (by assumption) ?r3b
      case h3b => intro w hSw; (try dsimp only at hSw); go_simp; (try with_reducible rfl)
      try simp only [Act.put, List.setIfInBounds_toArray, List.set_cons_zero, List.set_cons_succ]
      refine wpAnyH_take (i := 4) (oi := ⟨some 46, _, _, _, _, _⟩) (v := ?v4b) rfl (by kernel_rfl) (by kernel_rfl) (by kernel_rfl) (fun _ _ _ h => h) (Or.inl ⟨by rfl, ?h4b⟩) (by assumption) ?r4b
      case h4b => intro w hSw; (try dsimp only at hSw); go_simp; (try with_reducible rfl)
      try simp only [Act.put, List.setIfInBounds_toArray, List.set_cons_zero, List.set_cons_succ]
      refine wpAnyH_take (i := 5) (oi := ⟨some 47, _, _, _, _, _⟩) (v := ?v5b) rfl (by kernel_rfl) (by kernel_rfl) (by kernel_rfl) (fun _ _ _ h => h) (Or.inl ⟨by rfl, ?h5b⟩) (by assumption) ?r5b
      case h5b => intro w hSw; (try dsimp only at hSw); go_simp; (try with_reducible rfl)
      try simp only [Act.put, List.setIfInBounds_toArray, List.set_cons_zero, List.set_cons_succ]
      refine wpAnyH_take (i := 6) (oi := ⟨some 48, _, _, _, _, _⟩) (v := ?v6b) rfl (by kernel_rfl) (by kernel_rfl) (by kernel_rfl) (fun _ _ _ h => h) (Or.inl ⟨by rfl, ?h6b⟩) (by assumption) ?r6b
      case h6b => intro w hSw; (try dsimp only at hSw); go_simp; (try with_reducible rfl)
      try simp only [Act.put, List.setIfInBounds_toArray, List.set_cons_zero, List.set_cons_succ]
      refine wpAnyH_take (i := 7) (oi := ⟨some 49, _, _, _, _, _⟩) (v := ?v7b) rfl (by kernel_rfl) (by kernel_rfl) (by kernel_rfl) (fun _ _ _ h => h) (Or.inl ⟨by rfl, ?h7b⟩) (by assumption) ?r7b
      case h7b => intro w hSw; (try dsimp only at hSw); go_simp; (try with_reducible rfl)
      try simp only [Act.put, List.setIfInBounds_toArray, List.set_cons_zero, List.set_cons_succ]
      refine wpAnyH_take (i := 8) (oi := ⟨some 50, _, _, _, _, _⟩) (v := ?v8b) rfl (by kernel_rfl) (by kernel_rfl) (by kernel_rfl) (fun _ _ _ h => h) (Or.inl ⟨by rfl, ?h8b⟩) (by assumption) ?r8b
      case h8b => intro w hSw; (try dsimp only at hSw); go_simp; (try with_reducible rfl)
      try simp only [Act.put, List.setIfInBounds_toArray, List.set_cons_zero, List.set_cons_succ]
      refine wpAnyH_take (i := 9) (oi := ⟨some 51, _, _, _, _, _⟩) (v := ?v9b) rfl (by kernel_rfl) (by kernel_rfl) (by kernel_rfl) (fun _ _ _ h => h) (Or.inl ⟨by rfl, ?h9b⟩) (by assumption) ?r9b
      case h9b => intro w hSw; (try dsimp only at hSw); go_simp; (try with_reducible rfl)
      try simp only [Act.put, List.setIfInBounds_toArray, List.set_cons_zero, List.set_cons_succ]
      refine wpAnyH_take (i := 10) (oi := ⟨some 52, _, _, _, _, _⟩) (v := ?v10b) rfl (by kernel_rfl) (by kernel_rfl) (by kernel_rfl) (fun _ _ _ h => h) (Or.inl ⟨by rfl, ?h10b⟩) (by assumption) ?r10b
      case h10b => intro w hSw; (try dsimp only at hSw); go_simp; (try with_reducible rfl)
      try simp only [Act.put, List.setIfInBounds_toArray, List.set_cons_zero, List.set_cons_succ]
      refine wpAnyH_take (i := 11) (oi := ⟨some 53, _, _, _, _, _⟩) (v := ?v11b) rfl (by kernel_rfl) (by kernel_rfl) (by kernel_rfl) (fun _ _ _ h => h) (Or.inl ⟨by rfl, ?h11b⟩) (by assumption) ?r11b
      case h11b => intro w hSw; (try dsimp only at hSw); go_simp; (try with_reducible rfl)
      try simp only [Act.put, List.setIfInBounds_toArray, List.set_cons_zero, List.set_cons_succ]
      refine wpAnyH_take (i := 12) (oi := ⟨some 54, _, _, _, _, _⟩) (v := ?v12b) rfl (by kernel_rfl) (by kernel_rfl) (by kernel_rfl) (fun _ _ _ h => h) (Or.inl ⟨by rfl, ?h12b⟩) (by assumption) ?r12b
      case h12b => intro w hSw; (try dsimp only at hSw); go_simp; (try with_reducible rfl)
      try simp only [Act.put, List.setIfInBounds_toArray, List.set_cons_zero, List.set_cons_succ]
      refine wpAnyH_ready (rs := [13]) (by kernel_rfl) (by simp) ?_
      refine AllReadyH.cons (o := ⟨some 55, _, _, _, _, _⟩) rfl (fun K hK => ?_) AllReadyH.nil
      go_simp; refine ((HX6.out.1.same ((Keeps.refl _ _).drew)).back (i := 7 + a1) (n := bn) (h := d - bs) HX6.out.2.2.2 (by omega) (used_small (by omega) (by have := H4.out.1; omega)) (by omega) (by rw [← HBB.out.2]; exact tsz_special a1 (by have := H4.out.1; omega) H4.out.2) (by omega) (fun hc => by (obtain ⟨e1, e2, e3⟩ := HRV.out (HE1.out.symm.trans hc); omega))).mono ?_; intro z w8 h8; have HC8 := hid h8; obtain ⟨rfl, F8, hM8, hK8, hG8, hk8⟩ := Coded.at h8; have hl8 := hM8.mm.mcell (447 + a1) (by omega); rw [mcell_special L S _ a1 (by have := H4.out.1; omega) H4.out.2] at hl8
      refine hK.out _ _ (by (try dsimp only); exact hl8) (fun hHeld => ?_)
      clear hK K
      try simp only [Act.put, List.setIfInBounds_toArray, List.set_cons_zero, List.set_cons_succ]
      refine wpAnyH_take (i := 14) (oi := ⟨some 56, _, _, _, _, _⟩) (v := ?v14b) rfl (by kernel_rfl) (by kernel_rfl) (by kernel_rfl) (fun _ _ _ h => h) (Or.inl ⟨by rfl, ?h14b⟩) (by assumption) ?r14b
      case h14b => intro w hSw; (try dsimp only at hSw); go_simp; (try with_reducible rfl)
      try simp only [Act.put, List.setIfInBounds_toArray, List.set_cons_zero, List.set_cons_succ]
      refine wpAnyH_take (i := 15) (oi := ⟨some 57, _, _, _, _, _⟩) (v := ?v15b) rfl (by kernel_rfl) (by kernel_rfl) (by kernel_rfl) (fun _ _ _ h => h) (Or.inl ⟨by rfl, ?h15b⟩) (by assumption) ?r15b
      case h15b => intro w hSw; (try dsimp only at hSw); go_simp; (try with_reducible rfl)
      try simp only [Act.put, List.setIfInBounds_toArray, List.set_cons_zero, List.set_cons_succ]
      refine wpAnyH_take (i := 16) (oi := ⟨some 8, _, _, _, _, _⟩) (v := ?v16b) rfl (by kernel_rfl) (by kernel_rfl) (by kernel_rfl) (fun _ _ _ h => h) (Or.inl ⟨by rfl, ?h16b⟩) (by assumption) ?r16b
      case h16b => intro w hSw; (try dsimp only at hSw); go_simp; (try with_reducible rfl)
      try simp only [Act.put, List.setIfInBounds_toArray, List.set_cons_zero, List.set_cons_succ]
      refine wpAnyH_done (by kernel_rfl) ?_ _
      have hv := (HX6.out.1.same ((Keeps.refl _ _).drew)).back_lt (i := 7 + a1) (n := bn) (h := d - bs) (used_small (by omega) (by have := H4.out.1; omega)) (by omega) (by rw [← HBB.out.2]; exact tsz_special a1 (by have := H4.out.1; omega) H4.out.2)
      have hpb : 2 ^ bn ≤ 2 ^ 5 := Nat.pow_le_pow_right (by decide) hbn5
      have hc := MCall.pre ((Keeps.refl _ w).drew) (MCall.then HX6.out.2.1 HX6.out.2.2.1 (MCall.pre ((Keeps.refl _ w6).drew) HC8.out))
      have HC := hid hc
      obtain ⟨v8, hv8⟩ : ∃ v8, (backP (7 + a1) bn (d - bs) (C1, P1)).1 = v8 := ⟨_, rfl⟩
      rw [hv8] at hv ⊢
      have HV := hid hv8
      have ew1 : IntKind.u32.wrap (v8 : Int) = (v8 : Int) := wr_u32 _ (by omega) (by omega)
      have ew2 : IntKind.u32.wrap ((bs : Int) + (v8 : Int)) = ((bs + v8 : Nat) : Int) := by rw [wr_u32 _ (by omega) (by omega)]; omega
      rw [ew1, ew2]
      clear hc hv8 h8 hM8 hK8 hG8 hk8 hl8 HC8 ew1 ew2 hpb
      go_wp2_with fail
      go_ret
      have hr := HRes.out
      rw [if_neg H4.out.1, if_pos H4.out.2] at hr
      rw [hr]
      refine ⟨?_, HC.out.2.1, Nat.le_trans HC.out.2.2 (by omega)⟩
      show _ = Ending.returned (v32 (bs + (backP (7 + a1) bn (d - bs) (C1, P1)).1))
      rw [HV.out]
      rfl
    · have d1 : decide ((a1 : Int) < 14) = false := by simp; omega
      have hbn6 := HB34.out.1 (by omega)
      have hme := met_direct C1 x
      have hcf := cf_direct C1
      rw [HT1.out] at hme
      obtain ⟨n4, hn4⟩ : ∃ n4, bn - 4 = n4 := ⟨_, rfl⟩
      obtain ⟨r16, hr16⟩ : ∃ r16, rest / 16 = r16 := ⟨_, rfl⟩
      obtain ⟨m16, hm16⟩ : ∃ m16, rest % 16 = m16 := ⟨_, rfl⟩
      have i1 : (bn : Int) - 4 = (n4 : Int) := by omega
      have i2 : (rest : Int) / 16 = (r16 : Int) := by omega
      have H4 := hid (And.intro h4 h14)
      have hrv2 : C.isEnc = true → (d - bs) / 16 = r16 ∧ r16 < 2 ^ n4 ∧ (d - bs) % 16 = m16 := fun hc => by
        obtain ⟨e1, e2, e3⟩ := HRV.out hc
        refine ⟨by rw [← e2]; exact hr16, ?_, by rw [← e2]; exact hm16⟩
        have e4 : 2 ^ bn = 2 ^ n4 * 16 := by rw [show bn = n4 + 4 from by omega, Nat.pow_add]
        rw [e4] at e3
        rw [← hr16]
        exact (Nat.div_lt_iff_lt_mul (by decide)).2 e3
      have HRV2 := hid hrv2
      have hbn32 : n4 ≤ 32 := by omega
      have HN4 := hid hn4
      clear h4 h14 hrv2 hr16
      go_upto_region 8 with (go_at_call 62; refine (HBs.out _).mono ?_; rintro z w7 ⟨rfl, hw7⟩; obtain rfl := hw7.symm)
      go_wp2_with fail
      refine (HX6.out.1.direct (n := n4) (h := (d - bs) / 16) HX6.out.2.2.2 (by omega) hbn32 (fun hc => by (obtain ⟨e1, e2, e3⟩ := HRV2.out (HE1.out.symm.trans hc); rw [e1]; exact ⟨rfl, e2⟩))).mono ?_
      intro z w9 h9
      obtain ⟨rfl, F9, hM9, hK9, hG9, hk9⟩ := Coded.at h9
      have hhl := dir_lt ((d - bs) / 16) n4 0 C1
      rw [show (0 + 1) * 2 ^ n4 = 2 ^ n4 from by omega] at hhl
      generalize hh1 : (dirP n4 ((d - bs) / 16) (C1, P1)).1 = hv1 at *
      have hhl2 : hv1 < 2 ^ n4 := by rw [← hh1]; exact hhl
      generalize hs2 : (dirP n4 ((d - bs) / 16) (C1, P1)).2 = s2 at *
      have HB2 := hid (And.intro hh1 hs2)
      obtain ⟨C2, P2⟩ := s2
      dsimp only at hM9 hk9
      have he2 : C2.isEnc = C1.isEnc := by
        have e : (dirP n4 ((d - bs) / 16) (C1, P1)).2.1 = C2 := by rw [hs2]
        rw [← e]
        exact dirP_enc _ _ _
      have HE2 := hid (he2.trans HE1.out)
      have HX9 := hid (And.intro hM9 (And.intro hK9 (And.intro hG9 hk9)))
      have hT2 : ifT C2 = T := by rw [← HT1.out]; unfold ifT; rw [he2]
      have hme4 := met_back C2 x
      have hna4 := nil_back C2 x
      have hcf4 := cf_back C2
      rw [hT2] at hme4 hna4
      have hlc := HX9.out.1.mm.mcell 461 (by decide)
      rw [mcell_align] at hlc
      have e4 : 2 ^ bn = 2 ^ n4 * 16 := by rw [show bn = n4 + 4 from by have := HN4.out; omega, Nat.pow_add]
      obtain ⟨K4, hK4⟩ : ∃ K4, 2 ^ n4 = K4 := ⟨_, rfl⟩
      have hbt := HP30.out.1
      rw [e4, hK4] at hbt
      rw [hK4] at hhl2
      obtain ⟨hi16, hhi⟩ : ∃ hi16, hv1 * 16 = hi16 := ⟨_, rfl⟩
      obtain ⟨sm, hsm⟩ : ∃ sm, bs + hi16 = sm := ⟨_, rfl⟩
      have k0 : (hv1 : Int) * 16 = (hi16 : Int) := by omega
      have k1 : IntKind.u32.wrap (hi16 : Int) = (hi16 : Int) := wr_u32 _ (by omega) (by omega)
      have k2 : IntKind.u32.wrap ((bs : Int) + (hi16 : Int)) = (sm : Int) := by rw [wr_u32 _ (by omega) (by omega)]; omega
      have k3 : bits BinOp.and IntKind.u32 (rest : Int) 15 = (m16 : Int) := by
        have := and_u32 rest 15 (by omega) (by decide)
        rw [show (15 : Nat) = 2 ^ 4 - 1 from rfl, Nat.and_two_pow_sub_one_eq_mod] at this
        rw [← hm16]
        exact this
      have k4 : IntKind.i64.wrap (m16 : Int) = (m16 : Int) := IntWalk.i64_in _ (by omega)
      have hm16l : m16 < 16 := by omega
      have HMM := hid (And.intro hbt (And.intro hhl2 (And.intro hhi hsm)))
      clear hh1 hs2 he2 hM9 hK9 hG9 hk9 h9 hT2 hme hcf hhl e4 hbt hhl2 hhi hsm hm16 hK4
      go_upto_region 9 with fail
      refine wp_region_held_drew (S := (fun V => V.cell? ⟨L.φ 0, 461, none⟩ = some (L.tree 21))) (by kernel_rfl) (by (try dsimp only); exact hlc) (fun hHeld => ?_)
      refine wpAnyH_take (i := 0) (oi := ⟨some 64, _, _, _, _, _⟩) (v := ?v0c) rfl (by kernel_rfl) (by kernel_rfl) (by kernel_rfl) (fun _ _ _ h => h) (Or.inl ⟨by rfl, ?h0c⟩) (by assumption) ?r0c
      case h0c => intro w hSw; (try dsimp only at hSw); go_simp; (try with_reducible rfl)
      try simp only [Act.put, List.setIfInBounds_toArray, List.set_cons_zero, List.set_cons_succ]
      refine wpAnyH_take (i := 1) (oi := ⟨some 65, _, _, _, _, _⟩) (v := ?v1c) rfl (by kernel_rfl) (by kernel_rfl) (by kernel_rfl) (fun _ _ _ h => h) (Or.inl ⟨by rfl, ?h1c⟩) (by assumption) ?r1c
      case h1c => intro w hSw; (try dsimp only at hSw); go_simp; (try with_reducible rfl)
      try simp only [Act.put, List.setIfInBounds_toArray, List.set_cons_zero, List.set_cons_succ]
      refine wpAnyH_take (i := 2) (oi := ⟨some 66, _, _, _, _, _⟩) (v := ?v2c) rfl (by kernel_rfl) (by kernel_rfl) (by kernel_rfl) (fun _ _ _ h => h) (Or.inl ⟨by rfl, ?h2c⟩) (by assumption) ?r2c
      case h2c => intro w hSw; (try dsimp only at hSw); go_simp; (try with_reducible rfl)
      try simp only [Act.put, List.setIfInBounds_toArray, List.set_cons_zero, List.set_cons_succ]
      refine wpAnyH_take (i := 3) (oi := ⟨some 67, _, _, _, _, _⟩) (v := ?v3c) rfl (by kernel_rfl) (by kernel_rfl) (by kernel_rfl) (fun _ _ _ h => h) (Or.inl ⟨by rfl, ?h3c⟩) (by assumption) ?r3c
      case h3c => intro w hSw; (try dsimp only at hSw); go_simp; (try with_reducible rfl)
      try simp only [Act.put, List.setIfInBounds_toArray, List.set_cons_zero, List.set_cons_succ]
      refine wpAnyH_take (i := 4) (oi := ⟨some 68, _, _, _, _, _⟩) (v := ?v4c) rfl (by kernel_rfl) (by kernel_rfl) (by kernel_rfl) (fun _ _ _ h => h) (Or.inl ⟨by rfl, ?h4c⟩) (by assumption) ?r4c
      case h4c => intro w hSw; (try dsimp only at hSw); go_simp; (try with_reducible rfl)
      try simp only [Act.put, List.setIfInBounds_toArray, List.set_cons_zero, List.set_cons_succ]
      refine wpAnyH_take (i := 5) (oi := ⟨some 69, _, _, _, _, _⟩) (v := ?v5c) rfl (by kernel_rfl) (by kernel_rfl) (by kernel_rfl) (fun _ _ _ h => h) (Or.inl ⟨by rfl, ?h5c⟩) (by assumption) ?r5c
      case h5c => intro w hSw; (try dsimp only at hSw); go_simp; (try with_reducible rfl)
      try simp only [Act.put, List.setIfInBounds_toArray, List.set_cons_zero, List.set_cons_succ]
      refine wpAnyH_take (i := 6) (oi := ⟨some 70, _, _, _, _, _⟩) (v := ?v6c) rfl (by kernel_rfl) (by kernel_rfl) (by kernel_rfl) (fun _ _ _ h => h) (Or.inl ⟨by rfl, ?h6c⟩) (by assumption) ?r6c
      case h6c => intro w hSw; (try dsimp only at hSw); go_simp; (try with_reducible rfl)
      try simp only [Act.put, List.setIfInBounds_toArray, List.set_cons_zero, List.set_cons_succ]
      refine wpAnyH_take (i := 7) (oi := ⟨some 71, _, _, _, _, _⟩) (v := ?v7c) rfl (by kernel_rfl) (by kernel_rfl) (by kernel_rfl) (fun _ _ _ h => h) (Or.inl ⟨by rfl, ?h7c⟩) (by assumption) ?r7c
      case h7c => intro w hSw; (try dsimp only at hSw); go_simp; (try with_reducible rfl)
      try simp only [Act.put, List.setIfInBounds_toArray, List.set_cons_zero, List.set_cons_succ]
      refine wpAnyH_take (i := 8) (oi := ⟨some 72, _, _, _, _, _⟩) (v := ?v8c) rfl (by kernel_rfl) (by kernel_rfl) (by kernel_rfl) (fun _ _ _ h => h) (Or.inl ⟨by rfl, ?h8c⟩) (by assumption) ?r8c
      case h8c => intro w hSw; (try dsimp only at hSw); go_simp; (try with_reducible rfl)
      try simp only [Act.put, List.setIfInBounds_toArray, List.set_cons_zero, List.set_cons_succ]
      refine wpAnyH_take (i := 9) (oi := ⟨some 73, _, _, _, _, _⟩) (v := ?v9c) rfl (by kernel_rfl) (by kernel_rfl) (by kernel_rfl) (fun _ _ _ h => h) (Or.inl ⟨by rfl, ?h9c⟩) (by assumption) ?r9c
      case h9c => intro w hSw; (try dsimp only at hSw); go_simp; (try with_reducible rfl)
      try simp only [Act.put, List.setIfInBounds_toArray, List.set_cons_zero, List.set_cons_succ]
      refine wpAnyH_take (i := 10) (oi := ⟨some 74, _, _, _, _, _⟩) (v := ?v10c) rfl (by kernel_rfl) (by kernel_rfl) (by kernel_rfl) (fun _ _ _ h => h) (Or.inl ⟨by rfl, ?h10c⟩) (by assumption) ?r10c
      case h10c => intro w hSw; (try dsimp only at hSw); go_simp; (try with_reducible rfl)
      try simp only [Act.put, List.setIfInBounds_toArray, List.set_cons_zero, List.set_cons_succ]
      refine wpAnyH_take (i := 11) (oi := ⟨some 75, _, _, _, _, _⟩) (v := ?v11c) rfl (by kernel_rfl) (by kernel_rfl) (by kernel_rfl) (fun _ _ _ h => h) (Or.inl ⟨by rfl, ?h11c⟩) (by assumption) ?r11c
      case h11c => intro w hSw; (try dsimp only at hSw); go_simp; (try with_reducible rfl)
      try simp only [Act.put, List.setIfInBounds_toArray, List.set_cons_zero, List.set_cons_succ]
      refine wpAnyH_take (i := 12) (oi := ⟨some 76, _, _, _, _, _⟩) (v := ?v12c) rfl (by kernel_rfl) (by kernel_rfl) (by kernel_rfl) (fun _ _ _ h => h) (Or.inl ⟨by rfl, ?h12c⟩) (by assumption) ?r12c
      case h12c => intro w hSw; (try dsimp only at hSw); go_simp; (try with_reducible rfl)
      try simp only [Act.put, List.setIfInBounds_toArray, List.set_cons_zero, List.set_cons_succ]
      refine wpAnyH_take (i := 13) (oi := ⟨some 77, _, _, _, _, _⟩) (v := ?v13c) rfl (by kernel_rfl) (by kernel_rfl) (by kernel_rfl) (fun _ _ _ h => h) (Or.inl ⟨by rfl, ?h13c⟩) (by assumption) ?r13c
      case h13c => intro w hSw; (try dsimp only at hSw); go_simp; (try with_reducible rfl)
      try simp only [Act.put, List.setIfInBounds_toArray, List.set_cons_zero, List.set_cons_succ]
      refine wpAnyH_take (i := 14) (oi := ⟨some 78, _, _, _, _, _⟩) (v := ?v14c) rfl (by kernel_rfl) (by kernel_rfl) (by kernel_rfl) (fun _ _ _ h => h) (Or.inl ⟨by rfl, ?h14c⟩) (by assumption) ?r14c
      case h14c => intro w hSw; (try dsimp only at hSw); go_simp; (try with_reducible rfl)
      try simp only [Act.put, List.setIfInBounds_toArray, List.set_cons_zero, List.set_cons_succ]
      refine wpAnyH_ready (rs := [15]) (by kernel_rfl) (by simp) ?_
      refine AllReadyH.cons (o := ⟨some 79, _, _, _, _, _⟩) rfl (fun K hK => ?_) AllReadyH.nil
      go_simp; refine ((HX9.out.1.same ((Keeps.refl _ _).drew)).back (i := 21) (n := 4) (h := (d - bs) % 16) HX9.out.2.2.2 (by omega) (used_small (by omega) (by omega)) (by omega) rfl (by decide) (fun hc => by (obtain ⟨e1, e2, e3⟩ := HRV2.out (HE2.out.symm.trans hc); rw [e3]; exact ⟨rfl, hm16l⟩))).mono ?_; intro z w8 h8; have HC8 := hid h8; obtain ⟨rfl, F8, hM8, hK8, hG8, hk8⟩ := Coded.at h8; have hl8 := hM8.mm.mcell 461 (by decide); rw [mcell_align] at hl8
      refine hK.out _ _ (by (try dsimp only); exact hl8) (fun hHeld => ?_)
      clear hK K
      try simp only [Act.put, List.setIfInBounds_toArray, List.set_cons_zero, List.set_cons_succ]
      refine wpAnyH_take (i := 16) (oi := ⟨some 80, _, _, _, _, _⟩) (v := ?v16c) rfl (by kernel_rfl) (by kernel_rfl) (by kernel_rfl) (fun _ _ _ h => h) (Or.inl ⟨by rfl, ?h16c⟩) (by assumption) ?r16c
      case h16c => intro w hSw; (try dsimp only at hSw); go_simp; (try with_reducible rfl)
      try simp only [Act.put, List.setIfInBounds_toArray, List.set_cons_zero, List.set_cons_succ]
      refine wpAnyH_take (i := 17) (oi := ⟨some 81, _, _, _, _, _⟩) (v := ?v17c) rfl (by kernel_rfl) (by kernel_rfl) (by kernel_rfl) (fun _ _ _ h => h) (Or.inl ⟨by rfl, ?h17c⟩) (by assumption) ?r17c
      case h17c => intro w hSw; (try dsimp only at hSw); go_simp; (try with_reducible rfl)
      try simp only [Act.put, List.setIfInBounds_toArray, List.set_cons_zero, List.set_cons_succ]
      refine wpAnyH_take (i := 18) (oi := ⟨some 8, _, _, _, _, _⟩) (v := ?v18c) rfl (by kernel_rfl) (by kernel_rfl) (by kernel_rfl) (fun _ _ _ h => h) (Or.inl ⟨by rfl, ?h18c⟩) (by assumption) ?r18c
      case h18c => intro w hSw; (try dsimp only at hSw); go_simp; (try with_reducible rfl)
      try simp only [Act.put, List.setIfInBounds_toArray, List.set_cons_zero, List.set_cons_succ]
      refine wpAnyH_done (by kernel_rfl) ?_ _
      have hv := (HX9.out.1.same ((Keeps.refl _ _).drew)).back_lt (i := 21) (n := 4) (h := (d - bs) % 16) (used_small (by omega) (by omega)) (by omega) rfl
      have hc := MCall.pre ((Keeps.refl _ w).drew) (MCall.then HX6.out.2.1 HX6.out.2.2.1 (MCall.then HX9.out.2.1 HX9.out.2.2.1 (MCall.pre ((Keeps.refl _ w9).drew) HC8.out)))
      have HC := hid hc
      obtain ⟨v8, hv8⟩ : ∃ v8, (backP 21 4 ((d - bs) % 16) (C2, P2)).1 = v8 := ⟨_, rfl⟩
      rw [hv8] at hv ⊢
      have HV := hid hv8
      obtain ⟨m1, m2, m3, m4⟩ := HMM.out
      have ew1 : IntKind.u32.wrap (v8 : Int) = (v8 : Int) := wr_u32 _ (by omega) (by omega)
      have ew2 : IntKind.u32.wrap ((sm : Int) + (v8 : Int)) = ((sm + v8 : Nat) : Int) := by rw [wr_u32 _ (by omega) (by omega)]; omega
      rw [ew1, ew2]
      clear hc hv8 h8 hM8 hK8 hG8 hk8 hl8 HC8 ew1 ew2 m1 m2 m3 m4
      go_wp2_with fail
      go_ret
      have hr := HRes.out
      rw [if_neg H4.out.1, if_neg H4.out.2, HN4.out] at hr
      simp only [HB2.out.1, HB2.out.2] at hr
      rw [hr]
      refine ⟨?_, HC.out.2.1, Nat.le_trans HC.out.2.2 (by omega)⟩
      show _ = Ending.returned (v32 (bs + hv1 * 16 + (backP 21 4 ((d - bs) % 16) (C2, P2)).1))
      rw [HV.out, HMM.out.2.2.1, HMM.out.2.2.2]
      rfl
end Go.Proofs.YtalopgbkjgjppaaGreatDoor
