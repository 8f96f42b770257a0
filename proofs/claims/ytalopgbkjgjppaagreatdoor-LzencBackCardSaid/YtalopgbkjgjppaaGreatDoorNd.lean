/- The walk of rc.NewDecoder. -/
import Derived.Test.YtalopgbkjgjppaaGreatDoorGRd
namespace Go.Proofs.YtalopgbkjgjppaaGreatDoor
open Go.RowKit Go.Cas Go.Cas.Enc

def nexts : Nat → Dec → Dec
  | 0, D => D
  | k + 1, D => (nexts k D).next
theorem next_code {D : Dec} : D.next.code < 4294967296 := by
  unfold Dec.next
  split
  · dsimp only; omega
  · rename_i b l _
    have := b.toNat_lt
    dsimp only; omega
theorem nexts_code {D : Dec} (h : D.code < 4294967296) : ∀ k, (nexts k D).code < 4294967296
  | 0 => h
  | k + 1 => next_code

theorem start_is (B : List UInt8) : Dec.start B = { nexts 4 (popD ⟨B, 0, 4294967295, 0, false⟩).2 with bad := (nexts 4 (popD ⟨B, 0, 4294967295, 0, false⟩).2).bad || (popD ⟨B, 0, 4294967295, 0, false⟩).1 != 0 } := by
  cases B with
  | nil => rfl
  | cons z l => rfl

set_option maxHeartbeats 4000000 in
set_option maxRecDepth 100000 in
theorem dnew_any (B : List UInt8) (w : World) :
    Calls Tryz.prog 69 #[.string ⟨B.toArray⟩] w fun z w' => z = .returned (.pointer (some ⟨w.heap.size, 0, none⟩)) ∧ Same w w' ∧ Dcw w' w.heap.size (Dec.start B) := by
  have hst := start_is B
  have hc1 : (popD ⟨B, 0, 4294967295, 0, false⟩).2.code < 4294967296 := by cases B <;> exact (by decide : (0 : Nat) < 4294967296)
  have hPop0 := hid (fun (W : World) x hW => dnext_any x ⟨B, 0, 4294967295, 0, false⟩ W hW)
  unfold PopLeft at hPop0
  generalize popD ⟨B, 0, 4294967295, 0, false⟩ = r0 at *
  obtain ⟨z0, D0⟩ := r0
  dsimp only at hst hc1 hPop0
  have HC := hid hc1
  have HSt := hid hst
  clear hst hc1
  go_enter Tryz.func69, Tryz.ntmps69
  go_upto_region 2 with fail
  have hb0 : Dcw (w.alloc (.cells #[.string ⟨B.toArray⟩, .int .u32 0, .int .u32 4294967295, .int .u32 0, .bool false] 187)) w.heap.size ⟨B, 0, 4294967295, 0, false⟩ := Blk.new _ _ _
  have hs0 : Same w (w.alloc (.cells #[.string ⟨B.toArray⟩, .int .u32 0, .int .u32 4294967295, .int .u32 0, .bool false] 187)) := (Keeps.refl _ _).alloc _
  generalize w.alloc (.cells #[.string ⟨B.toArray⟩, .int .u32 0, .int .u32 4294967295, .int .u32 0, .bool false] 187) = wa at hb0 hs0 ⊢
  obtain ⟨x, hx⟩ : ∃ x, w.heap.size = x := ⟨_, rfl⟩
  rw [hx] at hb0 ⊢
  have HA := hid (And.intro hx (And.intro hb0 hs0))
  clear hx hb0 hs0
  go_wp2_with (go_at_call 93; refine (hPop0.out _ x HA.out.2.1).mono ?_; rintro z w1 ⟨rfl, hD1, hK1⟩)
  have HB := hid (And.intro hD1 hK1)
  clear hD1 hK1
  go_loopw [10] (fun s10 wr => ∃ k : Nat, s10 = i6 k ∧ k ≤ 4 ∧ Dcw wr x (nexts k D0) ∧ Keeps (fun b => b = x) wa wr) (fun s10 _ => 4 - (intOf s10).toNat)
  case atStart => exact ⟨0, rfl, by decide, HB.out.1, HB.out.2⟩
  case round =>
    clear HB
    obtain ⟨k, rfl, hk, hD, hK⟩ := hrel
    by_cases he : k = 4
    · subst he
      have d0 : decide (((4 : Nat) : Int) < 4) = false := by simp
      have y4 := hD.cell 4
      simp only [List.getElem?_toArray, List.getElem?_cons_succ, List.getElem?_cons_zero] at y4
      have hfz := hD.frozen 4
      generalize nexts 4 D0 = D4 at *
      obtain ⟨rest, code, size, part, bad⟩ := D4
      dsimp only at y4
      have HX := hid (And.intro hD hK)
      have HS := hid HSt.out
      clear hD hK HSt
      have fin : ∀ (bv : Bool), bv = (bad || z0 != 0) → (Same w (wr.setCell ⟨x, 4, none⟩ (.bool bv)) ∧ Dcw (wr.setCell ⟨x, 4, none⟩ (.bool bv)) x (Dec.start B)) := fun bv hbv => by
        have hb := Blk.set HX.out.1 4 (.bool bv)
        simp only [List.setIfInBounds_toArray, List.set_cons_zero, List.set_cons_succ] at hb
        refine ⟨?_, by rw [HS.out, ← hbv]; exact hb⟩
        have h1 : Keeps (fun b => b = x) wr (wr.setCell ⟨x, 4, none⟩ (.bool bv)) := Keeps.setCell (p := ⟨x, 4, none⟩) (Keeps.refl (fun b => b = x) _) (fun _ => rfl) _
        have h2 := HX.out.2.trans h1
        refine HA.out.2.2.trans' h2 fun b hb e => ?_
        have := HA.out.1; omega
      have HFin := hid fin
      clear fin
      cases bad with
      | true =>
        go_wp2_with fail
        go_ret
        rw [HA.out.1]
        exact ⟨rfl, HFin.out true (by simp)⟩
      | false =>
        go_wp2_with fail
        go_ret
        rw [HA.out.1]
        refine ⟨rfl, HFin.out _ ?_⟩
        by_cases hz : z0 = 0
        · subst hz; rfl
        · have : z0.toNat ≠ 0 := fun e => hz (UInt8.toNat_inj.1 e)
          have h1 : ((z0.toNat : Int) != 0) = true := by simp; omega
          rw [h1]; simp [hz]
    · have hk2 : k < 4 := by omega
      have d0 : decide ((k : Int) < 4) = true := by simp; omega
      have fk : IntKind.i64.wrap ((k : Int) + 1) = (k : Int) + 1 := IntWalk.i64_in _ (by omega)
      have hk0 : (0 : Int) ≤ (k : Int) := by omega
      have hk1 : (k : Int) < 4 := by omega
      have hcode := nexts_code HC.out k
      have hnx : nexts (k + 1) D0 = (nexts k D0).next := rfl
      have HNx := hid hnx
      obtain ⟨D1, hD1⟩ : ∃ D1, nexts k D0 = D1 := ⟨_, rfl⟩
      rw [hD1] at hD hcode HNx
      have hy1 := hD.cell 1
      simp only [List.getElem?_toArray, List.getElem?_cons_succ, List.getElem?_cons_zero] at hy1
      have hPop := hid (fun W hW => dnext_any x D1 W hW)
      have hN := next_is D1
      obtain ⟨by_, hby⟩ : ∃ b, (popD D1).1 = b := ⟨_, rfl⟩
      obtain ⟨D2, hD2⟩ : ∃ D2, (popD D1).2 = D2 := ⟨_, rfl⟩
      have hD2c : D2.code = D1.code := by
        rw [← hD2]
        unfold popD
        split <;> rfl
      unfold PopLeft at hPop
      rw [hby, hD2] at hN hPop
      obtain ⟨sh, hsh⟩ : ∃ sh, D1.code * 256 % 4294967296 = sh := ⟨_, rfl⟩
      obtain ⟨nc, hnc⟩ : ∃ nc, sh + by_.toNat = nc := ⟨_, rfl⟩
      have hbl := by_.toNat_lt
      have s1 : IntKind.u32.wrap ((D1.code : Int) * 256) = (sh : Int) := by
        rw [← hsh]; simp [IntKind.wrap, IntKind.bits, IntKind.signed]
      have s2 : bits BinOp.or IntKind.u32 (sh : Int) (by_.toNat : Int) = (nc : Int) := by
        rw [or_u32 sh by_.toNat (by omega) (by omega), ← hnc, ← hsh, or_byte]
      have s3 : IntKind.u32.wrap (by_.toNat : Int) = (by_.toNat : Int) := wr_u32 _ (by omega) (by omega)
      rw [hsh, hnc] at hN
      have hncl : nc < 4294967296 := by omega
      have HN := hid hN
      have HDs := hid hD
      have HK := hid hK
      have HC2 := hid hD2c
      have hxl : x < wr.heap.size := hD.lt
      clear hK hN hby hD2 hsh hnc hbl hD hD2c he hcode hD1 hnx
      obtain ⟨wi, rfl⟩ : ∃ wi : World, wi = wr := ⟨_, rfl⟩
      go_upto_region 5 with fail
      refine wp_region_S (S := (fun V => V.cell? ⟨x, 1, none⟩ = some (v32 D1.code))) 10 (by kernel_rfl) (by (try dsimp only); exact hy1) (fun hHeld => ?_)
      refine wpAnyS_take (i := 0) (oi := ⟨some 12, _, _, _, _, _⟩) (v := ?v0) rfl (by kernel_rfl) (by kernel_rfl) (by kernel_rfl) (by kernel_rfl) (fun _ _ _ h => h) (Or.inl ⟨by rfl, ?h0⟩) (by assumption) ?r0
      case h0 => intro w hSw; (try dsimp only at hSw); go_simp; (try with_reducible rfl)
      try simp only [Act.put, List.setIfInBounds_toArray, List.set_cons_zero, List.set_cons_succ]
      refine wpAnyS_take (i := 1) (oi := ⟨some 13, _, _, _, _, _⟩) (v := ?v1) rfl (by kernel_rfl) (by kernel_rfl) (by kernel_rfl) (by kernel_rfl) (fun _ _ _ h => h) (Or.inl ⟨by rfl, ?h1⟩) (by assumption) ?r1
      case h1 => intro w hSw; (try dsimp only at hSw); go_simp; (try with_reducible rfl)
      try simp only [Act.put, List.setIfInBounds_toArray, List.set_cons_zero, List.set_cons_succ]
      refine wpAnyS_take (i := 2) (oi := ⟨some 14, _, _, _, _, _⟩) (v := ?v2) rfl (by kernel_rfl) (by kernel_rfl) (by kernel_rfl) (by kernel_rfl) (fun _ _ _ h => h) (Or.inl ⟨by rfl, ?h2⟩) (by assumption) ?r2
      case h2 => intro w hSw; (try dsimp only at hSw); go_simp; (try with_reducible rfl)
      try simp only [Act.put, List.setIfInBounds_toArray, List.set_cons_zero, List.set_cons_succ]
      refine wpAnyS_take (i := 3) (oi := ⟨some 15, _, _, _, _, _⟩) (v := ?v3) rfl (by kernel_rfl) (by kernel_rfl) (by kernel_rfl) (by kernel_rfl) (fun _ _ _ h => h) (Or.inl ⟨by rfl, ?h3⟩) (by assumption) ?r3
      case h3 => intro w hSw; (try dsimp only at hSw); go_simp; (try with_reducible rfl)
      try simp only [Act.put, List.setIfInBounds_toArray, List.set_cons_zero, List.set_cons_succ]
      refine wpAnyS_take (i := 4) (oi := ⟨some 16, _, _, _, _, _⟩) (v := ?v4) rfl (by kernel_rfl) (by kernel_rfl) (by kernel_rfl) (by kernel_rfl) (fun _ _ _ h => h) (Or.inl ⟨by rfl, ?h4⟩) (by assumption) ?r4
      case h4 => intro w hSw; (try dsimp only at hSw); go_simp; (try with_reducible rfl)
      try simp only [Act.put, List.setIfInBounds_toArray, List.set_cons_zero, List.set_cons_succ]
      refine wpAnyS_take (i := 5) (oi := ⟨some 17, _, _, _, _, _⟩) (v := ?v5) rfl (by kernel_rfl) (by kernel_rfl) (by kernel_rfl) (by kernel_rfl) (fun _ _ _ h => h) (Or.inl ⟨by rfl, ?h5⟩) (by assumption) ?r5
      case h5 => intro w hSw; (try dsimp only at hSw); go_simp; (try with_reducible rfl)
      try simp only [Act.put, List.setIfInBounds_toArray, List.set_cons_zero, List.set_cons_succ]
      refine wpAnyS_take (i := 6) (oi := ⟨some 18, _, _, _, _, _⟩) (v := ?v6) rfl (by kernel_rfl) (by kernel_rfl) (by kernel_rfl) (by kernel_rfl) (fun _ _ _ h => h) (Or.inl ⟨by rfl, ?h6⟩) (by assumption) ?r6
      case h6 => intro w hSw; (try dsimp only at hSw); go_simp; (try with_reducible rfl)
      try simp only [Act.put, List.setIfInBounds_toArray, List.set_cons_zero, List.set_cons_succ]
      refine wpAnyS_one (i := 7) (o := ⟨some 19, _, _, _, _, _⟩) rfl (by kernel_rfl) (fun K hK => ?_)
      go_simp; (go_at_call 93; refine (hPop.out _ (HDs.out.keeps (S := fun _ => False) ((Keeps.refl _ _).drew) (fun h => h))).mono ?_; rintro z w3 ⟨rfl, hD3, hK3⟩; have z1 : w3.cell? ⟨x, 1, none⟩ = some (v32 D1.code) := (by (have := hD3.cell 1; simp only [List.getElem?_toArray, List.getElem?_cons_succ, List.getElem?_cons_zero] at this; rw [this, HC2.out])); have f1 := hD3.frozen 1; have HD3 := hid (And.intro hD3 hK3); clear hD3 hK3)
      refine hK.out _ _ (fun _ => by (try dsimp only); exact z1) ?_
      clear hK K
      try simp only [Act.put, List.setIfInBounds_toArray, List.set_cons_zero, List.set_cons_succ]
      refine wpAnyS_take (i := 8) (oi := ⟨some 20, _, _, _, _, _⟩) (v := ?v8) rfl (by kernel_rfl) (by kernel_rfl) (by kernel_rfl) (by kernel_rfl) (fun _ _ _ h => h) (Or.inl ⟨by rfl, ?h8⟩) (by assumption) ?r8
      case h8 => intro w hSw; (try dsimp only at hSw); go_simp; (try with_reducible rfl)
      try simp only [Act.put, List.setIfInBounds_toArray, List.set_cons_zero, List.set_cons_succ]
      refine wpAnyS_take (i := 9) (oi := ⟨some 21, _, _, _, _, _⟩) (v := ?v9) rfl (by kernel_rfl) (by kernel_rfl) (by kernel_rfl) (by kernel_rfl) (fun _ _ _ h => h) (Or.inl ⟨by rfl, ?h9⟩) (by assumption) ?r9
      case h9 => intro w hSw; (try dsimp only at hSw); go_simp; (try with_reducible rfl)
      try simp only [Act.put, List.setIfInBounds_toArray, List.set_cons_zero, List.set_cons_succ]
      refine wpAnyS_one (i := 10) (o := ⟨some 22, _, _, _, _, _⟩) rfl (by kernel_rfl) (fun K hK => ?_)
      go_simp
      refine hK.out _ _ (fun h => absurd h (by decide)) ?_
      clear hK K
      try simp only [Act.put, List.setIfInBounds_toArray, List.set_cons_zero, List.set_cons_succ]
      refine wpAnyS_one (i := 11) (o := ⟨some 23, _, _, _, _, _⟩) rfl (by kernel_rfl) (fun K hK => ?_)
      go_simp
      refine hK.out _ _ (fun h => absurd h (by decide)) ?_
      clear hK K
      try simp only [Act.put, List.setIfInBounds_toArray, List.set_cons_zero, List.set_cons_succ]
      refine wpAnyS_one (i := 12) (o := ⟨none, _, _, _, _, _⟩) rfl (by kernel_rfl) (fun K hK => ?_)
      go_simp
      refine hK.out _ _ (fun h => absurd h (by decide)) ?_
      clear hK K
      try simp only [Act.put, List.setIfInBounds_toArray, List.set_cons_zero, List.set_cons_succ]
      refine wpAnyS_done (by kernel_rfl) ?_ _
      have hW : Dcw (w3.setCell ⟨x, 1, none⟩ (v32 nc)) x D1.next := by
        rw [HN.out]
        have hb := Blk.set HD3.out.1 1 (v32 nc)
        simp only [List.setIfInBounds_toArray, List.set_cons_zero, List.set_cons_succ] at hb
        exact hb
      have hWK : Keeps (fun b => b = x) wa (w3.setCell ⟨x, 1, none⟩ (v32 nc)) := HK.out.trans (Keeps.setCell (p := ⟨x, 1, none⟩) (Keeps.drew_left HD3.out.2) (fun _ => rfl) _)
      have HW := hid (And.intro hW hWK)
      clear hW hWK HD3
      go_wp2_with fail
      go_roundw
      case rel => exact ⟨k + 1, by go_num, by omega, by rw [HNx.out]; exact HW.out.1, HW.out.2⟩
      case measure => simp [intOf]; omega
end Go.Proofs.YtalopgbkjgjppaaGreatDoor
